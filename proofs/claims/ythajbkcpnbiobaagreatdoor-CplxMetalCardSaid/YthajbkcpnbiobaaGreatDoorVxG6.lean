/- Part 6 of the proof. What is proved: symbolic execution of the functions, proved sound; what each function of the program computes, and that every run ends with it; what these functions compute, in plain numbers. Conditions: each theorem bears its own. -/
import Derived.Test.YthajbkcpnbiobaaGreatDoorVxG5
import Derived.IntWalk
set_option linter.all false
set_option exponentiation.threshold 1000000
noncomputable section
open BitVec renaming ofInt->cq,toNat_and->qb,toNat_or->qi
open Bool renaming and_eq_false_iff->md,and_eq_true->ah,and_false->ar,and_self->ax,and_true->bf,eq_iff_iff->fj,false_and->ak,false_or->bc,not_false->au,not_true->bb,or_eq_true->dv,or_false->bg,or_self->ba,or_true->bd,true_and->az,true_or->av
open Go.BinOp renaming add->my,mul->jr,quo->qq,sub->qp
open Go.Extern.MathFloatBits renaming float64bits->ol,float64frombits->oa
open Go.FloatKind renaming f64->dr
open Go.IntKind renaming bits->iw,signed->jh,wrap->aa
open Int renaming eq_ofNat_of_zero_le->cn,natCast_nonneg->pf,natCast_zero->ir,tmod->gm,toNat->ag,toNat_natCast->ab,toNat_zero->ap
open List renaming all_eq_true->mf,append_nil->dl,drop->qr,drop_eq_getElem_cons->fd,drop_replicate->lj,getD_cons_succ->oq,getD_cons_zero->oo,getD_eq_getElem?_getD->al,getElem?_eq_getElem->bq,getElem?_eq_none->df,getElem?_eq_some_iff->bj,getElem?_map->kz,getElem?_of_mem->mj,length_cons->dh,length_map->jy,length_nil->fe,length_replicate->gg,length_set->iy,length_take->ig,mem_append->cy,mem_cons->dc,mem_of_mem_drop->ld,mem_of_mem_take->fh,mem_range->le,nil_append->mq,range->ip,replicate->aq,replicate_succ->jj,replicate_zero->iv,set_append_right->gd,set_cons_zero->jt,set_set->nu,take->kv,take_length->dq,take_of_length_le->cm,take_succ->qk,take_zero->nd
open Nat renaming add_assoc->gu,add_comm->iq,add_mul->ce,add_mul_div_left->dx,add_mul_mod_self_left->fu,add_sub_cancel_left->jg,add_zero->cu,div_add_mod->cp,div_div_eq_div_mul->dk,div_eq_of_lt->cg,div_le_self->ee,div_lt_iff_lt_mul->bv,div_lt_self->oc,eq_of_testBit_eq->mi,eq_zero_or_pos->br,le_refl->bu,lt_of_le_of_lt->bl,lt_of_lt_of_le->ao,lt_or_ge->ay,lt_trans->fq,lt_trichotomy->fi,min_eq_left->gn,mod_add_div->ja,mod_eq_of_lt->bo,mod_lt->ca,mod_mod->qy,mod_mul->ms,mod_two_eq_zero_or_one->jm,mul_add->bw,mul_assoc->bh,mul_comm->be,mul_eq_zero->ob,mul_le_mul_left->cd,mul_le_mul_right->aw,mul_lt_mul_of_pos_left->mu,mul_lt_mul_of_pos_right->ck,mul_mod->qz,mul_mod_mul_right->fm,mul_mod_right->lw,mul_one->fy,mul_pos->ij,mul_right_comm->ju,mul_zero->dz,one_mul->fx,or_comm->qx,pow_add->bi,pow_le_pow_right->ai,pow_lt_pow_iff_right->cv,pow_lt_pow_right->bt,pow_pos->gw,pow_succ->dj,pow_succ'->il,pow_zero->gz,strongRecOn->oe,sub_self->gy,sub_zero->mw,testBit_lt_two_pow->nn,testBit_succ->lh,testBit_two_pow->om,testBit_two_pow_mul_add->jk,two_pow_pos->af,zero_add->cz,zero_le->dp,zero_mod->ly,zero_mul->ej
namespace Vx
open Go Go.Proofs
variable (p65:D8)(f65:D9)(p70:DG)(f70:DH)(p470:gV)(f470:iI)(p473:gW)(f473:iJ)(p474:rT)(f474:sJ)(p476:rU)(f476:sK)(p67:I3)(f67:I7)(p73:X4)(f73:Yg)(p68:VZ)(f68:Wb)(p477:gX)(f477:iK)(p158:CC)(f158:CD)(p74:X5)(f74:Yh)(p75:gZ)(f75:iM)(p76:X6)(f76:Yi)(p127:VO)(f127:V1)(p128:VP)(f128:V2)(p129:VQ)(f129:V3)
abbrev HY:Aa:=[(false,Ze),(false,Ze)]
abbrev Ic:Aa:=[(false,Ze)]
abbrev Is:Pat:=⟨47,[(6,.one (.v .u64)),(1,.one (.sl Zb)),(0,.one (.sl Zb)),(7,.one (.v .i64)),(5,.one (.own 0))],[.arr Zb]⟩
abbrev mK:List (Nat×Shape):=[]
abbrev N3:List (Nat×Pat):=[(0,⟨47,[(5,.one (.own 0))],[.arr Zb]⟩)]
abbrev Ng:Option Pat:=none
variable (w130_4:Pat.D Is->Option (Ad N3 Ng))
def YO(p158:CC)(f158:CD){R:Type}(L:Pat.D Is->Option R)(e:Ad N3 Ng->Option R)(x:Pat.D Is):Option R:=let e9_:=(x.1.2.1,x.1.2.2.1,(aa .i64 (x.1.2.2.2.1+(1:Int))),(),());let e1_:=((1:Int),e9_);let e2_:=((0:Int),e9_);let e10_:=(x.1.2.2.1.getD (ag x.1.2.2.2.1) (0:Int));let e3_:=(aa .u64 (e10_+(4294967296:Int)));let e4_:=(aa .u64 (x.1.1+(x.1.2.1.getD (ag x.1.2.2.2.1) (0:Int))));let e11_:=(decide (x.1.2.2.2.1<(x.1.2.2.1.length:Int)));let e5_:=((decide ((0:Int)<=x.1.2.2.2.1))&&e11_);let e6_:=((decide ((0:Int)<=x.1.2.2.2.1))&&(decide (x.1.2.2.2.1<(x.2.1.length:Int))));let e7_:=e10_;let e8_:=(decide (x.1.2.2.2.1<(x.1.2.1.length:Int)));bif e11_ then(bif e8_ then(bif((decide ((0:Int)<=x.1.2.2.2.1))&&e8_)then(bif e5_ then(bif(decide (e7_<e4_))then(bif e6_ then(((L (e1_,(x.2.1.set (ag x.1.2.2.2.1) (aa .u64 (e3_-e4_))),()))))else none)else bif e6_ then(((L (e2_,(x.2.1.set (ag x.1.2.2.2.1) (aa .u64 (e7_-e4_))),()))))else none)else none)else none)else bif e5_ then(bif(decide (e7_<x.1.1))then(bif e6_ then(((L (e1_,(x.2.1.set (ag x.1.2.2.2.1) (aa .u64 (e3_-x.1.1))),()))))else none)else bif e6_ then(((L (e2_,(x.2.1.set (ag x.1.2.2.2.1) (aa .u64 (e7_-x.1.1))),()))))else none)else none)else(e (.inl (((),()),x.2)))
theorem bIf(d:Nat)(R:Type)(L:Pat.D Is->Option R)(e:Ad N3 Ng->Option R)(x:Pat.D Is):
  Bv (cf [(105,⟨C4,C5,p158,f158⟩)] [(134,4,LoopSpec.of Is mK N3 Ng w130_4)]) (d+2) 134 (Bu Tryz.f134 4) Is mK N3 Ng (R:=R) L e x=YO p158 f158 L e x:=by kernel_rfl
theorem aPn(p158:CC)(f158:CD):Bt fun L e x=>YO p158 f158 L e x:=by intro _ _ _ _ _ _ _ h0 hL he _;unfold YO;repeat' (first|exact h0|exact hL _|exact he _|apply BJ|(apply BK h0;intro _)|(apply BL<;>intro _))
def wT(p158:CC)(f158:CD)(w130_4:Pat.D Is->Option (Ad N3 Ng))(a0 a1:Ab Ze):Option (DenS Ic):=
 bif((decide ((0:Int)<=(a0.length:Int)))&&(decide (((a0.length:Int)*(8:Int))<=(140737488355328:Int))))then(Vx.Bi (w130_4 (((0:Int),a1,a0,(0:Int),(),()),(aq (ag (a0.length:Int)) (0:Int)),())) fun y1=>
 Vx.Bg y1 (fun y2=>
 bif(p158 y2.2)then(some (f158 y2.2))
 else none) (fun z2=>
 none))
 else none
theorem bEv(x:DenS HY):run (cf [(105,⟨C4,C5,p158,f158⟩)] [(134,4,LoopSpec.of Is mK N3 Ng w130_4)]) 9 134 Tryz.f134 HY Ic x=wT p158 f158 w130_4 x.1 x.2.1:=by kernel_rfl
def qJ:Is.D->Option (Ad N3 Ng):=Bn fun L=>YO Ar.pre Ar.F L some
def Xv(x:DenS HY):Option (DenS Ic):=wT Ar.pre Ar.F qJ x.1 x.2.1
def CN:Sum:=Aj HY Ic Xv (DenS.dflt Ic)
theorem aAR:Sound Tryz.prog G1 134 CN:=sd (cf [(105,Ar)] [(134,4,LoopSpec.of Is mK N3 Ng qJ)]) 134 Tryz.f134 ⟨TD,trivial⟩ ⟨rfl,fun d=>BI (fun L e x=>YO Ar.pre Ar.F L e x) (aPn Ar.pre Ar.F) (fun _ _ _ _=>bIf ..),trivial⟩ HY Ic Xv _ (fun _=>bEv ..)
abbrev XX:=Ag HY
abbrev X9:=Af HY Ic
variable (p130:XX)(f130:X9)
abbrev Rr:Aa:=[(true,Zs),(true,Zs)]
abbrev Tu:Aa:=[(true,Zs)]
def t78(p127:VO)(f127:V1)(p128:VP)(f128:V2)(p129:VQ)(f129:V3)(p130:XX)(f130:X9)(a0 a1:Ab Zs):Option (DenS Tu):=let e7_:=(if(a1.2.2.1<a0.2.2.1)then a1.2.2.1 else a0.2.2.1);let e5_:=(f127 (a0.2.1,(aa .i64 (a0.2.2.1-e7_)),()));let e6_:=(f127 (a1.2.1,(aa .i64 (a1.2.2.1-e7_)),()));let e1_:=(e5_.1,e6_);let e2_:=(e6_.1,e5_);let e3_:=(e7_,());let e4_:=e7_;bif((a0.2.1.length:Int)==(0:Int))then(some ((a1.1,a1.2),()))else bif((a1.2.1.length:Int)==(0:Int))then(some ((a0.1,a0.2),()))else bif(p127 (a0.2.1,(aa .i64 (a0.2.2.1-e4_)),()))then(bif(p127 (a1.2.1,(aa .i64 (a1.2.2.1-e4_)),()))then(bif(a0.1==a1.1)then(bif(p128 e1_)then(some ((a0.1,(f128 e1_).1,e3_),()))else none)else bif(p129 e1_)then(bif(decide ((f129 e1_).1>=(0:Int)))then(bif(p130 e1_)then(some ((a0.1,(f130 e1_).1,e3_),()))else none)else bif(p130 e2_)then(some ((a1.1,(f130 e2_).1,e3_),()))else none)else none)else none)else none
theorem r78(x:DenS Rr):run (cf [(132,⟨HV,H9,p127,f127⟩),(135,⟨HW,Ia,p128,f128⟩),(133,⟨HX,Ib,p129,f129⟩),(134,⟨HY,Ic,p130,f130⟩)] []) 9 126 Tryz.f126 Rr Tu x=t78 p127 f127 p128 f128 p129 f129 p130 f130 x.1 x.2.1:=by kernel_rfl
def f8(x:DenS Rr):Option (DenS Tu):=t78 CK.pre CK.F CL.pre CL.F CM.pre CM.F CN.pre CN.F x.1 x.2.1
def Uw:Sum:=Aj Rr Tu f8 (DenS.dflt Tu)
theorem aV6:Sound Tryz.prog G1 126 Uw:=sd (cf [(132,CK),(135,CL),(133,CM),(134,CN)] []) 126 Tryz.f126 ⟨aAO,aAP,aAQ,aAR,trivial⟩ trivial Rr Tu f8 _ (fun _=>r78 ..)
abbrev Y78:=Ag Rr
abbrev Z78:=Af Rr Tu
variable (p78:Y78)(f78:Z78)
abbrev H5:Aa:=[(false,Za),(false,.bool)]
abbrev Ij:Aa:=[(false,Zb)]
def t81(p67:I3)(f67:I7)(a0:Ab Za)(a1:Ab (.bool)):Option (DenS Ij):=bif(p67 (a0,()))then(bif a1 then(some ((Bj .u64 (1:Int) (aa .u64 (aa .i64 ((f67 (a0,())).1-(1:Int))))),()))else some ((0:Int),()))else none
theorem r81(x:DenS H5):run (cf [(31,⟨Fj,Fl,p67,f67⟩)] []) 9 70 Tryz.f70 H5 Ij x=t81 p67 f67 x.1 x.2.1:=by kernel_rfl
def gA(x:DenS H5):Option (DenS Ij):=t81 B7.pre B7.F x.1 x.2.1
def D7:Sum:=Aj H5 Ij gA (DenS.dflt Ij)
theorem pN:Sound Tryz.prog G1 70 D7:=sd (cf [(31,B7)] []) 70 Tryz.f70 ⟨Ut,trivial⟩ trivial H5 Ij gA _ (fun _=>r81 ..)
abbrev g9:=Ag H5
abbrev iN:=Af H5 Ij
variable (p81:g9)(f81:iN)
abbrev Mg:Aa:=[(false,Za),(false,.bool)]
abbrev MK:Aa:=[(false,Zb)]
def t37(p81:g9)(f81:iN)(a0:Ab Za)(a1:Ab (.bool)):Option (DenS MK):=bif(p81 (a0,a1,()))then(some (f81 (a0,a1,())))else none
theorem r37(x:DenS Mg):run (cf [(70,⟨H5,Ij,p81,f81⟩)] []) 9 112 Tryz.f112 Mg MK x=t37 p81 f81 x.1 x.2.1:=by kernel_rfl
def dW(x:DenS Mg):Option (DenS MK):=t37 D7.pre D7.F x.1 x.2.1
def Gz:Sum:=Aj Mg MK dW (DenS.dflt MK)
theorem aGO:Sound Tryz.prog G1 112 Gz:=sd (cf [(70,D7)] []) 112 Tryz.f112 ⟨pN,trivial⟩ trivial Mg MK dW _ (fun _=>r37 ..)
abbrev Y37:=Ag Mg
abbrev Z37:=Af Mg MK
variable (p37:Y37)(f37:Z37)
abbrev JT:Aa:=[(false,Za),(false,.bool)]
abbrev Kp:Aa:=[(false,Zb)]
def aRS(p67:I3)(f67:I7)(p81:g9)(f81:iN)(a0:Ab Za)(a1:Ab (.bool)):Option (DenS Kp):=bif(p67 (a0,()))then(bif(p81 (a0,a1,()))then(some ((aa .u64 ((aa .u64 ((Bj .u64 (1:Int) (aa .u64 (aa .i64 ((f67 (a0,())).1-(1:Int)))))-(Bj .u64 (1:Int) (aa .u64 (aa .i64 ((f67 (a0,())).2.1-(1:Int)))))))+(f81 (a0,a1,())).1)),()))else none)else none
theorem bE0(x:DenS JT):run (cf [(31,⟨Fj,Fl,p67,f67⟩),(70,⟨H5,Ij,p81,f81⟩)] []) 9 109 Tryz.f109 JT Kp x=aRS p67 f67 p81 f81 x.1 x.2.1:=by kernel_rfl
def dE(x:DenS JT):Option (DenS Kp):=aRS B7.pre B7.F D7.pre D7.F x.1 x.2.1
def Er:Sum:=Aj JT Kp dE (DenS.dflt Kp)
theorem aAV:Sound Tryz.prog G1 109 Er:=sd (cf [(31,B7),(70,D7)] []) 109 Tryz.f109 ⟨Ut,pN,trivial⟩ trivial JT Kp dE _ (fun _=>bE0 ..)
abbrev rK:=Ag JT
abbrev r9:=Af JT Kp
variable (p179:rK)(f179:r9)
abbrev PG:Aa:=[(false,Za),(false,Za),(false,.bool)]
abbrev RK:Aa:=[(false,Zb)]
def xE(p179:rK)(f179:r9)(a0 a1:Ab Za)(a2:Ab (.bool)):Option (DenS RK):=bif((((a1==(0:Int))||(a1==(1:Int)))||((a1==(3:Int))&&(!a2)))||((a1==(4:Int))&&a2))then(bif(p179 (a0,a2,()))then(some (f179 (a0,a2,())))else none)else bif(p179 (a0,a2,()))then(some ((aa .u64 ((f179 (a0,a2,())).1-(1:Int))),()))else none
theorem bEP(x:DenS PG):run (cf [(109,⟨JT,Kp,p179,f179⟩)] []) 9 129 Tryz.f129 PG RK x=xE p179 f179 x.1 x.2.1 x.2.2.1:=by kernel_rfl
def dB(x:DenS PG):Option (DenS RK):=xE Er.pre Er.F x.1 x.2.1 x.2.2.1
def TE:Sum:=Aj PG RK dB (DenS.dflt RK)
theorem aUB:Sound Tryz.prog G1 129 TE:=sd (cf [(109,Er)] []) 129 Tryz.f129 ⟨aAV,trivial⟩ trivial PG RK dB _ (fun _=>bEP ..)
abbrev aJO:=Ag PG
abbrev aLn:=Af PG RK
variable (p160:aJO)(f160:aLn)
abbrev PI:Aa:=[(false,Ze)]
abbrev RM:Aa:=[(false,Ze)]
abbrev Ix:Pat:=⟨41,[(0,.one (.sl Zb)),(4,.one (.v .i64)),(3,.one (.own 0))],[.arr Zb]⟩
abbrev mQ:List (Nat×Shape):=[]
abbrev N9:List (Nat×Pat):=[(0,⟨41,[(3,.one (.own 0))],[.arr Zb]⟩)]
abbrev Nm:Option Pat:=none
variable (w162_3:Pat.D Ix->Option (Ad N9 Nm))
def YU(p158:CC)(f158:CD){R:Type}(L:Pat.D Ix->Option R)(e:Ad N9 Nm->Option R)(x:Pat.D Ix):Option R:=let e1_:=((decide ((0:Int)<=(Bl .i64 x.1.2.1 (2:Int))))&&(decide ((Bl .i64 x.1.2.1 (2:Int))<(x.2.1.length:Int))));let e2_:=((decide ((0:Int)<=x.1.2.1))&&(decide (x.1.2.1<(x.1.1.length:Int))));let e3_:=(x.1.1,(aa .i64 (x.1.2.1+(1:Int))),(),());let e4_:=(ag (Bl .i64 x.1.2.1 (2:Int)));bif(decide (x.1.2.1<(x.1.1.length:Int)))then(bif((gm x.1.2.1 (2:Int))==(0:Int))then(bif e2_ then(bif e1_ then(((L (e3_,(x.2.1.set e4_ (x.1.1.getD (ag x.1.2.1) (0:Int))),()))))else none)else none)else bif e1_ then(bif e2_ then(bif e1_ then(((L (e3_,(x.2.1.set e4_ (aa .u64 ((x.2.1.getD e4_ (0:Int))+(aa .u64 ((x.1.1.getD (ag x.1.2.1) (0:Int))*(4294967296:Int)))))),()))))else none)else none)else none)else(e (.inl (((),()),x.2)))
theorem bIl(d:Nat)(R:Type)(L:Pat.D Ix->Option R)(e:Ad N9 Nm->Option R)(x:Pat.D Ix):
  Bv (cf [(105,⟨C4,C5,p158,f158⟩)] [(131,3,LoopSpec.of Ix mQ N9 Nm w162_3)]) (d+2) 131 (Bu Tryz.f131 3) Ix mQ N9 Nm (R:=R) L e x=YU p158 f158 L e x:=by kernel_rfl
theorem aPt(p158:CC)(f158:CD):Bt fun L e x=>YU p158 f158 L e x:=by intro _ _ _ _ _ _ _ h0 hL he _;unfold YU;repeat' (first|exact h0|exact hL _|exact he _|apply BJ|(apply BK h0;intro _)|(apply BL<;>intro _))
def xG(p158:CC)(f158:CD)(w162_3:Pat.D Ix->Option (Ad N9 Nm))(a0:Ab Ze):Option (DenS RM):=
 let e1_:=(Bl .i64 (aa .i64 ((a0.length:Int)+(1:Int))) (2:Int))
 bif((decide ((0:Int)<=e1_))&&(decide ((e1_*(8:Int))<=(140737488355328:Int))))then(Vx.Bi (w162_3 ((a0,(0:Int),(),()),(aq (ag e1_) (0:Int)),())) fun y1=>
 Vx.Bg y1 (fun y2=>
 bif(p158 y2.2)then(some (f158 y2.2))
 else none) (fun z2=>
 none))
 else none
theorem bER(x:DenS PI):run (cf [(105,⟨C4,C5,p158,f158⟩)] [(131,3,LoopSpec.of Ix mQ N9 Nm w162_3)]) 9 131 Tryz.f131 PI RM x=xG p158 f158 w162_3 x.1:=by kernel_rfl
def qN:Ix.D->Option (Ad N9 Nm):=Bn fun L=>YU Ar.pre Ar.F L some
def Xz(x:DenS PI):Option (DenS RM):=xG Ar.pre Ar.F qN x.1
def TG:Sum:=Aj PI RM Xz (DenS.dflt RM)
theorem aUD:Sound Tryz.prog G1 131 TG:=sd (cf [(105,Ar)] [(131,3,LoopSpec.of Ix mQ N9 Nm qN)]) 131 Tryz.f131 ⟨TD,trivial⟩ ⟨rfl,fun d=>BI (fun L e x=>YU Ar.pre Ar.F L e x) (aPt Ar.pre Ar.F) (fun _ _ _ _=>bIl ..),trivial⟩ PI RM Xz _ (fun _=>bER ..)
abbrev aJQ:=Ag PI
abbrev aLp:=Af PI RM
variable (p162:aJQ)(f162:aLp)
abbrev PN:Aa:=[(false,Ze),(false,Za)]
abbrev RR:Aa:=[(false,Ze)]
abbrev IC:Pat:=⟨47,[(0,.one (.sl Zb)),(6,.one (.v .u64)),(7,.one (.v .i64)),(5,.one (.own 0))],[.acc Zb]⟩
abbrev mV:List (Nat×Shape):=[(5,Zb)]
abbrev Oe:List (Nat×Pat):=[(0,⟨47,[(5,.one (.own 0))],[.acc Zb]⟩)]
abbrev Nr:Option Pat:=none
variable (w180_4:Pat.D IC->Option (Ad Oe Nr))
def YX(p158:CC)(f158:CD){R:Type}(L:Pat.D IC->Option R)(e:Ad Oe Nr->Option R)(x:Pat.D IC):Option R:=let e5_:=(aa .i64 (x.1.2.2.1+(1:Int)));let e1_:=((gm (Bl .u64 (aa .u64 ((x.1.1.getD (ag x.1.2.2.1) (0:Int))+(aa .u64 ((x.1.1.getD (ag e5_) (0:Int))*(4294967296:Int))))) x.1.2.1) (4294967296:Int))::[]);let e2_:=((gm (Bl .u64 (x.1.1.getD (ag x.1.2.2.1) (0:Int)) x.1.2.1) (4294967296:Int))::[]);let e3_:=(decide (e5_<(x.1.1.length:Int)));let e4_:=(x.1.1,x.1.2.1,e5_,(),());bif(decide (x.1.2.2.1<(x.1.1.length:Int)))then(bif((decide ((0:Int)<=x.1.2.2.1))&&(decide (x.1.2.2.1<(x.1.1.length:Int))))then(bif e3_ then(bif((decide ((0:Int)<=e5_))&&e3_)then(bif(x.1.2.1 !=(0:Int))then(bif(((Vx.EM (x.2.1.length+e1_.length) 8)&&true)&&true)then(((L (e4_,(x.2.1++e1_),()))))else none)else none)else none)else bif(x.1.2.1 !=(0:Int))then(bif(((Vx.EM (x.2.1.length+e2_.length) 8)&&true)&&true)then(((L (e4_,(x.2.1++e2_),()))))else none)else none)else none)else(e (.inl (((),()),x.2)))
theorem bIq(d:Nat)(R:Type)(L:Pat.D IC->Option R)(e:Ad Oe Nr->Option R)(x:Pat.D IC):
  Bv (cf [(105,⟨C4,C5,p158,f158⟩)] [(147,4,LoopSpec.of IC mV Oe Nr w180_4)]) (d+2) 147 (Bu Tryz.f147 4) IC mV Oe Nr (R:=R) L e x=YX p158 f158 L e x:=by kernel_rfl
theorem aPw(p158:CC)(f158:CD):Bt fun L e x=>YX p158 f158 L e x:=by intro _ _ _ _ _ _ _ h0 hL he _;unfold YX;repeat' (first|exact h0|exact hL _|exact he _|apply BJ|(apply BK h0;intro _)|(apply BL<;>intro _))
def xN(p158:CC)(f158:CD)(w180_4:Pat.D IC->Option (Ad Oe Nr))(a0:Ab Ze)(a1:Ab Za):Option (DenS RR):=
 Vx.Bi (w180_4 ((a0,(Bj .u64 (1:Int) (aa .u64 (gm a1 (32:Int)))),(Bl .i64 a1 (32:Int)),(),()),[],())) fun y0=>
 Vx.Bg y0 (fun y1=>
 bif(p158 y1.2)then(some (f158 y1.2))
 else none) (fun z1=>
 none)
theorem bE1(x:DenS PN):run (cf [(105,⟨C4,C5,p158,f158⟩)] [(147,4,LoopSpec.of IC mV Oe Nr w180_4)]) 9 147 Tryz.f147 PN RR x=xN p158 f158 w180_4 x.1 x.2.1:=by kernel_rfl
def qQ:IC.D->Option (Ad Oe Nr):=Bn fun L=>YX Ar.pre Ar.F L some
def XE(x:DenS PN):Option (DenS RR):=xN Ar.pre Ar.F qQ x.1 x.2.1
def TH:Sum:=Aj PN RR XE (DenS.dflt RR)
theorem aUI:Sound Tryz.prog G1 147 TH:=sd (cf [(105,Ar)] [(147,4,LoopSpec.of IC mV Oe Nr qQ)]) 147 Tryz.f147 ⟨TD,trivial⟩ ⟨rfl,fun d=>BI (fun L e x=>YX Ar.pre Ar.F L e x) (aPw Ar.pre Ar.F) (fun _ _ _ _=>bIq ..),trivial⟩ PN RR XE _ (fun _=>bE1 ..)
abbrev aJV:=Ag PN
abbrev aLu:=Af PN RR
variable (p180:aJV)(f180:aLu)
abbrev PH:Aa:=[(false,Za),(true,Zs),(false,Za)]
abbrev RL:Aa:=[(false,Ze),(false,.bool)]
def xF(p180:aJV)(f180:aLu)(p130:XX)(f130:X9)(p127:VO)(f127:V1)(p129:VQ)(f129:V3)(p128:VP)(f128:V2)(a0:Ab Za)(a1:Ab Zs)(a2:Ab Za):Option (DenS RL):=let e20_:=(aa .i64 (a2-a1.2.2.1));let e19_:=(e20_,());let e18_:=(a1.2.1,e19_);let e17_:=(f180 e18_);let e13_:=(e17_.1,e19_);let e12_:=(f130 (a1.2.1,(f127 e13_)));let e14_:=(((1:Int)::[]),(aa .i64 (e20_-(1:Int))),());let e1_:=(f129 (e12_.1,(f127 e14_)));let e16_:=(e17_.1.length:Int);let e2_:=((decide (e16_>(0:Int)))&&((gm (e17_.1.getD (ag (0:Int)) (0:Int)) (2:Int))==(1:Int)));let e3_:=e12_;let e4_:=e13_;let e15_:=(e17_.1,((1:Int)::[]),());let e5_:=((f128 e15_).1,true,());let e6_:=e14_;let e7_:=(p128 e15_);let e8_:=e16_;let e9_:=(e17_.1,true,());let e10_:=(a1.2.1,(aa .i64 (a1.2.2.1-a2)),());let e11_:=e18_;bif(decide (a2<=a1.2.2.1))then(bif(p127 e10_)then(some ((f127 e10_).1,false,()))else none)else bif(p180 e11_)then(bif(p127 e4_)then(bif(p130 (a1.2.1,(f127 e4_)))then(bif((e3_.1.length:Int)==(0:Int))then(some ((f180 e11_).1,false,()))else bif(p127 e6_)then(bif(p129 (e3_.1,(f127 e6_)))then(bif((decide ((0:Int)<e8_))||(!(decide (e8_>(0:Int)))))then(bif(a0==(0:Int))then(bif((decide (e1_.1>(0:Int)))||((e1_.1==(0:Int))&&e2_))then(bif e7_ then(some e5_)else none)else some e9_)else bif(a0==(1:Int))then(bif(decide (e1_.1>=(0:Int)))then(bif e7_ then(some e5_)else none)else some e9_)else bif(a0==(3:Int))then(bif(!a1.1)then(bif e7_ then(some e5_)else none)else some e9_)else bif(a0==(4:Int))then(bif a1.1 then(bif e7_ then(some e5_)else none)else some e9_)else bif(a0==(5:Int))then(bif(!e2_)then(bif e7_ then(some e5_)else none)else some e9_)else some e9_)else none)else none)else none)else none)else none)else none
theorem bEQ(x:DenS PH):run (cf [(147,⟨PN,RR,p180,f180⟩),(134,⟨HY,Ic,p130,f130⟩),(132,⟨HV,H9,p127,f127⟩),(133,⟨HX,Ib,p129,f129⟩),(135,⟨HW,Ia,p128,f128⟩)] []) 9 130 Tryz.f130 PH RL x=xF p180 f180 p130 f130 p127 f127 p129 f129 p128 f128 x.1 x.2.1 x.2.2.1:=by kernel_rfl
def dC(x:DenS PH):Option (DenS RL):=xF TH.pre TH.F CN.pre CN.F CK.pre CK.F CM.pre CM.F CL.pre CL.F x.1 x.2.1 x.2.2.1
def TF:Sum:=Aj PH RL dC (DenS.dflt RL)
theorem aUC:Sound Tryz.prog G1 130 TF:=sd (cf [(147,TH),(134,CN),(132,CK),(133,CM),(135,CL)] []) 130 Tryz.f130 ⟨aUI,aAR,aAO,aAQ,aAP,trivial⟩ trivial PH RL dC _ (fun _=>bEQ ..)
abbrev aJP:=Ag PH
abbrev aLo:=Af PH RL
variable (p161:aJP)(f161:aLo)
abbrev JR:Aa:=[(false,Ze)]
abbrev Kn:Aa:=[(false,Za)]
abbrev Iw:Pat:=⟨27,[(4,.one (.v .u64)),(3,.one (.v .i64))],[]⟩
abbrev mP:List (Nat×Shape):=[]
abbrev N8:List (Nat×Pat):=[(0,⟨27,[(3,.one (.v .i64))],[]⟩)]
abbrev Nl:Option Pat:=none
variable (w159_6:Pat.D Iw->Option (Ad N8 Nl))
def YT(p158:CC)(f158:CD){R:Type}(L:Pat.D Iw->Option R)(e:Ad N8 Nl->Option R)(x:Pat.D Iw):Option R:=bif(decide (x.1.1>(0:Int)))then(((L (((Bl .u64 x.1.1 (2:Int)),(aa .i64 (x.1.2.1+(1:Int))),()),()))))else(e (.inl (x.1.2,())))
theorem bIk(d:Nat)(R:Type)(L:Pat.D Iw->Option R)(e:Ad N8 Nl->Option R)(x:Pat.D Iw):
  Bv (cf [(105,⟨C4,C5,p158,f158⟩)] [(128,6,LoopSpec.of Iw mP N8 Nl w159_6)]) (d+2) 128 (Bu Tryz.f128 6) Iw mP N8 Nl (R:=R) L e x=YT p158 f158 L e x:=by kernel_rfl
theorem aPs(p158:CC)(f158:CD):Bt fun L e x=>YT p158 f158 L e x:=by intro _ _ _ _ _ _ _ h0 hL he _;unfold YT;repeat' (first|exact h0|exact hL _|exact he _|apply BJ|(apply BK h0;intro _)|(apply BL<;>intro _))
def xD(p158:CC)(f158:CD)(w159_6:Pat.D Iw->Option (Ad N8 Nl))(a0:Ab Ze):Option (DenS Kn):=
 let e1_:=(aa .i64 (((f158 (a0,())).1.length:Int)-(1:Int)))
 bif(p158 (a0,()))then(bif(((f158 (a0,())).1.length:Int)==(0:Int))then(some ((0:Int),()))
 else bif((decide ((0:Int)<=e1_))&&(decide (e1_<((f158 (a0,())).1.length:Int))))then(Vx.Bi (w159_6 ((((f158 (a0,())).1.getD (ag e1_) (0:Int)),(aa .i64 ((32:Int)*e1_)),()),())) fun y3=>
 Vx.Bg y3 (fun y4=>
 some y4.1) (fun z4=>
 none))
 else none)
 else none
theorem bEO(x:DenS JR):run (cf [(105,⟨C4,C5,p158,f158⟩)] [(128,6,LoopSpec.of Iw mP N8 Nl w159_6)]) 9 128 Tryz.f128 JR Kn x=xD p158 f158 w159_6 x.1:=by kernel_rfl
def qM:Iw.D->Option (Ad N8 Nl):=Bn fun L=>YT Ar.pre Ar.F L some
def cZ(x:DenS JR):Option (DenS Kn):=xD Ar.pre Ar.F qM x.1
def DD:Sum:=Aj JR Kn cZ (DenS.dflt Kn)
theorem aGE:Sound Tryz.prog G1 128 DD:=sd (cf [(105,Ar)] [(128,6,LoopSpec.of Iw mP N8 Nl qM)]) 128 Tryz.f128 ⟨TD,trivial⟩ ⟨rfl,fun d=>BI (fun L e x=>YT Ar.pre Ar.F L e x) (aPs Ar.pre Ar.F) (fun _ _ _ _=>bIk ..),trivial⟩ JR Kn cZ _ (fun _=>bEO ..)
abbrev gS:=Ag JR
abbrev iF:=Af JR Kn
variable (p159:gS)(f159:iF)
abbrev L6:Aa:=[(false,Za),(false,Za),(true,Zs)]
abbrev MC:Aa:=[(false,Zb),(false,Za)]
def wP(p67:I3)(f67:I7)(p160:aJO)(f160:aLn)(p81:g9)(f81:iN)(p162:aJQ)(f162:aLp)(p161:aJP)(f161:aLo)(p159:gS)(f159:iF)(a0 a1:Ab Za)(a2:Ab Zs):Option (DenS MC):=let e22_:=(aa .i64 ((aa .i64 (a2.2.2.1+(f159 (a2.2.1,())).1))-(1:Int)));let e18_:=(aa .i64 ((aa .i64 ((if((f67 (a0,())).2.2.1>e22_)then(f67 (a0,())).2.2.1 else e22_)-(f67 (a0,())).2.1))+(1:Int)));let e17_:=(f161 (a1,(a2.1,a2.2),e18_,()));let e16_:=(e17_.1,());let e15_:=(f162 e16_);let e14_:=(aa .u64 ((f81 (a0,a2.1,())).1+(aa .u64 ((e15_.1.getD (ag (0:Int)) (0:Int))+(Bj .u64 (aa .u64 (aa .i64 (e18_-(aa .i64 ((aa .i64 ((f67 (a0,())).2.2.1-(f67 (a0,())).2.1))+(1:Int)))))) (aa .u64 (aa .i64 ((f67 (a0,())).2.1-(1:Int)))))))));let e1_:=(e14_,(16:Int),());let e2_:=e14_;let e21_:=(aa .i64 (e22_-(f67 (a0,())).2.1));let e20_:=(a1,(a2.1,a2.2),(aa .i64 (e21_+(1:Int))),());let e19_:=((f161 e20_).1,());let e3_:=(decide ((aa .i64 (e21_+(f159 e19_).1))<(f67 (a0,())).2.2.1));let e4_:=(e15_.1.length:Int);let e5_:=e16_;let e6_:=(!e17_.2.1);let e7_:=e18_;let e8_:=(p159 e19_);let e9_:=(p161 e20_);let e10_:=(decide (e22_<(f67 (a0,())).2.2.1));let e11_:=(aa .i64 ((1:Int)-(f67 (a0,())).2.2.1));let e12_:=((f160 (a0,a1,a2.1,())).1,(20:Int),());let e13_:=((Ak .i64 (16:Int) (8:Int)),());bif(p67 (a0,()))then(bif(p159 (a2.2.1,()))then(bif(decide (e22_>e11_))then(bif(p160 (a0,a1,a2.1,()))then(some e12_)else none)else bif(p161 (a1,(a2.1,a2.2),e7_,()))then(bif(p159 e5_)then(bif(decide ((aa .i64 ((aa .i64 (e7_+(f159 e5_).1))-(1:Int)))>e11_))then(bif(p160 (a0,a1,a2.1,()))then(some e12_)else none)else bif(p81 (a0,a2.1,()))then(bif(p162 e5_)then(bif(decide (e4_>(0:Int)))then(bif(decide ((0:Int)<e4_))then(bif e6_ then(some (e2_,(0:Int),()))else bif e10_ then(bif e9_ then(bif e8_ then(bif e3_ then(some (e2_,e13_))else some e1_)else none)else none)else some e1_)else none)else bif e6_ then(some ((f81 (a0,a2.1,())).1,(0:Int),()))else bif e10_ then(bif e9_ then(bif e8_ then(bif e3_ then(some ((f81 (a0,a2.1,())).1,e13_))else some ((f81 (a0,a2.1,())).1,(16:Int),()))else none)else none)else some ((f81 (a0,a2.1,())).1,(16:Int),()))else none)else none)else none)else none)else none)else none
theorem bEr(x:DenS L6):run (cf [(31,⟨Fj,Fl,p67,f67⟩),(129,⟨PG,RK,p160,f160⟩),(70,⟨H5,Ij,p81,f81⟩),(131,⟨PI,RM,p162,f162⟩),(130,⟨PH,RL,p161,f161⟩),(128,⟨JR,Kn,p159,f159⟩)] []) 9 113 Tryz.f113 L6 MC x=wP p67 f67 p160 f160 p81 f81 p162 f162 p161 f161 p159 f159 x.1 x.2.1 x.2.2.1:=by kernel_rfl
def cO(x:DenS L6):Option (DenS MC):=wP B7.pre B7.F TE.pre TE.F D7.pre D7.F TG.pre TG.F TF.pre TF.F DD.pre DD.F x.1 x.2.1 x.2.2.1
def Gw:Sum:=Aj L6 MC cO (DenS.dflt MC)
theorem aGz:Sound Tryz.prog G1 113 Gw:=sd (cf [(31,B7),(129,TE),(70,D7),(131,TG),(130,TF),(128,DD)] []) 113 Tryz.f113 ⟨Ut,aUB,pN,aUD,aUC,aGE,trivial⟩ trivial L6 MC cO _ (fun _=>bEr ..)
abbrev aBF:=Ag L6
abbrev aCv:=Af L6 MC
variable (p126:aBF)(f126:aCv)
abbrev Mu:Aa:=[(false,Za),(false,Za),(true,Zs),(false,.bool)]
abbrev M2:Aa:=[(false,Zb),(false,Za)]
def t77(p37:Y37)(f37:Z37)(p126:aBF)(f126:aCv)(a0 a1:Ab Za)(a2:Ab Zs)(a3:Ab (.bool)):Option (DenS M2):=bif((a2.2.1.length:Int)==(0:Int))then(bif(p37 (a0,a3,()))then(some ((f37 (a0,a3,())).1,(0:Int),()))else none)else bif(p126 (a0,a1,(a2.1,a2.2),()))then(some (f126 (a0,a1,(a2.1,a2.2),())))else none
theorem r77(x:DenS Mu):run (cf [(112,⟨Mg,MK,p37,f37⟩),(113,⟨L6,MC,p126,f126⟩)] []) 9 110 Tryz.f110 Mu M2 x=t77 p37 f37 p126 f126 x.1 x.2.1 x.2.2.1 x.2.2.2.1:=by kernel_rfl
def f0(x:DenS Mu):Option (DenS M2):=t77 Gz.pre Gz.F Gw.pre Gw.F x.1 x.2.1 x.2.2.1 x.2.2.2.1
def GK:Sum:=Aj Mu M2 f0 (DenS.dflt M2)
theorem aHg:Sound Tryz.prog G1 110 GK:=sd (cf [(112,Gz),(113,Gw)] []) 110 Tryz.f110 ⟨aGO,aGz,trivial⟩ trivial Mu M2 f0 _ (fun _=>r77 ..)
abbrev Y77:=Ag Mu
abbrev Z77:=Af Mu M2
variable (p77:Y77)(f77:Z77)
abbrev Mc:Aa:=[(false,Za),(false,Za),(false,Zb),(false,Zb)]
abbrev MH:Aa:=[(false,Zb),(false,Za),(false,Za)]
def xU(p73:X4)(f73:Yg)(p68:VZ)(f68:Wb)(p74:X5)(f74:Yh)(p75:gZ)(f75:iM)(p76:X6)(f76:Yi)(p78:Y78)(f78:Z78)(p77:Y77)(f77:Z77)(a0 a1:Ab Za)(a2 a3:Ab Zb):Option (DenS MH):=let e8_:=((f74 (a0,a2,())).1.2.2.2.2.1,(f74 (a0,a3,())).1.2.2.2.2);let e7_:=(f78 e8_);let e1_:=(f77 (a0,a1,e7_.1,(f74 (a0,a2,())).1.2.2.2.1,()));let e2_:=(f77 (a0,a1,e7_.1,(a1==(4:Int)),()));let e3_:=(p78 e8_);let e4_:=e7_;let e5_:=((f74 (a0,a2,())).1.2.2.2.1==(f74 (a0,a3,())).1.2.2.2.1);let e6_:=((f75 (a0,())).1,(1:Int),(0:Int),());bif(p73 (a0,a1,()))then(bif((f73 (a0,a1,())).1 !=(0:Int))then(some ((0:Int),(0:Int),(f73 (a0,a1,()))))else bif(p68 (a0,a2,()))then(bif((p68 (a0,a3,()))||(!(bif(!(f68 (a0,a2,())).1)then false else true)))then(bif((!(f68 (a0,a2,())).1)||(!(f68 (a0,a3,())).1))then(some ((0:Int),(0:Int),(4:Int),()))else bif(p74 (a0,a2,()))then(bif(p74 (a0,a3,()))then(bif((f74 (a0,a2,())).1.2.1||(f74 (a0,a3,())).1.2.1)then(bif(p75 (a0,()))then(some e6_)else none)else bif((f74 (a0,a2,())).1.1||(f74 (a0,a3,())).1.1)then(bif(p75 (a0,()))then(some ((f75 (a0,())).1,(0:Int),(0:Int),()))else none)else bif(((f74 (a0,a2,())).1.2.2.1&&(f74 (a0,a3,())).1.2.2.1)&&(!e5_))then(bif(p75 (a0,()))then(some e6_)else none)else bif(f74 (a0,a2,())).1.2.2.1 then(some (a2,(0:Int),(0:Int),()))else bif(f74 (a0,a3,())).1.2.2.1 then(some (a3,(0:Int),(0:Int),()))else bif(p76 (f74 (a0,a2,())))then(bif((p76 (f74 (a0,a3,())))||(!(f76 (f74 (a0,a2,()))).1))then(bif(((f76 (f74 (a0,a2,()))).1&&(f76 (f74 (a0,a3,()))).1)&&e5_)then(bif e3_ then(bif(p77 (a0,a1,e4_.1,(f74 (a0,a2,())).1.2.2.2.1,()))then(some (e1_.1,e1_.2.1,(0:Int),()))else none)else none)else bif e3_ then(bif(p77 (a0,a1,e4_.1,(a1==(4:Int)),()))then(some (e2_.1,e2_.2.1,(0:Int),()))else none)else none)else none)else none)else none)else none)else none)else none)else none
theorem r28(x:DenS Mc):run (cf [(55,⟨J8,KI,p73,f73⟩),(77,⟨H4,Ii,p68,f68⟩),(33,⟨J9,KJ,p74,f74⟩),(86,⟨Ka,KK,p75,f75⟩),(75,⟨Kb,KL,p76,f76⟩),(126,⟨Rr,Tu,p78,f78⟩),(110,⟨Mu,M2,p77,f77⟩)] []) 9 107 Tryz.f107 Mc MH x=xU p73 f73 p68 f68 p74 f74 p75 f75 p76 f76 p78 f78 p77 f77 x.1 x.2.1 x.2.2.1 x.2.2.2.1:=by kernel_rfl
def XG(x:DenS Mc):Option (DenS MH):=xU DF.pre DF.F CQ.pre CQ.F Ey.pre Ey.F Ez.pre Ez.F EA.pre EA.F Uw.pre Uw.F GK.pre GK.F x.1 x.2.1 x.2.2.1 x.2.2.2.1
def Gy:Sum:=Aj Mc MH XG (DenS.dflt MH)
theorem aGK:Sound Tryz.prog G1 107 Gy:=sd (cf [(55,DF),(77,CQ),(33,Ey),(86,Ez),(75,EA),(126,Uw),(110,GK)] []) 107 Tryz.f107 ⟨aHf,aBa,aBb,aBc,aBd,aV6,aHg,trivial⟩ trivial Mc MH XG _ (fun _=>r28 ..)
abbrev Y28:=Ag Mc
abbrev Z28:=Af Mc MH
variable (p28:Y28)(f28:Z28)
abbrev J3:Aa:=[(false,Zb),(false,Zb)]
abbrev KC:Aa:=[(false,Zb)]
abbrev FD:LK:=.ref Zp
def zA(p28:Y28)(f28:Z28)(l0:LK.D (.ref Zp))(a0 a1:Ab Zb):Option (LK.B FD×DenS KC):=bif(p28 (l0.1,l0.2.1,a0,a1,()))then(some ((l0.1,l0.2.1,(Ak .i64 l0.2.2.1 (f28 (l0.1,l0.2.1,a0,a1,())).2.1),()),(f28 (l0.1,l0.2.1,a0,a1,())).1,()))else none
theorem bGL(x:LK.D FD×DenS J3):Dd (cf [(107,⟨Mc,MH,p28,f28⟩)] []) 9 78 Tryz.f78 FD J3 KC x=zA p28 f28 x.1 x.2.1 x.2.2.1:=by kernel_rfl
def eV(x:LK.D FD×DenS J3):Option (LK.B FD×DenS KC):=zA Gy.pre Gy.F x.1 x.2.1 x.2.2.1
def Ew:SumL:=De FD J3 KC eV (LK.dflt FD,DenS.dflt KC)
theorem aA6:SoundL Tryz.prog G1 78 Ew:=Ej (cf [(107,Gy)] []) 78 Tryz.f78 ⟨aGK,trivial⟩ trivial FD J3 KC eV _ (fun _=>bGL ..)
abbrev rV:=LK.D FD×DenS J3->Bool
abbrev sL:=LK.D FD×DenS J3->LK.B FD×DenS KC
variable (p478:rV)(f478:sL)
abbrev Q6:Aa:=[(true,Zj),(true,Zj)]
abbrev S9:Aa:=[(true,Zj)]
abbrev G6:LK:=.ref Zp
def zB(p478:rV)(f478:sL)(l0:LK.D (.ref Zp))(a0 a1:Ab Zj):Option (LK.B G6×DenS S9):=let e2_:=((f478 ((l0.1,l0.2),a0.1,a1.1,())).1,a0.2.1,a1.2);let e1_:=(f478 e2_);bif(p478 ((l0.1,l0.2),a0.1,a1.1,()))then(bif(p478 e2_)then(some (e1_.1,((f478 ((l0.1,l0.2),a0.1,a1.1,())).2.1,e1_.2),()))else none)else none
theorem bGM(x:LK.D G6×DenS Q6):Dd ({cf [] []with lsums:=[(78,⟨FD,J3,KC,p478,f478⟩)] }) 9 40 Tryz.f40 G6 Q6 S9 x=zB p478 f478 x.1 x.2.1 x.2.2.1:=by kernel_rfl
def eX(x:LK.D G6×DenS Q6):Option (LK.B G6×DenS S9):=zB Ew.pre Ew.F x.1 x.2.1 x.2.2.1
def Ud:SumL:=De G6 Q6 S9 eX (LK.dflt G6,DenS.dflt S9)
theorem aVK:SoundL Tryz.prog G1 40 Ud:=Ej ({cf [] []with lsums:=[(78,Ew)] }) 40 Tryz.f40 trivial trivial G6 Q6 S9 eX _ (fun _=>bGM ..) (hls:=⟨aA6,trivial⟩)
abbrev aKM:=LK.D G6×DenS Q6->Bool
abbrev aMl:=LK.D G6×DenS Q6->LK.B G6×DenS S9
variable (p479:aKM)(f479:aMl)
abbrev Q7:Aa:=[(false,Za),(false,Za),(true,Zj),(true,Zj)]
abbrev Ta:Aa:=[(true,Zj),(false,Za),(false,Za)]
def zC(p477:gX)(f477:iK)(p479:aKM)(f479:aMl)(a0 a1:Ab Za)(a2 a3:Ab Zj):Option (DenS Ta):=let e3_:=((a0,a1,(0:Int),()),(a2.1,a2.2),(a3.1,a3.2),());let e1_:=(f479 e3_);let e4_:=(a0,a1,((a2.1,a2.2)::((a3.1,a3.2)::[])),());let e2_:=(f477 e4_);bif(p477 e4_)then(bif(e2_.1 !=(0:Int))then(some (((0:Int),(0:Int),()),(0:Int),e2_))else bif(p479 e3_)then(some (e1_.2.1,e1_.1.2.2.1,(0:Int),()))else none)else none
theorem bGN(x:DenS Q7):run ({cf [(39,⟨J2,KB,p477,f477⟩)] []with lsums:=[(40,⟨G6,Q6,S9,p479,f479⟩)] }) 9 11 Tryz.f11 Q7 Ta x=zC p477 f477 p479 f479 x.1 x.2.1 x.2.2.1 x.2.2.2.1:=by kernel_rfl
def eY(x:DenS Q7):Option (DenS Ta):=zC Eu.pre Eu.F Ud.pre Ud.F x.1 x.2.1 x.2.2.1 x.2.2.2.1
def Ue:Sum:=Aj Q7 Ta eY (DenS.dflt Ta)
theorem aVL:Sound Tryz.prog G1 11 Ue:=sd ({cf [(39,Eu)] []with lsums:=[(40,Ud)] }) 11 Tryz.f11 ⟨aA5,trivial⟩ trivial Q7 Ta eY _ (fun _=>bGN ..) (hls:=⟨aVK,trivial⟩)
abbrev aKN:=Ag Q7
abbrev aMm:=Af Q7 Ta
variable (p480:aKN)(f480:aMm)
abbrev Q8:Aa:=[(false,Ze),(false,Ze)]
abbrev Tb:Aa:=[(false,Ze)]
abbrev Gt:Pat:=⟨67,[(0,.one (.sl Zb)),(1,.one (.sl Zb)),(6,.one (.v .i64)),(5,.one (.own 0))],[.arr Zb]⟩
abbrev aY:List (Nat×Shape):=[]
abbrev Lh:List (Nat×Pat):=[(0,⟨67,[(5,.one (.own 0))],[.arr Zb]⟩)]
abbrev KV:Option Pat:=none
abbrev FM:Pat:=⟨67,[(8,.one (.v .i64)),(7,.one (.v .u64)),(6,.one (.v .i64)),(0,.one (.sl Zb)),(1,.one (.sl Zb)),(5,.one (.own 0))],[.arr Zb]⟩
abbrev aZ:List (Nat×Shape):=[]
abbrev Hq:List (Nat×Pat):=[(2,⟨67,[(7,.one (.v .u64)),(6,.one (.v .i64)),(0,.one (.sl Zb)),(1,.one (.sl Zb)),(5,.one (.own 0))],[.arr Zb]⟩)]
abbrev Ho:Option Pat:=none
variable (w481_3:Pat.D Gt->Option (Ad Lh KV))(w481_7:Pat.D FM->Option (Ad Hq Ho))
def ZL(p158:CC)(f158:CD){R:Type}(L:Pat.D FM->Option R)(e:Ad Hq Ho->Option R)(x:Pat.D FM):Option R:=let e6_:=(aa .i64 (x.1.2.2.1+x.1.1));let e5_:=(ag e6_);let e1_:=(aa .u64 ((aa .u64 ((x.2.1.getD e5_ (0:Int))+(aa .u64 ((x.1.2.2.2.1.getD (ag x.1.2.2.1) (0:Int))*(x.1.2.2.2.2.1.getD (ag x.1.1) (0:Int))))))+x.1.2.1));let e2_:=((decide ((0:Int)<=e6_))&&(decide (e6_<(x.2.1.length:Int))));let e3_:=(x.1.2.2.1,x.1.2.2.2.1,x.1.2.2.2.2.1,(),());let e4_:=(decide (x.1.1<(x.1.2.2.2.2.1.length:Int)));bif e4_ then(bif e2_ then(bif((decide ((0:Int)<=x.1.2.2.1))&&(decide (x.1.2.2.1<(x.1.2.2.2.1.length:Int))))then(bif((decide ((0:Int)<=x.1.1))&&e4_)then(bif e2_ then(((L (((aa .i64 (x.1.1+(1:Int))),(Bl .u64 e1_ (4294967296:Int)),e3_),(x.2.1.set e5_ (gm e1_ (4294967296:Int))),()))))else none)else none)else none)else none)else(e (.inl ((x.1.2.1,e3_),x.2)))
theorem bIR(d:Nat)(R:Type)(L:Pat.D FM->Option R)(e:Ad Hq Ho->Option R)(x:Pat.D FM):
  Bv (cf [(105,⟨C4,C5,p158,f158⟩)] [(127,3,LoopSpec.of Gt aY Lh KV w481_3),(127,7,LoopSpec.of FM aZ Hq Ho w481_7)]) (d+2) 127 (Bu Tryz.f127 7) FM aZ Hq Ho (R:=R) L e x=ZL p158 f158 L e x:=by kernel_rfl
theorem aPN(p158:CC)(f158:CD):Bt fun L e x=>ZL p158 f158 L e x:=by intro _ _ _ _ _ _ _ h0 hL he _;unfold ZL;repeat' (first|exact h0|exact hL _|exact he _|apply BJ|(apply BK h0;intro _)|(apply BL<;>intro _))
def ZK(p158:CC)(f158:CD)(w481_7:Pat.D FM->Option (Ad Hq Ho)){R:Type}(L:Pat.D Gt->Option R)(e:Ad Lh KV->Option R)(x:Pat.D Gt):Option R:=
 bif(decide (x.1.2.2.1<(x.1.1.length:Int)))then(Vx.Bi (w481_7 (((0:Int),(0:Int),x.1.2.2.1,x.1.1,x.1.2.1,(),()),x.2)) fun y1=>
 Vx.Bg y1 (fun y2=>
 bif((decide ((0:Int)<=(aa .i64 (y2.1.2.1+(y2.1.2.2.2.1.length:Int)))))&&(decide ((aa .i64 (y2.1.2.1+(y2.1.2.2.2.1.length:Int)))<(y2.2.1.length:Int))))then(bif((decide ((0:Int)<=(aa .i64 (y2.1.2.1+(y2.1.2.2.2.1.length:Int)))))&&(decide ((aa .i64 (y2.1.2.1+(y2.1.2.2.2.1.length:Int)))<(y2.2.1.length:Int))))then(((L ((y2.1.2.2.1,y2.1.2.2.2.1,(aa .i64 (y2.1.2.1+(1:Int))),(),()),(y2.2.1.set (ag (aa .i64 (y2.1.2.1+(y2.1.2.2.2.1.length:Int)))) (aa .u64 ((y2.2.1.getD (ag (aa .i64 (y2.1.2.1+(y2.1.2.2.2.1.length:Int)))) (0:Int))+y2.1.1))),()))))
 else none)
 else none) (fun z2=>
 none))
 else(e (.inl (((),()),x.2)))
theorem bIQ(d:Nat)(R:Type)(L:Pat.D Gt->Option R)(e:Ad Lh KV->Option R)(x:Pat.D Gt):
  Bv (cf [(105,⟨C4,C5,p158,f158⟩)] [(127,3,LoopSpec.of Gt aY Lh KV w481_3),(127,7,LoopSpec.of FM aZ Hq Ho w481_7)]) (d+2) 127 (Bu Tryz.f127 3) Gt aY Lh KV (R:=R) L e x=ZK p158 f158 w481_7 L e x:=by kernel_rfl
theorem aPM(p158:CC)(f158:CD)(w481_7:Pat.D FM->Option (Ad Hq Ho)):Bt fun L e x=>ZK p158 f158 w481_7 L e x:=by intro _ _ _ _ _ _ _ h0 hL he _;unfold ZK;repeat' (first|exact h0|exact hL _|exact he _|apply BJ|(apply BK h0;intro _)|(apply BL<;>intro _))
def zD(p158:CC)(f158:CD)(w481_3:Pat.D Gt->Option (Ad Lh KV))(w481_7:Pat.D FM->Option (Ad Hq Ho))(a0 a1:Ab Ze):Option (DenS Tb):=
 let e1_:=(aa .i64 ((a0.length:Int)+(a1.length:Int)))
 bif((decide ((0:Int)<=e1_))&&(decide ((e1_*(8:Int))<=(140737488355328:Int))))then(Vx.Bi (w481_3 ((a0,a1,(0:Int),(),()),(aq (ag e1_) (0:Int)),())) fun y1=>
 Vx.Bg y1 (fun y2=>
 bif(p158 y2.2)then(some (f158 y2.2))
 else none) (fun z2=>
 none))
 else none
theorem bGO(x:DenS Q8):run (cf [(105,⟨C4,C5,p158,f158⟩)] [(127,3,LoopSpec.of Gt aY Lh KV w481_3),(127,7,LoopSpec.of FM aZ Hq Ho w481_7)]) 9 127 Tryz.f127 Q8 Tb x=zD p158 f158 w481_3 w481_7 x.1 x.2.1:=by kernel_rfl
def UD:FM.D->Option (Ad Hq Ho):=Bn fun L=>ZL Ar.pre Ar.F L some
def rD:Gt.D->Option (Ad Lh KV):=Bn fun L=>ZK Ar.pre Ar.F UD L some
def eZ(x:DenS Q8):Option (DenS Tb):=zD Ar.pre Ar.F rD UD x.1 x.2.1
def Uf:Sum:=Aj Q8 Tb eZ (DenS.dflt Tb)
theorem aVM:Sound Tryz.prog G1 127 Uf:=sd (cf [(105,Ar)] [(127,3,LoopSpec.of Gt aY Lh KV rD),(127,7,LoopSpec.of FM aZ Hq Ho UD)]) 127 Tryz.f127 ⟨TD,trivial⟩ ⟨rfl,fun d=>BI (fun L e x=>ZK Ar.pre Ar.F UD L e x) (aPM Ar.pre Ar.F UD) (fun _ _ _ _=>bIQ ..),⟨rfl,fun d=>BI (fun L e x=>ZL Ar.pre Ar.F L e x) (aPN Ar.pre Ar.F) (fun _ _ _ _=>bIR ..),trivial⟩⟩ Q8 Tb eZ _ (fun _=>bGO ..)
abbrev aKO:=Ag Q8
abbrev aMn:=Af Q8 Tb
variable (p481:aKO)(f481:aMn)
abbrev Q9:Aa:=[(true,ZE),(true,ZE)]
abbrev Tc:Aa:=[(true,ZF)]
def zE(p76:X6)(f76:Yi)(p481:aKO)(f481:aMn)(a0:Ab ZE)(a1:Ab ZE):Option (DenS Tc):=let e2_:=((!(a0.2.2.2.1==a1.2.2.2.1)),(false,[],(0:Int),()),());let e1_:=((a0.1||a1.1),(a0.2.1||a1.2.1),false,e2_);bif((p76 ((a1.1,a1.2),()))||(!a0.2.2.1))then(bif((p76 ((a0.1,a0.2),()))||(!(bif(a0.2.2.1&&(f76 ((a1.1,a1.2),())).1)then false else true)))then(bif((a0.2.2.1&&(f76 ((a1.1,a1.2),())).1)||((f76 ((a0.1,a0.2),())).1&&a1.2.2.1))then(some ((true,e1_),()))else bif(a0.1||a1.1)then(some ((false,e1_),()))else bif(a0.2.2.1||a1.2.2.1)then(some ((false,(a0.1||a1.1),(a0.2.1||a1.2.1),true,e2_),()))else bif(p481 (a0.2.2.2.2.1.2.1,a1.2.2.2.2.1.2.1,()))then(some ((false,(a0.1||a1.1),(a0.2.1||a1.2.1),false,(!(a0.2.2.2.1==a1.2.2.2.1)),((!(a0.2.2.2.1==a1.2.2.2.1)),(f481 (a0.2.2.2.2.1.2.1,a1.2.2.2.2.1.2.1,())).1,(aa .i64 (a0.2.2.2.2.1.2.2.1+a1.2.2.2.2.1.2.2.1)),()),()),()))else none)else none)else none
theorem bGP(x:DenS Q9):run (cf [(75,⟨Kb,KL,p76,f76⟩),(127,⟨Q8,Tb,p481,f481⟩)] []) 9 108 Tryz.f108 Q9 Tc x=zE p76 f76 p481 f481 x.1 x.2.1:=by kernel_rfl
def fA(x:DenS Q9):Option (DenS Tc):=zE EA.pre EA.F Uf.pre Uf.F x.1 x.2.1
def Ug:Sum:=Aj Q9 Tc fA (DenS.dflt Tc)
theorem aVN:Sound Tryz.prog G1 108 Ug:=sd (cf [(75,EA),(127,Uf)] []) 108 Tryz.f108 ⟨aBd,aVM,trivial⟩ trivial Q9 Tc fA _ (fun _=>bGP ..)
abbrev aKP:=Ag Q9
abbrev aMo:=Af Q9 Tc
variable (p482:aKP)(f482:aMo)
abbrev Mq:Aa:=[(false,Zb),(false,Zb)]
abbrev MY:Aa:=[(false,Zb)]
abbrev Gj:LK:=.ref Zp
def zF(p74:X5)(f74:Yh)(p482:aKP)(f482:aMo)(p75:gZ)(f75:iM)(p179:rK)(f179:r9)(p77:Y77)(f77:Z77)(l0:LK.D (.ref Zp))(a0 a1:Ab Zb):Option (LK.B Gj×DenS MY):=let e6_:=((f74 (l0.1,a0,())).1,(f74 (l0.1,a1,())));let e5_:=(f482 e6_);let e4_:=(e5_.1.2.2.2.2.1,());let e1_:=(f77 (l0.1,l0.2.1,e5_.1.2.2.2.2.2.1,e4_));let e2_:=(l0.1,e4_);let e3_:=e5_;bif(p74 (l0.1,a0,()))then(bif(p74 (l0.1,a1,()))then(bif(p482 e6_)then(bif(e3_.1.1||e3_.1.2.2.1)then(bif(p75 (l0.1,()))then(some ((l0.1,l0.2.1,(Ak .i64 l0.2.2.1 (1:Int)),()),(f75 (l0.1,()))))else none)else bif e3_.1.2.1 then(bif(p75 (l0.1,()))then(some ((l0.1,l0.2),(f75 (l0.1,()))))else none)else bif e3_.1.2.2.2.1 then(bif(p179 e2_)then(some ((l0.1,l0.2),(f179 e2_)))else none)else bif(p77 (l0.1,l0.2.1,e3_.1.2.2.2.2.2.1,e3_.1.2.2.2.2.1,()))then(some ((l0.1,l0.2.1,(Ak .i64 l0.2.2.1 e1_.2.1),()),e1_.1,()))else none)else none)else none)else none
theorem bGQ(x:LK.D Gj×DenS Mq):Dd (cf [(33,⟨J9,KJ,p74,f74⟩),(108,⟨Q9,Tc,p482,f482⟩),(86,⟨Ka,KK,p75,f75⟩),(109,⟨JT,Kp,p179,f179⟩),(110,⟨Mu,M2,p77,f77⟩)] []) 9 81 Tryz.f81 Gj Mq MY x=zF p74 f74 p482 f482 p75 f75 p179 f179 p77 f77 x.1 x.2.1 x.2.2.1:=by kernel_rfl
def fB(x:LK.D Gj×DenS Mq):Option (LK.B Gj×DenS MY):=zF Ey.pre Ey.F Ug.pre Ug.F Ez.pre Ez.F Er.pre Er.F GK.pre GK.F x.1 x.2.1 x.2.2.1
def GF:SumL:=De Gj Mq MY fB (LK.dflt Gj,DenS.dflt MY)
theorem aHb:SoundL Tryz.prog G1 81 GF:=Ej (cf [(33,Ey),(108,Ug),(86,Ez),(109,Er),(110,GK)] []) 81 Tryz.f81 ⟨aBb,aVN,aBc,aAV,aHg,trivial⟩ trivial Gj Mq MY fB _ (fun _=>bGQ ..)
abbrev aCe:=LK.D Gj×DenS Mq->Bool
abbrev aC4:=LK.D Gj×DenS Mq->LK.B Gj×DenS MY
variable (p483:aCe)(f483:aC4)
abbrev P0:Aa:=[(false,Za),(false,Zb)]
abbrev R3:Aa:=[(false,Zb)]
def xX(p81:g9)(f81:iN)(a0:Ab Za)(a1:Ab Zb):Option (DenS R3):=bif(p81 (a0,true,()))then(some ((lX .u64 a1 (f81 (a0,true,())).1),()))else none
theorem r32(x:DenS P0):run (cf [(70,⟨H5,Ij,p81,f81⟩)] []) 9 29 Tryz.f29 P0 R3 x=xX p81 f81 x.1 x.2.1:=by kernel_rfl
def dK(x:DenS P0):Option (DenS R3):=xX D7.pre D7.F x.1 x.2.1
def TK:Sum:=Aj P0 R3 dK (DenS.dflt R3)
theorem aUW:Sound Tryz.prog G1 29 TK:=sd (cf [(70,D7)] []) 29 Tryz.f29 ⟨pN,trivial⟩ trivial P0 R3 dK _ (fun _=>r32 ..)
abbrev Y32:=Ag P0
abbrev Z32:=Af P0 R3
variable (p32:Y32)(f32:Z32)
abbrev PS:Aa:=[(false,Za),(false,Za),(false,Zb),(false,Zb)]
abbrev RW:Aa:=[(false,Zb),(false,Za),(false,Za)]
def xS(p67:I3)(f67:I7)(p68:VZ)(f68:Wb)(p32:Y32)(f32:Z32)(p28:Y28)(f28:Z28)(a0 a1:Ab Za)(a2 a3:Ab Zb):Option (DenS RW):=bif(p67 (a0,()))then(bif((p68 (a0,a3,()))||(!(bif((f67 (a0,())).1==(0:Int))then false else true)))then(bif(((f67 (a0,())).1==(0:Int))||(!(f68 (a0,a3,())).1))then(bif(p28 (a0,a1,a2,a3,()))then(some (f28 (a0,a1,a2,a3,())))else none)else bif(p32 (a0,a3,()))then(bif(p28 (a0,a1,a2,(f32 (a0,a3,()))))then(some (f28 (a0,a1,a2,(f32 (a0,a3,())))))else none)else none)else none)else none
theorem r26(x:DenS PS):run (cf [(31,⟨Fj,Fl,p67,f67⟩),(77,⟨H4,Ii,p68,f68⟩),(29,⟨P0,R3,p32,f32⟩),(107,⟨Mc,MH,p28,f28⟩)] []) 9 111 Tryz.f111 PS RW x=xS p67 f67 p68 f68 p32 f32 p28 f28 x.1 x.2.1 x.2.2.1 x.2.2.2.1:=by kernel_rfl
def XF(x:DenS PS):Option (DenS RW):=xS B7.pre B7.F CQ.pre CQ.F TK.pre TK.F Gy.pre Gy.F x.1 x.2.1 x.2.2.1 x.2.2.2.1
def TJ:Sum:=Aj PS RW XF (DenS.dflt RW)
theorem aUK:Sound Tryz.prog G1 111 TJ:=sd (cf [(31,B7),(77,CQ),(29,TK),(107,Gy)] []) 111 Tryz.f111 ⟨Ut,aBa,aUW,aGK,trivial⟩ trivial PS RW XF _ (fun _=>r26 ..)
abbrev Y26:=Ag PS
abbrev Z26:=Af PS RW
variable (p26:Y26)(f26:Z26)
abbrev Mr:Aa:=[(false,Zb),(false,Zb)]
abbrev MZ:Aa:=[(false,Zb)]
abbrev Gk:LK:=.ref Zp
def zG(p26:Y26)(f26:Z26)(l0:LK.D (.ref Zp))(a0 a1:Ab Zb):Option (LK.B Gk×DenS MZ):=bif(p26 (l0.1,l0.2.1,a0,a1,()))then(some ((l0.1,l0.2.1,(Ak .i64 l0.2.2.1 (f26 (l0.1,l0.2.1,a0,a1,())).2.1),()),(f26 (l0.1,l0.2.1,a0,a1,())).1,()))else none
theorem bGR(x:LK.D Gk×DenS Mr):Dd (cf [(111,⟨PS,RW,p26,f26⟩)] []) 9 82 Tryz.f82 Gk Mr MZ x=zG p26 f26 x.1 x.2.1 x.2.2.1:=by kernel_rfl
def fC(x:LK.D Gk×DenS Mr):Option (LK.B Gk×DenS MZ):=zG TJ.pre TJ.F x.1 x.2.1 x.2.2.1
def GG:SumL:=De Gk Mr MZ fC (LK.dflt Gk,DenS.dflt MZ)
theorem aHc:SoundL Tryz.prog G1 82 GG:=Ej (cf [(111,TJ)] []) 82 Tryz.f82 ⟨aUK,trivial⟩ trivial Gk Mr MZ fC _ (fun _=>bGR ..)
abbrev aCf:=LK.D Gk×DenS Mr->Bool
abbrev aC5:=LK.D Gk×DenS Mr->LK.B Gk×DenS MZ
variable (p484:aCf)(f484:aC5)
abbrev Ra:Aa:=[(true,Zj),(true,Zj)]
abbrev Td:Aa:=[(true,Zj)]
abbrev G7:LK:=.ref Zp
def zH(p483:aCe)(f483:aC4)(p484:aCf)(f484:aC5)(p478:rV)(f478:sL)(l0:LK.D (.ref Zp))(a0 a1:Ab Zj):Option (LK.B G7×DenS Td):=let e10_:=((f483 ((l0.1,l0.2),a0.1,a1.1,())).1,a0.2.1,a1.2);let e9_:=(f483 e10_);let e8_:=(f483 (e9_.1,a0.1,a1.2));let e7_:=(f483 (e8_.1,a0.2.1,a1.1,()));let e6_:=(f484 (e7_.1,(f483 ((l0.1,l0.2),a0.1,a1.1,())).2.1,e9_.2));let e1_:=(f478 (e6_.1,e8_.2.1,e7_.2));let e2_:=e6_;let e3_:=e7_;let e4_:=e8_;let e5_:=e9_;bif(p483 ((l0.1,l0.2),a0.1,a1.1,()))then(bif(p483 e10_)then(bif(p483 (e5_.1,a0.1,a1.2))then(bif(p483 (e4_.1,a0.2.1,a1.1,()))then(bif(p484 (e3_.1,(f483 ((l0.1,l0.2),a0.1,a1.1,())).2.1,e5_.2))then(bif(p478 (e2_.1,e4_.2.1,e3_.2))then(some (e1_.1,(e2_.2.1,e1_.2),()))else none)else none)else none)else none)else none)else none
theorem bGS(x:LK.D G7×DenS Ra):Dd ({cf [] []with lsums:=[(81,⟨Gj,Mq,MY,p483,f483⟩),(82,⟨Gk,Mr,MZ,p484,f484⟩),(78,⟨FD,J3,KC,p478,f478⟩)] }) 9 43 Tryz.f43 G7 Ra Td x=zH p483 f483 p484 f484 p478 f478 x.1 x.2.1 x.2.2.1:=by kernel_rfl
def fD(x:LK.D G7×DenS Ra):Option (LK.B G7×DenS Td):=zH GF.pre GF.F GG.pre GG.F Ew.pre Ew.F x.1 x.2.1 x.2.2.1
def Uh:SumL:=De G7 Ra Td fD (LK.dflt G7,DenS.dflt Td)
theorem aVO:SoundL Tryz.prog G1 43 Uh:=Ej ({cf [] []with lsums:=[(81,GF),(82,GG),(78,Ew)] }) 43 Tryz.f43 trivial trivial G7 Ra Td fD _ (fun _=>bGS ..) (hls:=⟨aHb,aHc,aA6,trivial⟩)
abbrev aKQ:=LK.D G7×DenS Ra->Bool
abbrev aMp:=LK.D G7×DenS Ra->LK.B G7×DenS Td
variable (p485:aKQ)(f485:aMp)
abbrev Rb:Aa:=[(false,Za),(false,Za),(true,Zj),(true,Zj)]
abbrev Te:Aa:=[(true,Zj),(false,Za),(false,Za)]
def zI(p477:gX)(f477:iK)(p485:aKQ)(f485:aMp)(a0 a1:Ab Za)(a2 a3:Ab Zj):Option (DenS Te):=let e3_:=((a0,a1,(0:Int),()),(a2.1,a2.2),(a3.1,a3.2),());let e1_:=(f485 e3_);let e4_:=(a0,a1,((a2.1,a2.2)::((a3.1,a3.2)::[])),());let e2_:=(f477 e4_);bif(p477 e4_)then(bif(e2_.1 !=(0:Int))then(some (((0:Int),(0:Int),()),(0:Int),e2_))else bif(p485 e3_)then(some (e1_.2.1,e1_.1.2.2.1,(0:Int),()))else none)else none
theorem bGT(x:DenS Rb):run ({cf [(39,⟨J2,KB,p477,f477⟩)] []with lsums:=[(43,⟨G7,Ra,Td,p485,f485⟩)] }) 9 14 Tryz.f14 Rb Te x=zI p477 f477 p485 f485 x.1 x.2.1 x.2.2.1 x.2.2.2.1:=by kernel_rfl
def fE(x:DenS Rb):Option (DenS Te):=zI Eu.pre Eu.F Uh.pre Uh.F x.1 x.2.1 x.2.2.1 x.2.2.2.1
def Ui:Sum:=Aj Rb Te fE (DenS.dflt Te)
theorem aVP:Sound Tryz.prog G1 14 Ui:=sd ({cf [(39,Eu)] []with lsums:=[(43,Uh)] }) 14 Tryz.f14 ⟨aA5,trivial⟩ trivial Rb Te fE _ (fun _=>bGT ..) (hls:=⟨aVO,trivial⟩)
abbrev aKR:=Ag Rb
abbrev aMq:=Af Rb Te
variable (p486:aKR)(f486:aMq)
abbrev Rc:Aa:=[(true,Zj)]
abbrev Tf:Aa:=[(true,Zj)]
def aST(a0:Ab Zj):Option (DenS Tf):=some ((a0.1,a0.2),())
theorem bGU(x:DenS Rc):run (cf [] []) 9 12 Tryz.f12 Rc Tf x=aST x.1:=by kernel_rfl
def XM(x:DenS Rc):Option (DenS Tf):=aST x.1
def Uj:Sum:=Aj Rc Tf XM (DenS.dflt Tf)
theorem aVQ:Sound Tryz.prog G1 12 Uj:=sd (cf [] []) 12 Tryz.f12 trivial trivial Rc Tf XM _ (fun _=>bGU ..)
abbrev aCg:=Ag Rc
abbrev aC6:=Af Rc Tf
variable (p487:aCg)(f487:aC6)
abbrev Rd:Aa:=[(true,Zs),(true,Zs),(false,.bool)]
abbrev Tg:Aa:=[(true,Zs)]
abbrev IU:Pat:=⟨59,[(9,.one (.v .i64)),(8,.one (.sl Zb)),(7,.one (.sl Zb)),(2,.one (.bool)),(3,.one (.ptr 0 0)),(4,.one (.ptr 1 0)),(6,.one (.ptr 2 0))],[.raw [.bool,.sl Zb,.v .i64],.raw [.bool,.sl Zb,.v .i64],.raw [.bool,.sl Zb,.v .i64]]⟩
abbrev nL:List (Nat×Shape):=[(8,.unit)]
abbrev OA:List (Nat×Pat):=[(0,⟨59,[(8,.one (.sl Zb)),(7,.one (.sl Zb)),(2,.one (.bool)),(3,.one (.ptr 0 0)),(4,.one (.ptr 1 0)),(6,.one (.ptr 2 0))],[.raw [.bool,.sl Zb,.v .i64],.raw [.bool,.sl Zb,.v .i64],.raw [.bool,.sl Zb,.v .i64]]⟩)]
abbrev NJ:Option Pat:=none
variable (w488_4:Pat.D IU->Option (Ad OA NJ))
def ZM(p159:gS)(f159:iF)(p129:VQ)(f129:V3)(p130:XX)(f130:X9)(p127:VO)(f127:V1)(p128:VP)(f128:V2){R:Type}(L:Pat.D IU->Option R)(e:Ad OA NJ->Option R)(x:Pat.D IU):Option R:=let e1_:=((f127 (x.1.2.1,(1:Int),())).1,((1:Int)::[]),());let e2_:=(aa .i64 (x.1.1-(1:Int)));let e3_:=(x.1.2.2.1,x.1.2.2.2.1,(),(),(),());let e4_:=(x.1.2.2.1,(f127 (x.2.2.1.2.1,x.1.1,())));bif(decide (x.1.1>=(0:Int)))then(bif(p127 (x.1.2.1,(1:Int),()))then(bif(p127 (x.2.2.1.2.1,x.1.1,()))then(bif(p129 e4_)then(bif(decide ((f129 e4_).1>=(0:Int)))then(bif(p130 e4_)then(bif(p128 e1_)then(((L ((e2_,(f128 e1_).1,(f130 e4_).1,x.1.2.2.2.1,(),(),(),()),x.2))))else none)else none)else(L ((e2_,(f127 (x.1.2.1,(1:Int),())).1,e3_),x.2)))else none)else none)else none)else(e (.inl ((x.1.2.1,e3_),x.2)))
theorem bIS(d:Nat)(R:Type)(L:Pat.D IU->Option R)(e:Ad OA NJ->Option R)(x:Pat.D IU):
  Bv (cf [(128,⟨JR,Kn,p159,f159⟩),(133,⟨HX,Ib,p129,f129⟩),(134,⟨HY,Ic,p130,f130⟩),(132,⟨HV,H9,p127,f127⟩),(135,⟨HW,Ia,p128,f128⟩)] [(114,4,LoopSpec.of IU nL OA NJ w488_4)]) (d+2) 114 (Bu Tryz.f114 4) IU nL OA NJ (R:=R) L e x=ZM p159 f159 p129 f129 p130 f130 p127 f127 p128 f128 L e x:=by kernel_rfl
theorem aPO(p159:gS)(f159:iF)(p129:VQ)(f129:V3)(p130:XX)(f130:X9)(p127:VO)(f127:V1)(p128:VP)(f128:V2):Bt fun L e x=>ZM p159 f159 p129 f129 p130 f130 p127 f127 p128 f128 L e x:=by intro _ _ _ _ _ _ _ h0 hL he _;unfold ZM;repeat' (first|exact h0|exact hL _|exact he _|apply BJ|(apply BK h0;intro _)|(apply BL<;>intro _))
def zJ(p159:gS)(f159:iF)(p129:VQ)(f129:V3)(p130:XX)(f130:X9)(p127:VO)(f127:V1)(p128:VP)(f128:V2)(w488_4:Pat.D IU->Option (Ad OA NJ))(a0 a1:Ab Zs)(a2:Ab (.bool)):Option (DenS Tg):=
 bif(p127 (a0.2.1,(130:Int),()))then(bif(p159 (f127 (a0.2.1,(130:Int),())))then(bif(p159 (a1.2.1,()))then(Vx.Bi (w488_4 (((aa .i64 ((f159 (f127 (a0.2.1,(130:Int),()))).1-(f159 (a1.2.1,())).1)),[],(f127 (a0.2.1,(130:Int),())).1,a2,(),(),(),()),(a0.1,a0.2),(a1.1,a1.2),(false,[],(0:Int),()),())) fun y3=>
 Vx.Bg y3 (fun y4=>
 bif(p127 (y4.1.1,(1:Int),()))then(bif(decide ((y4.1.2.1.length:Int)>(0:Int)))then(bif(p128 ((f127 (y4.1.1,(1:Int),())).1,((1:Int)::[]),()))then(some ((y4.1.2.2.1,(f128 ((f127 (y4.1.1,(1:Int),())).1,((1:Int)::[]),())).1,(aa .i64 ((aa .i64 ((aa .i64 (y4.2.1.2.2.1-y4.2.2.1.2.2.1))-(130:Int)))-(1:Int))),()),()))
 else none)
 else some ((y4.1.2.2.1,(f127 (y4.1.1,(1:Int),())).1,(aa .i64 ((aa .i64 ((aa .i64 (y4.2.1.2.2.1-y4.2.2.1.2.2.1))-(130:Int)))-(1:Int))),()),()))
 else none) (fun z4=>
 none))
 else none)
 else none)
 else none
theorem bGV(x:DenS Rd):run (cf [(128,⟨JR,Kn,p159,f159⟩),(133,⟨HX,Ib,p129,f129⟩),(134,⟨HY,Ic,p130,f130⟩),(132,⟨HV,H9,p127,f127⟩),(135,⟨HW,Ia,p128,f128⟩)] [(114,4,LoopSpec.of IU nL OA NJ w488_4)]) 9 114 Tryz.f114 Rd Tg x=zJ p159 f159 p129 f129 p130 f130 p127 f127 p128 f128 w488_4 x.1 x.2.1 x.2.2.1:=by kernel_rfl
def rE:IU.D->Option (Ad OA NJ):=Bn fun L=>ZM DD.pre DD.F CM.pre CM.F CN.pre CN.F CK.pre CK.F CL.pre CL.F L some
def fF(x:DenS Rd):Option (DenS Tg):=zJ DD.pre DD.F CM.pre CM.F CN.pre CN.F CK.pre CK.F CL.pre CL.F rE x.1 x.2.1 x.2.2.1
def Uk:Sum:=Aj Rd Tg fF (DenS.dflt Tg)
theorem aVR:Sound Tryz.prog G1 114 Uk:=sd (cf [(128,DD),(133,CM),(134,CN),(132,CK),(135,CL)] [(114,4,LoopSpec.of IU nL OA NJ rE)]) 114 Tryz.f114 ⟨aGE,aAQ,aAR,aAO,aAP,trivial⟩ ⟨rfl,fun d=>BI (fun L e x=>ZM DD.pre DD.F CM.pre CM.F CN.pre CN.F CK.pre CK.F CL.pre CL.F L e x) (aPO DD.pre DD.F CM.pre CM.F CN.pre CN.F CK.pre CK.F CL.pre CL.F) (fun _ _ _ _=>bIS ..),trivial⟩ Rd Tg fF _ (fun _=>bGV ..)
abbrev aKS:=Ag Rd
abbrev aMr:=Af Rd Tg
variable (p488:aKS)(f488:aMr)
abbrev Re:Aa:=[(false,Zb),(false,Zb)]
abbrev Th:Aa:=[(false,Zb)]
abbrev G8:LK:=.ref Zp
def zK(p74:X5)(f74:Yh)(p75:gZ)(f75:iM)(p179:rK)(f179:r9)(p76:X6)(f76:Yi)(p37:Y37)(f37:Z37)(p488:aKS)(f488:aMr)(p126:aBF)(f126:aCv)(l0:LK.D (.ref Zp))(a0 a1:Ab Zb):Option (LK.B G8×DenS Th):=let e10_:=((!((f74 (l0.1,a0,())).1.2.2.2.1==(f74 (l0.1,a1,())).1.2.2.2.1)),());let e8_:=((f74 (l0.1,a0,())).1.2.2.2.2.1,(f74 (l0.1,a1,())).1.2.2.2.2.1,e10_);let e1_:=(f126 (l0.1,l0.2.1,(f488 e8_)));let e2_:=e8_;let e9_:=(l0.1,e10_);let e3_:=(p179 e9_);let e4_:=(f179 e9_);let e5_:=e9_;let e6_:=((l0.1,l0.2.1,(Ak .i64 l0.2.2.1 (1:Int)),()),(f75 (l0.1,())));let e7_:=((f74 (l0.1,a0,())).1.2.2.1&&(f74 (l0.1,a1,())).1.2.2.1);bif(p74 (l0.1,a0,()))then(bif(p74 (l0.1,a1,()))then(bif((f74 (l0.1,a0,())).1.2.1||(f74 (l0.1,a1,())).1.2.1)then(bif(p75 (l0.1,()))then(some e6_)else none)else bif((f74 (l0.1,a0,())).1.1||(f74 (l0.1,a1,())).1.1)then(bif(p75 (l0.1,()))then(some ((l0.1,l0.2),(f75 (l0.1,()))))else none)else bif((p76 (f74 (l0.1,a0,())))||(!(bif e7_ then false else true)))then(bif((p76 (f74 (l0.1,a1,())))||(!((bif e7_ then false else true)&&(f76 (f74 (l0.1,a0,()))).1)))then(bif(e7_||((f76 (f74 (l0.1,a0,()))).1&&(f76 (f74 (l0.1,a1,()))).1))then(bif(p75 (l0.1,()))then(some e6_)else none)else bif(f74 (l0.1,a0,())).1.2.2.1 then(bif e3_ then(some ((l0.1,l0.2),e4_))else none)else bif(p76 (f74 (l0.1,a1,())))then(bif(f76 (f74 (l0.1,a1,()))).1 then(bif e3_ then(some ((l0.1,l0.2.1,(Ak .i64 l0.2.2.1 (2:Int)),()),e4_))else none)else bif((p76 (f74 (l0.1,a0,())))||(!(bif(f74 (l0.1,a1,())).1.2.2.1 then false else true)))then(bif((f74 (l0.1,a1,())).1.2.2.1||(f76 (f74 (l0.1,a0,()))).1)then(bif(p37 e5_)then(some ((l0.1,l0.2),(f37 e5_)))else none)else bif(p488 e2_)then(bif(p126 (l0.1,l0.2.1,(f488 e2_)))then(some ((l0.1,l0.2.1,(Ak .i64 l0.2.2.1 e1_.2.1),()),e1_.1,()))else none)else none)else none)else none)else none)else none)else none)else none
theorem bGW(x:LK.D G8×DenS Re):Dd (cf [(33,⟨J9,KJ,p74,f74⟩),(86,⟨Ka,KK,p75,f75⟩),(109,⟨JT,Kp,p179,f179⟩),(75,⟨Kb,KL,p76,f76⟩),(112,⟨Mg,MK,p37,f37⟩),(114,⟨Rd,Tg,p488,f488⟩),(113,⟨L6,MC,p126,f126⟩)] []) 9 84 Tryz.f84 G8 Re Th x=zK p74 f74 p75 f75 p179 f179 p76 f76 p37 f37 p488 f488 p126 f126 x.1 x.2.1 x.2.2.1:=by kernel_rfl
def fG(x:LK.D G8×DenS Re):Option (LK.B G8×DenS Th):=zK Ey.pre Ey.F Ez.pre Ez.F Er.pre Er.F EA.pre EA.F Gz.pre Gz.F Uk.pre Uk.F Gw.pre Gw.F x.1 x.2.1 x.2.2.1
def Ul:SumL:=De G8 Re Th fG (LK.dflt G8,DenS.dflt Th)
theorem aVS:SoundL Tryz.prog G1 84 Ul:=Ej (cf [(33,Ey),(86,Ez),(109,Er),(75,EA),(112,Gz),(114,Uk),(113,Gw)] []) 84 Tryz.f84 ⟨aBb,aBc,aAV,aBd,aGO,aVR,aGz,trivial⟩ trivial G8 Re Th fG _ (fun _=>bGW ..)
abbrev aKT:=LK.D G8×DenS Re->Bool
abbrev aMs:=LK.D G8×DenS Re->LK.B G8×DenS Th
variable (p489:aKT)(f489:aMs)
abbrev Rg:Aa:=[(true,Zj),(true,Zj)]
abbrev Tj:Aa:=[(true,Zj)]
abbrev G9:LK:=.ref Zp
def zL(p478:rV)(f478:sL)(p483:aCe)(f483:aC4)(p484:aCf)(f484:aC5)(p489:aKT)(f489:aMs)(l0:LK.D (.ref Zp))(a0 a1:Ab Zj):Option (LK.B G9×DenS Tj):=let c1_:=(f483 ((l0.1,l0.2),a1.1,a1.1,()));let c2_:=(f483 (c1_.1,a1.2.1,a1.2));let c3_:=(f478 (c2_.1,c1_.2.1,c2_.2));let c4_:=(f483 (c3_.1,a0.1,a1.1,()));let c5_:=(f483 (c4_.1,a0.2.1,a1.2));let c6_:=(f478 (c5_.1,c4_.2.1,c5_.2));let c7_:=(f483 (c6_.1,a0.2.1,a1.1,()));let c8_:=(f483 (c7_.1,a0.1,a1.2));let c9_:=(f484 (c8_.1,c7_.2.1,c8_.2));let c10_:=(f489 (c9_.1,c6_.2.1,c3_.2));let c11_:=(f489 (c10_.1,c9_.2.1,c3_.2));bif(p483 ((l0.1,l0.2),a1.1,a1.1,()))then(bif(p483 (c1_.1,a1.2.1,a1.2))then(bif(p478 (c2_.1,c1_.2.1,c2_.2))then(bif(p483 (c3_.1,a0.1,a1.1,()))then(bif(p483 (c4_.1,a0.2.1,a1.2))then(bif(p478 (c5_.1,c4_.2.1,c5_.2))then(bif(p483 (c6_.1,a0.2.1,a1.1,()))then(bif(p483 (c7_.1,a0.1,a1.2))then(bif(p484 (c8_.1,c7_.2.1,c8_.2))then(bif(p489 (c9_.1,c6_.2.1,c3_.2))then(bif(p489 (c10_.1,c9_.2.1,c3_.2))then(some (c11_.1,(c10_.2.1,c11_.2),()))else none)else none)else none)else none)else none)else none)else none)else none)else none)else none)else none
theorem bGY(x:LK.D G9×DenS Rg):Dd ({cf [] []with lsums:=[(78,⟨FD,J3,KC,p478,f478⟩),(81,⟨Gj,Mq,MY,p483,f483⟩),(82,⟨Gk,Mr,MZ,p484,f484⟩),(84,⟨G8,Re,Th,p489,f489⟩)] }) 9 46 Tryz.f46 G9 Rg Tj x=zL p478 f478 p483 f483 p484 f484 p489 f489 x.1 x.2.1 x.2.2.1:=by kernel_rfl
def fH(x:LK.D G9×DenS Rg):Option (LK.B G9×DenS Tj):=zL Ew.pre Ew.F GF.pre GF.F GG.pre GG.F Ul.pre Ul.F x.1 x.2.1 x.2.2.1
def Um:SumL:=De G9 Rg Tj fH (LK.dflt G9,DenS.dflt Tj)
theorem aVT:SoundL Tryz.prog G1 46 Um:=Ej ({cf [] []with lsums:=[(78,Ew),(81,GF),(82,GG),(84,Ul)] }) 46 Tryz.f46 trivial trivial G9 Rg Tj fH _ (fun _=>bGY ..) (hls:=⟨aA6,aHb,aHc,aVS,trivial⟩)
abbrev aKV:=LK.D G9×DenS Rg->Bool
abbrev aMu:=LK.D G9×DenS Rg->LK.B G9×DenS Tj
variable (p490:aKV)(f490:aMu)
abbrev Rh:Aa:=[(false,Za),(false,Za),(true,Zj),(true,Zj)]
abbrev Tk:Aa:=[(true,Zj),(false,Za),(false,Za)]
def zM(p477:gX)(f477:iK)(p490:aKV)(f490:aMu)(a0 a1:Ab Za)(a2 a3:Ab Zj):Option (DenS Tk):=let e3_:=((a0,a1,(0:Int),()),(a2.1,a2.2),(a3.1,a3.2),());let e1_:=(f490 e3_);let e4_:=(a0,a1,((a2.1,a2.2)::((a3.1,a3.2)::[])),());let e2_:=(f477 e4_);bif(p477 e4_)then(bif(e2_.1 !=(0:Int))then(some (((0:Int),(0:Int),()),(0:Int),e2_))else bif(p490 e3_)then(some (e1_.2.1,e1_.1.2.2.1,(0:Int),()))else none)else none
theorem bGZ(x:DenS Rh):run ({cf [(39,⟨J2,KB,p477,f477⟩)] []with lsums:=[(46,⟨G9,Rg,Tj,p490,f490⟩)] }) 9 16 Tryz.f16 Rh Tk x=zM p477 f477 p490 f490 x.1 x.2.1 x.2.2.1 x.2.2.2.1:=by kernel_rfl
def fI(x:DenS Rh):Option (DenS Tk):=zM Eu.pre Eu.F Um.pre Um.F x.1 x.2.1 x.2.2.1 x.2.2.2.1
def Un:Sum:=Aj Rh Tk fI (DenS.dflt Tk)
theorem aVU:Sound Tryz.prog G1 16 Un:=sd ({cf [(39,Eu)] []with lsums:=[(46,Um)] }) 16 Tryz.f16 ⟨aA5,trivial⟩ trivial Rh Tk fI _ (fun _=>bGZ ..) (hls:=⟨aVT,trivial⟩)
abbrev aKW:=Ag Rh
abbrev aMv:=Af Rh Tk
variable (p491:aKW)(f491:aMv)
abbrev Ri:Aa:=[(true,Zj),(true,Zj)]
abbrev Tl:Aa:=[(false,.bool)]
def zN(a0 a1:Ab Zj):Option (DenS Tl):=some (((a0.1==a1.1)&&(a0.2.1==a1.2.1)),())
theorem bG0(x:DenS Ri):run (cf [] []) 9 17 Tryz.f17 Ri Tl x=zN x.1 x.2.1:=by kernel_rfl
def fJ(x:DenS Ri):Option (DenS Tl):=zN x.1 x.2.1
def Uo:Sum:=Aj Ri Tl fJ (DenS.dflt Tl)
theorem aVV:Sound Tryz.prog G1 17 Uo:=sd (cf [] []) 17 Tryz.f17 trivial trivial Ri Tl fJ _ (fun _=>bG0 ..)
abbrev aCh:=Ag Ri
abbrev aC7:=Af Ri Tl
variable (p492:aCh)(f492:aC7)
abbrev aGb:Aa:=[(false,.slice (.pair Za ZG))]
abbrev aTI:Aa:=[(false,.bool)]
abbrev aT0:Pat:=⟨129,[(0,.one (.sl (.pair Za ZG))),(3,.one (.v .i64))],[]⟩
abbrev aXN:List (Nat×Pat):=[(0,⟨129,[],[]⟩)]
abbrev aT8:Option Pat:=(some ⟨129,[(2,.one (.bool))],[]⟩)
variable (w493_4:Pat.D aT0->Option (Ad aXN aT8))
abbrev aX0:=Ag aGb
abbrev aYm:=Af aGb aTI
variable (p493:aX0)(f493:aYm)
abbrev aAx:Aa:=[(false,Zb)]
abbrev aGs:Aa:=[(false,.flt .f64)]
def oD:Sum:=aOc .f64
theorem aUL:Sound Tryz.prog G1 18 oD:=aZ2 (e:=oa) .f64 Tryz.func18 (by kernel_rfl) (by kernel_rfl) (by kernel_rfl) (by kernel_rfl) (fun _=>rfl)
abbrev aBJ:=Ag aAx
abbrev aCz:=Af aAx aGs
variable (p301:aBJ)(f301:aCz)
abbrev J4:Aa:=[(true,Zj)]
abbrev KD:Aa:=[(false,.cx .f64)]
def aSV(p301:aBJ)(f301:aCz)(a0:Ab Zj):Option (DenS KD):=bif(p301 (a0.1,()))then(bif(p301 a0.2)then(some (((f301 (a0.1,())).1,(f301 a0.2).1),()))else none)else none
theorem bG1(x:DenS J4):run (cf [(18,⟨aAx,aGs,p301,f301⟩)] []) 9 48 Tryz.f48 J4 KD x=aSV p301 f301 x.1:=by kernel_rfl
def IY(x:DenS J4):Option (DenS KD):=aSV oD.pre oD.F x.1
def Ex:Sum:=Aj J4 KD IY (DenS.dflt KD)
theorem aA7:Sound Tryz.prog G1 48 Ex:=sd (cf [(18,oD)] []) 48 Tryz.f48 ⟨aUL,trivial⟩ trivial J4 KD IY _ (fun _=>bG1 ..)
abbrev gY:=Ag J4
abbrev iL:=Af J4 KD
variable (p494:gY)(f494:iL)
abbrev aAy:Aa:=[(false,.flt .f64)]
abbrev aGt:Aa:=[(false,Zb)]
def Vr:Sum:=aMX .f64
theorem aUM:Sound Tryz.prog G1 49 Vr:=aYY (e:=ol) .f64 Tryz.func49 (by kernel_rfl) (by kernel_rfl) (by kernel_rfl) (by kernel_rfl) (fun _=>rfl)
abbrev aBK:=Ag aAy
abbrev aCA:=Af aAy aGt
variable (p306:aBK)(f306:aCA)
abbrev Ms:Aa:=[(false,.flt .f64)]
abbrev M0:Aa:=[(false,Zb)]
def zO(p70:DG)(f70:DH)(p306:aBK)(f306:aCA)(a0:Ab (.flt .f64)):Option (DenS M0):=bif((Vx.Dl dr a0 a0)!=(some Ordering.eq))then(bif(p70 ((3:Int),()))then(some ((f70 ((3:Int),())).1,()))else none)else bif(p306 (a0,()))then(some (f306 (a0,())))else none
theorem bG2(x:DenS Ms):run (cf [(61,⟨DA,DB,p70,f70⟩),(49,⟨aAy,aGt,p306,f306⟩)] []) 9 51 Tryz.f51 Ms M0 x=zO p70 f70 p306 f306 x.1:=by kernel_rfl
def fK(x:DenS Ms):Option (DenS M0):=zO Bp.pre Bp.F Vr.pre Vr.F x.1
def GH:Sum:=Aj Ms M0 fK (DenS.dflt M0)
theorem aHd:Sound Tryz.prog G1 51 GH:=sd (cf [(61,Bp),(49,Vr)] []) 51 Tryz.f51 ⟨GJ,aUM,trivial⟩ trivial Ms M0 fK _ (fun _=>bG2 ..)
abbrev aCi:=Ag Ms
abbrev aC8:=Af Ms M0
variable (p495:aCi)(f495:aC8)
abbrev Mt:Aa:=[(false,.cx .f64)]
abbrev M1:Aa:=[(true,Zj)]
def zP(p495:aCi)(f495:aC8)(a0:Ab (.cx .f64)):Option (DenS M1):=bif(p495 (a0.1,()))then(bif(p495 (a0.2,()))then(some (((f495 (a0.1,())).1,(f495 (a0.2,()))),()))else none)else none
theorem bG3(x:DenS Mt):run (cf [(51,⟨Ms,M0,p495,f495⟩)] []) 9 47 Tryz.f47 Mt M1 x=zP p495 f495 x.1:=by kernel_rfl
def XO(x:DenS Mt):Option (DenS M1):=zP GH.pre GH.F x.1
def GI:Sum:=Aj Mt M1 XO (DenS.dflt M1)
theorem aHe:Sound Tryz.prog G1 47 GI:=sd (cf [(51,GH)] []) 47 Tryz.f47 ⟨aHd,trivial⟩ trivial Mt M1 XO _ (fun _=>bG3 ..)
abbrev rW:=Ag Mt
abbrev sM:=Af Mt M1
variable (p496:rW)(f496:sM)
abbrev Rj:Aa:=[(true,Zj),(true,Zj)]
abbrev Tm:Aa:=[(true,Zj)]
def zQ(p494:gY)(f494:iL)(p496:rW)(f496:sM)(a0 a1:Ab Zj):Option (DenS Tm):=let e1_:=(((Vx.AK my dr (f494 ((a0.1,a0.2),())).1.1 (f494 ((a1.1,a1.2),())).1.1),(Vx.AK my dr (f494 ((a0.1,a0.2),())).1.2 (f494 ((a1.1,a1.2),())).1.2)),());bif(p494 ((a0.1,a0.2),()))then(bif(p494 ((a1.1,a1.2),()))then(bif(p496 e1_)then(some (f496 e1_))else none)else none)else none
theorem bG4(x:DenS Rj):run (cf [(48,⟨J4,KD,p494,f494⟩),(47,⟨Mt,M1,p496,f496⟩)] []) 9 19 Tryz.f19 Rj Tm x=zQ p494 f494 p496 f496 x.1 x.2.1:=by kernel_rfl
def fL(x:DenS Rj):Option (DenS Tm):=zQ Ex.pre Ex.F GI.pre GI.F x.1 x.2.1
def Up:Sum:=Aj Rj Tm fL (DenS.dflt Tm)
theorem aVW:Sound Tryz.prog G1 19 Up:=sd (cf [(48,Ex),(47,GI)] []) 19 Tryz.f19 ⟨aA7,aHe,trivial⟩ trivial Rj Tm fL _ (fun _=>bG4 ..)
abbrev aCj:=Ag Rj
abbrev aC9:=Af Rj Tm
variable (p497:aCj)(f497:aC9)
abbrev Rk:Aa:=[(false,.cx .f64),(false,.cx .f64)]
abbrev Tn:Aa:=[(false,.cx .f64)]
def aSW(a0 a1:Ab (.cx .f64)):Option (DenS Tn):=some (((Vx.AK qp dr (Vx.AK jr dr a0.1 a1.1) (Vx.AK jr dr a0.2 a1.2)),(Vx.AK my dr (Vx.AK jr dr a0.1 a1.2) (Vx.AK jr dr a0.2 a1.1))),())
theorem bG5(x:DenS Rk):run (cf [] []) 9 50 Tryz.f50 Rk Tn x=aSW x.1 x.2.1:=by kernel_rfl
def fM(x:DenS Rk):Option (DenS Tn):=aSW x.1 x.2.1
def Uq:Sum:=Aj Rk Tn fM (DenS.dflt Tn)
theorem aVX:Sound Tryz.prog G1 50 Uq:=sd (cf [] []) 50 Tryz.f50 trivial trivial Rk Tn fM _ (fun _=>bG5 ..)
abbrev aCk:=Ag Rk
abbrev aDa:=Af Rk Tn
variable (p498:aCk)(f498:aDa)
abbrev Rl:Aa:=[(true,Zj),(true,Zj)]
abbrev To:Aa:=[(true,Zj)]
def zR(p494:gY)(f494:iL)(p498:aCk)(f498:aDa)(p496:rW)(f496:sM)(a0 a1:Ab Zj):Option (DenS To):=let e2_:=((f494 ((a0.1,a0.2),())).1,(f494 ((a1.1,a1.2),())));let e1_:=(f498 e2_);bif(p494 ((a0.1,a0.2),()))then(bif(p494 ((a1.1,a1.2),()))then(bif(p498 e2_)then(bif(p496 e1_)then(some (f496 e1_))else none)else none)else none)else none
theorem bG6(x:DenS Rl):run (cf [(48,⟨J4,KD,p494,f494⟩),(50,⟨Rk,Tn,p498,f498⟩),(47,⟨Mt,M1,p496,f496⟩)] []) 9 21 Tryz.f21 Rl To x=zR p494 f494 p498 f498 p496 f496 x.1 x.2.1:=by kernel_rfl
def fN(x:DenS Rl):Option (DenS To):=zR Ex.pre Ex.F Uq.pre Uq.F GI.pre GI.F x.1 x.2.1
def Ur:Sum:=Aj Rl To fN (DenS.dflt To)
theorem aVY:Sound Tryz.prog G1 21 Ur:=sd (cf [(48,Ex),(50,Uq),(47,GI)] []) 21 Tryz.f21 ⟨aA7,aVX,aHe,trivial⟩ trivial Rl To fN _ (fun _=>bG6 ..)
abbrev aCl:=Ag Rl
abbrev aDb:=Af Rl To
variable (p499:aCl)(f499:aDb)
abbrev Rm:Aa:=[(true,Zj),(true,Zj)]
abbrev Tp:Aa:=[(true,Zj)]
def zS(p494:gY)(f494:iL)(p495:aCi)(f495:aC8)(a0 a1:Ab Zj):Option (DenS Tp):=let e3_:=(Vx.AK my dr (Vx.AK jr dr (f494 ((a1.1,a1.2),())).1.1 (f494 ((a1.1,a1.2),())).1.1) (Vx.AK jr dr (f494 ((a1.1,a1.2),())).1.2 (f494 ((a1.1,a1.2),())).1.2));let e1_:=((Vx.AK qq dr (Vx.AK my dr (Vx.AK jr dr (f494 ((a0.1,a0.2),())).1.1 (f494 ((a1.1,a1.2),())).1.1) (Vx.AK jr dr (f494 ((a0.1,a0.2),())).1.2 (f494 ((a1.1,a1.2),())).1.2)) e3_),());let e2_:=((Vx.AK qq dr (Vx.AK qp dr (Vx.AK jr dr (f494 ((a0.1,a0.2),())).1.2 (f494 ((a1.1,a1.2),())).1.1) (Vx.AK jr dr (f494 ((a0.1,a0.2),())).1.1 (f494 ((a1.1,a1.2),())).1.2)) e3_),());bif(p494 ((a0.1,a0.2),()))then(bif(p494 ((a1.1,a1.2),()))then(bif(p495 e1_)then(bif(p495 e2_)then(some (((f495 e1_).1,(f495 e2_)),()))else none)else none)else none)else none
theorem bG7(x:DenS Rm):run (cf [(48,⟨J4,KD,p494,f494⟩),(51,⟨Ms,M0,p495,f495⟩)] []) 9 22 Tryz.f22 Rm Tp x=zS p494 f494 p495 f495 x.1 x.2.1:=by kernel_rfl
def fO(x:DenS Rm):Option (DenS Tp):=zS Ex.pre Ex.F GH.pre GH.F x.1 x.2.1
def Us:Sum:=Aj Rm Tp fO (DenS.dflt Tp)
theorem aV0:Sound Tryz.prog G1 22 Us:=sd (cf [(48,Ex),(51,GH)] []) 22 Tryz.f22 ⟨aA7,aHd,trivial⟩ trivial Rm Tp fO _ (fun _=>bG7 ..)
abbrev aCm:=Ag Rm
abbrev aDc:=Af Rm Tp
variable (p500:aCm)(f500:aDc)
abbrev aGc:Aa:=[(false,.flt .f64)]
abbrev aTJ:Aa:=[(false,Zb)]
abbrev aX1:=Ag aGc
abbrev aYn:=Af aGc aTJ
variable (p501:aX1)(f501:aYn)
abbrev aGd:Aa:=[(true,Zj),(true,Zj)]
abbrev aTK:Aa:=[(false,.bool)]
abbrev aX2:=Ag aGd
abbrev aYo:=Af aGd aTK
variable (p502:aX2)(f502:aYo)
abbrev I503:Aa:=[(true,Zj),(true,Zj)]
abbrev Vp:Aa:=[(false,.bool)]
def zT(p474:rT)(f474:sJ)(p476:rU)(f476:sK)(p470:gV)(f470:iI)(p473:gW)(f473:iJ)(p497:aCj)(f497:aC9)(p499:aCl)(f499:aDb)(p500:aCm)(f500:aDc)(p480:aKN)(f480:aMm)(p486:aKR)(f486:aMq)(p487:aCg)(f487:aC6)(p491:aKW)(f491:aMv)(p492:aCh)(f492:aC7)(a0 a1:Ab Zj):Option (DenS Vp):=let e1_:=((3:Int),(0:Int),(a0.1,a0.2),(a1.1,a1.2),());let c1_:=(f476 e1_);let c2_:=(f487 ((a0.1,a0.2),()));let c3_:=(f487 ((a1.1,a1.2),()));let c4_:=(f480 ((3:Int),(0:Int),c2_.1,c3_));let c5_:=(f492 (c1_.1,c4_.1,()));let c6_:=(f470 e1_);let c7_:=(f486 ((3:Int),(0:Int),c2_.1,c3_));let c8_:=(f492 (c6_.1,c7_.1,()));let c9_:=(f473 e1_);let c10_:=(f491 ((3:Int),(0:Int),c2_.1,c3_));let c11_:=(f492 (c9_.1,c10_.1,()));let c12_:=(f497 ((a0.1,a0.2),(a1.1,a1.2),()));let c13_:=(f499 ((a0.1,a0.2),(a1.1,a1.2),()));let c14_:=(f500 ((a0.1,a0.2),(a1.1,a1.2),()));let c15_:=(f474 ());bif(p474 ())then(bif(!c15_.1)then(some (false,()))else bif(p476 e1_)then(bif(p470 e1_)then(bif(p473 e1_)then(bif((p497 ((a0.1,a0.2),(a1.1,a1.2),()))||(!(bif(((c1_.2.2.1 !=(0:Int))||(c6_.2.2.1 !=(0:Int)))||(c9_.2.2.1 !=(0:Int)))then false else true)))then(bif((p499 ((a0.1,a0.2),(a1.1,a1.2),()))||(!(bif((((c1_.2.2.1 !=(0:Int))||(c6_.2.2.1 !=(0:Int)))||(c9_.2.2.1 !=(0:Int)))||(!((c12_.1.1==c1_.1.1)&&(c12_.1.2.1==c1_.1.2.1))))then false else true)))then(bif((p500 ((a0.1,a0.2),(a1.1,a1.2),()))||(!(bif(((((c1_.2.2.1 !=(0:Int))||(c6_.2.2.1 !=(0:Int)))||(c9_.2.2.1 !=(0:Int)))||(!((c12_.1.1==c1_.1.1)&&(c12_.1.2.1==c1_.1.2.1))))||(!((c13_.1.1==c6_.1.1)&&(c13_.1.2.1==c6_.1.2.1))))then false else true)))then(bif((((((c1_.2.2.1 !=(0:Int))||(c6_.2.2.1 !=(0:Int)))||(c9_.2.2.1 !=(0:Int)))||(!((c12_.1.1==c1_.1.1)&&(c12_.1.2.1==c1_.1.2.1))))||(!((c13_.1.1==c6_.1.1)&&(c13_.1.2.1==c6_.1.2.1))))||(!((c14_.1.1==c9_.1.1)&&(c14_.1.2.1==c9_.1.2.1))))then(some (false,()))else bif(p487 ((a0.1,a0.2),()))then(bif(p487 ((a1.1,a1.2),()))then(bif(p480 ((3:Int),(0:Int),c2_.1,c3_))then(bif(p487 ((a0.1,a0.2),()))then(bif(p487 ((a1.1,a1.2),()))then(bif(p486 ((3:Int),(0:Int),c2_.1,c3_))then(bif(p487 ((a0.1,a0.2),()))then(bif(p487 ((a1.1,a1.2),()))then(bif(p491 ((3:Int),(0:Int),c2_.1,c3_))then(bif(p492 (c1_.1,c4_.1,()))then(bif((p492 (c6_.1,c7_.1,()))||(!c5_.1))then(bif((p492 (c9_.1,c10_.1,()))||(!(bif c5_.1 then c8_.1 else false)))then(some (((c5_.1&&c8_.1)&&c11_.1),()))else none)else none)else none)else none)else none)else none)else none)else none)else none)else none)else none)else none)else none)else none)else none)else none)else none)else none)else none
theorem bG8(x:DenS I503):run (cf [(9,⟨Q3,S6,p474,f474⟩),(10,⟨Q5,S8,p476,f476⟩),(13,⟨Mo,MW,p470,f470⟩),(15,⟨Mp,MX,p473,f473⟩),(19,⟨Rj,Tm,p497,f497⟩),(21,⟨Rl,To,p499,f499⟩),(22,⟨Rm,Tp,p500,f500⟩),(11,⟨Q7,Ta,p480,f480⟩),(14,⟨Rb,Te,p486,f486⟩),(12,⟨Rc,Tf,p487,f487⟩),(16,⟨Rh,Tk,p491,f491⟩),(17,⟨Ri,Tl,p492,f492⟩)] []) 9 5 Tryz.f5 I503 Vp x=zT p474 f474 p476 f476 p470 f470 p473 f473 p497 f497 p499 f499 p500 f500 p480 f480 p486 f486 p487 f487 p491 f491 p492 f492 x.1 x.2.1:=by kernel_rfl
def T503(x:DenS I503):Option (DenS Vp):=zT Ua.pre Ua.F Uc.pre Uc.F GD.pre GD.F GE.pre GE.F Up.pre Up.F Ur.pre Ur.F Us.pre Us.F Ue.pre Ue.F Ui.pre Ui.F Uj.pre Uj.F Un.pre Un.F Uo.pre Uo.F x.1 x.2.1
def aV1:Sum:=Aj I503 Vp T503 (DenS.dflt Vp)
theorem S503_sound:Sound Tryz.prog G1 5 aV1:=sd (cf [(9,Ua),(10,Uc),(13,GD),(15,GE),(19,Up),(21,Ur),(22,Us),(11,Ue),(14,Ui),(12,Uj),(16,Un),(17,Uo)] []) 5 Tryz.f5 ⟨aVH,aVJ,aG8,aG9,aVW,aVY,aV0,aVL,aVP,aVQ,aVU,aVV,trivial⟩ trivial I503 Vp T503 _ (fun _=>bG8 ..)
abbrev aX3:=Ag I503
abbrev aYp:=Af I503 Vp
variable (p503:aX3)(f503:aYp)
abbrev aGe:Aa:=[(false,Za),(false,Zb)]
abbrev aTL:Aa:=[(false,Zb)]
abbrev aX4:=Ag aGe
abbrev aYq:=Af aGe aTL
variable (p504:aX4)(f504:aYq)
abbrev aGf:Aa:=[(false,Za),(false,Za),(false,Zm),(true,Zj)]
abbrev aTM:Aa:=[(true,Zj),(false,Za),(false,Za)]
abbrev aT1:Pat:=⟨79,[(7,.one (.ptr 0 0)),(2,.one (.sl Zj)),(14,.one (.v .i64)),(0,.one (.v .i64)),(13,.one (.ptr 3 0)),(12,.one (.ptr 2 0)),(8,.one (.ptr 1 0))],[.raw [.v .u64,.v .u64],.raw [.v .u64,.v .u64],.raw [.v .i64,.v .i64,.v .i64],.raw [.v .u64,.v .u64]]⟩
abbrev aXO:List (Nat×Pat):=[(0,⟨79,[(0,.one (.v .i64)),(13,.one (.ptr 3 0)),(12,.one (.ptr 2 0)),(8,.one (.ptr 1 0))],[.gone,.raw [.v .u64,.v .u64],.raw [.v .i64,.v .i64,.v .i64],.raw [.v .u64,.v .u64]]⟩)]
abbrev aT9:Option Pat:=none
variable (w505_14:Pat.D aT1->Option (Ad aXO aT9))
abbrev aKX:=Ag aGf
abbrev aMw:=Af aGf aTM
variable (p505:aKX)(f505:aMw)
abbrev aGg:Aa:=[(false,Zb)]
abbrev aTN:Aa:=[(false,Zb)]
abbrev aAz:LK:=.ref Zp
abbrev aKY:=LK.D aAz×DenS aGg->Bool
abbrev aMx:=LK.D aAz×DenS aGg->LK.B aAz×DenS aTN
variable (p506:aKY)(f506:aMx)
end Vx
namespace Vx
open Go Go.Proofs
variable (p69:BY)(f69:BZ)(p91:Hv)(f91:Hz)(p65:D8)(f65:D9)(p140:XY)(f140:Ya)(p70:DG)(f70:DH)(p118:I0)(f118:I4)(p173:Bz)(f173:BA)(p151:Li)(f151:Ll)(p171:UF)(f171:UI)(p186:VW)(f186:V8)(p185:VU)(f185:V7)(p176:VT)(f176:V6)(p141:VR)(f141:V4)(p143:OB)(f143:OE)(p97:OD)(f97:OG)(p122:Ht)(f122:Hx)(p144:I1)(f144:I5)(p333:aBQ)(f333:aCG)(p311:rM)(f311:sB)(p313:rN)(f313:sC)(p324:aBO)(f324:aCE)(p325:aBP)(f325:aCF)(p468:aCb)(f468:aC1)(p469:gU)(f469:iH)(p470:gV)(f470:iI)(p473:gW)(f473:iJ)(p474:rT)(f474:sJ)(p475:aCd)(f475:aC3)(p476:rU)(f476:sK)(p67:I3)(f67:I7)(p74:X5)(f74:Yh)(p76:X6)(f76:Yi)(p32:Y32)(f32:Z32)(p487:aCg)(f487:aC6)(p492:aCh)(f492:aC7)(p301:aBJ)(f301:aCz)(p494:gY)(f494:iL)(p306:aBK)(f306:aCA)(p496:rW)(f496:sM)(p497:aCj)(f497:aC9)(p498:aCk)(f498:aDa)(p499:aCl)(f499:aDb)(p500:aCm)(f500:aDc)(p505:aKX)(f505:aMw)(p506:aKY)(f506:aMx)
abbrev aGh:Aa:=[(false,Za),(false,Za),(false,Zm),(true,Zj)]
abbrev aTO:Aa:=[(true,Zj),(false,Za),(false,Za)]
abbrev aT2:Pat:=⟨77,[(51,.one (.v .i64)),(50,.one (.sl Zj)),(7,.one (.ptr 0 0)),(52,.one (.v .i64)),(13,.one (.ptr 4 0)),(11,.one (.ptr 3 0)),(8,.one (.ptr 1 0))],[.raw [.v .u64,.v .u64],.raw [.v .u64,.v .u64],.gone,.raw [.v .i64,.v .i64,.v .i64],.raw [.v .u64,.v .u64]]⟩
abbrev aXP:List (Nat×Pat):=[(0,⟨77,[(13,.one (.ptr 4 0)),(11,.one (.ptr 3 0)),(8,.one (.ptr 1 0))],[.gone,.raw [.v .u64,.v .u64],.gone,.raw [.v .i64,.v .i64,.v .i64],.raw [.v .u64,.v .u64]]⟩)]
abbrev aUa:Option Pat:=none
variable (w507_12:Pat.D aT2->Option (Ad aXP aUa))
abbrev aX5:=Ag aGh
abbrev aYr:=Af aGh aTO
variable (p507:aX5)(f507:aYr)
abbrev aGi:Aa:=[(false,Zm),(true,Zj)]
abbrev aTP:Aa:=[(true,Zj),(false,Za)]
abbrev aT3:Pat:=⟨40,[(26,.one (.v .i64)),(25,.one (.sl Zj)),(7,.one (.cx .f64)),(27,.one (.v .i64)),(6,.one (.cx .f64)),(4,.one (.ptr 1 0))],[.gone,.raw [.v .u64,.v .u64]]⟩
abbrev aXQ:List (Nat×Pat):=[(0,⟨40,[(6,.one (.cx .f64)),(4,.one (.ptr 1 0))],[.gone,.raw [.v .u64,.v .u64]]⟩)]
abbrev aUb:Option Pat:=none
variable (w508_7:Pat.D aT3->Option (Ad aXQ aUb))
abbrev aX6:=Ag aGi
abbrev aYs:=Af aGi aTP
variable (p508:aX6)(f508:aYs)
abbrev aGj:Aa:=[(false,Za),(false,Za),(false,Zm),(true,Zj)]
abbrev aTQ:Aa:=[(false,.bool)]
abbrev aT4:Pat:=⟨224,[(13,.one (.v .i64)),(12,.one (.own 3)),(11,.one (.sl Zj)),(2,.one (.sl Zj)),(10,.one (.ptr 2 0)),(0,.one (.v .i64)),(1,.one (.v .i64)),(9,.one (.sl Zj)),(7,.one (.ptr 0 0))],[.raw [.v .u64,.v .u64],.gone,.raw [.v .u64,.v .u64],.acc Zj]⟩
abbrev aXR:List (Nat×Pat):=[(0,⟨224,[(12,.one (.own 3)),(11,.one (.sl Zj)),(2,.one (.sl Zj)),(10,.one (.ptr 2 0)),(0,.one (.v .i64)),(1,.one (.v .i64)),(9,.one (.sl Zj)),(7,.one (.ptr 0 0))],[.raw [.v .u64,.v .u64],.gone,.raw [.v .u64,.v .u64],.acc Zj]⟩)]
abbrev aUc:Option Pat:=none
abbrev aT5:Pat:=⟨224,[(20,.one (.v .i64)),(11,.one (.sl Zj)),(2,.one (.sl Zj)),(10,.one (.ptr 2 0)),(0,.one (.v .i64)),(1,.one (.v .i64)),(9,.one (.sl Zj)),(7,.one (.ptr 0 0)),(14,.one (.ptr 4 0))],[.raw [.v .u64,.v .u64],.gone,.raw [.v .u64,.v .u64],.gone,.raw [.v .u64,.v .u64]]⟩
abbrev aXS:List (Nat×Pat):=[(2,⟨224,[(11,.one (.sl Zj)),(2,.one (.sl Zj)),(10,.one (.ptr 2 0)),(0,.one (.v .i64)),(1,.one (.v .i64)),(9,.one (.sl Zj)),(7,.one (.ptr 0 0)),(14,.one (.ptr 4 0))],[.raw [.v .u64,.v .u64],.gone,.raw [.v .u64,.v .u64],.gone,.raw [.v .u64,.v .u64]]⟩)]
abbrev aUd:Option Pat:=(some ⟨224,[(8,.one (.bool))],[]⟩)
abbrev aT6:Pat:=⟨224,[(21,.one (.v .i64)),(0,.one (.v .i64)),(1,.one (.v .i64)),(9,.one (.sl Zj)),(7,.one (.ptr 0 0)),(14,.one (.ptr 4 0))],[.raw [.v .u64,.v .u64],.gone,.gone,.gone,.raw [.v .u64,.v .u64]]⟩
abbrev aXT:List (Nat×Pat):=[(4,⟨224,[(0,.one (.v .i64)),(1,.one (.v .i64)),(9,.one (.sl Zj)),(7,.one (.ptr 0 0)),(14,.one (.ptr 4 0))],[.raw [.v .u64,.v .u64],.gone,.gone,.gone,.raw [.v .u64,.v .u64]]⟩)]
abbrev aUe:Option Pat:=none
variable (w509_10:Pat.D aT4->Option (Ad aXR aUc))(w509_22:Pat.D aT5->Option (Ad aXS aUd))(w509_29:Pat.D aT6->Option (Ad aXT aUe))
abbrev aX7:=Ag aGj
abbrev aYt:=Af aGj aTQ
variable (p509:aX7)(f509:aYt)
abbrev aGk:Aa:=[(false,Za),(false,Za)]
abbrev aTR:Aa:=[(false,Za)]
abbrev aX8:=Ag aGk
abbrev aYu:=Af aGk aTR
variable (p510:aX8)(f510:aYu)
abbrev aGl:Aa:=[(true,ZG)]
abbrev aTS:Aa:=[(true,ZG)]
abbrev aX9:=Ag aGl
abbrev aYv:=Af aGl aTS
variable (p511:aX9)(f511:aYv)
abbrev aF5:Aa:=[(false,Za)]
abbrev aTC:Aa:=[(false,.bool)]
abbrev aXU:=Ag aF5
abbrev aYg:=Af aF5 aTC
variable (p323:aXU)(f323:aYg)
abbrev aF6:Aa:=[(false,Zb),(false,Za)]
abbrev aTD:Aa:=[(false,Ze)]
abbrev aXV:=Ag aF6
abbrev aYh:=Af aF6 aTD
variable (p326:aXV)(f326:aYh)
abbrev aF7:Aa:=[(false,Ze)]
abbrev aTE:Aa:=[(false,Ze),(false,.bool),(false,Za)]
abbrev aTZ:Pat:=⟨45,[(5,.one (.sl Zb)),(0,.one (.sl Zb))],[]⟩
abbrev aXM:List (Nat×Pat):=[(0,⟨45,[(5,.one (.sl Zb)),(0,.one (.sl Zb))],[]⟩)]
abbrev aT7:Option Pat:=none
variable (w334_7:Pat.D aTZ->Option (Ad aXM aT7))
abbrev aXW:=Ag aF7
abbrev aYi:=Af aF7 aTE
variable (p334:aXW)(f334:aYi)
abbrev aF8:Aa:=[(false,Za),(false,Za),(false,Ze),(false,Za),(false,.bool)]
abbrev aTF:Aa:=[(false,Zb),(false,Za),(false,Za)]
abbrev aXX:=Ag aF8
abbrev aYj:=Af aF8 aTF
variable (p335:aXX)(f335:aYj)
abbrev aF9:Aa:=[(false,Za),(false,Za),(false,Zb),(false,Zb)]
abbrev aTG:Aa:=[(false,Zb),(false,Za),(false,Za)]
abbrev aXY:=Ag aF9
abbrev aYk:=Af aF9 aTG
variable (p336:aXY)(f336:aYk)
abbrev aGm:Aa:=[(false,Za),(false,Za),(true,Zj)]
abbrev aTT:Aa:=[(false,Zb),(false,Za),(false,Za)]
abbrev aYa:=Ag aGm
abbrev aYw:=Af aGm aTT
variable (p512:aYa)(f512:aYw)
abbrev aGn:Aa:=[(false,Za),(false,Zb),(false,Zb)]
abbrev aTU:Aa:=[(false,.bool)]
abbrev aYb:=Ag aGn
abbrev aYx:=Af aGn aTU
variable (p513:aYb)(f513:aYx)
abbrev aGo:Aa:=[(false,Za),(true,Zj),(true,Zj)]
abbrev aTV:Aa:=[(false,.bool)]
abbrev aYc:=Ag aGo
abbrev aYy:=Af aGo aTV
variable (p514:aYc)(f514:aYy)
abbrev aGa:Aa:=[(false,Za),(false,.bool),(false,Zb),(false,Zb)]
abbrev aTH:Aa:=[(false,Zb),(false,Za)]
abbrev aXZ:=Ag aGa
abbrev aYl:=Af aGa aTH
variable (p349:aXZ)(f349:aYl)
abbrev aGp:Aa:=[(true,ZG)]
abbrev aTW:Aa:=[(false,.bool)]
abbrev aYd:=Ag aGp
abbrev aYz:=Af aGp aTW
variable (p515:aYd)(f515:aYz)
abbrev aGq:Aa:=[(false,.flt .f64)]
abbrev aTX:Aa:=[(false,Zb)]
abbrev aYe:=Ag aGq
abbrev aYA:=Af aGq aTX
variable (p516:aYe)(f516:aYA)
abbrev aGr:Aa:=[(true,.pair Zb Zq)]
abbrev aTY:Aa:=[(false,.bool)]
abbrev aYf:=Ag aGr
abbrev aYB:=Af aGr aTY
variable (p517:aYf)(f517:aYB)
end Vx
namespace Vx
open Go
theorem Au{I O:Aa}{T:DenS I->Option (DenS O)}{d:DenS O}{x:DenS I}{y:DenS O}(h:T x=some y):(Aj I O T d).pre x=true:=by
 show(T x).isSome=true;rw[h];rfl
theorem At{I O:Aa}{T:DenS I->Option (DenS O)}{d:DenS O}{x:DenS I}{y:DenS O}(h:T x=some y):(Aj I O T d).F x=y:=by
 show(T x).getD d=y;rw[h];rfl
theorem El{k:LK}{I O:Aa}{T:k.D×DenS I->Option (k.B×DenS O)}{d:k.B×DenS O}{x:k.D×DenS I}{y:k.B×DenS O}(h:T x=some y):(De k I O T d).pre x=true:=by
 show(T x).isSome=true;rw[h];rfl
theorem Ek{k:LK}{I O:Aa}{T:k.D×DenS I->Option (k.B×DenS O)}{d:k.B×DenS O}{x:k.D×DenS I}{y:k.B×DenS O}(h:T x=some y):(De k I O T d).F x=y:=by
 show(T x).getD d=y;rw[h];rfl
theorem C2{x y}(h:XR x=some y):As.pre x=true:=Au h
theorem CZ{x y}(h:XR x=some y):As.F x=y:=At h
theorem Jw{x y}(h:fR x=some y):Aw.pre x=true:=Au h
theorem Jl{x y}(h:fR x=some y):Aw.F x=y:=At h
theorem vK{x y}(h:gC x=some y):B2.pre x=true:=Au h
theorem uE{x y}(h:gC x=some y):B2.F x=y:=At h
theorem aFh{x y}(h:gB x=some y):DR.pre x=true:=Au h
theorem aEj{x y}(h:gB x=some y):DR.F x=y:=At h
theorem Vb{x y}(h:XP x=some y):By.pre x=true:=Au h
theorem U0{x y}(h:XP x=some y):By.F x=y:=At h
theorem vJ{x y}(h:XS x=some y):Bp.pre x=true:=Au h
theorem uD{x y}(h:XS x=some y):Bp.F x=y:=At h
theorem aFk{x y}(h:gF x=some y):Ck.pre x=true:=Au h
theorem aEm{x y}(h:gF x=some y):Ck.F x=y:=At h
theorem aQV{x y}(h:fV x=some y):Uv.pre x=true:=Au h
theorem aOJ{x y}(h:fV x=some y):Uv.F x=y:=At h
theorem aQu{x y}(h:VB x=some y):AS.pre x=true:=Au h
theorem aOj{x y}(h:VB x=some y):AS.F x=y:=At h
theorem bC1{x y}(h:Xt x=some y):AZ.pre x=true:=Au h
theorem bAa{x y}(h:Xt x=some y):AZ.F x=y:=At h
theorem bC2{x y}(h:cJ x=some y):NK.pre x=true:=Au h
theorem bAb{x y}(h:cJ x=some y):NK.F x=y:=At h
theorem bC3{x y}(h:cM x=some y):EF.pre x=true:=Au h
theorem bAc{x y}(h:cM x=some y):EF.F x=y:=At h
theorem aE8{x y}(h:cN x=some y):B8.pre x=true:=Au h
theorem aEa{x y}(h:cN x=some y):B8.F x=y:=At h
theorem kV{x y}(h:cG x=some y):B4.pre x=true:=Au h
theorem jP{x y}(h:cG x=some y):B4.F x=y:=At h
theorem bC7{x y}(h:cU x=some y):TC.pre x=true:=Au h
theorem bAg{x y}(h:cU x=some y):TC.F x=y:=At h
theorem aQr{x y}(h:cA x=some y):FN.pre x=true:=Au h
theorem aOg{x y}(h:cA x=some y):FN.F x=y:=At h
theorem Dx{x y}(h:VF x=some y):Am.pre x=true:=Au h
theorem Du{x y}(h:VF x=some y):Am.F x=y:=At h
theorem bC6{x y}(h:cT x=some y):CO.pre x=true:=Au h
theorem bAf{x y}(h:cT x=some y):CO.F x=y:=At h
theorem aE6{x y}(h:Xs x=some y):Ci.pre x=true:=Au h
theorem aD8{x y}(h:Xs x=some y):Ci.F x=y:=At h
theorem aQB{x y}(h:dD x=some y):CB.pre x=true:=Au h
theorem aOq{x y}(h:dD x=some y):CB.F x=y:=At h
theorem WN{x y}(h:Xx x=some y):Cj.pre x=true:=Au h
theorem Wv{x y}(h:Xx x=some y):Cj.F x=y:=At h
theorem bC9{x y}(h:cY x=some y):IW.pre x=true:=Au h
theorem bAi{x y}(h:cY x=some y):IW.F x=y:=At h
theorem bC8{x y}(h:cV x=some y):Xl.pre x=true:=Au h
theorem bAh{x y}(h:cV x=some y):Xl.F x=y:=At h
theorem aQt{x y}(h:cE x=some y):Cg.pre x=true:=Au h
theorem aOi{x y}(h:cE x=some y):Cg.F x=y:=At h
theorem bCZ{x y}(h:cD x=some y):Tz.pre x=true:=Au h
theorem aZ8{x y}(h:cD x=some y):Tz.F x=y:=At h
theorem aQA{x y}(h:XA x=some y):CP.pre x=true:=Au h
theorem aOp{x y}(h:XA x=some y):CP.F x=y:=At h
theorem aFi{x y}(h:gD x=some y):Cu.pre x=true:=Au h
theorem aEk{x y}(h:gD x=some y):Cu.F x=y:=At h
theorem bDd{x y}(h:dF x=some y):TI.pre x=true:=Au h
theorem bAm{x y}(h:dF x=some y):TI.F x=y:=At h
theorem vB{x y}(h:XC x=some y):Xq.pre x=true:=Au h
theorem t5{x y}(h:XC x=some y):Xq.F x=y:=At h
theorem aFc{x y}(h:VI x=some y):DE.pre x=true:=Au h
theorem aEe{x y}(h:VI x=some y):DE.F x=y:=At h
theorem aFb{x y}(h:Uz x=some y):EY.pre x=true:=Au h
theorem aEd{x y}(h:Uz x=some y):EY.F x=y:=At h
theorem kY{x y}(h:VG x=some y):D6.pre x=true:=Au h
theorem jS{x y}(h:VG x=some y):D6.F x=y:=At h
theorem U9{x y}(h:Uy x=some y):Fo.pre x=true:=Au h
theorem UY{x y}(h:Uy x=some y):Fo.F x=y:=At h
theorem Z3{x y}(h:VH x=some y):Xr.pre x=true:=Au h
theorem YB{x y}(h:VH x=some y):Xr.F x=y:=At h
theorem Pb{x y}(h:VC x=some y):Dr.pre x=true:=Au h
theorem OY{x y}(h:VC x=some y):Dr.F x=y:=At h
theorem aQx{x y}(h:Xw x=some y):IV.pre x=true:=Au h
theorem aOm{x y}(h:Xw x=some y):IV.F x=y:=At h
theorem aFj{x y}(h:gE x=some y):CR.pre x=true:=Au h
theorem aEl{x y}(h:gE x=some y):CR.F x=y:=At h
theorem bDt{x y}(h:eE x=some y):K2.pre x=true:=Au h
theorem bAC{x y}(h:eE x=some y):K2.F x=y:=At h
theorem aFa{x y}(h:cW x=some y):Xm.pre x=true:=Au h
theorem aEc{x y}(h:cW x=some y):Xm.F x=y:=At h
theorem aQy{x y}(h:cX x=some y):Xn.pre x=true:=Au h
theorem aOn{x y}(h:cX x=some y):Xn.F x=y:=At h
theorem aQs{x y}(h:cB x=some y):FO.pre x=true:=Au h
theorem aOh{x y}(h:cB x=some y):FO.F x=y:=At h
theorem kW{x y}(h:cK x=some y):Ch.pre x=true:=Au h
theorem jQ{x y}(h:cK x=some y):Ch.F x=y:=At h
theorem bDP{x y}(h:XT x=some y):Uu.pre x=true:=Au h
theorem bAY{x y}(h:XT x=some y):Uu.F x=y:=At h
theorem aFd{x y}(h:dH x=some y):FR.pre x=true:=Au h
theorem aEf{x y}(h:dH x=some y):FR.F x=y:=At h
theorem bCY{x y}(h:cC x=some y):FQ.pre x=true:=Au h
theorem aZ7{x y}(h:cC x=some y):FQ.F x=y:=At h
theorem bDO{x y}(h:fQ x=some y):Fp.pre x=true:=Au h
theorem bAX{x y}(h:fQ x=some y):Fp.F x=y:=At h
theorem bDe{x y}(h:dG x=some y):NL.pre x=true:=Au h
theorem bAn{x y}(h:dG x=some y):NL.F x=y:=At h
theorem vE{x y}(h:XH x=some y):TM.pre x=true:=Au h
theorem t8{x y}(h:XH x=some y):TM.F x=y:=At h
theorem aQE{x y}(h:dS x=some y):TN.pre x=true:=Au h
theorem aOt{x y}(h:dS x=some y):TN.F x=y:=At h
theorem aQF{x y}(h:dT x=some y):TO.pre x=true:=Au h
theorem aOu{x y}(h:dT x=some y):TO.F x=y:=At h
theorem aQG{x y}(h:dU x=some y):TP.pre x=true:=Au h
theorem aOv{x y}(h:dU x=some y):TP.F x=y:=At h
theorem aFe{x y}(h:dI x=some y):Bo.pre x=true:=Au h
theorem aEg{x y}(h:dI x=some y):Bo.F x=y:=At h
theorem bDg{x y}(h:dJ x=some y):EG.pre x=true:=Au h
theorem bAp{x y}(h:dJ x=some y):EG.F x=y:=At h
theorem bDn{x y}(h:dV x=some y):NM.pre x=true:=Au h
theorem bAw{x y}(h:dV x=some y):NM.F x=y:=At h
theorem bDo{x y}(h:XJ x=some y):TQ.pre x=true:=Au h
theorem bAx{x y}(h:XJ x=some y):TQ.F x=y:=At h
theorem aQI{x y}(h:dX x=some y):TR.pre x=true:=Au h
theorem aOx{x y}(h:dX x=some y):TR.F x=y:=At h
theorem aQJ{x y}(h:dY x=some y):TS.pre x=true:=Au h
theorem aOy{x y}(h:dY x=some y):TS.F x=y:=At h
theorem aQK{x y}(h:eD x=some y):DP.pre x=true:=Au h
theorem aOz{x y}(h:eD x=some y):DP.F x=y:=At h
theorem aE7{x y}(h:VA x=some y):DC.pre x=true:=Au h
theorem aD9{x y}(h:VA x=some y):DC.F x=y:=At h
theorem aQC{x y}(h:dL x=some y):B6.pre x=true:=Au h
theorem aOr{x y}(h:dL x=some y):B6.F x=y:=At h
theorem aQD{x y}(h:dM x=some y):Bq.pre x=true:=Au h
theorem aOs{x y}(h:dM x=some y):Bq.F x=y:=At h
theorem bC4{x y}(h:cQ x=some y):EX.pre x=true:=Au h
theorem bAd{x y}(h:cQ x=some y):EX.F x=y:=At h
theorem aE9{x y}(h:cR x=some y):B5.pre x=true:=Au h
theorem aEb{x y}(h:cR x=some y):B5.F x=y:=At h
theorem bDi{x y}(h:dN x=some y):Ct.pre x=true:=El h
theorem bAr{x y}(h:dN x=some y):Ct.F x=y:=Ek h
theorem bDj{x y}(h:dO x=some y):C6.pre x=true:=El h
theorem bAs{x y}(h:dO x=some y):C6.F x=y:=Ek h
theorem bDk{x y}(h:dP x=some y):EZ.pre x=true:=El h
theorem bAt{x y}(h:dP x=some y):EZ.F x=y:=Ek h
theorem bDl{x y}(h:dQ x=some y):TL.pre x=true:=Au h
theorem bAu{x y}(h:dQ x=some y):TL.F x=y:=At h
theorem bDm{x y}(h:dR x=some y):E0.pre x=true:=Au h
theorem bAv{x y}(h:dR x=some y):E0.F x=y:=At h
theorem bC0{x y}(h:cF x=some y):TA.pre x=true:=Au h
theorem aZ9{x y}(h:cF x=some y):TA.F x=y:=At h
theorem bC5{x y}(h:cS x=some y):D5.pre x=true:=Au h
theorem bAe{x y}(h:cS x=some y):D5.F x=y:=At h
theorem bDp{x y}(h:dZ x=some y):TT.pre x=true:=Au h
theorem bAy{x y}(h:dZ x=some y):TT.F x=y:=At h
theorem bDq{x y}(h:d0 x=some y):TU.pre x=true:=Au h
theorem bAz{x y}(h:d0 x=some y):TU.F x=y:=At h
theorem bDr{x y}(h:eB x=some y):NN.pre x=true:=Au h
theorem bAA{x y}(h:eB x=some y):NN.F x=y:=At h
theorem vF{x y}(h:eC x=some y):Ds.pre x=true:=Au h
theorem t9{x y}(h:eC x=some y):Ds.F x=y:=At h
theorem aQL{x y}(h:XK x=some y):T3.pre x=true:=Au h
theorem aOA{x y}(h:XK x=some y):T3.F x=y:=At h
theorem bDs{x y}(h:XL x=some y):T4.pre x=true:=Au h
theorem bAB{x y}(h:XL x=some y):T4.F x=y:=At h
theorem aQM{x y}(h:NS x=some y):NO.pre x=true:=Au h
theorem uA{x y}(h:NS x=some y):NO.F x=y:=At h
theorem bDu{x y}(h:eG x=some y):T5.pre x=true:=Au h
theorem bAD{x y}(h:eG x=some y):T5.F x=y:=At h
theorem bDv{x y}(h:UA x=some y):T6.pre x=true:=Au h
theorem bAE{x y}(h:UA x=some y):T6.F x=y:=At h
theorem vG{x y}(h:eH x=some y):Df.pre x=true:=El h
theorem uB{x y}(h:eH x=some y):Df.F x=y:=Ek h
theorem LQ{x y}(h:eI x=some y):GB.pre x=true:=El h
theorem LB{x y}(h:eI x=some y):GB.F x=y:=Ek h
theorem aQN{x y}(h:eJ x=some y):GC.pre x=true:=El h
theorem aOB{x y}(h:eJ x=some y):GC.F x=y:=Ek h
theorem kZ{x y}(h:eK x=some y):Es.pre x=true:=El h
theorem jT{x y}(h:eK x=some y):Es.F x=y:=Ek h
theorem bDw{x y}(h:eN x=some y):T7.pre x=true:=El h
theorem bAF{x y}(h:eN x=some y):T7.F x=y:=Ek h
theorem Z4{x y}(h:UB x=some y):Et.pre x=true:=El h
theorem YC{x y}(h:UB x=some y):Et.F x=y:=Ek h
theorem aQO{x y}(h:VJ x=some y):GD.pre x=true:=Au h
theorem aOC{x y}(h:VJ x=some y):GD.F x=y:=At h
theorem aQP{x y}(h:eO x=some y):T8.pre x=true:=El h
theorem aOD{x y}(h:eO x=some y):T8.F x=y:=Ek h
theorem bDx{x y}(h:eP x=some y):T9.pre x=true:=El h
theorem bAG{x y}(h:eP x=some y):T9.F x=y:=Ek h
theorem aQQ{x y}(h:VK x=some y):GE.pre x=true:=Au h
theorem aOE{x y}(h:VK x=some y):GE.F x=y:=At h
theorem bDy{x y}(h:eQ x=some y):Ua.pre x=true:=Au h
theorem bAH{x y}(h:eQ x=some y):Ua.F x=y:=At h
theorem bDz{x y}(h:eR x=some y):Ub.pre x=true:=El h
theorem bAI{x y}(h:eR x=some y):Ub.F x=y:=Ek h
theorem bDA{x y}(h:eU x=some y):Uc.pre x=true:=Au h
theorem bAJ{x y}(h:eU x=some y):Uc.F x=y:=At h
theorem WO{x y}(h:XQ x=some y):B7.pre x=true:=Au h
theorem Ww{x y}(h:XQ x=some y):B7.F x=y:=At h
theorem Z6{x y}(h:fY x=some y):DF.pre x=true:=Au h
theorem YE{x y}(h:fY x=some y):DF.F x=y:=At h
theorem k9{x y}(h:fU x=some y):CQ.pre x=true:=Au h
theorem jV{x y}(h:fU x=some y):CQ.F x=y:=At h
theorem HM{x y}(h:UC x=some y):Eu.pre x=true:=Au h
theorem HG{x y}(h:UC x=some y):Eu.F x=y:=At h
theorem Va{x y}(h:Xy x=some y):Ar.pre x=true:=Au h
theorem UZ{x y}(h:Xy x=some y):Ar.F x=y:=At h
theorem aQv{x y}(h:Xu x=some y):TB.pre x=true:=Au h
theorem aOk{x y}(h:Xu x=some y):TB.F x=y:=At h
theorem HN{x y}(h:XU x=some y):Ey.pre x=true:=Au h
theorem HH{x y}(h:XU x=some y):Ey.F x=y:=At h
theorem Pc{x y}(h:fZ x=some y):Ez.pre x=true:=Au h
theorem OZ{x y}(h:fZ x=some y):Ez.F x=y:=At h
theorem Z7{x y}(h:VM x=some y):EA.pre x=true:=Au h
theorem YF{x y}(h:VM x=some y):EA.F x=y:=At h
theorem Jv{x y}(h:NQ x=some y):CK.pre x=true:=Au h
theorem Jk{x y}(h:NQ x=some y):CK.F x=y:=At h
theorem u6{x y}(h:Ux x=some y):CL.pre x=true:=Au h
theorem tY{x y}(h:Ux x=some y):CL.F x=y:=At h
theorem u7{x y}(h:cP x=some y):CM.pre x=true:=Au h
theorem tZ{x y}(h:cP x=some y):CM.F x=y:=At h
theorem u9{x y}(h:Xv x=some y):CN.pre x=true:=Au h
theorem t0{x y}(h:Xv x=some y):CN.F x=y:=At h
theorem bDQ{x y}(h:f8 x=some y):Uw.pre x=true:=Au h
theorem bAZ{x y}(h:f8 x=some y):Uw.F x=y:=At h
theorem aQW{x y}(h:gA x=some y):D7.pre x=true:=Au h
theorem aOK{x y}(h:gA x=some y):D7.F x=y:=At h
theorem aQH{x y}(h:dW x=some y):Gz.pre x=true:=Au h
theorem aOw{x y}(h:dW x=some y):Gz.F x=y:=At h
theorem vC{x y}(h:dE x=some y):Er.pre x=true:=Au h
theorem t6{x y}(h:dE x=some y):Er.F x=y:=At h
theorem bDa{x y}(h:dB x=some y):TE.pre x=true:=Au h
theorem bAj{x y}(h:dB x=some y):TE.F x=y:=At h
theorem bDb{x y}(h:Xz x=some y):TG.pre x=true:=Au h
theorem bAk{x y}(h:Xz x=some y):TG.F x=y:=At h
theorem bDc{x y}(h:XE x=some y):TH.pre x=true:=Au h
theorem bAl{x y}(h:XE x=some y):TH.F x=y:=At h
theorem aQz{x y}(h:dC x=some y):TF.pre x=true:=Au h
theorem aOo{x y}(h:dC x=some y):TF.F x=y:=At h
theorem kX{x y}(h:cZ x=some y):DD.pre x=true:=Au h
theorem jR{x y}(h:cZ x=some y):DD.F x=y:=At h
theorem aQw{x y}(h:cO x=some y):Gw.pre x=true:=Au h
theorem aOl{x y}(h:cO x=some y):Gw.F x=y:=At h
theorem aFg{x y}(h:f0 x=some y):GK.pre x=true:=Au h
theorem aEi{x y}(h:f0 x=some y):GK.F x=y:=At h
theorem vD{x y}(h:XG x=some y):Gy.pre x=true:=Au h
theorem t7{x y}(h:XG x=some y):Gy.F x=y:=At h
theorem k8{x y}(h:eV x=some y):Ew.pre x=true:=El h
theorem jU{x y}(h:eV x=some y):Ew.F x=y:=Ek h
theorem bDB{x y}(h:eX x=some y):Ud.pre x=true:=El h
theorem bAK{x y}(h:eX x=some y):Ud.F x=y:=Ek h
theorem bDC{x y}(h:eY x=some y):Ue.pre x=true:=Au h
theorem bAL{x y}(h:eY x=some y):Ue.F x=y:=At h
theorem bDD{x y}(h:eZ x=some y):Uf.pre x=true:=Au h
theorem bAM{x y}(h:eZ x=some y):Uf.F x=y:=At h
theorem bDE{x y}(h:fA x=some y):Ug.pre x=true:=Au h
theorem bAN{x y}(h:fA x=some y):Ug.F x=y:=At h
theorem LR{x y}(h:fB x=some y):GF.pre x=true:=El h
theorem LC{x y}(h:fB x=some y):GF.F x=y:=Ek h
theorem bDh{x y}(h:dK x=some y):TK.pre x=true:=Au h
theorem bAq{x y}(h:dK x=some y):TK.F x=y:=At h
theorem bDf{x y}(h:XF x=some y):TJ.pre x=true:=Au h
theorem bAo{x y}(h:XF x=some y):TJ.F x=y:=At h
theorem aQR{x y}(h:fC x=some y):GG.pre x=true:=El h
theorem aOF{x y}(h:fC x=some y):GG.F x=y:=Ek h
theorem bDF{x y}(h:fD x=some y):Uh.pre x=true:=El h
theorem bAO{x y}(h:fD x=some y):Uh.F x=y:=Ek h
theorem bDG{x y}(h:fE x=some y):Ui.pre x=true:=Au h
theorem bAP{x y}(h:fE x=some y):Ui.F x=y:=At h
theorem aQS{x y}(h:XM x=some y):Uj.pre x=true:=Au h
theorem aOG{x y}(h:XM x=some y):Uj.F x=y:=At h
theorem bDH{x y}(h:fF x=some y):Uk.pre x=true:=Au h
theorem bAQ{x y}(h:fF x=some y):Uk.F x=y:=At h
theorem aQT{x y}(h:fG x=some y):Ul.pre x=true:=El h
theorem aOH{x y}(h:fG x=some y):Ul.F x=y:=Ek h
theorem bDI{x y}(h:fH x=some y):Um.pre x=true:=El h
theorem bAR{x y}(h:fH x=some y):Um.F x=y:=Ek h
theorem bDJ{x y}(h:fI x=some y):Un.pre x=true:=Au h
theorem bAS{x y}(h:fI x=some y):Un.F x=y:=At h
theorem aFf{x y}(h:fJ x=some y):Uo.pre x=true:=Au h
theorem aEh{x y}(h:fJ x=some y):Uo.F x=y:=At h
theorem Z5{x y}(h:IY x=some y):Ex.pre x=true:=Au h
theorem YD{x y}(h:IY x=some y):Ex.F x=y:=At h
theorem vH{x y}(h:fK x=some y):GH.pre x=true:=Au h
theorem uC{x y}(h:fK x=some y):GH.F x=y:=At h
theorem aQU{x y}(h:XO x=some y):GI.pre x=true:=Au h
theorem aOI{x y}(h:XO x=some y):GI.F x=y:=At h
theorem bDK{x y}(h:fL x=some y):Up.pre x=true:=Au h
theorem bAT{x y}(h:fL x=some y):Up.F x=y:=At h
theorem bDL{x y}(h:fM x=some y):Uq.pre x=true:=Au h
theorem bAU{x y}(h:fM x=some y):Uq.F x=y:=At h
theorem bDM{x y}(h:fN x=some y):Ur.pre x=true:=Au h
theorem bAV{x y}(h:fN x=some y):Ur.F x=y:=At h
theorem bDN{x y}(h:fO x=some y):Us.pre x=true:=Au h
theorem bAW{x y}(h:fO x=some y):Us.F x=y:=At h
end Vx
namespace Vx
open Go
theorem aRw{a:Int}(n:Nat)(hn:n<=64):AQ .u64 a (n:Int)=a/2^n:=by
 unfold AQ;rw[Int.fdiv_eq_ediv_of_nonneg]
 ·congr 2;simp[iw];omega
 ·exact Int.pow_nonneg (by omega)
theorem LM{m:Nat}(h:m<2^64):(cq 64 (m:Int)).toNat=m:=by
 rw[BitVec.toNat_ofInt];omega
theorem UK{m n:Nat}(h:m<2^64)(hn:n<=64):BS .u64 (m:Int) ((2^n-1:Nat):Int)=((m%2^n:Nat):Int):=by
 have h2:2^n<=2^64:=ai (by omega) hn;have h3:0<2^n:=af n;have hlt:m%2^n<2^n:=ca _ h3;have key:(cq 64 (m:Int) &&& cq 64 ((2^n-1:Nat):Int)).toNat=m%2^n:=by
  rw[qb,LM h,LM (by omega),Nat.and_two_pow_sub_one_eq_mod]
 show IntKind.u64.wrap (((cq 64 (m:Int) &&& cq 64 ((2^n-1:Nat):Int)).toNat:Nat):Int)=_;rw[key];exact IntWalk.u64_in _ (by omega)
theorem Ph{n:Nat}(hn:n<=63):Bj .u64 1 (n:Int)=((2^n:Nat):Int):=by
 have h2:2^n<=2^63:=ai (by omega) hn;have:(min (n:Int).toNat IntKind.u64.bits)=n:=by simp[iw];omega
 unfold Bj;rw[this,Int.one_mul];have e:(2:Int)^n=((2^n:Nat):Int):=by simp
 rw[e];refine IntWalk.u64_in _ ⟨pf _,?_⟩;have:((2^n:Nat):Int)<=((2^63:Nat):Int):=Int.ofNat_le.2 h2;exact Int.le_trans this (by decide)
end Vx
namespace VL
open Go Vx
def Fm(f:Int):Prop:=0<=f/\f<4
instance (f:Int):Decidable (Fm f):=by unfold Fm;infer_instance
def fW(f:Int):Nat:=if f=0 then 16 else if f=1 then 16 else if f=2 then 32 else 64
def fP(f:Int):Nat:=if f=0 then 11 else if f=1 then 8 else if f=2 then 24 else 53
def fX(f:Int):Nat:=if f=0 then 15 else if f=1 then 127 else if f=2 then 127 else 1023
def Cq(f:Int):Ab rowsSh:=((fW f:Int),((fP f:Int),((1-(fX f:Int)),((fX f:Int),()))))
theorem Cs{f:Int}(h:Fm f):f=0∨f=1∨f=2∨f=3:=by
 obtain⟨h1,h2⟩:=h;omega
theorem aFz{f:Int}(h:Fm f)(d:Ab rowsSh):k_rows.getD (ag f) d=Cq f:=by
 rcases Cs h with rfl|rfl|rfl|rfl<;>rfl
theorem CV{f:Int}(h:Fm f):8<=fP f:=by
 rcases Cs h with rfl|rfl|rfl|rfl<;>decide
theorem DT{f:Int}(h:Fm f):fP f+5<=fW f:=by
 rcases Cs h with rfl|rfl|rfl|rfl<;>decide
theorem EI{f:Int}(h:Fm f):fW f<=64:=by
 rcases Cs h with rfl|rfl|rfl|rfl<;>decide
theorem Ly{f:Int}(h:Fm f):fX f<=1023:=by
 rcases Cs h with rfl|rfl|rfl|rfl<;>decide
theorem tT{f:Int}(h:Fm f):2*fX f+1=2^(fW f-fP f)-1:=by
 rcases Cs h with rfl|rfl|rfl|rfl<;>decide
theorem Av{n:Int}(h:-9223372036854775808<=n/\n<9223372036854775808):aa .i64 n=n:=IntWalk.i64_in n ⟨h.1,by omega⟩
theorem DO{n:Int}(h:0<=n/\n<18446744073709551616):aa .u64 n=n:=IntWalk.u64_in n ⟨h.1,by omega⟩
theorem DM(a n:Nat)(hn:n<=64):AQ .u64 (a:Int) (n:Int)=((a/2^n:Nat):Int):=by
 rw[aRw n hn];simp
theorem EN(m n:Nat)(h:n<=m)(hm:m<=4611686018427387904):aa .i64 ((m:Int)-(n:Int))=((m-n:Nat):Int):=by
 rw[Av (by omega)];omega
theorem LG(m n:Nat):((m:Int)==(n:Int))=(m==n):=by
 rw[fj];simp only[beq_iff_eq];omega
theorem F6(m:Nat):((m:Int)==0)=(m==0):=LG m 0
theorem uQ(m n:Nat):((m:Int)!=(n:Int))=(m !=n):=by
 show(!((m:Int)==(n:Int)))=!(m==n);rw[LG]
theorem WG(m:Nat):((m:Int)!=0)=(m !=0):=uQ m 0
theorem nlt(m n:Nat):(decide ((m:Int)<(n:Int)))=decide (m<n):=by
 rw[fj];simp
theorem AF(m:Nat):(decide (0<=(m:Int)))=true:=by simp
def Ah(f:Int)(a:Nat):Int:=if Fm f then(if a<2^fW f then 0 else 4)else 2
def eF(f:Int)(a:Nat):Nat:=a/2^(fP f-1)%2^(fW f-fP f)
def mF(f:Int)(a:Nat):Nat:=a%2^(fP f-1)
def sF(f:Int)(a:Nat):Bool:=a/2^(fW f-1)!=0
def AH(f:Int):Nat:=2^(fW f-fP f)-1
def Cl(f:Int)(a:Nat):Nat:=a%2^(fW f-1)
theorem IZ{f:Int}(h:Fm f):XR (f,())=some (Cq f,0,()):=by
 rcases Cs h with rfl|rfl|rfl|rfl<;>kernel_rfl
theorem K9{f:Int}(h:¬Fm f):XR (f,())=some ((0,0,0,0,()),2,()):=by
 show zY f=_;unfold zY;have:(decide (f<(0:Int))||decide (f>=(4:Int)))=true:=by
  simp only[Fm]at h;simp only[dv,decide_eq_true_eq];omega
 rw[this];rfl
theorem aNi{f:Int}(h:¬Fm f)(a:Nat):Ah f a=2:=by unfold Ah;rw[if_neg h]
theorem aDB{f:Int}(h:Fm f){a:Nat}(ha:a<2^fW f):Ah f a=0:=by unfold Ah;rw[if_pos h,if_pos ha]
theorem aZa{f:Int}(h:Fm f){a:Nat}(ha:¬a<2^fW f):Ah f a=4:=by unfold Ah;rw[if_pos h,if_neg ha]
theorem Fs{f:Int}{a:Nat}(h:Ah f a=0):Fm f/\a<2^fW f:=by
 unfold Ah at h;split at h
 ·split at h
  ·exact⟨by assumption,by assumption⟩
  ·cases h
 ·cases h
theorem aDM{a n:Nat}:(a/2^n !=0)=decide (2^n<=a):=by
 rw[fj];simp[Nat.div_eq_zero_iff,af]
theorem K8(f:Int)(a:Nat)(ha:a<2^64):fR (f,(a:Int),())=some (Ah f a,()):=by
 show zV As.pre As.F f a=_;unfold zV;by_cases hf:Fm f
 ·simp only[C2 (IZ hf),CZ (IZ hf),cond_true,Cq,AF,av];rw[DM _ _ (EI hf),WG,aDM];show(bif decide ((fW f:Int)<((64:Nat):Int))&&_ then _ else _)=_;rw[nlt];have hw:=EI hf;by_cases h:a<2^fW f
  ·have:(decide (fW f<64)&&decide (2^fW f<=a))=false:=by simp;intro _;exact h
   rw[this,aDB hf h];rfl
  ·have:(decide (fW f<64)&&decide (2^fW f<=a))=true:=by
    simp only[ah,decide_eq_true_eq];refine⟨?_,by omega⟩;rcases ay (fW f) 64 with h1|h1
    ·exact h1
    ·have:fW f=64:=by omega
     rw[this]at h;omega
   rw[this,aZa hf h];rfl
 ·simp only[C2 (K9 hf),CZ (K9 hf),cond_true,aNi hf];rfl
theorem qC(n:Nat)(hn:n<=63):gC ((n:Int),())=some (((2^n-1:Nat):Int),()):=by
 show t91 n=_;unfold t91;have h2:2^n<=2^63:=ai (by omega) hn;have h1:0<2^n:=af n;rw[AF,cond_true,Ph hn];generalize 2^n=c at *
 rw[DO (by omega)];have:(c:Int)-1=((c-1:Nat):Int):=by omega
 rw[this]
theorem aBx{f:Int}(hf:Fm f)(a:Nat)(ha:a<2^64):gB (Cq f,(a:Int),())=some (sF f a,(eF f a:Int),(mF f a:Int),()):=by
 show t90 B2.pre B2.F (Cq f) a=_;unfold t90;have h1:=CV hf;have h2:=DT hf;have h3:=EI hf;have e1:aa .i64 ((Cq f).1-1)=((fW f-1:Nat):Int):=EN (fW f) 1 (by omega) (by omega);have e2:aa .i64 ((Cq f).2.1-1)=((fP f-1:Nat):Int):=EN (fP f) 1 (by omega) (by omega);have e3:aa .i64 ((Cq f).1-(Cq f).2.1)=((fW f-fP f:Nat):Int):=EN (fW f) (fP f) (by omega) (by omega);have p1:=qC (fW f-fP f) (by omega);have p2:=qC (fP f-1) (by omega);rw[e1,e2,e3];simp only[AF,cond_true,vK p1,vK p2,uE p1,uE p2];rw[DM _ _ (by omega),DM _ _ (by omega),UK (bl (ee _ _) ha) (by omega),UK ha (by omega),WG];rfl
def Cm(f:Int)(a:Nat):Int:=bif eF f a==AH f&&mF f a==0 then(bif sF f a then 2 else 9)else bif eF f a==AH f&&mF f a/2^(fP f-2)!=0 then 1 else bif eF f a==AH f then 0 else bif eF f a==0&&mF f a==0 then(bif sF f a then 5 else 6)else bif eF f a==0 then(bif sF f a then 4 else 7)else(bif sF f a then 3 else 8)
theorem pX{f:Int}{a:Nat}(ha:a<2^64)(h:Ah f a=0):XP (f,(a:Int),())=some (Cm f a,0,()):=by
 obtain⟨hf,h0⟩:=Fs h;show aJ Aw.pre Aw.F DR.pre DR.F B2.pre B2.F f a=_;unfold aJ;have h1:=CV hf;have h2:=DT hf;have h3:=EI hf;have e3:aa .i64 ((Cq f).1-(Cq f).2.1)=((fW f-fP f:Nat):Int):=EN (fW f) (fP f) (by omega) (by omega);have e4:aa .i64 ((Cq f).2.1-2)=((fP f-2:Nat):Int):=EN (fP f) 2 (by omega) (by omega);have p0:=K8 f a ha;have p1:=qC (fW f-fP f) (by omega);have p2:=aBx hf a ha;have hr:(decide (0<=f)&&decide (f<((4:Nat):Int)))=true:=by
  simp only[ah,decide_eq_true_eq];exact hf
 simp only[aFz hf,e3,e4,hr,Jw p0,Jl p0,vK p1,uE p1,aFh p2,aEj p2,h,cond_true,AF,av,bne_self_eq_false,cond_false];rw[DM _ _ (by omega),LG,F6,F6,WG];unfold Cm AH;generalize(eF f a==2^(fW f-fP f)-1)=b1;generalize(mF f a==0)=b2;generalize(mF f a/2^(fP f-2)!=0)=b3;generalize(eF f a==0)=b4;generalize sF f a=b5;cases b1<;>cases b2<;>cases b3<;>cases b4<;>cases b5<;>rfl
theorem aBt{f:Int}{a:Nat}(ha:a<2^64)(h:Ah f a≠0):XP (f,(a:Int),())=some (0,Ah f a,()):=by
 show aJ Aw.pre Aw.F DR.pre DR.F B2.pre B2.F f a=_;unfold aJ;have p0:=K8 f a ha;have:(Ah f a !=0)=true:=by simpa using h
 simp only[Jw p0,Jl p0,this,cond_true]
theorem aWa{f:Int}(hf:Fm f):cC (f,())=some (((2^(fW f-1):Nat):Int),()):=by
 rcases Cs hf with rfl|rfl|rfl|rfl<;>kernel_rfl
def AD(f:Int)(a:Nat):Int:=bif sF f a then -(Cl f a:Int)else Cl f a
def tB(f:Int)(a b:Nat):Int:=if Ah f a=0 then Ah f b else Ah f a
def nan(f:Int)(a:Nat):Bool:=eF f a==AH f&&mF f a !=0
def Bk(f:Int)(a:Nat):Bool:=nan f a&&mF f a/2^(fP f-2)==0
theorem tC(f:Int)(a:Nat):(Cm f a==1||Cm f a==0)=nan f a:=by
 unfold Cm nan;simp only[bne];cases eF f a==AH f<;>cases mF f a==0<;>cases sF f a<;>cases eF f a==0<;>cases mF f a/2^(fP f-2)==0<;>rfl
theorem tD(f:Int)(a:Nat):(Cm f a==0)=Bk f a:=by
 unfold Cm Bk nan;simp only[bne];cases eF f a==AH f<;>cases hm:mF f a==0<;>cases sF f a<;>cases eF f a==0<;>cases mF f a/2^(fP f-2)==0<;>rfl
def tE(f:Int)(a b:Nat)(signal:Bool):Int×Int×Int×Unit:=if tB f a b≠0 then(0,0,tB f a b,())else bif nan f a||nan f b then(3,(bif signal then 1 else bif Bk f a||Bk f b then 1 else 0),0,())else if AD f a<AD f b then(0,0,0,())else if AD f a>AD f b then(2,0,0,())else(1,0,0,())
end VL
namespace VL
open Go Vx
def sgn(f:Int)(a:Nat):Nat:=a/2^(fW f-1)%2
theorem Pj{f:Int}{a:Nat}(h:nan f a=false):Bk f a=false:=by
 unfold Bk;rw[h];rfl
theorem bIZ{f:Int}{a:Nat}(h:Ah f a=0):(sgn f a==1)=sF f a:=by
 obtain⟨hf,h0⟩:=Fs h;have h2:=DT hf;unfold sgn sF;have:a/2^(fW f-1)<2:=by
  rw[bv (af _)];have:2^fW f=2*2^(fW f-1):=by rw[←il];congr 1;omega
  omega
 rw[bo this];generalize a/2^(fW f-1)=q at this⊢;match q,this with
 |0,_=>rfl
 |1,_=>rfl
end VL
namespace VL
open Go Vx
theorem bCW{f:Int}(hf:Fm f):2^(fW f-1)=2^(fP f-1)*2^(fW f-fP f):=by
 have h1:=CV hf;have h2:=DT hf;rw[←bi];congr 1;omega
theorem OH{f:Int}(hf:Fm f)(a:Nat):Cl f a=mF f a+2^(fP f-1)*eF f a:=by
 unfold Cl mF eF;rw[bCW hf,ms]
theorem aQj{f:Int}{a:Nat}(h:Ah f a=0):a=Cl f a+(bif sF f a then 2^(fW f-1)else 0):=by
 obtain⟨hf,h0⟩:=Fs h;have h2:=DT hf;have e:2^fW f=2*2^(fW f-1):=by rw[←il];congr 1;omega
 unfold Cl sF;rw[aDM];by_cases hc:2^(fW f-1)<=a
 ·rw[decide_eq_true hc];simp only[cond_true];have:a%2^(fW f-1)=a-2^(fW f-1):=by
   rw[Nat.mod_eq_sub_mod hc,bo (by omega)]
  omega
 ·rw[decide_eq_false hc];simp only[cond_false];rw[bo (by omega)];rfl
theorem iR{f:Int}(a:Nat):Cl f a<2^(fW f-1):=ca _ (af _)
theorem Wu{f:Int}(hf:Fm f):0<AH f:=by
 rcases Cs hf with rfl|rfl|rfl|rfl<;>decide
theorem aTt{f:Int}(hf:Fm f)(a:Nat):Cl f a=0↔eF f a=0/\mF f a=0:=by
 rw[OH hf];have:=af (fP f-1);constructor
 ·intro h;have h1:2^(fP f-1)*eF f a=0:=by omega
  rcases ob.1 h1 with h2|h2
  ·omega
  ·exact⟨h2,by omega⟩
 ·rintro ⟨h1,h2⟩;rw[h1,h2];rfl
def Co(f:Int):Nat:=2^(fW f-1)-2^(fP f-2)
def bJV(f:Int)(neg:Bool):Nat:=bif neg then 2^(fW f-1)else 0
theorem pZ{f:Int}(hf:Fm f):XS (f,())=some ((Co f:Int),0,()):=by
 rcases Cs hf with rfl|rfl|rfl|rfl<;>kernel_rfl
def bCQ(f:Int)(a b:Nat)(g:Bool):Nat:=if AD f a=AD f b/\a≠b then bJV f (!g)else if(AD f b<AD f a/\g=false)∨(AD f a<AD f b/\g=true)then b else a
def aD2(f:Int)(a b:Nat):Int:=bif Bk f a||Bk f b then 1 else 0
def aQn(f:Int)(a b:Nat)(g:Bool):Int×Int×Int×Unit:=if tB f a b≠0 then(0,0,tB f a b,())else bif nan f a&&nan f b then((Co f:Int),aD2 f a b,0,())else bif nan f a then((b:Int),aD2 f a b,0,())else bif nan f b then((a:Int),aD2 f a b,0,())else((bCQ f a b g:Int),0,0,())
end VL
namespace VL
open Go Vx
theorem aQb(k:Nat):Nat.testBit 1 k=decide (k=0):=by
 rw[fj];simp[Nat.testBit_one_eq_true_iff_self_eq_zero]
theorem bJS{m n:Nat}(h:m<2^(n+1)):m ^^^ 2^n=if m<2^n then m+2^n else m-2^n:=by
 apply mi;intro i;rw[Nat.testBit_xor,om];have h2:2^(n+1)=2*2^n:=il;split
 ·rename_i hm;have:m+2^n=2^n*1+m:=by omega
  rw[this,jk _ hm];by_cases hi:i<n
  ·have:¬n=i:=by omega
   simp[hi,this]
  ·rw[if_neg hi,nn (ao hm (ai (by omega) (by omega)))];rw[aQb];by_cases hn:n=i
   ·subst hn;simp
   ·have:¬i-n=0:=by omega
    simp[hn,this]
 ·rename_i hm;have e:m=2^n*1+(m-2^n):=by omega
  have hr:m-2^n<2^n:=by omega
  rw[e,jk _ hr];have e2:2^n*1+(m-2^n)-2^n=m-2^n:=by omega
  rw[e2];by_cases hi:i<n
  ·have:¬n=i:=by omega
   simp[hi,this]
  ·rw[if_neg hi,nn (x:=m-2^n) (ao hr (ai (by omega) (by omega))),aQb];by_cases hn:n=i
   ·subst hn;simp
   ·have:¬i-n=0:=by omega
    simp[hn,this]
theorem aTs{m n:Nat}(hn:n<=63)(h:m<2^(n+1)):lX .u64 (m:Int) ((2^n:Nat):Int)=((if m<2^n then m+2^n else m-2^n:Nat):Int):=by
 have h1:2^(n+1)<=2^64:=ai (by omega) (by omega);have h2:2^n<2^64:=bt (by omega) (by omega);have h3:2^(n+1)=2*2^n:=il;have key:(cq 64 (m:Int) ^^^ cq 64 ((2^n:Nat):Int)).toNat=if m<2^n then m+2^n else m-2^n:=by
  rw[BitVec.toNat_xor,LM (by omega),LM h2,bJS h]
 show IntKind.u64.wrap (((cq 64 (m:Int) ^^^ cq 64 ((2^n:Nat):Int)).toNat:Nat):Int)=_;rw[key];refine DO ⟨pf _,?_⟩;split<;>omega
def CA(f:Int)(s:Bool)(n:Nat):Nat:=n+(bif s then 2^(fW f-1)else 0)
theorem bJE{f:Int}(hf:Fm f):2^fW f=2*2^(fW f-1):=by
 have h2:=DT hf;rw[←il];congr 1;omega
theorem uL{f:Int}(hf:Fm f)(s:Bool){n:Nat}(hn:n<2^(fW f-1)):Ah f (CA f s n)=0:=by
 apply aDB hf;rw[bJE hf];unfold CA;cases s<;>simp<;>omega
theorem aEM{f:Int}(s:Bool){n:Nat}(hn:n<2^(fW f-1)):Cl f (CA f s n)=n:=by
 unfold Cl CA;cases s
 ·simp only[cond_false,cu];exact bo hn
 ·simp only[cond_true,Nat.add_mod_right];exact bo hn
theorem aPX{f:Int}(s:Bool){n:Nat}(hn:n<2^(fW f-1)):sF f (CA f s n)=s:=by
 unfold sF CA;rw[aDM];cases s
 ·simp only[cond_false,cu,decide_eq_false_iff_not];omega
 ·simp
theorem aE2{f:Int}{a:Nat}(h:Ah f a=0):a=CA f (sF f a) (Cl f a):=aQj h
theorem WL{f:Int}{a:Nat}(h:Ah f a=0):a<2^64:=by
 obtain⟨hf,h0⟩:=Fs h;exact ao h0 (ai (by omega) (EI hf))
theorem aDO{f:Int}(hf:Fm f)(a:Nat):eF f a=Cl f a/2^(fP f-1):=by
 rw[OH hf,dx _ _ (af _)];have:mF f a/2^(fP f-1)=0:=cg (ca _ (af _));omega
theorem aEJ{f:Int}(hf:Fm f)(a:Nat):mF f a=Cl f a%2^(fP f-1):=by
 rw[OH hf,fu];exact(bo (ca _ (af _))).symm
def BC(f:Int):Nat:=2^(fP f-1)*AH f
theorem aOY{f:Int}(hf:Fm f):BC f+128<=2^(fW f-1):=by
 rcases Cs hf with rfl|rfl|rfl|rfl<;>decide
theorem aNN{f:Int}(a:Nat):eF f a<=AH f:=by
 have:eF f a<2^(fW f-fP f):=ca _ (af _);unfold AH;omega
def DK(f:Int)(a:Nat):Nat:=CA f (!sF f a) (Cl f a)
theorem uS{f:Int}(hf:Fm f)(a:Nat):Ah f (DK f a)=0:=uL hf _ (iR a)
theorem bBY{f:Int}(a:Nat):Cl f (DK f a)=Cl f a:=aEM _ (iR a)
theorem bB0{f:Int}(a:Nat):sF f (DK f a)=!sF f a:=aPX _ (iR a)
theorem aW9{f:Int}{a:Nat}(h:Ah f a=0):fQ (f,(a:Int),())=some ((DK f a:Int),0,()):=by
 obtain⟨hf,h0⟩:=Fs h;show zU Aw.pre Aw.F FQ.pre FQ.F f a=_;unfold zU;have h2:=DT hf;have h3:=EI hf;have p0:=K8 f a (WL h);have p1:=aWa hf;simp only[Jw p0,Jl p0,bCY p1,aZ7 p1,h,cond_true,bne_self_eq_false,cond_false];rw[aTs (by omega) (by rw[Nat.sub_add_cancel (by omega)];exact h0)];have e:(if a<2^(fW f-1)then a+2^(fW f-1)else a-2^(fW f-1))=DK f a:=by
  have hp:=aE2 h;have hl:=iR (f:=f) a;unfold DK;unfold CA at hp⊢;cases hs:sF f a<;>rw[hs]at hp<;>simp only[cond_true,cond_false,bb,au]at hp⊢
  ·rw[if_pos (by omega)];omega
  ·rw[if_neg (by omega)];omega
 rw[e]
def bB1(f:Int)(a:Nat)(w:Int):Nat:=bif(Cm f a==9&&decide (w>0))||(Cm f a==2&&decide (w<0))then a else if AD f a+w>0∨(AD f a+w=0/\w<0)then(AD f a+w).toNat else DK f (-(AD f a+w)).toNat
def bJe(f:Int)(a:Nat)(w:Int):Nat:=bif nan f a then Co f else bB1 f a w
def bJd(f:Int)(a:Nat)(w:Int):Int×Int×Int×Unit:=if Ah f a≠0 then(0,0,Ah f a,())else((bJe f a w:Int),(bif Bk f a then 1 else 0),0,())
theorem kO{f:Int}(hf:Fm f):nan f (Co f)=true/\Ah f (Co f)=0:=by
 rcases Cs hf with rfl|rfl|rfl|rfl<;>decide
end VL
namespace VL
open Go Vx
def nv(B:Nat):List Nat->Nat
 | []=>0
 |x::r=>x+B*nv B r
def An:List Nat->List Nat
 | []=>[]
 |x::r=>match An r with
  | []=>if x=0 then[]else[x]
  |y::t=>x::y::t
def dg(B:Nat)(n:Nat):List Nat:=if h:n=0∨B<2 then[]else n%B::dg B (n/B)
termination_by n
decreasing_by exact oc (by omega) (by omega)
theorem DJ(B:Nat):dg B 0=[]:=by rw[dg];simp
theorem EC{B n:Nat}(hB:2<=B)(hn:0<n):dg B n=n%B::dg B (n/B):=by
 rw[dg];rw[dif_neg (by omega)]
theorem Lw{B:Nat}(hB:2<=B):∀(n:Nat),∀x∈dg B n,x<B:=by
 intro n;induction n using oe with
 |ind n ih=>
  intro x hx;rcases br n with rfl|hn
  ·rw[DJ]at hx;simp at hx
  ·rw[EC hB hn]at hx;rcases dc.1 hx with rfl|hx
   ·exact ca _ (by omega)
   ·exact ih (n/B) (oc hn (by omega)) x hx
theorem kQ{B:Nat}(hB:2<=B):∀(n:Nat),nv B (dg B n)=n:=by
 intro n;induction n using oe with
 |ind n ih=>
  rcases br n with rfl|hn
  ·rw[DJ];rfl
  ·rw[EC hB hn];simp only[nv];rw[ih (n/B) (oc hn (by omega))];exact ja n B
theorem aNy{B x v:Nat}(hB:2<=B)(hx:x<B)(h:0<x+B*v):dg B (x+B*v)=x::dg B v:=by
 rw[EC hB h,fu,bo hx,dx _ _ (by omega),cg hx,cz]
theorem Ga{B:Nat}(hB:2<=B):∀(l:List Nat),(∀x∈l,x<B)->An l=dg B (nv B l)
 | [],_=>by simp only[nv];rw[DJ];rfl
 |x::r,h=>by
  have ih:=Ga hB r fun y hy=>h y (by simp[hy])
  simp only[An,nv]
  rcases br (nv B r)with h0|h0
  ·rw[ih,h0,DJ,dz,cu]
   simp only
   rcases br x with rfl|hx
   ·rw[DJ];rfl
   ·rw[if_neg (by omega)]
    have:=aNy (v:=0) hB (h x (by simp)) (by omega)
    rw[dz,cu,DJ]at this
    exact this.symm
  ·have hp:0<B*nv B r:=ij (by omega) h0
   rw[aNy hB (h x (by simp)) (by omega),ih]
   rw[EC hB h0]
theorem DN:∀(l:List Nat),(An l).length<=l.length/\An l=l.take (An l).length
 | []=>⟨bu _,rfl⟩
 |x::r=>by
  obtain⟨h1,h2⟩:=DN r
  simp only[An]
  cases e:An r with
  |nil=>
   simp only
   split
   ·exact⟨by simp,rfl⟩
   ·exact⟨by simp,rfl⟩
  |cons y t=>
   rw[e]at h1 h2
   simp only
   refine⟨by simp at h1⊢;omega,?_⟩
   simp only[dh,List.take_succ_cons]
   congr 1
theorem aAl:∀(l:List Nat) (i:Nat),(An l).length<=i->l.getD i 0=0
 | [],i,_=>by simp
 |x::r,i,h=>by
  have ih:=aAl r
  simp only[An]at h
  cases e:An r with
  |nil=>
   rw[e]at h ih
   simp only at h
   cases i with
   |zero=>
    split at h
    ·rename_i hx;simp[hx]
    ·simp at h
   |succ i=>simpa using ih i (by simp)
  |cons y t=>
   rw[e]at h ih
   simp only at h
   cases i with
   |zero=>simp at h
   |succ i=>simpa using ih i (by simpa using h)
theorem W1:∀(l:List Nat),0<(An l).length->l.getD ((An l).length-1) 0≠0
 | [],h=>by simp[An]at h
 |x::r,h=>by
  have ih:=W1 r
  simp only[An]at h⊢
  cases e:An r with
  |nil=>
   rw[e]at h
   simp only at h⊢
   split at h
   ·simp at h
   ·rename_i hx;rw[if_neg hx];simpa using hx
  |cons y t=>
   rw[e]at ih
   simp only[dh]at ih⊢
   have:=ih (by simp)
   simpa using this
def Wd(l:List Nat):List Int:=l.map fun n:Nat=>(n:Int)
theorem Az(l:List Nat):(Wd l).length=l.length:=by simp[Wd]
theorem BN(l:List Nat)(i:Nat):(Wd l).getD i 0=((l.getD i 0:Nat):Int):=by
 unfold Wd;rw[al,al,kz];cases l[i]?<;>simp
theorem gN(l:List Nat)(n:Nat):(Wd l).take n=Wd (l.take n):=by simp[Wd,List.map_take]
theorem aXK(l:List Nat)(n:Nat):(Wd l).drop n=Wd (l.drop n):=by simp[Wd,List.map_drop]
theorem Dt(l:List Nat)(i n:Nat):(Wd l).set i (n:Int)=Wd (l.set i n):=by simp[Wd,List.map_set]
theorem NT(n:Nat):aq n (0:Int)=Wd (aq n 0):=by simp[Wd]
end VL
namespace VL
open Go Vx
def Ws(l:List Nat):Prop:=(∀x∈l,x<2^64)/\l.length<=1000000
theorem aXs(l:List Nat)(hl:l.length<=1000000)(n:Nat)(hn:n<=l.length)(ht:(An l).length<=n):
  qP ((Wd l,((n:Int),())),())=some (.inl ((Wd l,(((An l).length:Int),())),())):=by
 have key:=CW aPv (fun x=>x.1.2.1.toNat)
  (fun x=>∃n:Nat,n<=l.length/\(An l).length<=n/\x=((Wd l,((n:Int),())),()))
  (fun _=>.inl ((Wd l,(((An l).length:Int),())),())) ?_ ((Wd l,((n:Int),())),()) ⟨n,hn,ht,rfl⟩
 ·exact key
 intro L x hx hL;obtain⟨n,hn,ht,rfl⟩:=hx;unfold YW;rcases br n with rfl|hpos
 ·have e1:decide (((0:Nat):Int)>0)=false:=rfl;simp only[e1,au,bd,cond_true,ak,cond_false];have:(An l).length=0:=by omega
  rw[this]
 ·have e0:aa .i64 ((n:Int)-1)=((n-1:Nat):Int):=EN n 1 (by omega) (by omega);have e1:decide ((n:Int)>0)=true:=by simp;omega
  have e2:(decide ((0:Int)<=((n-1:Nat):Int))&&decide (((n-1:Nat):Int)<((Wd l).length:Int)))=true:=by
   rw[Az];simp;omega
  simp only[e0,e1,e2,av,cond_true,az,ab,BN,F6];cases hz:(l.getD (n-1) 0==0)with
  |true=>
   simp only[cond_true];refine hL _ ⟨n-1,by omega,?_,rfl⟩ (by simp only[ab];omega);rcases ay (n-1) (An l).length with h|h
   ·exfalso;have e:n=(An l).length:=by omega
    have:=W1 l (by omega);rw[←e]at this;exact this (by simpa using hz)
   ·exact h
  |false=>
   simp only[cond_false];have:(An l).length=n:=by
    rcases ay (n-1) (An l).length with h|h
    ·omega
    ·exfalso;have:=aAl l (n-1) h;rw[this]at hz;simp at hz
   rw[this]
theorem EH(l:List Nat)(hl:l.length<=1000000):VF (Wd l,())=some (Wd (An l),()):=by
 show xI qP (Wd l)=_;unfold xI;have h:=aXs l hl l.length (bu _) (DN l).1;rw[Az];rw[h];have e:(decide ((0:Int)<=((An l).length:Int))&&decide (((An l).length:Int)<=((Wd l).length:Int)))=true:=by
  rw[Az];have:=(DN l).1;simp;omega
 show(bif(decide ((0:Int)<=((An l).length:Int))&&decide (((An l).length:Int)<=((Wd l).length:Int)))then some (qr (ag 0) (kv (ag ((An l).length:Int)) (Wd l)),())else none)=_;rw[e,cond_true,ab,ap,List.drop_zero,gN];have:=(DN l).2;rw[←this]
def Ae(n:Nat):Nat:=if n=0 then 0 else Nat.log2 n+1
theorem FU(n:Nat):n<2^Ae n:=by
 unfold Ae;split
 ·subst_vars;decide
 ·exact Nat.lt_log2_self
theorem Lr{n:Nat}(h:n≠0):2^(Ae n-1)<=n:=by
 unfold Ae;rw[if_neg h];exact Nat.log2_self_le h
theorem aY1{n k:Nat}(h1:2^k<=n)(h2:n<2^(k+1)):Ae n=k+1:=by
 have hp:=af k;have hn:n≠0:=by omega
 have a1:=FU n;have a2:=Lr hn;have b1:Ae n-1<k+1:=(cv (by decide)).1 (bl a2 h2);have b2:k<Ae n:=(cv (by decide)).1 (bl h1 a1);omega
theorem sX{n k:Nat}(h:2^k<=n):Ae n=k+Ae (n/2^k):=by
 have hp:=af k;have hq:0<n/2^k:=Nat.div_pos h hp;have a1:=FU (n/2^k);have a2:=Lr (n:=n/2^k) (by omega);have hb:0<Ae (n/2^k):=by unfold Ae;rw[if_neg (by omega)];omega
 have h1:2^(k+(Ae (n/2^k)-1))<=n:=by
  rw[bi];calc 2^k*2^(Ae (n/2^k)-1)<=2^k*(n/2^k):=cd _ a2
   _<=n:=Nat.mul_div_le n _
 have h2:n<2^(k+(Ae (n/2^k)-1)+1):=by
  rw[show k+(Ae (n/2^k)-1)+1=k+Ae (n/2^k) by omega,bi,be];exact(bv hp).1 a1
 have:=aY1 h1 h2;omega
theorem aO7:∀i:Nat,i<256->(Jn.getD i 0).toNat=Ae i:=by
 have h:((ip 256).all fun i=>decide ((Jn.getD i 0).toNat=Ae i))=true:=by decide +kernel
 intro i hi;have:=mf.1 h i (le.2 hi);simpa using this
theorem aHM(n:Nat)(hn:n<2^64):dD ((n:Int),())=some ((Ae n:Int),()):=by
 have hs:∀m k:Nat,k<=64->AQ .u64 (m:Int) (k:Int)=((m/2^k:Nat):Int):=fun m k hk=>DM m k hk;have WX:∀m:Nat,AQ .u64 (m:Int) 32=((m/2^32:Nat):Int):=fun m=>hs m 32 (by decide);have s16:∀m:Nat,AQ .u64 (m:Int) 16=((m/2^16:Nat):Int):=fun m=>hs m 16 (by decide);have s8:∀m:Nat,AQ .u64 (m:Int) 8=((m/2^8:Nat):Int):=fun m=>hs m 8 (by decide);have ge:∀m k:Nat,decide ((m:Int)>=(k:Int))=decide (k<=m):=fun m k=>by rw[fj];simp
 have g32:∀m:Nat,decide ((m:Int)>=4294967296)=decide (2^32<=m):=fun m=>ge m (2^32);have g16:∀m:Nat,decide ((m:Int)>=65536)=decide (2^16<=m):=fun m=>ge m (2^16);have g8:∀m:Nat,decide ((m:Int)>=256)=decide (2^8<=m):=fun m=>ge m (2^8);have tab:∀m:Nat,m<256->aa .u8 (m:Int)=(m:Int):=fun m hm=>IntWalk.u8_in _ (by omega);have look:∀(m:Nat) (c:Int) (d:Nat),m<256->c=(d:Int)->d<=56->(bif(decide ((0:Int)<=aa .u8 (m:Int))&&decide (aa .u8 (m:Int)<(256:Int)))then(some (aa .i64 (c+aa .i64 ((UInt8.toNat (Jn.getD (ag (aa .u8 (m:Int))) 0):Nat):Int)),()):Option (DenS FI))else none)=some (((d+Ae m:Nat):Int),()):=fun m c d hm hc hd=>by
  have e:(decide ((0:Int)<=(m:Int))&&decide ((m:Int)<(256:Int)))=true:=by simp;omega
  have hb:Ae m<=8:=by
   have:=aO7 m hm;rcases br m with rfl|hpos
   ·decide
   ·have:=Lr (n:=m) (by omega);have h8:Ae m-1<8:=(cv (a:=2) (by decide)).1 (bl this hm);omega
  rw[tab m hm,e,cond_true,ab,aO7 m hm,hc,Av (n:=((Ae m:Nat):Int)) (by omega),Av (by omega)];rfl
 show xM n=_;unfold xM;have CI:∀(k:Nat),2^k<=n->k+Ae (n/2^k)=Ae n:=fun k h=>(sX h).symm;have dd:∀a b:Nat,n/2^a/2^b=n/2^(a+b):=fun a b=>by rw[dk,←bi]
 have up:∀a b:Nat,2^b<=n/2^a->2^(a+b)<=n:=fun a b h=>by
  rw[bi,be];exact(Nat.le_div_iff_mul_le (af a)).1 h
 have down:∀a b:Nat,n/2^a<2^b->n<2^(a+b):=fun a b h=>by
  rw[bi,be];exact(bv (af a)).1 h
 have small:∀a:Nat,n<2^(a+8)->n/2^a<256:=fun a h=>by
  rw[bv (af a),be];rw[bi]at h;exact h
 simp only[WX,s16,s8,g32,g16,g8];by_cases h1:2^32<=n
 ·rw[decide_eq_true h1,cond_true];by_cases h2:2^16<=n/2^32
  ·rw[decide_eq_true h2,cond_true];by_cases h3:2^8<=n/2^32/2^16
   ·rw[decide_eq_true h3,cond_true];rw[dd 32 16]at h3;have hm:n/2^32/2^16/2^8=n/2^56:=by rw[dd 32 16,dd 48 8]
    refine(look (n/2^32/2^16/2^8) _ 56 (by rw[hm];exact small 56 hn) rfl (by decide)).trans ?_;rw[hm,CI 56 (up 48 8 h3)]
   ·rw[decide_eq_false h3,cond_false];rw[dd 32 16]at h3;refine(look (n/2^32/2^16) _ 48 (by rw[dd 32 16];exact small 48 (down 48 8 (by omega))) rfl (by decide)).trans ?_;rw[dd 32 16,CI 48 (up 32 16 h2)]
  ·rw[decide_eq_false h2,cond_false];by_cases h3:2^8<=n/2^32
   ·rw[decide_eq_true h3,cond_true];refine(look (n/2^32/2^8) _ 40 (by rw[dd 32 8];exact small 40 (down 32 16 (by omega))) rfl (by decide)).trans ?_;rw[dd 32 8,CI 40 (up 32 8 h3)]
   ·rw[decide_eq_false h3,cond_false];refine(look (n/2^32) _ 32 (small 32 (down 32 8 (by omega))) rfl (by decide)).trans ?_;rw[CI 32 h1]
 ·rw[decide_eq_false h1,cond_false];by_cases h2:2^16<=n
  ·rw[decide_eq_true h2,cond_true];by_cases h3:2^8<=n/2^16
   ·rw[decide_eq_true h3,cond_true];refine(look (n/2^16/2^8) _ 24 (by rw[dd 16 8];exact small 24 (by omega)) rfl (by decide)).trans ?_;rw[dd 16 8,CI 24 (up 16 8 h3)]
   ·rw[decide_eq_false h3,cond_false];refine(look (n/2^16) _ 16 (small 16 (down 16 8 (by omega))) rfl (by decide)).trans ?_;rw[CI 16 h2]
  ·rw[decide_eq_false h2,cond_false];by_cases h3:2^8<=n
   ·rw[decide_eq_true h3,cond_true];refine(look (n/2^8) _ 8 (small 8 (by omega)) rfl (by decide)).trans ?_;rw[CI 8 h3]
   ·rw[decide_eq_false h3,cond_false];refine(look n 0 0 (by omega) rfl (by decide)).trans ?_;rw[cz]
end VL
namespace VL
open Go Vx
theorem U6(B:Nat):∀(l m:List Nat),nv B (l++m)=nv B l+B^l.length*nv B m
 | [],m=>by simp[nv]
 |x::r,m=>by
  simp only[List.cons_append,nv,dh]
  rw[U6 B r m,dj,bw,gu]
  congr 2
  rw[be (B^r.length) B,bh]
theorem CX{B:Nat}(hB:2<=B):∀(l:List Nat),(∀x∈l,x<B)->nv B l<B^l.length
 | [],_=>by simp[nv]
 |x::r,h=>by
  have ih:=CX hB r fun y hy=>h y (by simp[hy])
  have hx:=h x (by simp)
  simp only[nv,dh,dj]
  have:B*nv B r<=B*(B^r.length-1):=cd _ (by omega)
  have hp:0<B^r.length:=gw (by omega)
  rw[Nat.mul_sub]at this
  have h1:B*1<=B*B^r.length:=cd _ hp
  rw[be (B^r.length) B]
  omega
theorem LJ(B:Nat)(l:List Nat)(i:Nat)(h:i<=l.length):nv B l=nv B (l.take i)+B^i*nv B (l.drop i):=by
 conv=>lhs;rw[←List.take_append_drop i l]
 rw[U6];simp[h]
theorem LL{B:Nat}(hB:2<=B){l:List Nat}(h:∀x∈l,x<B):nv B (An l)=nv B l:=by
 rw[Ga hB l h,kQ hB]
theorem W2{l:List Nat}{x:Nat}(h:x∈An l):x∈l:=by
 rw[(DN l).2]at h;exact fh h
theorem aTj{l:List Nat}{i:Nat}(h:i<(An l).length):(An l)[i]? = l[i]?:=by
 have:(An l)[i]? = (l.take (An l).length)[i]?:=congrArg (fun t:List Nat=>t[i]?) (DN l).2;rw[this,List.getElem?_take_of_lt h]
theorem aDo{a b k:Nat}(ha:a<2^k)(hb:0<b):Ae (a+2^k*b)=k+Ae b:=by
 have hp:=af k;have h1:2^k*1<=2^k*b:=cd _ hb;rw[sX (n:=a+2^k*b) (k:=k) (by omega),dx _ _ hp,cg ha,cz]
theorem DL(i:Nat):(2^64)^i=2^(64*i):=by rw[←Nat.pow_mul]
theorem aMY{l:List Nat}(h:∀x∈l,x<2^64)(hl:0<(An l).length):Ae (nv (2^64) l)=64*((An l).length-1)+Ae (l.getD ((An l).length-1) 0):=by
 have hlast:=W1 l hl;have hle:=(DN l).1;rw[←LL (by decide) h];have hm:∀x∈An l,x<2^64:=fun x hx=>h x (W2 hx);rw[LJ _ (An l) ((An l).length-1) (by omega),DL];have hd:(An l).drop ((An l).length-1)=[l.getD ((An l).length-1) 0]:=by
  have hlt:(An l).length-1<(An l).length:=by omega
  rw[fd hlt];have e1:(An l).length-1+1=(An l).length:=by omega
  rw[e1,List.drop_length];congr 1;have:(An l)[(An l).length-1]? = l[(An l).length-1]?:=aTj hlt;rw[bq hlt]at this;rw[al,←this];rfl
 rw[hd];have hlow:=CX (B:=2^64) (by decide) ((An l).take ((An l).length-1)) fun x hx=>hm x (fh hx);rw[ig,gn (by omega),DL]at hlow;have:nv (2^64) [l.getD ((An l).length-1) 0]=l.getD ((An l).length-1) 0:=by simp[nv]
 rw[this];exact aDo hlow (by omega)
theorem aTk{l:List Nat}(h:∀x∈l,x<2^64)(h0:(An l).length=0):nv (2^64) l=0:=by
 have:An l=[]:=List.eq_nil_of_length_eq_zero h0;rw[←LL (by decide) h,this];rfl
theorem B3{l:List Nat}{B:Nat}(hB:0<B)(h:∀x∈l,x<B)(i:Nat):l.getD i 0<B:=by
 rw[al];cases e:l[i]? with
 |none=>exact hB
 |some x=>exact h x (List.mem_of_getElem? e)
theorem aWq(l:List Nat)(hl:Ws l):Xx (Wd l,())=some ((Ae (nv (2^64) l):Int),()):=by
 obtain⟨h,hlen⟩:=hl;show w9 Am.pre Am.F CB.pre CB.F (Wd l)=_;unfold w9;have p0:=EH l hlen;have hle:=(DN l).1;simp only[Dx p0,Du p0,cond_true,Az];rcases br (An l).length with h0|h0
 ·rw[h0,aTk h h0];rfl
 ·have e0:(((An l).length:Int)==0)=false:=by rw[F6];exact beq_false_of_ne (by omega)
  have e1:aa .i64 (((An l).length:Int)-1)=(((An l).length-1:Nat):Int):=EN (An l).length 1 (by omega) (by omega);have e2:(decide ((0:Int)<=(((An l).length-1:Nat):Int))&&decide ((((An l).length-1:Nat):Int)<((An l).length:Int)))=true:=by simp only[ah,decide_eq_true_eq];omega
  have e3:(Wd (An l)).getD ((An l).length-1) 0=((l.getD ((An l).length-1) 0:Nat):Int):=by
   rw[BN];congr 1;rw[al,al];rw[aTj (by omega)]
  have hd:=B3 (by decide) h ((An l).length-1);have p1:=aHM _ hd;have hb:Ae (l.getD ((An l).length-1) 0)<=64:=by
   rcases br (l.getD ((An l).length-1) 0)with z|z
   ·rw[z];decide
   ·have:=Lr (n:=l.getD ((An l).length-1) 0) (by omega);have:Ae (l.getD ((An l).length-1) 0)-1<64:=(cv (a:=2) (by decide)).1 (bl this hd);omega
  rw[e0,e1,e2,cond_false,cond_true,ab,e3];simp only[aQB p1,aOq p1,cond_true];rw[aMY h h0,Av (n:=64*(((An l).length-1:Nat):Int)) (by omega),Av (by omega)];congr 2
end VL
namespace VL
open Go Vx
theorem aAs(x:Nat):aa .u64 (x:Int)=((x%2^64:Nat):Int):=by
 simp[aa,iw,jh];try omega
theorem HP(x n:Nat)(hn:n<=64):Bj .u64 (x:Int) (n:Int)=((x*2^n%2^64:Nat):Int):=by
 have hm:(min (n:Int).toNat IntKind.u64.bits)=n:=by simp[iw];omega
 unfold Bj;rw[hm];have e:(x:Int)*2^n=((x*2^n:Nat):Int):=by simp
 rw[e];exact aAs _
theorem O8{a b k:Nat}(ha:a<2^k)(h:a+b*2^k<2^64):Ak .u64 (a:Int) ((b*2^k:Nat):Int)=((a+b*2^k:Nat):Int):=by
 have key:(cq 64 (a:Int) ||| cq 64 ((b*2^k:Nat):Int)).toNat=a+b*2^k:=by
  rw[qi,LM (by omega),LM (by omega),be b,qx,←Nat.two_pow_add_eq_or_of_lt ha];omega
 show IntKind.u64.wrap (((cq 64 (a:Int) ||| cq 64 ((b*2^k:Nat):Int)).toNat:Nat):Int)=_;rw[key];exact DO (by omega)
def BR(s:Nat):List Nat->List Nat
 | []=>[]
 |x::r=>(x/2^s+(r.getD 0 0%2^s)*2^(64-s))::BR s r
theorem Pi(s:Nat):∀l,(BR s l).length=l.length
 | []=>rfl
 |_::r=>by simp[BR,Pi s r]
theorem lN(s:Nat):∀(l:List Nat) (i:Nat),i<l.length->(BR s l)[i]? = some (l.getD i 0/2^s+(l.getD (i+1) 0%2^s)*2^(64-s))
 | [],i,h=>by simp at h
 |x::r,0,_=>by simp[BR]
 |x::r,i+1,h=>by
  simp only[BR,List.getElem?_cons_succ]
  rw[lN s r i (by simpa using h)]
  simp
theorem Z2{s:Nat}(hs:s<=64):2^64=2^s*2^(64-s):=by rw[←bi];congr 1;omega
theorem vX{s:Nat}(hs:s<=64){x y:Nat}(hx:x<2^64):x/2^s<2^(64-s)/\x/2^s+(y%2^s)*2^(64-s)<2^64:=by
 have hp:=af s;have h1:x/2^s<2^(64-s):=by
  rw[bv hp,be,←Z2 hs];exact hx
 refine⟨h1,?_⟩;have h2:y%2^s+1<=2^s:=ca _ hp;have h3:=aw (2^(64-s)) h2;rw[←Z2 hs,ce,fx]at h3;omega
theorem bB5{B:Nat}{s:Nat}(hB:B%2^s=0):∀l:List Nat,nv B l%2^s=l.getD 0 0%2^s
 | []=>by simp[nv]
 |x::r=>by
  simp only[nv,oo]
  obtain⟨c,hc⟩:=Nat.dvd_of_mod_eq_zero hB
  rw[hc,bh,fu]
theorem aEV{s:Nat}(hs:s<=64):∀l:List Nat,nv (2^64) (BR s l)=nv (2^64) l/2^s
 | []=>by simp[BR,nv]
 |x::r=>by
  have ih:=aEV hs r
  simp only[BR,nv]
  rw[ih]
  have hp:=af s
  have hm:=bB5 (B:=2^64) (s:=s) (by rw[Z2 hs];exact lw _ _) r
  rw[←hm]
  have hN:nv (2^64) r=2^s*(nv (2^64) r/2^s)+nv (2^64) r%2^s:=(cp _ _).symm
  generalize nv (2^64) r/2^s=q at *
  generalize nv (2^64) r%2^s=t at *
  rw[hN]
  have e:x+2^64*(2^s*q+t)=x+2^s*(2^64*q+2^(64-s)*t):=by
   rw[bw,bw]
   have e1:2^64*(2^s*q)=2^s*(2^64*q):=by rw[←bh,←bh,be (2^64) (2^s)]
   have e2:2^64*t=2^s*(2^(64-s)*t):=by rw[←bh,←Z2 hs]
   rw[e1,e2]
  rw[e,dx _ _ hp,be t]
  omega
end VL
namespace VL
open Go Vx
theorem aRt{O:List Nat}{i v:Nat}(hi:i<O.length)(hv:O[i]? = some v):(O.take i++aq (O.length-i) 0).set i v=O.take (i+1)++aq (O.length-(i+1)) 0:=by
 have e:O.length-i=(O.length-(i+1))+1:=by omega
 have hl:(O.take i).length=i:=by simp;omega
 rw[e,jj,gd _ _ (by omega),hl,gy,jt];rw[qk,hv];simp
theorem aEn{l:List Nat}{i v:Nat}(hi:i<l.length):(l.set i v).getD i 0=v:=by
 rw[al,List.getElem?_set_self hi];rfl
theorem tM(l:List Nat)(w i:Nat):(l.drop w).getD i 0=l.getD (w+i) 0:=by
 rw[al,al,List.getElem?_drop]
theorem aFr(n:Nat)(hn:n<=1000000000):Bl .i64 (n:Int) 64=((n/64:Nat):Int):=by
 unfold Bl;have e:(n:Int).tdiv 64=((n/64:Nat):Int):=rfl;rw[e,Av (by omega)]
theorem aXe(l:List Nat)(hl:l.length<=1000000)(n:Nat)(hn:n<=l.length)(ht:(An l).length<=n):
  qE (((),((n:Int),())),(Wd l,()))=some (.inl (((),(((An l).length:Int),())),(Wd l,()))):=by
 have key:=CW aPh (fun x=>x.1.2.1.toNat)
  (fun x=>∃n:Nat,n<=l.length/\(An l).length<=n/\x=(((),((n:Int),())),(Wd l,())))
  (fun _=>.inl (((),(((An l).length:Int),())),(Wd l,()))) ?_ (((),((n:Int),())),(Wd l,())) ⟨n,hn,ht,rfl⟩
 ·exact key
 intro L x hx hL;obtain⟨n,hn,ht,rfl⟩:=hx;unfold YI;rcases br n with rfl|hpos
 ·have e1:decide (((0:Nat):Int)>0)=false:=rfl;simp only[e1,au,bd,cond_true,ak,cond_false];have:(An l).length=0:=by omega
  rw[this]
 ·have e0:aa .i64 ((n:Int)-1)=((n-1:Nat):Int):=EN n 1 (by omega) (by omega);have e1:decide ((n:Int)>0)=true:=by simp;omega
  have e2:(decide ((0:Int)<=((n-1:Nat):Int))&&decide (((n-1:Nat):Int)<((Wd l).length:Int)))=true:=by
   rw[Az];simp;omega
  simp only[e0,e1,e2,av,cond_true,az,ab,BN,F6];cases hz:(l.getD (n-1) 0==0)with
  |true=>
   simp only[cond_true];refine hL _ ⟨n-1,by omega,?_,rfl⟩ (by simp only[ab];omega);rcases ay (n-1) (An l).length with h|h
   ·exfalso;have e:n=(An l).length:=by omega
    have:=W1 l (by omega);rw[←e]at this;exact this (by simpa using hz)
   ·exact h
  |false=>
   simp only[cond_false];have:(An l).length=n:=by
    rcases ay (n-1) (An l).length with h|h
    ·omega
    ·exfalso;have:=aAl l (n-1) h;rw[this]at hz;simp at hz
   rw[this]
theorem aHw(l:List Nat)(hl:l.length<=1000000):cE (Wd l,())=some (Wd (An l),()):=by
 show wG qE (Wd l)=_;unfold wG;have h:=aXe l hl l.length (bu _) (DN l).1;rw[Az];rw[h];have e:(decide ((0:Int)<=((An l).length:Int))&&decide (((An l).length:Int)<=((Wd l).length:Int)))=true:=by
  rw[Az];have:=(DN l).1;simp;omega
 show(bif(decide ((0:Int)<=((An l).length:Int))&&decide (((An l).length:Int)<=((Wd l).length:Int)))then some (kv (ag ((An l).length:Int)) (Wd l),())else none)=_;rw[e,cond_true,ab,gN];have:=(DN l).2;rw[←this]
theorem aXr(a:List Nat)(ha:∀x∈a,x<2^64)(hlen:a.length<=1000000)(w s:Nat)(hs:s<64)(hw:w<=a.length)(i:Nat)(hi:i<=(a.drop w).length):
  qO ((((a.drop w).length:Int),(Wd a,((w:Int),((s:Int),((i:Int),((),())))))),(Wd ((BR s (a.drop w)).take i++aq ((BR s (a.drop w)).length-i) 0),()))=some (.inl (((),()),(Wd (BR s (a.drop w)),()))):=by
 have key:=CW (aPu Am.pre Am.F) (fun x=>(a.drop w).length-x.1.2.2.2.2.1.toNat)
  (fun x=>∃i:Nat,i<=(a.drop w).length/\x=((((a.drop w).length:Int),(Wd a,((w:Int),((s:Int),((i:Int),((),())))))),(Wd ((BR s (a.drop w)).take i++aq ((BR s (a.drop w)).length-i) 0),())))
  (fun _=>.inl (((),()),(Wd (BR s (a.drop w)),()))) ?_ _ ⟨i,hi,rfl⟩
 ·exact key
 intro L x hx hL;obtain⟨i,hi,rfl⟩:=hx;unfold YV;have hdl:(a.drop w).length=a.length-w:=by simp
 have hol:=Pi s (a.drop w);rcases ay i (a.drop w).length with hlt|hge
 ·have e1:decide ((i:Int)<((a.drop w).length:Int))=true:=by simp;omega
  have e2:aa .i64 ((w:Int)+(i:Int))=((w+i:Nat):Int):=by rw[Av (by omega)];omega
  have e3:(decide ((0:Int)<=((w+i:Nat):Int))&&decide (((w+i:Nat):Int)<((Wd a).length:Int)))=true:=by
   rw[Az];simp only[ah,decide_eq_true_eq];omega
  have e4:decide ((0:Int)<=(s:Int))=true:=by simp
  have houtl:((BR s (a.drop w)).take i++aq ((BR s (a.drop w)).length-i) 0).length=(a.drop w).length:=by simp;omega
  generalize hout:(BR s (a.drop w)).take i++aq ((BR s (a.drop w)).length-i) 0=out at houtl⊢;have e5:(decide ((0:Int)<=(i:Int))&&decide ((i:Int)<((Wd out).length:Int)))=true:=by
   rw[Az];simp only[ah,decide_eq_true_eq];omega
  have e6:aa .i64 (((w+i:Nat):Int)+1)=((w+i+1:Nat):Int):=by rw[Av (by omega)];omega
  have e7:aa .i64 ((i:Int)+1)=((i+1:Nat):Int):=by rw[Av (by omega)];omega
  have e8:aa .i64 (64-(s:Int))=((64-s:Nat):Int):=EN 64 s (by omega) (by omega);have hx:=B3 (by decide) ha (w+i);have hget:=lN s (a.drop w) i hlt;rw[tM,tM,←gu]at hget;have hnext:=fun v (hv:(BR s (a.drop w))[i]? = some v)=>aRt (by omega) hv;rw[hout]at hnext;have e9:∀v:Nat,(decide ((0:Int)<=(i:Int))&&decide ((i:Int)<((Wd (out.set i v)).length:Int)))=true:=fun v=>by
   rw[Az,iy];simp only[ah,decide_eq_true_eq];omega
  simp only[e1,e2,e3,e4,e5,e6,e7,e8,cond_true,ab,BN,DM _ s (by omega),Dt,e9];rcases ay (w+i+1) a.length with h1|h1
  ·have f1:decide (((w+i+1:Nat):Int)<((Wd a).length:Int))=true:=by rw[Az];exact decide_eq_true (by omega)
   have f2:decide ((0:Int)<=((w+i+1:Nat):Int))=true:=decide_eq_true (by omega);have f3:decide ((0:Int)<=((64-s:Nat):Int))=true:=decide_eq_true (by omega);simp only[f1,f2,f3,ax,cond_true];have hw2:=vX (s:=s) (y:=a.getD (w+i+1) 0) (by omega) hx;have g1:a.getD (w+i+1) 0*2^(64-s)%2^64=(a.getD (w+i+1) 0%2^s)*2^(64-s):=by
    rw[Z2 (s:=s) (by omega),fm]
   rw[aEn (by omega),HP _ _ (by omega),g1,O8 hw2.1 hw2.2,Dt,nu,hnext _ hget];exact hL _ ⟨i+1,by omega,rfl⟩ (by simp only[ab];omega)
  ·have f1:decide (((w+i+1:Nat):Int)<((Wd a).length:Int))=false:=by rw[Az];exact decide_eq_false (by omega)
   have hz:a.getD (w+i+1) 0=0:=by rw[al,df h1];rfl
   rw[hz,ly,ej,cu]at hget;simp only[f1,cond_false];rw[hnext _ hget];exact hL _ ⟨i+1,by omega,rfl⟩ (by simp only[ab];omega)
 ·have hie:i=(a.drop w).length:=by omega
  subst hie;have e1:decide (((a.drop w).length:Int)<((a.drop w).length:Int))=false:=by simp
  simp only[e1,cond_false];have:(BR s (a.drop w)).take (a.drop w).length++aq ((BR s (a.drop w)).length-(a.drop w).length) 0=BR s (a.drop w):=by
   rw[←hol,dq,gy,iv,dl]
  rw[this]
theorem aHI(l:List Nat)(hl:Ws l)(n:Nat)(hn:n<=100000000):XA (Wd l,(n:Int),())=some (Wd (dg (2^64) (nv (2^64) l/2^n)),()):=by
 obtain⟨h,hlen⟩:=hl;show xH Am.pre Am.F qO (Wd l) n=_;unfold xH;have p0:=EH l hlen;have hB:2<=2^64:=by decide
 have hle:=(DN l).1;have hm:∀x∈An l,x<2^64:=fun x hx=>h x (W2 hx);have hv:=LL hB h;have hsplit:2^n=(2^64)^(n/64)*2^(n%64):=by rw[DL,←bi];congr 1;omega
 simp only[Dx p0,Du p0,cond_true,Az,aFr n (by omega)];rcases ay (n/64) (An l).length with h1|h1
 ·have e1:decide (((n/64:Nat):Int)>=((An l).length:Int))=false:=by simp;omega
  have e2:aa .i64 (((An l).length:Int)-((n/64:Nat):Int))=(((An l).drop (n/64)).length:Int):=by
   rw[EN _ _ (by omega) (by omega)];simp
  have hdl:((An l).drop (n/64)).length<=1000000:=by simp;omega
  have e3:(decide ((0:Int)<=(((An l).drop (n/64)).length:Int))&&decide ((((An l).drop (n/64)).length:Int)*8<=140737488355328))=true:=by
   simp only[ah,decide_eq_true_eq];omega
  have e4:gm (n:Int) 64=((n%64:Nat):Int):=rfl;have hw:=aXr (An l) hm (by omega) (n/64) (n%64) (ca _ (by decide)) (by omega) 0 (dp _);rw[nd,mq,mw,Pi]at hw;rw[e1,e2,e3,cond_false,cond_true,ab,e4,NT,Az,gg];rw[show((0:Nat):Int)=0 from rfl]at hw;rw[hw];have hos:∀x∈BR (n%64) ((An l).drop (n/64)),x<2^64:=fun x hx=>by
   obtain⟨i,hi⟩:=mj hx;have hil:i<((An l).drop (n/64)).length:=by rw[←Pi (n%64)];exact(bj.1 hi).1
   rw[lN _ _ i hil]at hi;cases hi;exact(vX (s:=n%64) (by omega) (B3 (by decide) (fun y hy=>hm y (ld hy)) i)).2
  have p1:=EH (BR (n%64) ((An l).drop (n/64))) (by rw[Pi];exact hdl);show(bif Am.pre (Wd (BR (n%64) ((An l).drop (n/64))),())then some (Am.F (Wd (BR (n%64) ((An l).drop (n/64))),()))else none)=_;rw[Dx p1,Du p1,cond_true,Ga hB _ hos,aEV (by omega)];have hd:nv (2^64) ((An l).drop (n/64))=nv (2^64) l/(2^64)^(n/64):=by
   rw[←hv,LJ _ (An l) (n/64) (by omega)];have hlow:=CX hB ((An l).take (n/64)) fun x hx=>hm x (fh hx);rw[ig,gn (by omega)]at hlow;rw[dx _ _ (gw (by decide)),cg hlow,cz]
  rw[hd,dk,←hsplit];rfl
 ·have e1:decide (((n/64:Nat):Int)>=((An l).length:Int))=true:=by simp;omega
  rw[e1,cond_true];have hz:nv (2^64) l/2^n=0:=by
   rw[←hv];have:=CX hB (An l) hm;apply cg;refine ao this ?_;rw[DL];exact ai (by decide) (by omega)
  rw[hz,DJ];rfl
theorem aXd(a:List Nat)(ha:∀x∈a,x<2^64)(hlen:a.length<=1000000)(w s:Nat)(hs:s<64)(hw:w<=a.length)(i:Nat)(hi:i<=(a.drop w).length):
  qD ((((a.drop w).length:Int),(Wd a,((w:Int),((s:Int),((i:Int),((),())))))),(Wd ((BR s (a.drop w)).take i++aq ((BR s (a.drop w)).length-i) 0),()))=some (.inl (((),()),(Wd (BR s (a.drop w)),()))):=by
 have key:=CW (aPg Cg.pre Cg.F Am.pre Am.F) (fun x=>(a.drop w).length-x.1.2.2.2.2.1.toNat)
  (fun x=>∃i:Nat,i<=(a.drop w).length/\x=((((a.drop w).length:Int),(Wd a,((w:Int),((s:Int),((i:Int),((),())))))),(Wd ((BR s (a.drop w)).take i++aq ((BR s (a.drop w)).length-i) 0),())))
  (fun _=>.inl (((),()),(Wd (BR s (a.drop w)),()))) ?_ _ ⟨i,hi,rfl⟩
 ·exact key
 intro L x hx hL;obtain⟨i,hi,rfl⟩:=hx;unfold YH;have hdl:(a.drop w).length=a.length-w:=by simp
 have hol:=Pi s (a.drop w);rcases ay i (a.drop w).length with hlt|hge
 ·have e1:decide ((i:Int)<((a.drop w).length:Int))=true:=by simp;omega
  have e2:aa .i64 ((w:Int)+(i:Int))=((w+i:Nat):Int):=by rw[Av (by omega)];omega
  have e3:(decide ((0:Int)<=((w+i:Nat):Int))&&decide (((w+i:Nat):Int)<((Wd a).length:Int)))=true:=by
   rw[Az];simp only[ah,decide_eq_true_eq];omega
  have e4:decide ((0:Int)<=(s:Int))=true:=by simp
  have houtl:((BR s (a.drop w)).take i++aq ((BR s (a.drop w)).length-i) 0).length=(a.drop w).length:=by simp;omega
  generalize hout:(BR s (a.drop w)).take i++aq ((BR s (a.drop w)).length-i) 0=out at houtl⊢;have e5:(decide ((0:Int)<=(i:Int))&&decide ((i:Int)<((Wd out).length:Int)))=true:=by
   rw[Az];simp only[ah,decide_eq_true_eq];omega
  have e6:aa .i64 (((w+i:Nat):Int)+1)=((w+i+1:Nat):Int):=by rw[Av (by omega)];omega
  have e7:aa .i64 ((i:Int)+1)=((i+1:Nat):Int):=by rw[Av (by omega)];omega
  have e8:aa .i64 (64-(s:Int))=((64-s:Nat):Int):=EN 64 s (by omega) (by omega);have hx:=B3 (by decide) ha (w+i);have hget:=lN s (a.drop w) i hlt;rw[tM,tM,←gu]at hget;have hnext:=fun v (hv:(BR s (a.drop w))[i]? = some v)=>aRt (by omega) hv;rw[hout]at hnext;have e9:∀v:Nat,(decide ((0:Int)<=(i:Int))&&decide ((i:Int)<((Wd (out.set i v)).length:Int)))=true:=fun v=>by
   rw[Az,iy];simp only[ah,decide_eq_true_eq];omega
  simp only[e1,e2,e3,e4,e5,e6,e7,e8,cond_true,ab,BN,DM _ s (by omega),Dt,e9];rcases ay (w+i+1) a.length with h1|h1
  ·have f1:decide (((w+i+1:Nat):Int)<((Wd a).length:Int))=true:=by rw[Az];exact decide_eq_true (by omega)
   have f2:decide ((0:Int)<=((w+i+1:Nat):Int))=true:=decide_eq_true (by omega);have f3:decide ((0:Int)<=((64-s:Nat):Int))=true:=decide_eq_true (by omega);simp only[f1,f2,f3,ax,cond_true];have hw2:=vX (s:=s) (y:=a.getD (w+i+1) 0) (by omega) hx;have g1:a.getD (w+i+1) 0*2^(64-s)%2^64=(a.getD (w+i+1) 0%2^s)*2^(64-s):=by
    rw[Z2 (s:=s) (by omega),fm]
   rw[aEn (by omega),HP _ _ (by omega),g1,O8 hw2.1 hw2.2,Dt,nu,hnext _ hget];exact hL _ ⟨i+1,by omega,rfl⟩ (by simp only[ab];omega)
  ·have f1:decide (((w+i+1:Nat):Int)<((Wd a).length:Int))=false:=by rw[Az];exact decide_eq_false (by omega)
   have hz:a.getD (w+i+1) 0=0:=by rw[al,df h1];rfl
   rw[hz,ly,ej,cu]at hget;simp only[f1,cond_false];rw[hnext _ hget];exact hL _ ⟨i+1,by omega,rfl⟩ (by simp only[ab];omega)
 ·have hie:i=(a.drop w).length:=by omega
  subst hie;have e1:decide (((a.drop w).length:Int)<((a.drop w).length:Int))=false:=by simp
  simp only[e1,cond_false];have:(BR s (a.drop w)).take (a.drop w).length++aq ((BR s (a.drop w)).length-(a.drop w).length) 0=BR s (a.drop w):=by
   rw[←hol,dq,gy,iv,dl]
  rw[this]
theorem aWb(l:List Nat)(hl:Ws l)(n:Nat)(hn:n<=100000000):cD (Wd l,(n:Int),())=some (Wd (dg (2^64) (nv (2^64) l/2^n)),()):=by
 obtain⟨h,hlen⟩:=hl;show wF Cg.pre Cg.F Am.pre Am.F qD (Wd l) n=_;unfold wF;have p0:=EH l hlen;have hB:2<=2^64:=by decide
 have hle:=(DN l).1;have hm:∀x∈An l,x<2^64:=fun x hx=>h x (W2 hx);have hv:=LL hB h;have hsplit:2^n=(2^64)^(n/64)*2^(n%64):=by rw[DL,←bi];congr 1;omega
 simp only[Dx p0,Du p0,cond_true,Az,aFr n (by omega)];rcases ay (n/64) (An l).length with h1|h1
 ·have e1:decide (((n/64:Nat):Int)>=((An l).length:Int))=false:=by simp;omega
  have e2:aa .i64 (((An l).length:Int)-((n/64:Nat):Int))=(((An l).drop (n/64)).length:Int):=by
   rw[EN _ _ (by omega) (by omega)];simp
  have hdl:((An l).drop (n/64)).length<=1000000:=by simp;omega
  have e3:(decide ((0:Int)<=(((An l).drop (n/64)).length:Int))&&decide ((((An l).drop (n/64)).length:Int)*8<=140737488355328))=true:=by
   simp only[ah,decide_eq_true_eq];omega
  have e4:gm (n:Int) 64=((n%64:Nat):Int):=rfl;have hw:=aXd (An l) hm (by omega) (n/64) (n%64) (ca _ (by decide)) (by omega) 0 (dp _);rw[nd,mq,mw,Pi]at hw;rw[e1,e2,e3,cond_false,cond_true,ab,e4,NT,Az,gg];rw[show((0:Nat):Int)=0 from rfl]at hw;rw[hw];have hos:∀x∈BR (n%64) ((An l).drop (n/64)),x<2^64:=fun x hx=>by
   obtain⟨i,hi⟩:=mj hx;have hil:i<((An l).drop (n/64)).length:=by rw[←Pi (n%64)];exact(bj.1 hi).1
   rw[lN _ _ i hil]at hi;cases hi;exact(vX (s:=n%64) (by omega) (B3 (by decide) (fun y hy=>hm y (ld hy)) i)).2
  have p1:=aHw (BR (n%64) ((An l).drop (n/64))) (by rw[Pi];exact hdl);show(bif Cg.pre (Wd (BR (n%64) ((An l).drop (n/64))),())then some (Cg.F (Wd (BR (n%64) ((An l).drop (n/64))),()))else none)=_;rw[aQt p1,aOi p1,cond_true,Ga hB _ hos,aEV (by omega)];have hd:nv (2^64) ((An l).drop (n/64))=nv (2^64) l/(2^64)^(n/64):=by
   rw[←hv,LJ _ (An l) (n/64) (by omega)];have hlow:=CX hB ((An l).take (n/64)) fun x hx=>hm x (fh hx);rw[ig,gn (by omega)]at hlow;rw[dx _ _ (gw (by decide)),cg hlow,cz]
  rw[hd,dk,←hsplit];rfl
 ·have e1:decide (((n/64:Nat):Int)>=((An l).length:Int))=true:=by simp;omega
  rw[e1,cond_true];have hz:nv (2^64) l/2^n=0:=by
   rw[←hv];have:=CX hB (An l) hm;apply cg;refine ao this ?_;rw[DL];exact ai (by decide) (by omega)
  rw[hz,DJ];rfl
end VL
namespace VL
open Go Vx
theorem Ba(a b:Nat)(h:a+b<2^62):aa .i64 ((a:Int)+(b:Int))=((a+b:Nat):Int):=by rw[Av (by omega)];omega
theorem AY(a:Nat)(h:a<2^62):aa .i64 ((a:Int)+1)=((a+1:Nat):Int):=by rw[Av (by omega)];omega
theorem Bb(a:Nat)(h:a<2^56):aa .i64 (64*(a:Int))=((64*a:Nat):Int):=by rw[Av (by omega)];omega
theorem Be(a:Nat)(h:a<2^56):aa .i64 ((a:Int)*64)=((64*a:Nat):Int):=by rw[Av (by omega)];omega
theorem AV(m n:Nat)(h:n<=m/\m<2^62):aa .i64 ((m:Int)-(n:Int))=((m-n:Nat):Int):=by rw[Av (by omega)];omega
theorem AJ(m:Nat)(h:1<=m/\m<2^62):aa .i64 ((m:Int)-1)=((m-1:Nat):Int):=by rw[Av (by omega)];omega
theorem AX(a b:Nat)(h:a<b):decide ((a:Int)<(b:Int))=true:=decide_eq_true (by omega)
theorem AW(a b:Nat)(h:b<=a):decide ((a:Int)<(b:Int))=false:=decide_eq_false (by omega)
theorem A7(a b:Nat)(h:a<=b):decide ((a:Int)<=(b:Int))=true:=decide_eq_true (by omega)
theorem A6(a b:Nat)(h:b<a):decide ((a:Int)<=(b:Int))=false:=decide_eq_false (by omega)
theorem A5(a b:Nat)(h:b<a):decide ((a:Int)>(b:Int))=true:=decide_eq_true (by omega)
theorem A4(a b:Nat)(h:a<=b):decide ((a:Int)>(b:Int))=false:=decide_eq_false (by omega)
theorem A2(a b:Nat)(h:b<=a):decide ((a:Int)>=(b:Int))=true:=decide_eq_true (by omega)
theorem A1(a b:Nat)(h:a<b):decide ((a:Int)>=(b:Int))=false:=decide_eq_false (by omega)
theorem A9(a:Nat)(h:0<a):decide ((0:Int)<(a:Int))=true:=decide_eq_true (by omega)
theorem A8(a:Nat)(h:a=0):decide ((0:Int)<(a:Int))=false:=decide_eq_false (by omega)
theorem A3(a:Nat)(h:0<a):decide ((a:Int)>0)=true:=decide_eq_true (by omega)
theorem AU(a:Nat)(h:a=0):decide ((a:Int)>0)=false:=decide_eq_false (by omega)
theorem aEu(a:Nat):decide ((a:Int)<0)=false:=decide_eq_false (by omega)
theorem AR(a:Nat)(h:a=0):((a:Int)==0)=true:=by rw[F6];simp[h]
theorem AG(a:Nat)(h:a≠0):((a:Int)==0)=false:=by rw[F6];simp[h]
theorem AL(a:Nat)(h:a≠0):((a:Int)!=0)=true:=by rw[WG];simp[h]
theorem AT(a:Nat)(h:a=0):((a:Int)!=0)=false:=by rw[WG];simp[h]
def pd(B:Nat):Nat->Nat->List Nat
 |0,_=>[]
 |k+1,v=>v%B::pd B k (v/B)
theorem Dp(B:Nat):∀k v,(pd B k v).length=k
 |0,_=>rfl
 |k+1,v=>by simp[pd,Dp B k]
theorem HK{B:Nat}(hB:0<B):∀k v,∀x∈pd B k v,x<B
 |0,_,x,hx=>by simp[pd]at hx
 |k+1,v,x,hx=>by
  simp only[pd,dc]at hx
  rcases hx with rfl|hx
  ·exact ca _ hB
  ·exact HK hB k _ x hx
theorem aQk{B:Nat}(hB:0<B):∀(l:List Nat),(∀x∈l,x<B)->l=pd B l.length (nv B l)
 | [],_=>rfl
 |x::r,h=>by
  have hx:=h x (by simp)
  simp only[dh,pd,nv]
  rw[fu,bo hx,dx _ _ hB,cg hx,cz,←aQk hB r fun y hy=>h y (by simp[hy])]
theorem U7{B:Nat}(hB:0<B){l:List Nat}{k v:Nat}(h:∀x∈l,x<B)(hl:l.length=k)(hv:nv B l=v):l=pd B k v:=by
 have:=aQk hB l h;rw[hl,hv]at this;exact this
theorem HL{B:Nat}(hB:0<B):∀k v,v<B^k->nv B (pd B k v)=v
 |0,v,h=>by simp at h;subst h;rfl
 |k+1,v,h=>by
  simp only[pd,nv]
  rw[HL hB k (v/B) (by rw[bv hB,←dj];exact h)]
  exact ja v B
theorem aE3(B:Nat):∀k v i,i<k->(pd B k v).getD i 0=v/B^i%B
 |0,_,_,h=>by omega
 |k+1,v,0,_=>by simp[pd]
 |k+1,v,i+1,h=>by
  simp only[pd,oq]
  rw[aE3 B k (v/B) i (by omega),dk,←il]
theorem aQm(B:Nat):∀k,pd B k 0=aq k 0
 |0=>rfl
 |k+1=>by simp[pd,aQm B k,jj]
theorem ZW(B:Nat):∀(l:List Nat) (i x:Nat),i<l.length->nv B (l.set i x)+B^i*l.getD i 0=nv B l+B^i*x
 | [],_,_,h=>by simp at h
 |y::r,0,x,_=>by simp[nv];omega
 |y::r,i+1,x,h=>by
  have:=ZW B r i x (by simpa using h)
  simp only[List.set_cons_succ,nv,oq,il]
  rw[bh,bh,gu,gu,←bw,←bw,this]
theorem vU{B:Nat}{l:List Nat}(h:∀x∈l,x<B){i v:Nat}(hv:v<B):∀x∈l.set i v,x<B:=fun x hx=>by
 rcases List.mem_or_eq_of_mem_set hx with h1|h1
 ·exact h x h1
 ·rw[h1];exact hv
theorem OP{B:Nat}(hB:2<=B)(n:Nat):An (dg B n)=dg B n:=by
 rw[Ga hB _ (Lw hB n),kQ hB]
theorem aEW(B:Nat)(l:List Nat)(i:Nat)(h:i<l.length):nv B (l.take (i+1))=nv B (l.take i)+B^i*l.getD i 0:=by
 have hs:=LJ B (l.take (i+1)) i (by simp;omega);rw[hs,List.take_take,gn (by omega)];congr 2;rw[List.drop_take,jg,al];rw[fd h,bq h];show l[i]+B*0=l[i];rw[dz,cu]
theorem aTm{x:Nat}(h:0<x):∃t k,x=2^t*(2*k+1):=by
 induction x using oe with
 |ind x ih=>
  rcases jm x with h0|h1
  ·obtain⟨t,k,e⟩:=ih (x/2) (by omega) (by omega);refine⟨t+1,k,?_⟩;rw[dj,be (2^t) 2,bh,←e];omega
  ·exact⟨0,x/2,by simp;omega⟩
theorem bB6{t k n:Nat}:(2^t*(2*k+1))%2^n=0↔n<=t:=by
 constructor
 ·intro h;rcases ay t n with hlt|hge
  ·exfalso;have e:n=t+(n-t-1)+1:=by omega
   rw[e,gu,bi,Nat.mul_mod_mul_left,dj]at h;have hp:=af t;have h2:(2*k+1)%(2^(n-t-1)*2)=0:=by
    rcases ob.1 h with h|h
    ·omega
    ·exact h
   have:(2*k+1)%2=0:=by
    have:=Nat.mod_mod_of_dvd (2*k+1) (show 2 ∣ 2^(n-t-1)*2 from⟨_,be _ _⟩);rw[h2]at this;omega
   omega
  ·exact hge
 ·intro h;have e:t=n+(t-n):=by omega
  rw[e,bi,bh];exact lw _ _
theorem aYJ{t k:Nat}(h:2^t*(2*k+1)<2^64):2^t*(2*k+1) &&& (2^64-2^t*(2*k+1))=2^t:=by
 have hp:=af t;have ht:t<64:=by
  have:2^t*1<=2^t*(2*k+1):=cd _ (by omega);exact(cv (a:=2) (by decide)).1 (by omega)
 have hz:2^t*(2*k)+(2^t-1)+1=2^t*(2*k+1):=by rw[bw,fy];omega
 have hb:∀i,(2^64-2^t*(2*k+1)).testBit i=(decide (i<64)&&!(2^t*(2*k)+(2^t-1)).testBit i):=fun i=>by
  rw[←hz,Nat.testBit_two_pow_sub_succ (by omega)]
 apply mi;intro i;rw[Nat.testBit_and,hb,om];have h1:(2^t*(2*k+1)).testBit i=(decide (t<=i)&&(2*k+1).testBit (i-t)):=by
  have:=jk (2*k+1) hp i;rw[cu]at this;rw[this];by_cases hi:i<t
  ·simp[hi];omega
  ·simp[hi];omega
 rw[h1,jk (2*k) (show 2^t-1<2^t by omega) i];rcases fi i t with hi|hi|hi
 ·simp[show ¬t<=i by omega,show ¬t=i by omega]
 ·subst hi;simp[ht]
 ·have e:i-t=(i-t-1)+1:=by omega
  simp only[show ¬i<t by omega,if_false,show ¬t=i by omega,decide_false];rw[e,lh,lh,show(2*k+1)/2=k by omega,show 2*k/2=k by omega];cases k.testBit (i-t-1)<;>simp
theorem aYI{a b:Nat}(ha:a<2^64)(hb:b<2^64):BS .u64 (a:Int) (b:Int)=((a &&& b:Nat):Int):=by
 have key:(cq 64 (a:Int) &&& cq 64 (b:Int)).toNat=a &&& b:=by
  rw[qb,LM ha,LM hb]
 show IntKind.u64.wrap (((cq 64 (a:Int) &&& cq 64 (b:Int)).toNat:Nat):Int)=_;rw[key];have:=Nat.and_le_left (n:=a) (m:=b);exact DO (by omega)
theorem kT{a b:Nat}(ha:a<2^64)(hb:b<2^64):Ak .u64 (a:Int) (b:Int)=((a ||| b:Nat):Int):=by
 have key:(cq 64 (a:Int) ||| cq 64 (b:Int)).toNat=a ||| b:=by
  rw[qi,LM ha,LM hb]
 show IntKind.u64.wrap (((cq 64 (a:Int) ||| cq 64 (b:Int)).toNat:Nat):Int)=_;rw[key];have:=Nat.or_lt_two_pow ha hb;exact DO (by omega)
theorem deb:∀t:Nat,t<64->aa .i64 (k_deb.getD (2^t*285870213051353865%2^64/2^58) 0)=(t:Int):=by
 have h:((ip 64).all fun t=>decide (aa .i64 (k_deb.getD (2^t*285870213051353865%2^64/2^58) (0:Int))=(t:Int)))=true:=by decide +kernel
 intro t ht;have:=mf.1 h t (le.2 ht);simpa using this
theorem aBy{t k:Nat}(h:2^t*(2*k+1)<2^64):gD (((2^t*(2*k+1):Nat):Int),())=some ((t:Int),()):=by
 have hp:=af t;have h1:2^t*1<=2^t*(2*k+1):=cd _ (by omega);have ht:t<64:=(cv (a:=2) (by decide)).1 (by omega);have han:=aYJ h;show t92 ((2^t*(2*k+1):Nat):Int)=_;generalize hx:2^t*(2*k+1)=x at *
 unfold t92;try dsimp only
 have e1:aa .u64 ((0:Int)-(x:Int))=((2^64-x:Nat):Int):=by
  have:∀y:Int,aa .u64 y=y%18446744073709551616:=fun y=>by
   simp[aa,iw,jh]
  rw[this];omega
 have e2:aa .u64 (((2^t:Nat):Int)*285870213051353865)=((2^t*285870213051353865%2^64:Nat):Int):=aAs (2^t*285870213051353865);have e3:AQ .u64 ((2^t*285870213051353865%2^64:Nat):Int) 58=((2^t*285870213051353865%2^64/2^58:Nat):Int):=DM _ 58 (by decide);have e4:2^t*285870213051353865%2^64/2^58<64:=by omega
 have e5:(decide ((0:Int)<=((2^t*285870213051353865%2^64/2^58:Nat):Int))&&decide (((2^t*285870213051353865%2^64/2^58:Nat):Int)<(64:Nat)))=true:=by
  rw[decide_eq_true (by omega),decide_eq_true (by omega)];rfl
 rw[e1,aYI h (by omega),han,e2,e3,e5,aRr,cond_true,AG x (by omega),cond_false,ab,deb t ht]
end VL
namespace VL
open Go Vx
def Dw(n:Nat):List Int:=Wd (dg (2^64) n)
theorem aZu(n:Nat)(h:(dg (2^64) n).length<=1000000):Ws (dg (2^64) n):=⟨Lw (by decide) n,h⟩
theorem Ea{B:Nat}(hB:2<=B):∀(k n:Nat),n<B^k->(dg B n).length<=k
 |0,n,h=>by simp at h;subst h;rw[DJ];simp
 |k+1,n,h=>by
  rcases br n with rfl|hn
  ·rw[DJ];simp
  ·rw[EC hB hn]
   have:=Ea hB k (n/B) (by rw[bv (by omega),←dj];exact h)
   simp;omega
theorem i9{B:Nat}(hB:2<=B)(n:Nat):n<B^(dg B n).length:=by
 have:=CX hB _ (Lw hB n);rwa [kQ hB]at this
theorem aZA{x i t k r n:Nat}(hx:x=2^t*(2*k+1))(ht:t<64):((2^64)^i*(x+2^64*r))%2^n=0↔n<=64*i+t:=by
 have e:(2^64)^i*(x+2^64*r)=2^(64*i+t)*(2*(k+2^(64-t-1)*r)+1):=by
  have h1:2^64=2^t*(2^(64-t-1)*2):=by rw[←dj,←bi];congr 1;omega
  rw[DL,hx,bi,bh];congr 1;rw[h1,bh,←bw];congr 1;rw[bh,Nat.mul_left_comm];omega
 rw[e];exact bB6
theorem aXu(a:List Nat)(ha:∀x∈a,x<2^64)(hlen:a.length<=1000000)(n:Nat)(hn:n<=1000000000)(i:Nat)(hi:i<=a.length)(hz:nv (2^64) (a.take i)=0):
  qR (((a.length:Int),(Wd a,((n:Int),((i:Int),())))),())=some (if nv (2^64) a=0 then .inl ((),())else .inr ((decide (nv (2^64) a%2^n=0),()),())):=by
 have key:=CW (aPx Am.pre Am.F Cu.pre Cu.F) (fun x=>a.length-x.1.2.2.2.1.toNat)
  (fun x=>∃i:Nat,i<=a.length/\nv (2^64) (a.take i)=0/\x=(((a.length:Int),(Wd a,((n:Int),((i:Int),())))),()))
  (fun _=>if nv (2^64) a=0 then .inl ((),())else .inr ((decide (nv (2^64) a%2^n=0),()),())) ?_ _ ⟨i,hi,hz,rfl⟩
 ·exact key
 intro L x hx hL;obtain⟨i,hi,hz,rfl⟩:=hx;unfold YY;rcases ay i a.length with hlt|hge
 ·simp(disch:=omega) only[Ba,AY,Bb,AV,AJ,Be,AX,AW,A7,A6,A5,A4,A2,A1,A9,A8,A3,AU,AF,AR,AG,AL,AT,ab,ap,cond_true,cond_false,ax,az,bf,ak,ar,bb,au,ba,av,bd,bc,bg,Az,BN];have hxl:=B3 (by decide) ha i;rcases br (a.getD i 0)with h0|h0
  ·simp(disch:=omega) only[Ba,AY,Bb,AV,AJ,Be,AX,AW,A7,A6,A5,A4,A2,A1,A9,A8,A3,AU,AF,AR,AG,AL,AT,ab,ap,cond_true,cond_false,ax,az,bf,ak,ar,bb,au,ba,av,bd,bc,bg];refine hL _ ⟨i+1,by omega,?_,rfl⟩ (by simp only[ab];omega);rw[aEW _ _ _ hlt,hz,h0,dz]
  ·obtain⟨t,k,e⟩:=aTm h0;have ht:t<64:=by
    have hp:=af t;have h1:2^t*1<=2^t*(2*k+1):=cd _ (by omega);exact(cv (a:=2) (by decide)).1 (by omega)
   have p0:=aBy (t:=t) (k:=k) (by omega);rw[←e]at p0;have hv:nv (2^64) a=(2^64)^i*(a.getD i 0+2^64*nv (2^64) (a.drop (i+1))):=by
    rw[LJ _ a i hi,hz,cz,fd hlt];simp only[nv];rw[al,bq hlt];rfl
   have hne:nv (2^64) a≠0:=by
    rw[hv];have:0<(2^64)^i:=gw (by decide);exact Nat.ne_of_gt (ij this (by omega))
   have hd:=aZA (i:=i) (r:=nv (2^64) (a.drop (i+1))) (n:=n) e ht;rw[←hv]at hd;simp(disch:=omega) only[Ba,AY,Bb,AV,AJ,Be,AX,AW,A7,A6,A5,A4,A2,A1,A9,A8,A3,AU,AF,AR,AG,AL,AT,ab,ap,cond_true,cond_false,ax,az,bf,ak,ar,bb,au,ba,av,bd,bc,bg,aFi p0,aEk p0,if_neg hne];have:decide (((64*i+t:Nat):Int)>=(n:Int))=decide (nv (2^64) a%2^n=0):=by
    rw[fj,decide_eq_true_eq,decide_eq_true_eq,hd];omega
   rw[this]
 ·have e:i=a.length:=by omega
  subst e;rw[dq]at hz;simp(disch:=omega) only[Ba,AY,Bb,AV,AJ,Be,AX,AW,A7,A6,A5,A4,A2,A1,A9,A8,A3,AU,AF,AR,AG,AL,AT,ab,ap,cond_true,cond_false,ax,az,bf,ak,ar,bb,au,ba,av,bd,bc,bg,if_pos hz]
theorem aWz(l:List Nat)(hl:Ws l)(n:Nat)(hn:n<=1000000000):dF (Wd l,(n:Int),())=some (decide (nv (2^64) l%2^n=0),()):=by
 obtain⟨h,hlen⟩:=hl;show xO Am.pre Am.F Cu.pre Cu.F qR (Wd l) n=_;unfold xO;have p0:=EH l hlen;have hm:∀x∈An l,x<2^64:=fun x hx=>h x (W2 hx);have hle:=(DN l).1;have hw:=aXu (An l) hm (by omega) n hn 0 (dp _) rfl;rw[LL (by decide) h]at hw;simp only[Dx p0,Du p0,cond_true,Az];rw[show((0:Nat):Int)=0 from rfl]at hw;rw[hw];by_cases h0:nv (2^64) l=0
 ·rw[if_pos h0,h0,ly];rfl
 ·rw[if_neg h0]
def O3(v n:Nat):Nat:=if v%2^n=0 then v/2^n else v/2^n/2*2+1
theorem aQf(w:Nat):w ||| 1=w/2*2+1:=by
 apply mi;intro i;rw[Nat.testBit_or];cases i with
 |zero=>simp[Nat.testBit_zero]
 |succ i=>
  rw[lh,lh,lh,show(w/2*2+1)/2=w/2 by omega,show 1/2=0 by rfl];simp
theorem aWw(l:List Nat)(hl:Ws l)(n:Nat)(hn:n<=100000000):XC (Wd l,(n:Int),())=some (Dw (O3 (nv (2^64) l) n),0,()):=by
 show xJ Tz.pre Tz.F CP.pre CP.F TI.pre TI.F (Wd l) n=_;unfold xJ;have p0:=aWb l hl n hn;have p1:=aWz l hl n (by omega);simp only[aEu,cond_false,bCZ p0,aZ8 p0,bDd p1,bAm p1,cond_true,Az];unfold O3;by_cases h0:nv (2^64) l%2^n=0
 ·rw[if_pos h0,decide_eq_true h0];rfl
 ·rw[if_neg h0,decide_eq_false h0];generalize nv (2^64) l/2^n=q;rcases br q with rfl|hq
  ·have e:Dw (0/2*2+1)=[1]:=by
    show Wd (dg (2^64) 1)=[1]
    rw[EC (by decide) (by decide),DJ];rfl
   rw[e,DJ];rfl
  ·have hB:2<=2^64:=by decide
   have e:Dw (q/2*2+1)=Wd ((q%2^64/2*2+1)::dg (2^64) (q/2^64)):=by
    show Wd (dg (2^64) (q/2*2+1))=_;rw[EC hB (by omega)];have e1:(q/2*2+1)%2^64=q%2^64/2*2+1:=by omega
    have e2:(q/2*2+1)/2^64=q/2^64:=by omega
    rw[e1,e2]
   have e2:Ak .u64 ((q%2^64:Nat):Int) 1=((q%2^64/2*2+1:Nat):Int):=by
    have:=kT (a:=q%2^64) (b:=1) (by omega) (by decide);rw[aQf]at this;exact this
   rw[e,EC hB hq];simp(disch:=omega) only[Ba,AY,Bb,AV,AJ,Be,AX,AW,A7,A6,A5,A4,A2,A1,A9,A8,A3,AU,AF,AR,AG,AL,AT,ab,ap,cond_true,cond_false,ax,az,bf,ak,ar,bb,au,ba,av,bd,bc,bg,dh,BN,oo,e2,Dt,jt]
theorem aWk(l:List Nat)(hl:Ws l)(n:Nat)(hn:n<=100000000):Uy (Wd l,(n:Int),())=some (Dw (nv (2^64) l/2^n),0,()):=by
 show wV CP.pre CP.F (Wd l) n=_;unfold wV;have p0:=aHI l hl n hn;simp only[aEu,cond_false,aQA p0,aOp p0,cond_true];rfl
end VL
namespace VL
open Go Vx
theorem jX{l:List Nat}{i j v:Nat}(h:i≠j):(l.set i v).getD j 0=l.getD j 0:=by
 rw[al,al,List.getElem?_set_ne h]
theorem bBh{out:List Nat}{K V k s x:Nat}(hs:s<64)(ho:out=pd (2^64) K V)(hk:k+1<K)(hV:V<2^(64*k+s))(hx:x<2^64):
  (out.getD k 0<2^s)/\(out.getD k 0+x%2^(64-s)*2^s<2^64)/\((out.set k (out.getD k 0+x%2^(64-s)*2^s)).set (k+1) (x/2^(64-s))=pd (2^64) K (V+2^(64*k+s)*x)):=by
 have hB:0<2^64:=by decide
 have hps:=af s;have hpk:=af (64*k);have hlen:out.length=K:=by rw[ho,Dp]
 have hc:out.getD k 0=V/(2^64)^k%2^64:=by rw[ho,aE3 _ _ _ _ (by omega)]
 have hc2:V/(2^64)^k<2^s:=by
  rw[DL,bv hpk,be,←bi];exact hV
 have hc1:out.getD (k+1) 0=0:=by
  rw[ho,aE3 _ _ _ _ hk,DL];have:V<2^(64*(k+1)):=ao hV (ai (by decide) (by omega));rw[cg this]
 have h64:2^64=2^(64-s)*2^s:=by rw[←bi];congr 1;omega
 have hs64:2^s<=2^64:=ai (by decide) (by omega);have hce:V/(2^64)^k%2^64=V/(2^64)^k:=bo (by omega);have hcl:out.getD k 0<2^s:=by rw[hc,hce];exact hc2
 have hp1:=af (64-s);have hm:x%2^(64-s)+1<=2^(64-s):=ca _ hp1;have hm2:=aw (2^s) hm;rw[←h64,ce,fx]at hm2;have hsum:out.getD k 0+x%2^(64-s)*2^s<2^64:=by omega
 refine⟨hcl,hsum,?_⟩;have hall:∀y∈out,y<2^64:=by rw[ho];exact HK hB _ _
 have hxd:x/2^(64-s)<2^64:=bl (ee _ _) hx;refine U7 hB (vU (vU hall hsum) hxd) (by simp[hlen]) ?_;have g1:=ZW (2^64) out k (out.getD k 0+x%2^(64-s)*2^s) (by omega);have g2:=ZW (2^64) (out.set k (out.getD k 0+x%2^(64-s)*2^s)) (k+1) (x/2^(64-s)) (by rw[iy];omega);rw[jX (by omega),hc1,dz,cu]at g2;have hVK:V<(2^64)^K:=by
  rw[DL];exact ao hV (ai (by decide) (by omega))
 have hnv:nv (2^64) out=V:=by rw[ho,HL hB _ _ hVK]
 rw[hnv,bw]at g1;rw[g2];have hx2:2^(64*k+s)*x=(2^64)^k*(x%2^(64-s)*2^s)+(2^64)^(k+1)*(x/2^(64-s)):=by
  have hdm:=cp x (2^(64-s));generalize x/2^(64-s)=q at *
  generalize x%2^(64-s)=r at *
  rw[bi 2 (64*k) s,←DL,show(2^64)^(k+1)=(2^64)^k*2^64 from dj _ _,bh ((2^64)^k),bh ((2^64)^k),←bw,←hdm];congr 1;rw[bw,be r,iq];congr 1;rw[←bh,be (2^s),←h64]
 omega
theorem aXw(a:List Nat)(ha:∀x∈a,x<2^64)(hlen:a.length<=1000000)(w s:Nat)(hs:s<64)(hw:w<=10000000)(i:Nat)(hi:i<=a.length):
  qT (((a.length:Int),(Wd a,((w:Int),((s:Int),((i:Int),((),())))))),(Wd (pd (2^64) (w+a.length+1) (2^(64*w+s)*nv (2^64) (a.take i))),()))=some (.inl (((),()),(Wd (pd (2^64) (w+a.length+1) (2^(64*w+s)*nv (2^64) a)),()))):=by
 have key:=CW (aPz Am.pre Am.F) (fun x=>a.length-x.1.2.2.2.2.1.toNat)
  (fun x=>∃i:Nat,i<=a.length/\x=(((a.length:Int),(Wd a,((w:Int),((s:Int),((i:Int),((),())))))),(Wd (pd (2^64) (w+a.length+1) (2^(64*w+s)*nv (2^64) (a.take i))),())))
  (fun _=>.inl (((),()),(Wd (pd (2^64) (w+a.length+1) (2^(64*w+s)*nv (2^64) a)),()))) ?_ _ ⟨i,hi,rfl⟩
 ·exact key
 intro L x hx hL;obtain⟨i,hi,rfl⟩:=hx;unfold Y0;rcases ay i a.length with hlt|hge
 ·have hxl:=B3 (by decide) ha i;have ht:=CX (B:=2^64) (by decide) (a.take i) fun x hx=>ha x (fh hx);rw[ig,gn (by omega),DL]at ht;have hV:2^(64*w+s)*nv (2^64) (a.take i)<2^(64*(w+i)+s):=by
   have e:64*(w+i)+s=(64*w+s)+64*i:=by omega
   rw[e,bi _ (64*w+s)];exact mu ht (af _)
  have hnext:=aEW (2^64) a i hlt;have hgo:=hL (((a.length:Int),(Wd a,((w:Int),((s:Int),(((i+1:Nat):Int),((),())))))),(Wd (pd (2^64) (w+a.length+1) (2^(64*w+s)*nv (2^64) (a.take (i+1)))),())) ⟨i+1,by omega,rfl⟩ (by simp only[ab];omega);rw[hnext,bw,←bh,show 2^(64*w+s)*(2^64)^i=2^(64*(w+i)+s) by rw[DL,←bi];congr 1;omega]at hgo;generalize hout:pd (2^64) (w+a.length+1) (2^(64*w+s)*nv (2^64) (a.take i))=out at *
  obtain⟨q1,q2,q3⟩:=bBh (k:=w+i) hs hout.symm (by omega) hV hxl;have hol:out.length=w+a.length+1:=by rw[←hout,Dp]
  have g1:a.getD i 0*2^s%2^64=(a.getD i 0%2^(64-s))*2^s:=by
   have:2^64=2^(64-s)*2^s:=by rw[←bi];congr 1;omega
   rw[this,fm]
  have e8:aa .i64 (64-(s:Int))=((64-s:Nat):Int):=EN 64 s (by omega) (by omega);simp(disch:=omega) only[Ba,AY,Bb,AV,AJ,Be,AX,AW,A7,A6,A5,A4,A2,A1,A9,A8,A3,AU,AF,AR,AG,AL,AT,ab,ap,cond_true,cond_false,ax,az,bf,ak,ar,bb,au,ba,av,bd,bc,bg,Az,BN,e8,HP _ s (by omega),DM _ (64-s) (by omega),g1,O8 q1 q2,Dt,iy,q3];exact hgo
 ·have e:i=a.length:=by omega
  subst e;rw[dq];simp(disch:=omega) only[Ba,AY,Bb,AV,AJ,Be,AX,AW,A7,A6,A5,A4,A2,A1,A9,A8,A3,AU,AF,AR,AG,AL,AT,ab,ap,cond_true,cond_false,ax,az,bf,ak,ar,bb,au,ba,av,bd,bc,bg]
theorem aBm(l:List Nat)(hl:Ws l)(n:Nat)(hn:n/64+(An l).length+1<=1000000):VI (Wd l,(n:Int),())=some (Dw (nv (2^64) l*2^n),()):=by
 obtain⟨h,hlen⟩:=hl;show xQ Am.pre Am.F qT (Wd l) n=_;unfold xQ;have hB:2<=2^64:=by decide
 have p0:=EH l hlen;have hm:∀x∈An l,x<2^64:=fun x hx=>h x (W2 hx);have hle:=(DN l).1;have hv:=LL hB h;simp only[Dx p0,Du p0,cond_true,Az];rcases br (An l).length with h0|h0
 ·rw[h0,aTk h h0,ej];unfold Dw;rw[DJ];rfl
 ·have e4:gm (n:Int) 64=((n%64:Nat):Int):=rfl;have e3:decide (((n/64+(An l).length+1:Nat):Int)*8<=140737488355328)=true:=decide_eq_true (by omega);have hw:=aXw (An l) hm (by omega) (n/64) (n%64) (ca _ (by decide)) (by omega) 0 (dp _);rw[show nv (2^64) ((An l).take 0)=0 by rfl,dz,aQm,show 64*(n/64)+n%64=n by omega,show((0:Nat):Int)=0 from rfl]at hw;simp(disch:=omega) only[Ba,AY,Bb,AV,AJ,Be,AX,AW,A7,A6,A5,A4,A2,A1,A9,A8,A3,AU,AF,AR,AG,AL,AT,ab,ap,cond_true,cond_false,ax,az,bf,ak,ar,bb,au,ba,av,bd,bc,bg,aFr n (by omega),e4,e3,NT,hw];have hV:2^n*nv (2^64) (An l)<(2^64)^(n/64+(An l).length+1):=by
   have:=CX hB (An l) hm;rw[DL]at this⊢;have h1:2^n*nv (2^64) (An l)<2^n*2^(64*(An l).length):=mu this (af _);rw[←bi]at h1;exact ao h1 (ai (by decide) (by omega))
  have p1:=EH (pd (2^64) (n/64+(An l).length+1) (2^n*nv (2^64) (An l))) (by rw[Dp];omega);rw[Ga hB _ (HK (by decide) _ _),HL (by decide) _ _ hV,hv,be (2^n)]at p1;rw[hv,be (2^n)];generalize pd (2^64) (n/64+(An l).length+1) (nv (2^64) l*2^n)=out at *
  show(bif Am.pre (Wd out,())then some (Am.F (Wd out,()))else none)=_;rw[Dx p1,Du p1];rfl
theorem aXv(ls:List (List Nat))(hls:∀l∈ls,l.length<=1000000)(hn:ls.length<=1000000)(i:Nat)(hi:i<=ls.length)(hz:∀l∈ls.take i,(An l).length<=1024):
  qS (((ls.length:Int),(ls.map Wd,((i:Int),()))),())=some (if(∀l∈ls,(An l).length<=1024)then .inl ((),())else .inr ((true,()),())):=by
 have key:=CW (aPy Am.pre Am.F) (fun x=>ls.length-x.1.2.2.1.toNat)
  (fun x=>∃i:Nat,i<=ls.length/\(∀l∈ls.take i,(An l).length<=1024)/\x=(((ls.length:Int),(ls.map Wd,((i:Int),()))),()))
  (fun _=>if(∀l∈ls,(An l).length<=1024)then .inl ((),())else .inr ((true,()),())) ?_ _ ⟨i,hi,hz,rfl⟩
 ·exact key
 intro L x hx hL;obtain⟨i,hi,hz,rfl⟩:=hx;unfold YZ;rcases ay i ls.length with hlt|hge
 ·have eg:(ls.map Wd).getD i []=Wd (ls[i]):=by
   rw[al,kz,bq hlt];rfl
  have hil:ls[i]∈ls:=List.getElem_mem hlt;have p0:=EH ls[i] (hls _ hil);simp(disch:=omega) only[Ba,AY,Bb,AV,AJ,Be,AX,AW,A7,A6,A5,A4,A2,A1,A9,A8,A3,AU,AF,AR,AG,AL,AT,ab,ap,cond_true,cond_false,ax,az,bf,ak,ar,bb,au,ba,av,bd,bc,bg,jy,eg,Dx p0,Du p0,Az];rcases ay 1024 (An ls[i]).length with hg|hg
  ·have e:decide (((An ls[i]).length:Int)>1024)=true:=decide_eq_true (by omega);have hnot:¬∀l∈ls,(An l).length<=1024:=fun hh=>by have:=hh _ hil;omega
   rw[e,cond_true,if_neg hnot]
  ·have e:decide (((An ls[i]).length:Int)>1024)=false:=decide_eq_false (by omega);rw[e,cond_false];refine hL _ ⟨i+1,by omega,?_,rfl⟩ (by simp only[ab];omega);intro l hl;rw[qk,bq hlt]at hl;rcases cy.1 hl with hl|hl
   ·exact hz l hl
   ·have:l=ls[i]:=by simpa using hl
    rw[this];exact hg
 ·have e:i=ls.length:=by omega
  subst e;rw[dq]at hz;simp(disch:=omega) only[Ba,AY,Bb,AV,AJ,Be,AX,AW,A7,A6,A5,A4,A2,A1,A9,A8,A3,AU,AF,AR,AG,AL,AT,ab,ap,cond_true,cond_false,ax,az,bf,ak,ar,bb,au,ba,av,bd,bc,bg,if_pos hz]
theorem aHN(ls:List (List Nat))(hls:∀l∈ls,l.length<=1000000)(hn:ls.length<=1000000):
  Uz (ls.map Wd,())=some (!decide (∀l∈ls,(An l).length<=1024),()):=by
 show xP Am.pre Am.F qS (ls.map Wd)=_;unfold xP;have hw:=aXv ls hls hn 0 (dp _) (fun l hl=>by simp at hl);rw[show((0:Nat):Int)=0 from rfl]at hw;rw[jy,hw];by_cases h:∀l∈ls,(An l).length<=1024
 ·rw[if_pos h,decide_eq_true h];rfl
 ·rw[if_neg h,decide_eq_false h];rfl
theorem aHO(l:List Nat)(hl:l.length<=1000000):Uz ((Wd l::[]),())=some (!decide ((An l).length<=1024),()):=by
 have:=aHN [l] (by simp;exact hl) (by simp);rw[show[l].map Wd=Wd l::[]from rfl]at this;rw[this];simp
theorem aHL(l:List Nat)(hl:Ws l)(n:Nat)(hn:n<=65536)(hv:nv (2^64) l*2^n<(2^64)^1024):VG (Wd l,(n:Int),())=some (Dw (nv (2^64) l*2^n),0,()):=by
 show xK DE.pre DE.F EY.pre EY.F (Wd l) n=_;unfold xK;have p0:=aHO l hl.2;have hB:2<=2^64:=by decide
 have h1:=Ea hB 1024 _ hv;have h0:(An l).length<=1024:=by
  rw[Ga hB _ hl.1];apply Ea hB;exact bl (Nat.le_mul_of_pos_right _ (af _)) hv
 have p1:=aBm l hl n (by omega);have p2:=aHO (dg (2^64) (nv (2^64) l*2^n)) (by omega);rw[OP hB]at p2;rw[decide_eq_true h0]at p0;rw[decide_eq_true h1]at p2;have e2:decide ((n:Int)>65536)=false:=decide_eq_false (by omega);simp only[aEu,e2,ba,cond_false,aFb p0,aEd p0,cond_true,bb,aFc p1,aEe p1];unfold Dw;simp only[aFb p2,aEd p2,cond_true,bb,cond_false]
end VL
namespace VL
open Go Vx
theorem Da(B:Nat)(l:List Nat)(i:Nat):nv B (l.take (i+1))=nv B (l.take i)+B^i*l.getD i 0:=by
 rcases ay i l.length with h|h
 ·exact aEW B l i h
 ·rw[cm (by omega),cm h,al,df h];simp
def Cr(a b:List Nat)(i:Nat):Nat:=nv (2^64) (a.take i)+nv (2^64) (b.take i)
def Ee(a b:List Nat)(i:Nat):List Nat:=pd (2^64) i (Cr a b i%(2^64)^i)++(a++[0]).drop i
theorem kR{l:List Nat}(h:∀x∈l,x<2^64)(i:Nat):nv (2^64) (l.take i)<(2^64)^i:=by
 have:=CX (B:=2^64) (by decide) (l.take i) fun x hx=>h x (fh hx);refine ao this (ai (by decide) ?_);rw[ig];exact Nat.min_le_left _ _
theorem aNg{a b:List Nat}(ha:∀x∈a,x<2^64)(hb:∀x∈b,x<2^64)(i:Nat):Cr a b i/(2^64)^i<=1:=by
 have h1:=kR ha i;have h2:=kR hb i;have hp:0<(2^64)^i:=gw (by decide);unfold Cr;have:(nv (2^64) (a.take i)+nv (2^64) (b.take i))/(2^64)^i<2:=by
  rw[bv hp];omega
 omega
theorem aRA(a b:List Nat)(i:Nat):Cr a b (i+1)=Cr a b i%(2^64)^i+(2^64)^i*(a.getD i 0+b.getD i 0+Cr a b i/(2^64)^i):=by
 have hdm:=cp (Cr a b i) ((2^64)^i);have h1:Cr a b (i+1)=Cr a b i+(2^64)^i*(a.getD i 0+b.getD i 0):=by
  unfold Cr;rw[Da,Da,bw];omega
 rw[h1,bw ((2^64)^i) (a.getD i 0+b.getD i 0)];omega
theorem bJq(a b:List Nat)(i:Nat):Cr a b (i+1)/(2^64)^(i+1)=(a.getD i 0+b.getD i 0+Cr a b i/(2^64)^i)/2^64:=by
 have hp:0<(2^64)^i:=gw (by decide);rw[aRA,dj (2^64) i,←dk,dx _ _ hp,cg (ca _ hp),cz]
theorem bJr(a b:List Nat)(i:Nat):Cr a b (i+1)%(2^64)^(i+1)=Cr a b i%(2^64)^i+(2^64)^i*((a.getD i 0+b.getD i 0+Cr a b i/(2^64)^i)%2^64):=by
 have hp:0<(2^64)^i:=gw (by decide);rw[aRA a b i,dj (2^64) i,ms,fu,qy,dx _ _ hp,cg (ca _ hp),cz]
theorem aQl{k r v:Nat}(hr:r<(2^64)^k)(hv:v<2^64):pd (2^64) k r++[v]=pd (2^64) (k+1) (r+(2^64)^k*v):=by
 refine U7 (by decide) ?_ (by simp[Dp]) ?_
 ·intro x hx;rcases cy.1 hx with hx|hx
  ·exact HK (by decide) _ _ x hx
  ·have:x=v:=by simpa using hx
   rw[this];exact hv
 ·rw[U6,Dp,HL (by decide) _ _ hr];simp[nv]
theorem bCM(a b:List Nat)(i:Nat)(hi:i<a.length):(Ee a b i).set i ((a.getD i 0+b.getD i 0+Cr a b i/(2^64)^i)%2^64)=Ee a b (i+1):=by
 have hp:0<(2^64)^i:=gw (by decide);unfold Ee;rw[bJr,←aQl (ca _ hp) (ca _ (by decide)),gd _ _ (by rw[Dp];exact bu _),Dp,gy,
  fd (l:=a++[0]) (i:=i) (by simp;omega),jt,List.append_assoc]
 rfl
theorem aQi(a b:List Nat)(i:Nat)(hi:i<=a.length):(Ee a b i).length=a.length+1:=by
 unfold Ee;rw[List.length_append,Dp];simp;omega
theorem aXm(a b:List Nat)(ha:∀x∈a,x<2^64)(hb:∀x∈b,x<2^64)(hlen:a.length<=1000000)(i:Nat)(hi:i<=a.length):
  gI (((a.length:Int),(Wd b,((i:Int),(Wd a,(((Cr a b i/(2^64)^i:Nat):Int),((),())))))),(Wd (Ee a b i),()))=some (.inl ((Wd a,(((Cr a b a.length/(2^64)^a.length:Nat):Int),((),()))),(Wd (Ee a b a.length),()))):=by
 have key:=CW (aPp AC.pre AC.F Am.pre Am.F) (fun x=>a.length-x.1.2.2.1.toNat)
  (fun x=>∃i:Nat,i<=a.length/\x=(((a.length:Int),(Wd b,((i:Int),(Wd a,(((Cr a b i/(2^64)^i:Nat):Int),((),())))))),(Wd (Ee a b i),())))
  (fun _=>.inl ((Wd a,(((Cr a b a.length/(2^64)^a.length:Nat):Int),((),()))),(Wd (Ee a b a.length),()))) ?_ _ ⟨i,hi,rfl⟩
 ·exact key
 intro L x hx hL;obtain⟨i,hi,rfl⟩:=hx;unfold YQ;rcases ay i a.length with hlt|hge
 ·have hc:=aNg ha hb i;have hol:=aQi a b i hi;have hset:=bCM a b i hlt;have hgo:=hL (((a.length:Int),(Wd b,(((i+1:Nat):Int),(Wd a,(((Cr a b (i+1)/(2^64)^(i+1):Nat):Int),((),())))))),(Wd (Ee a b (i+1)),())) ⟨i+1,by omega,rfl⟩ (by simp only[ab];omega);rw[bJq,←hset]at hgo;have hF:∀x y c:Nat,AC.F ((x:Int),((y:Int),((c:Int),())))=(((((x+y+c)%2^64:Nat):Int)),((((x+y+c)/2^64:Nat):Int)),()):=fun x y c=>rfl;have hP:∀(x y:Int) (c:Nat),c<=1->AC.pre (x,(y,((c:Int),())))=true:=fun x y c h=>by
   show(decide ((0:Int)<=(c:Int))&&decide ((c:Int)<=1))=true;rw[decide_eq_true (by omega),decide_eq_true (by omega)];rfl
  generalize Cr a b i/(2^64)^i=c at *
  generalize Ee a b i=out at *
  rcases ay i b.length with hbl|hbl
  ·simp(disch:=omega) only[Ba,AY,Bb,AV,AJ,Be,AX,AW,A7,A6,A5,A4,A2,A1,A9,A8,A3,AU,AF,AR,AG,AL,AT,ab,ap,cond_true,cond_false,ax,az,bf,ak,ar,bb,au,ba,av,bd,bc,bg,Az,BN,hP _ _ c hc,hF,Dt];exact hgo
  ·have hbz:b.getD i 0=0:=by rw[al,df hbl];rfl
   have hF0:AC.F (((a.getD i 0:Nat):Int),((0:Int),((c:Int),())))=((((a.getD i 0+b.getD i 0+c)%2^64:Nat):Int),(((a.getD i 0+b.getD i 0+c)/2^64:Nat):Int),()):=by rw[hbz];rfl
   simp(disch:=omega) only[Ba,AY,Bb,AV,AJ,Be,AX,AW,A7,A6,A5,A4,A2,A1,A9,A8,A3,AU,AF,AR,AG,AL,AT,ab,ap,cond_true,cond_false,ax,az,bf,ak,ar,bb,au,ba,av,bd,bc,bg,Az,BN,hP _ _ c hc,hF0,Dt];exact hgo
 ·have e:i=a.length:=by omega
  subst e;simp(disch:=omega) only[Ba,AY,Bb,AV,AJ,Be,AX,AW,A7,A6,A5,A4,A2,A1,A9,A8,A3,AU,AF,AR,AG,AL,AT,ab,ap,cond_true,cond_false,ax,az,bf,ak,ar,bb,au,ba,av,bd,bc,bg]
theorem bJo(a b:List Nat)(ha:∀x∈a,x<2^64)(hb:∀x∈b,x<2^64)(hab:b.length<=a.length):
  (Ee a b a.length).set a.length (Cr a b a.length/(2^64)^a.length)=pd (2^64) (a.length+1) (nv (2^64) a+nv (2^64) b)/\nv (2^64) a+nv (2^64) b<(2^64)^(a.length+1):=by
 have hp:0<(2^64)^a.length:=gw (by decide);have hc:=aNg ha hb a.length;have hs:Cr a b a.length=nv (2^64) a+nv (2^64) b:=by
  unfold Cr;rw[dq,cm hab]
 have hdm:=cp (Cr a b a.length) ((2^64)^a.length);refine⟨?_,?_⟩
 ·have hd:(a++[0]).drop a.length=[0]:=by simp
  unfold Ee;rw[hd,gd _ _ (by rw[Dp];exact bu _),Dp,gy,jt,aQl (ca _ hp) (by omega),iq (Cr a b a.length%(2^64)^a.length),hdm,hs]
 ·rw[←hs];have h1:=kR ha a.length;have h2:=kR hb a.length;unfold Cr;rw[dj (2^64) a.length];omega
theorem aYF{a:List Nat}:kv (aq (a.length+1) (0:Int)).length (Wd a)++qr a.length (aq (a.length+1) (0:Int))=Wd (Ee a ([]:List Nat) 0):=by
 rw[gg,lj,jg,cm (by rw[Az];omega)];unfold Ee;simp[Wd,pd]
theorem bCN(a b c:List Nat):Ee a b 0=Ee a c 0:=by unfold Ee;simp[pd]
theorem aMI(a b:List Nat)(ha:∀x∈a,x<2^64)(hb:∀x∈b,x<2^64)(hlen:a.length+1<=1000000)(hab:b.length<=a.length):
  (bif decide (0<=aa .i64 ((a.length:Int)+1))&&decide (aa .i64 ((a.length:Int)+1)*8<=140737488355328)then
   Bi (gI (((a.length:Int),(Wd b,((0:Int),(Wd a,((0:Int),((),())))))),(kv (aq (ag (aa .i64 ((a.length:Int)+1))) (0:Int)).length (Wd a)++qr a.length (aq (ag (aa .i64 ((a.length:Int)+1))) (0:Int)),()))) fun y4=>
    Bg y4 (fun y5=>bif decide (0<=((y5.1.1.length:Nat):Int))&&decide (((y5.1.1.length:Nat):Int)<((y5.2.1.length:Nat):Int))then
     (bif Am.pre ((y5.2.1.set (ag ((y5.1.1.length:Nat):Int)) y5.1.2.1),())then some (Am.F ((y5.2.1.set (ag ((y5.1.1.length:Nat):Int)) y5.1.2.1),()))else none)else none) fun _=>none
  else none:Option (DenS Ha))=some (Dw (nv (2^64) a+nv (2^64) b),()):=by
 have hw:=aXm a b ha hb (by omega) 0 (dp _)
 have h0:Cr a b 0/(2^64)^0=0:=by unfold Cr;simp[nv]
 rw[h0,show((0:Nat):Int)=0 from rfl,bCN a b [],←aYF]at hw
 have e3:decide (((a.length+1:Nat):Int)*8<=140737488355328)=true:=decide_eq_true (by omega)
 rw[AY _ (by omega),e3,AF,ab,hw]
 obtain⟨g1,g2⟩:=bJo a b ha hb hab
 have hol:=aQi a b a.length (bu _)
 have p1:=EH (pd (2^64) (a.length+1) (nv (2^64) a+nv (2^64) b)) (by rw[Dp];exact hlen)
 rw[Ga (by decide) _ (HK (by decide) _ _),HL (by decide) _ _ g2,←g1,←Dt]at p1
 generalize Cr a b a.length/(2^64)^a.length=c at *
 generalize Ee a b a.length=out at *
 show(bif decide (0<=(((Wd a).length:Nat):Int))&&decide ((((Wd a).length:Nat):Int)<(((Wd out).length:Nat):Int))then
     (bif Am.pre ((Wd out).set (Wd a).length (c:Int),())then some (Am.F ((Wd out).set (Wd a).length (c:Int),()))else none)else none)=_
 simp(disch:=omega) only[Ba,AY,Bb,AV,AJ,Be,AX,AW,A7,A6,A5,A4,A2,A1,A9,A8,A3,AU,AF,AR,AG,AL,AT,ab,ap,cond_true,cond_false,ax,az,bf,ak,ar,bb,au,ba,av,bd,bc,bg,Az,Dx p1,Du p1]
 rfl
theorem aHD(l m:List Nat)(hl:Ws l)(hm:Ws m)(hl2:(An l).length<1000000)(hm2:(An m).length<1000000):VC (Wd l,Wd m,())=some (Dw (nv (2^64) l+nv (2^64) m),()):=by
 show wW AC.pre AC.F Am.pre Am.F gI (Wd l) (Wd m)=_;unfold wW;have p0:=EH l hl.2;have p1:=EH m hm.2;have h1:∀x∈An l,x<2^64:=fun x hx=>hl.1 x (W2 hx);have h2:∀x∈An m,x<2^64:=fun x hx=>hm.1 x (W2 hx);simp only[Dx p0,Du p0,Dx p1,Du p1,cond_true];rcases ay (An l).length (An m).length with h|h
 ·rw[Az,Az,AX _ _ h,cond_true];have:=aMI (An m) (An l) h2 h1 hm2 (by omega);rw[LL (by decide) hl.1,LL (by decide) hm.1,iq]at this;exact this
 ·rw[Az,Az,AW _ _ h,cond_false];have:=aMI (An l) (An m) h1 h2 hl2 (by omega);rw[LL (by decide) hl.1,LL (by decide) hm.1]at this;exact this
theorem aWm(l:List Nat)(hl:Ws l):cT (Wd l,())=some (Dw (nv (2^64) l),()):=by
 show wZ Am.pre Am.F (Wd l)=_;unfold wZ;have p0:=EH l hl.2;have hle:=(DN l).1;have h2:=hl.2;have e3:decide ((((An l).length:Nat):Int)*8<=140737488355328)=true:=decide_eq_true (by omega);simp(disch:=omega) only[Ba,AY,Bb,AV,AJ,Be,AX,AW,A7,A6,A5,A4,A2,A1,A9,A8,A3,AU,AF,AR,AG,AL,AT,ab,ap,cond_true,cond_false,ax,az,bf,ak,ar,bb,au,ba,av,bd,bc,bg,Dx p0,Du p0,Az,e3,gg,lj,gy];rw[cm (by rw[Az];exact bu _),iv,dl,Ga (by decide) l hl.1];rfl
theorem aHm(l:List Nat)(hl:Ws l):Xs (Wd l,())=some (Dw (nv (2^64) l),()):=by
 show v9 CO.pre CO.F (Wd l)=_;unfold v9;have p0:=aWm l hl;simp only[bC6 p0,bAf p0,cond_true]
end VL
namespace VL
open Go Vx
def Wi(n:Nat):Ab (.pair (.int .u64) (.pair (.int .u64) .unit)):=(((n/2^64:Nat):Int),(((n%2^64:Nat):Int),()))
theorem aJs(k:Nat)(h:0<k):decide ((k:Int)<=0)=false:=decide_eq_false (by omega)
theorem aYM{A q R P:Nat}(g1:A%2^64=R)(g2:q<P)(g4:R+P<=2^64):(A+q)%2^64=q+R:=by omega
theorem aYN{X Y r:Nat}(h:X%2^64=Y)(hr:r<2^64):(2^64*X+r)%2^128=2^64*Y+r:=by omega
theorem aYO{X h q R P:Nat}(e:X=2^64*h+R+q)(g2:q<P)(g4:R+P<=2^64):X/2^64=h/\X%2^64=q+R:=by omega
theorem aHx(n k:Nat)(hn:n<2^128):VB (Wi n,(k:Int),())=some (Wi (n*2^k%2^128),()):=by
 show wI (Wi n) k=_;unfold wI;rcases br k with rfl|hk
 ·have e:n*2^0%2^128=n:=by rw[gz,fy,bo hn]
  rw[e];rfl
 rw[aJs k hk,cond_false];rcases ay k 128 with h128|h128
 ·rw[show decide ((k:Int)>=128)=false from decide_eq_false (by omega),cond_false];have hlo:(n%2^64)<2^64:=ca _ (by decide);have hhi:n/2^64<2^64:=by omega
  have hsplit:n=2^64*(n/2^64)+n%2^64:=(cp n (2^64)).symm;rcases ay k 64 with h64|h64
  ·have e8:aa .i64 (64-(k:Int))=((64-k:Nat):Int):=EN 64 k (by omega) (by omega);rw[show decide ((k:Int)>=64)=false from decide_eq_false (by omega),cond_false,AF,cond_true,e8,AF,cond_true,cond_true];show some ((Ak .u64 (Bj .u64 ((n/2^64:Nat):Int) k) (AQ .u64 ((n%2^64:Nat):Int) ((64-k:Nat):Int)),(Bj .u64 ((n%2^64:Nat):Int) k,())),())=_;rw[HP _ k (by omega),HP _ k (by omega),DM _ (64-k) (by omega)];have hp:=af k;have hp2:=af (64-k);have h2:2^64=2^(64-k)*2^k:=by rw[←bi];congr 1;omega
   generalize n/2^64=hi at *
   generalize n%2^64=lo at *
   have g1:hi*2^k%2^64=(hi%2^(64-k))*2^k:=by rw[h2,fm]
   have g2:lo/2^(64-k)<2^k:=by rw[bv hp2,be,←h2];exact hlo
   have g3:hi%2^(64-k)+1<=2^(64-k):=ca _ hp2;have g4:=aw (2^k) g3;rw[←h2,ce,fx]at g4;have hor:Ak .u64 ((hi*2^k%2^64:Nat):Int) ((lo/2^(64-k):Nat):Int)=((lo/2^(64-k)+(hi%2^(64-k))*2^k:Nat):Int):=by
    have:=O8 g2 (b:=hi%2^(64-k)) (by omega);rw[g1];have hc:∀a b:Nat,a<2^64->b<2^64->Ak .u64 (a:Int) (b:Int)=Ak .u64 (b:Int) (a:Int):=fun a b ha hb=>by
     rw[kT ha hb,kT hb ha,qx]
    rw[hc _ _ (by omega) (by omega)];exact this
   rw[hor];have hdm:=cp lo (2^(64-k));have v1:n*2^k=2^64*(hi*2^k+lo/2^(64-k))+lo*2^k%2^64:=by
    have g5:lo*2^k%2^64=(lo%2^(64-k))*2^k:=by rw[h2,fm]
    have g6:2^64*(lo/2^(64-k))=2^(64-k)*(lo/2^(64-k))*2^k:=by
     rw[ju,←h2]
    rw[hsplit,ce,bw,bh,gu,g6,g5,←ce,hdm]
   have v2:n*2^k%2^128=2^64*(lo/2^(64-k)+(hi%2^(64-k))*2^k)+lo*2^k%2^64:=by
    rw[v1];have hlo2:lo*2^k%2^64<2^64:=ca _ (by decide);exact aYN (aYM g1 g2 g4) hlo2
   have hlo2:lo*2^k%2^64<2^64:=ca _ (by decide);have e1:n*2^k%2^128/2^64=lo/2^(64-k)+(hi%2^(64-k))*2^k:=by rw[v2];omega
   have e2:n*2^k%2^128%2^64=lo*2^k%2^64:=by rw[v2];omega
   unfold Wi;rw[e1,e2]
  ·have e8:aa .i64 ((k:Int)-64)=((k-64:Nat):Int):=EN k 64 (by omega) (by omega);rw[show decide ((k:Int)>=64)=true from decide_eq_true (by omega),cond_true,e8,AF,cond_true];show some ((Bj .u64 ((n%2^64:Nat):Int) ((k-64:Nat):Int),((0:Int),())),())=_;rw[HP _ (k-64) (by omega)];have v1:n*2^k%2^128=2^64*(n%2^64*2^(k-64)%2^64):=by
    have h2:2^k=2^(k-64)*2^64:=by rw[←bi];congr 1;omega
    rw[h2,←bh,show 2^128=2^64*2^64 by decide,fm,be _ (2^64),qz n (2^(k-64)),qz (n%2^64) (2^(k-64)),qy]
   have e1:n*2^k%2^128/2^64=n%2^64*2^(k-64)%2^64:=by rw[v1];omega
   have e2:n*2^k%2^128%2^64=0:=by rw[v1];omega
   unfold Wi;rw[e1,e2];rfl
 ·rw[show decide ((k:Int)>=128)=true from decide_eq_true (by omega),cond_true];have e:n*2^k%2^128=0:=by
   rw[show k=(k-128)+128 by omega,bi,←bh];exact Nat.mul_mod_left _ _
  rw[e];rfl
theorem aWc(n k:Nat)(hn:n<2^128):Xt (Wi n,(k:Int),())=some (Wi (n/2^k),()):=by
 show wJ (Wi n) k=_;unfold wJ;rcases br k with rfl|hk
 ·have e:n/2^0=n:=by rw[gz,Nat.div_one]
  rw[e];rfl
 rw[aJs k hk,cond_false];rcases ay k 128 with h128|h128
 ·rw[show decide ((k:Int)>=128)=false from decide_eq_false (by omega),cond_false];have hlo:(n%2^64)<2^64:=ca _ (by decide);have hhi:n/2^64<2^64:=by omega
  rcases ay k 64 with h64|h64
  ·have e8:aa .i64 (64-(k:Int))=((64-k:Nat):Int):=EN 64 k (by omega) (by omega);rw[show decide ((k:Int)>=64)=false from decide_eq_false (by omega),cond_false,AF,cond_true,e8,AF,cond_true,cond_true];show some ((AQ .u64 ((n/2^64:Nat):Int) k,(Ak .u64 (AQ .u64 ((n%2^64:Nat):Int) k) (Bj .u64 ((n/2^64:Nat):Int) ((64-k:Nat):Int)),())),())=_;rw[HP _ (64-k) (by omega),DM _ k (by omega),DM _ k (by omega)];have hp:=af k;have hp2:=af (64-k);have h2:2^64=2^k*2^(64-k):=by rw[←bi];congr 1;omega
   have hsplit:n=2^64*(n/2^64)+n%2^64:=(cp n (2^64)).symm;generalize n/2^64=hi at *
   generalize n%2^64=lo at *
   have g1:hi*2^(64-k)%2^64=(hi%2^k)*2^(64-k):=by rw[h2,fm]
   have g2:lo/2^k<2^(64-k):=by rw[bv hp,be,←h2];exact hlo
   have g3:hi%2^k+1<=2^k:=ca _ hp;have g4:=aw (2^(64-k)) g3;rw[←h2,ce,fx]at g4;rw[g1,O8 g2 (by omega)];have v1:n/2^k=hi*2^(64-k)+lo/2^k:=by
    have:n=lo+2^k*(hi*2^(64-k)):=by rw[hsplit,h2,bh,be hi];omega
    rw[this,dx _ _ hp,iq]
   have hdm:=cp hi (2^k);have v2:hi*2^(64-k)=2^64*(hi/2^k)+(hi%2^k)*2^(64-k):=by
    rw[h2,ju,←ce,hdm]
   rw[v2]at v1;obtain⟨e1,e2⟩:=aYO v1 g2 g4;unfold Wi;rw[e1,e2]
  ·have e8:aa .i64 ((k:Int)-64)=((k-64:Nat):Int):=EN k 64 (by omega) (by omega);rw[show decide ((k:Int)>=64)=true from decide_eq_true (by omega),cond_true,e8,AF,cond_true];show some (((0:Int),(AQ .u64 ((n/2^64:Nat):Int) ((k-64:Nat):Int),())),())=_;rw[DM _ (k-64) (by omega)];have v1:n/2^k=n/2^64/2^(k-64):=by
    rw[dk,←bi];congr 2;omega
   have hs:n/2^k<2^64:=by
    rw[v1];exact bl (ee _ _) hhi
   have e1:n/2^k/2^64=0:=cg hs;have e2:n/2^k%2^64=n/2^64/2^(k-64):=by rw[←v1];exact bo hs
   unfold Wi;rw[e1,e2];rfl
 ·rw[show decide ((k:Int)>=128)=true from decide_eq_true (by omega),cond_true];have e:n/2^k=0:=cg (ao hn (ai (by decide) h128));rw[e];rfl
theorem Yj(x y c:Nat):AC.F ((x:Int),((y:Int),((c:Int),())))=(((((x+y+c)%2^64:Nat):Int)),((((x+y+c)/2^64:Nat):Int)),()):=rfl
theorem Yk(x y:Int)(c:Nat)(h:c<=1):AC.pre (x,(y,((c:Int),())))=true:=by
 show(decide ((0:Int)<=(c:Int))&&decide ((c:Int)<=1))=true;rw[decide_eq_true (by omega),decide_eq_true (by omega)];rfl
theorem lR(x y c:Nat)(h:c<=1)(hx:x<2^64)(hy:y<2^64):BE.F ((x:Int),((y:Int),((c:Int),())))=(((((x+2^64-y-c)%2^64:Nat):Int)),((if x<y+c then 1 else 0:Nat):Int),()):=by
 show((((x:Int)-y-c)%18446744073709551616:Int),((if(x:Int)<y+c then 1 else 0:Int)),())=_;have e1:((x:Int)-y-c)%18446744073709551616=((x+2^64-y-c)%2^64:Nat):=by omega
 rw[e1];by_cases h:x<y+c
 ·rw[if_pos h,if_pos (by omega)];rfl
 ·rw[if_neg h,if_neg (by omega)];rfl
theorem lS(x y:Int)(c:Nat)(h:c<=1):BE.pre (x,(y,((c:Int),())))=true:=by
 show(decide ((0:Int)<=(c:Int))&&decide ((c:Int)<=1))=true;rw[decide_eq_true (by omega),decide_eq_true (by omega)];rfl
theorem aWd(n m:Nat)(h:n+m<2^128):cJ (Wi n,Wi m,())=some (Wi (n+m),0,()):=by
 show wK AC.pre AC.F (Wi n) (Wi m)=_;unfold wK;have c1:(n%2^64+m%2^64+0)/2^64<=1:=by omega
 have p1:AC.pre ((Wi n).2.1,((Wi m).2.1,((0:Int),())))=true:=Yk _ _ 0 (by decide);have q1:AC.F ((Wi n).2.1,((Wi m).2.1,((0:Int),())))=_:=Yj (n%2^64) (m%2^64) 0;rw[p1,q1,cond_true];have p2:AC.pre ((Wi n).1,((Wi m).1,((((n%2^64+m%2^64+0)/2^64:Nat):Int),())))=true:=Yk _ _ _ c1;have q2:AC.F ((Wi n).1,((Wi m).1,((((n%2^64+m%2^64+0)/2^64:Nat):Int),())))=_:=Yj (n/2^64) (m/2^64) ((n%2^64+m%2^64+0)/2^64);dsimp only;rw[p2,q2,cond_true];have e1:(n/2^64+m/2^64+(n%2^64+m%2^64+0)/2^64)%2^64=(n+m)/2^64:=by omega
 have e2:(n%2^64+m%2^64+0)%2^64=(n+m)%2^64:=by omega
 have e3:(n/2^64+m/2^64+(n%2^64+m%2^64+0)/2^64)/2^64=0:=by omega
 rw[e1,e2,e3];rfl
theorem aBh(n m:Nat)(hn:n<2^128)(h:m<=n):cN (Wi n,Wi m,())=some (Wi (n-m),0,()):=by
 show wN BE.pre BE.F (Wi n) (Wi m)=_;unfold wN;have p1:BE.pre ((Wi n).2.1,((Wi m).2.1,((0:Int),())))=true:=lS _ _ 0 (by decide);have q1:BE.F ((Wi n).2.1,((Wi m).2.1,((0:Int),())))=_:=lR (n%2^64) (m%2^64) 0 (by decide) (by omega) (by omega);rw[p1,q1,cond_true];have c1:(if n%2^64<m%2^64+0 then 1 else 0)<=1:=by split<;>omega
 have p2:BE.pre ((Wi n).1,((Wi m).1,(((if n%2^64<m%2^64+0 then 1 else 0:Nat):Int),())))=true:=lS _ _ _ c1;have q2:BE.F ((Wi n).1,((Wi m).1,(((if n%2^64<m%2^64+0 then 1 else 0:Nat):Int),())))=_:=lR (n/2^64) (m/2^64) _ c1 (by omega) (by omega);dsimp only;rw[p2,q2,cond_true];have e2:(n%2^64+2^64-m%2^64-0)%2^64=(n-m)%2^64:=by omega
 rw[e2];by_cases hb:n%2^64<m%2^64+0
 ·rw[if_pos hb,if_neg (by omega)];have e1:(n/2^64+2^64-m/2^64-1)%2^64=(n-m)/2^64:=by omega
  rw[e1];rfl
 ·rw[if_neg hb,if_neg (by omega)];have e1:(n/2^64+2^64-m/2^64-0)%2^64=(n-m)/2^64:=by omega
  rw[e1];rfl
theorem aWe(n m:Nat):cM (Wi n,Wi m,())=some (if n=m then 0 else if n<m then -1 else 1,()):=by
 show wM (Wi n) (Wi m)=_;unfold wM;show(bif(((n/2^64:Nat):Int)==((m/2^64:Nat):Int)&&((n%2^64:Nat):Int)==((m%2^64:Nat):Int))then some ((0:Int),())
  else bif(decide (((n/2^64:Nat):Int)<((m/2^64:Nat):Int))||(((n/2^64:Nat):Int)==((m/2^64:Nat):Int)&&decide (((n%2^64:Nat):Int)<((m%2^64:Nat):Int))))then some ((-1:Int),())else some ((1:Int),()):Option (Int×Unit))=_
 rw[LG,LG,nlt,nlt];rcases fi n m with h|h|h
 ·have e1:(n/2^64==m/2^64&&n%2^64==m%2^64)=false:=by
   rw[md,beq_eq_false_iff_ne,beq_eq_false_iff_ne];omega
  have e2:(decide (n/2^64<m/2^64)||(n/2^64==m/2^64&&decide (n%2^64<m%2^64)))=true:=by
   rw[dv,ah,decide_eq_true_eq,decide_eq_true_eq,beq_iff_eq];omega
  rw[e1,e2,if_neg (by omega),if_pos h];rfl
 ·subst h;rw[if_pos rfl];simp
 ·have e1:(n/2^64==m/2^64&&n%2^64==m%2^64)=false:=by
   rw[md,beq_eq_false_iff_ne,beq_eq_false_iff_ne];omega
  have e2:(decide (n/2^64<m/2^64)||(n/2^64==m/2^64&&decide (n%2^64<m%2^64)))=false:=by
   rw[Bool.or_eq_false_iff,md,decide_eq_false_iff_not,decide_eq_false_iff_not,beq_eq_false_iff_ne];omega
  rw[e1,e2,if_neg (by omega),if_neg (by omega)];rfl
end VL
namespace VL
open Go Vx
def C9(m:Int)(neg odd:Bool)(rest:Nat):Bool:=if m=4 then neg else if m=3 then !neg else if m=0 then(if rest=2 then odd else decide (2<=rest))else if m=1 then decide (2<=rest)else if m=5 then !odd else false
theorem Wy(a b:Int)(h:a≠b):(a==b)=false:=by simp[h]
theorem XD(m:Int)(neg odd:Bool)(rest:Nat):VH (m,neg,odd,(rest:Int),())=some (C9 m neg odd rest,()):=by
 show xL m neg odd (rest:Int)=_;have e2:decide ((rest:Int)>=2)=decide (2<=rest):=by rw[fj,decide_eq_true_eq,decide_eq_true_eq];omega
 have e3:((rest:Int)==2)=decide (rest=2):=by rw[fj,decide_eq_true_eq,beq_iff_eq];omega
 unfold xL C9;rw[e2,e3];by_cases h4:m=4
 ·subst h4;cases neg<;>rfl
 rw[Wy m 4 h4,cond_false,if_neg h4];by_cases h3:m=3
 ·subst h3;rfl
 rw[Wy m 3 h3,cond_false,if_neg h3];by_cases h0:m=0
 ·subst h0;by_cases hr:rest=2
  ·subst hr;rfl
  ·rw[decide_eq_false hr,if_pos rfl,if_neg hr];rfl
 rw[Wy m 0 h0,cond_false,if_neg h0];by_cases h1:m=1
 ·subst h1;rfl
 rw[Wy m 1 h1,cond_false,if_neg h1];by_cases h5:m=5
 ·subst h5;rfl
 rw[Wy m 5 h5,cond_false,if_neg h5]
def GR(n:Nat)(e q:Int):Nat:=if q<=e then n*2^(e-q).toNat else n/2^(q-e).toNat
def B9(r s:Nat):Nat:=if r=0 then 0 else if r<2^(s-1)then 1 else if r=2^(s-1)then 2 else 3
def Vi(n:Nat)(e q:Int):Nat:=if q<=e then 0 else B9 (n%2^(q-e).toNat) (q-e).toNat
def j4(n:Nat)(e q:Int):Nat:=if 2<=q-e then O3 n (q-e-2).toNat else n*2^(2-(q-e)).toNat
theorem bBd(n:Nat)(e q:Int):j4 n e q/4=GR n e q/\j4 n e q%4=Vi n e q:=by
 unfold j4 GR Vi;by_cases h2:2<=q-e
 ·rw[if_pos h2,if_neg (by omega),if_neg (by omega)];have es:(q-e).toNat=(q-e-2).toNat+2:=by omega
  rw[es];generalize(q-e-2).toNat=s;have hp:=af s;have e1:2^(s+2)=2^s*4:=by rw[bi]
  have e2:2^(s+2-1)=2^s*2:=by rw[show s+2-1=s+1 by omega,dj]
  unfold O3 B9;rw[e2,e1,←dk,ms];have hr:=ca n hp;generalize n%2^s=r at *
  generalize n/2^s=u at *
  have h4:u%4=0∨u%4=1∨u%4=2∨u%4=3:=by omega
  constructor
  ·split<;>omega
  ·rcases h4 with h|h|h|h<;>rw[h]<;>by_cases hz:r=0
   ·rw[if_pos hz,if_pos (by omega)];exact h
   ·rw[if_neg hz,if_neg (by omega),if_pos (by omega)];omega
   ·rw[if_pos hz,if_neg (by omega),if_pos (by omega)];exact h
   ·rw[if_neg hz,if_neg (by omega),if_pos (by omega)];omega
   ·rw[if_pos hz,if_neg (by omega),if_neg (by omega),if_pos (by omega)];exact h
   ·rw[if_neg hz,if_neg (by omega),if_neg (by omega),if_neg (by omega)];omega
   ·rw[if_pos hz,if_neg (by omega),if_neg (by omega),if_neg (by omega)];exact h
   ·rw[if_neg hz,if_neg (by omega),if_neg (by omega),if_neg (by omega)];omega
 ·rw[if_neg h2];by_cases h1:q<=e
  ·rw[if_pos h1,if_pos h1,show(2-(q-e)).toNat=(e-q).toNat+2 by omega,bi,←bh];generalize n*2^(e-q).toNat=x;omega
  ·rw[if_neg h1,if_neg h1,show(2-(q-e)).toNat=1 by omega,show(q-e).toNat=1 by omega];unfold B9;rcases jm n with h|h
   ·rw[show n%2^1=0 from h,if_pos rfl];omega
   ·rw[show n%2^1=1 from h,if_neg (by omega),if_neg (by decide),if_pos (by decide)];omega
def Dj(n:Nat)(e q:Int)(more:Bool):Nat:=if more then Vi n e q/2*2+1 else Vi n e q
def BB(m:Int)(neg:Bool)(n:Nat)(e q:Int)(more:Bool):Nat:=if Dj n e q more≠0/\C9 m neg (decide (GR n e q%2=1)) (Dj n e q more)=true then GR n e q+1 else GR n e q
theorem Ff:Dw 0=[]:=by unfold Dw;rw[DJ];rfl
theorem nN{n:Nat}(h:n≠0):0<(Dw n).length:=by
 unfold Dw;rw[Az,EC (by decide) (by omega)];simp
theorem LZ{n:Nat}(h:n≠0):decide ((((Dw n).length:Nat):Int)>0)=true:=decide_eq_true (by have:=nN h;omega)
theorem Xe{n:Nat}(h:n≠0):decide ((0:Int)<(((Dw n).length:Nat):Int))=true:=decide_eq_true (by have:=nN h;omega)
theorem Pp(n:Nat):(Dw n).getD 0 0=((n%2^64:Nat):Int):=by
 unfold Dw;rw[BN];rcases br n with rfl|h
 ·rw[DJ];rfl
 ·rw[EC (by decide) h];rfl
theorem aTA:Dw 1=(1:Int)::[]:=by
 unfold Dw;rw[EC (by decide) (by decide),DJ];rfl
theorem Pq(n:Nat):(decide ((0:Int)<(((Dw n).length:Nat):Int))||!decide ((((Dw n).length:Nat):Int)>0))=true:=by
 by_cases h:0<(Dw n).length
 ·rw[decide_eq_true (by omega)];rfl
 ·rw[decide_eq_false (p:=(((Dw n).length:Nat):Int)>0) (by omega)];simp
theorem sU(n:Nat):BS .u64 ((n%2^64:Nat):Int) 3=((n%4:Nat):Int):=by
 have:=UK (m:=n%2^64) (n:=2) (ca _ (by decide)) (by decide);rw[show n%2^64%2^2=n%4 by omega]at this;exact this
theorem aYH(n:Nat):BS .u64 ((n%2^64:Nat):Int) 1=((n%2:Nat):Int):=by
 have:=UK (m:=n%2^64) (n:=1) (ca _ (by decide)) (by decide);rw[show n%2^64%2^1=n%2 by omega]at this;exact this
theorem or1(n:Nat)(h:n<2^64):Ak .u64 (n:Int) 1=((n/2*2+1:Nat):Int):=by
 have:=kT (a:=n) (b:=1) h (by decide);rw[aQf]at this;exact this
theorem aQd:Ak .u64 0 1=1:=by decide
theorem ZX(u:Nat):(decide ((((Dw u).length:Nat):Int)>0)&&(BS .u64 ((Dw u).getD 0 0) 1==1))=decide (u%2=1):=by
 rw[Pp,aYH];rcases br u with rfl|h
 ·rw[Ff];rfl
 ·rw[LZ (by omega),az,fj,decide_eq_true_eq,beq_iff_eq];omega
theorem D1{n:Nat}(h:n<(2^64)^5000):Ws (dg (2^64) n):=by
 have:=Ea (B:=2^64) (by decide) 5000 n h;exact aZu n (by omega)
theorem C1(n:Nat):nv (2^64) (dg (2^64) n)=n:=kQ (by decide) n
theorem aRv{j:Nat}(hj:Ws (dg (2^64) j)):Uy (Dw j,(2:Int),())=some (Dw (j/4),0,()):=by
 have:=aWk (dg (2^64) j) hj 2 (by decide);rw[C1]at this;exact this
theorem aMF{u:Nat}(hu:Ws (dg (2^64) u))(hl:(dg (2^64) u).length<1000000):VC (Dw u,((1:Int)::[]),())=some (Dw (u+1),()):=by
 have:=aHD (dg (2^64) u) [1] hu ⟨by simp,by simp⟩ (by rw[OP (by decide)];exact hl) (by simp[An]);rw[C1,show nv (2^64) [1]=1 by rfl]at this;exact this
end VL
namespace VL
open Go Vx
theorem uH:decide ((0:Int)>0)=false:=rfl
theorem aWp(m:Int)(neg:Bool)(n:Nat)(e q:Int)(more:Bool)(hn:n<(2^64)^2000)(hq:q-e<=10000000)(he:-1000000000<=e/\e<=1000000000)(hqb:-1000000000<=q/\q<=1000000000)
  (hs:q-e<2->2-(q-e)<=65536/\n*2^(2-(q-e)).toNat<(2^64)^1024) :
  Xw ((neg,Dw n,e,more,()),m,q,())=some (Dw (BB m neg n e q more),decide (Dj n e q more≠0),()):=by
 show w8 _ _ _ _ _ _ _ _ _ _ (neg,Dw n,e,more,()) m q=_;unfold w8;have hnw:Ws (dg (2^64) n):=D1 (fq hn (bt (by decide) (by decide)));have e0:aa .i64 (q-e)=q-e:=Av (by omega);have hj4:=bBd n e q;dsimp only;rw[e0];by_cases h2:2<=q-e
 ·rw[show decide (q-e>=2)=true from decide_eq_true h2,cond_true];obtain⟨s,hs⟩:=cn (show 0<=q-e-2 by omega);have e1:aa .i64 (q-e-2)=(s:Int):=by rw[Av (by omega)];exact hs
  have hj:j4 n e q=O3 n s:=by unfold j4;rw[if_pos h2];congr 1;omega
  rw[hj]at hj4;have hjn:O3 n s<=n+1:=by
   unfold O3;have:=ee n (2^s);split<;>omega
  have p0:=aWw (dg (2^64) n) hnw s (by omega);rw[C1]at p0;have hjl:O3 n s<(2^64)^5000:=by
   have h1:(2^64)^2000<(2^64)^5000:=bt (by decide) (by decide);generalize(2^64)^2000=A at *
   generalize(2^64)^5000=B at *
   omega
  clear hj;generalize O3 n s=j at *
  have hj:Ws (dg (2^64) j):=D1 hjl;rw[e1];have p0:XC (Dw n,(s:Int),())=some (Dw j,0,()):=p0;have p1:=aRv hj;have hu:Ws (dg (2^64) (j/4)):=D1 (bl (ee _ _) hjl);have hul:=Ea (B:=2^64) (by decide) 5000 (j/4) (bl (ee _ _) hjl);have p3:=aMF hu (by omega);have h4:j%4<4:=ca _ (by decide);unfold BB Dj;rw[←hj4.1,←hj4.2];rcases br j with hj0|hj0
  ·subst hj0;have pz:Uy ([],(2:Int),())=some (Dw (0/4),0,()):=by rw[←Ff];exact p1
   cases more with
   |true=>
    have p2:VH (m,neg,decide (0/4%2=1),(1:Int),())=some (C9 m neg (decide (0/4%2=1)) 1,()):=XD m neg _ 1;simp only[vB p0,t5 p0,cond_true,Ff,fe,AU,ir,cond_false,ap,uH,aQd,U9 pz,UY pz,Pq,ZX,Z3 p2,YB p2,av,bd,az];cases hf:C9 m neg (decide (0/4%2=1)) 1 with
    |true=>simp only[cond_true,Pb p3,OY p3];have hf:C9 m neg false 1=true:=hf;simp[hf]
    |false=>simp only[cond_false];have hf:C9 m neg false 1=false:=hf;simp[hf]
   |false=>
    simp only[vB p0,t5 p0,cond_true,Ff,fe,ir,cond_false,ap,uH,U9 pz,UY pz,Pq,bd];simp
  ·have hjn:j≠0:=by omega
   cases more with
   |true=>
    have p2:=XD m neg (decide (j/4%2=1)) (j%4/2*2+1);have hr:j%4/2*2+1≠0:=by omega
    simp only[vB p0,t5 p0,cond_true,LZ hjn,Xe hjn,ap,Pp j,sU,or1 (j%4) (by omega),U9 p1,UY p1,Pq,ZX,Z3 p2,YB p2,av,bd,AL _ hr,az];cases hf:C9 m neg (decide (j/4%2=1)) (j%4/2*2+1)with
    |true=>simp only[cond_true,Pb p3,OY p3];simp[hf]
    |false=>simp only[cond_false];simp[hf]
   |false=>
    have p2:=XD m neg (decide (j/4%2=1)) (j%4);simp only[vB p0,t5 p0,cond_true,cond_false,LZ hjn,Xe hjn,ap,Pp j,sU,U9 p1,UY p1,Pq,ZX,Z3 p2,YB p2,av,bd];rcases br (j%4)with hz|hz
    ·rw[AT _ hz,ak,cond_false];simp[hz]
    ·have hr:j%4≠0:=by omega
     rw[AL _ hr,az];cases hf:C9 m neg (decide (j/4%2=1)) (j%4)with
     |true=>simp only[cond_true,Pb p3,OY p3];simp[hf,hr]
     |false=>simp only[cond_false];simp[hf,hr]
 ·rw[show decide (q-e>=2)=false from decide_eq_false h2,cond_false];obtain⟨s,hse⟩:=cn (show 0<=2-(q-e) by omega);have e1:aa .i64 (2-(q-e))=(s:Int):=by rw[Av (by omega)];exact hse
  have hj:j4 n e q=n*2^s:=by unfold j4;rw[if_neg h2];congr 2;omega
  rw[hj]at hj4;obtain⟨hs1,hs2⟩:=hs (by omega);rw[show(2-(q-e)).toNat=s by omega]at hs2;have p0:=aHL (dg (2^64) n) hnw s (by omega) (by rw[C1];exact hs2);rw[C1]at p0;have hjl:n*2^s<(2^64)^5000:=fq hs2 (bt (by decide) (by decide));clear hj;generalize n*2^s=j at *
  have hj:Ws (dg (2^64) j):=D1 hjl;rw[e1];have p0:VG (Dw n,(s:Int),())=some (Dw j,0,()):=p0;have p1:=aRv hj;have hu:Ws (dg (2^64) (j/4)):=D1 (bl (ee _ _) hjl);have hul:=Ea (B:=2^64) (by decide) 5000 (j/4) (bl (ee _ _) hjl);have p3:=aMF hu (by omega);have h4:j%4<4:=ca _ (by decide);unfold BB Dj;rw[←hj4.1,←hj4.2];rcases br j with hj0|hj0
  ·subst hj0;have pz:Uy ([],(2:Int),())=some (Dw (0/4),0,()):=by rw[←Ff];exact p1
   cases more with
   |true=>
    have p2:VH (m,neg,decide (0/4%2=1),(1:Int),())=some (C9 m neg (decide (0/4%2=1)) 1,()):=XD m neg _ 1;simp only[kY p0,jS p0,cond_true,Ff,fe,AU,ir,cond_false,ap,uH,aQd,U9 pz,UY pz,Pq,ZX,Z3 p2,YB p2,av,bd,az];cases hf:C9 m neg (decide (0/4%2=1)) 1 with
    |true=>simp only[cond_true,Pb p3,OY p3];have hf:C9 m neg false 1=true:=hf;simp[hf]
    |false=>simp only[cond_false];have hf:C9 m neg false 1=false:=hf;simp[hf]
   |false=>
    simp only[kY p0,jS p0,cond_true,Ff,fe,ir,cond_false,ap,uH,U9 pz,UY pz,Pq,bd];simp
  ·have hjn:j≠0:=by omega
   cases more with
   |true=>
    have p2:=XD m neg (decide (j/4%2=1)) (j%4/2*2+1);have hr:j%4/2*2+1≠0:=by omega
    simp only[kY p0,jS p0,cond_true,LZ hjn,Xe hjn,ap,Pp j,sU,or1 (j%4) (by omega),U9 p1,UY p1,Pq,ZX,Z3 p2,YB p2,av,bd,AL _ hr,az];cases hf:C9 m neg (decide (j/4%2=1)) (j%4/2*2+1)with
    |true=>simp only[cond_true,Pb p3,OY p3];simp[hf]
    |false=>simp only[cond_false];simp[hf]
   |false=>
    have p2:=XD m neg (decide (j/4%2=1)) (j%4);simp only[kY p0,jS p0,cond_true,cond_false,LZ hjn,Xe hjn,ap,Pp j,sU,U9 p1,UY p1,Pq,ZX,Z3 p2,YB p2,av,bd];rcases br (j%4)with hz|hz
    ·rw[AT _ hz,ak,cond_false];simp[hz]
    ·have hr:j%4≠0:=by omega
     rw[AL _ hr,az];cases hf:C9 m neg (decide (j/4%2=1)) (j%4)with
     |true=>simp only[cond_true,Pb p3,OY p3];simp[hf,hr]
     |false=>simp only[cond_false];simp[hf,hr]
end VL
namespace VL
open Go Vx
def Bs(f:Int)(neg:Bool):Nat:=if neg then 2^(fW f-1)else 0
def Dn(f:Int)(neg:Bool):Nat:=(2^(fW f-fP f)-1)*2^(fP f-1)+Bs f neg
def JC(m:Int)(neg:Bool):Bool:=((m==0||m==1)||(m==3&&!neg))||(m==4&&neg)
def UL(f m:Int)(neg:Bool):Nat:=if JC m neg then Dn f neg else Dn f neg-1
theorem aBz{f:Int}(h:Fm f)(neg:Bool):gE (f,neg,())=some ((Dn f neg:Int),0,()):=by
 rcases Cs h with rfl|rfl|rfl|rfl<;>cases neg<;>kernel_rfl
theorem aWS{f:Int}(h:Fm f)(neg:Bool):eE (f,neg,())=some (((Dn f neg-1:Nat):Int),0,()):=by
 rcases Cs h with rfl|rfl|rfl|rfl<;>cases neg<;>kernel_rfl
theorem cH{f:Int}(h:Fm f)(neg:Bool):cG (f,neg,())=some ((Bs f neg:Int),0,()):=by
 rcases Cs h with rfl|rfl|rfl|rfl<;>cases neg<;>kernel_rfl
theorem aWo{f:Int}(h:Fm f)(m:Int)(neg:Bool):cW (f,m,neg,())=some ((UL f m neg:Int),()):=by
 show w7 CR.pre CR.F K2.pre K2.F f m neg=_;have p0:=aBz h neg;have p1:=aWS h neg;unfold w7 UL;show(bif JC m neg then(bif CR.pre (f,neg,())then some ((CR.F (f,neg,())).1,())else none)else(bif K2.pre (f,neg,())then some ((K2.F (f,neg,())).1,())else none))=_;rw[aFj p0,aEl p0,bDt p1,bAC p1];cases JC m neg<;>rfl
def AA(n:Nat)(e:Int):Int:=e+(Ae n:Int)-1
theorem CS{n k:Nat}(h:n<2^k):Ae n<=k:=by
 rcases br n with rfl|hn
 ·exact dp _
 ·have:=Lr (n:=n) (by omega);have:Ae n-1<k:=(cv (a:=2) (by decide)).1 (bl this h);omega
theorem Yn{n:Nat}(h:n≠0):1<=Ae n:=by unfold Ae;rw[if_neg h];omega
theorem sW{n:Nat}(h:n<(2^64)^2000):Ae n<=128000:=by
 apply CS;rw[DL]at h;exact h
theorem VD{n:Nat}(h:n<(2^64)^5000):Xx (Dw n,())=some ((Ae n:Int),()):=by
 have:=aWq _ (D1 h);rw[C1]at this;exact this
theorem aPf{n:Nat}(h:n<(2^64)^2000):n<(2^64)^5000:=fq h (bt (by decide) (by decide))
theorem aWn(neg:Bool)(n:Nat)(e:Int)(more:Bool)(hn:n<(2^64)^2000)(he:-1000000<=e/\e<=1000000):cV ((neg,Dw n,e,more,()),())=some (AA n e,()):=by
 show w6 Cj.pre Cj.F (neg,Dw n,e,more,())=_;unfold w6;have p0:=VD (aPf hn);have hb:=sW hn;simp only[WN p0,Wv p0,cond_true];rw[Av (n:=e+(Ae n:Int)) (by omega),Av (by omega)];rfl
theorem bDY{n:Nat}{e q:Int}{p:Nat}(h:AA n e-p+1<=q):GR n e q<2^p:=by
 unfold AA at h;unfold GR;have hb:=FU n;by_cases hq:q<=e
 ·rw[if_pos hq];have h1:n*2^(e-q).toNat<2^Ae n*2^(e-q).toNat:=ck hb (af _);rw[←bi]at h1;exact ao h1 (ai (by decide) (by omega))
 ·rw[if_neg hq,bv (af _),←bi];exact ao hb (ai (by decide) (by omega))
theorem aDI{m:Int}{neg:Bool}{n:Nat}{e q:Int}{more:Bool}{p:Nat}(h:AA n e-p+1<=q):BB m neg n e q more<=2^p:=by
 have:=bDY h;unfold BB;split<;>omega
theorem aHE(m:Int)(neg:Bool)(n:Nat)(e q:Int)(more:Bool)(hn:n<(2^64)^2000)(he:-1000000<=e/\e<=1000000){p:Nat}(hp:p<=60)(h1:AA n e-p+1<=q)(h2:q<=AA n e∨q<=1000):
  Xw ((neg,Dw n,e,more,()),m,q,())=some (Dw (BB m neg n e q more),decide (Dj n e q more≠0),()):=by
 have hb:=sW hn;unfold AA at h1 h2;refine aWp m neg n e q more hn (by omega) (by omega) (by omega) fun hs=>?_;refine⟨by omega,?_⟩;have hl:=FU n;have h3:n*2^(2-(q-e)).toNat<2^Ae n*2^(2-(q-e)).toNat:=ck hl (af _);rw[←bi]at h3;rw[DL];exact ao h3 (ai (by decide) (by omega))
theorem aWr(neg:Bool)(n:Nat)(e:Int)(more:Bool)(f m:Int)(hf:Fm f)(hn:n<(2^64)^2000)(he:-1000000<=e/\e<=1000000):
  cX ((neg,Dw n,e,more,()),Cq f,m,AA n e,())=some (decide (AA n e<1-(fX f:Int)/\AA n e-fP f+Ae (BB m neg n e (AA n e-fP f+1) more)<1-(fX f:Int)),()):=by
 show xA IV.pre IV.F Cj.pre Cj.F (neg,Dw n,e,more,()) ((fW f:Int),((fP f:Int),((1-(fX f:Int)),((fX f:Int),())))) m (AA n e)=_;unfold xA;have hb:=sW hn;have hp:=DT hf;have hw:=EI hf;have hx:=Ly hf;have hp8:=CV hf;have ht:AA n e=e+(Ae n:Int)-1:=rfl;have p0:=aHE m neg n e (AA n e-fP f+1) more hn he (p:=fP f) (by omega) (by omega) (by omega);have hc:=aDI (m:=m) (neg:=neg) (more:=more) (n:=n) (e:=e) (q:=AA n e-fP f+1) (p:=fP f) (by omega);generalize BB m neg n e (AA n e-fP f+1) more=u at *
 have hu:u<(2^64)^5000:=by
  rw[DL];exact bl hc (bt (by decide) (by omega))
 have hub:Ae u<=fP f+1:=CS (bl hc (bt (by decide) (by omega)));have p1:=VD hu;have e1:aa .i64 (AA n e-(fP f:Int))=AA n e-(fP f:Int):=Av (by omega);have e2:aa .i64 (AA n e-(fP f:Int)+1)=AA n e-(fP f:Int)+1:=Av (by omega);have e3:aa .i64 (AA n e-(fP f:Int)+(Ae u:Int))=AA n e-(fP f:Int)+(Ae u:Int):=Av (by omega);dsimp only;rw[e1,e2];by_cases h:AA n e>=1-(fX f:Int)
 ·rw[decide_eq_true h,cond_true,decide_eq_false (by omega)]
 ·rw[decide_eq_false h,cond_false];simp only[aQx p0,aOm p0,cond_true,WN p1,Wv p1,e3];have:(AA n e<1-(fX f:Int)):=by omega
  simp only[this,true_and]
end VL
namespace VL
open Go Vx
def B1(f:Int)(t:Int):Int:=(if 1-(fX f:Int)>t then 1-(fX f:Int)else t)-fP f+1
def DW(f m:Int)(neg:Bool)(n:Nat)(e:Int)(more:Bool):Prop:=AA n e<1-(fX f:Int)/\AA n e-fP f+Ae (BB m neg n e (AA n e-fP f+1) more)<1-(fX f:Int)
instance (f m:Int) (neg:Bool) (n:Nat) (e:Int) (more:Bool):Decidable (DW f m neg n e more):=by unfold DW;infer_instance
def AP(f m:Int)(neg:Bool)(n:Nat)(e:Int)(more:Bool):Nat×Nat:=
 if AA n e>fX f then(UL f m neg,20)
 else
  let q:=B1 f (AA n e)
  let u:=BB m neg n e q more
  if q+Ae u-1>fX f then(UL f m neg,20)
  else((q-(1-(fX f:Int)-fP f+1)).toNat*2^(fP f-1)+u+Bs f neg,
   if Dj n e q more=0 then 0 else if DW f m neg n e more then 24 else 16)
theorem aOS{f:Int}(hf:Fm f):(2*fX f-1)*2^(fP f-1)+2^fP f+2^(fP f-1)=2^(fW f-1):=by
 rcases Cs hf with rfl|rfl|rfl|rfl<;>decide
theorem Ji{f:Int}(hf:Fm f):15<=fX f:=by
 rcases Cs hf with rfl|rfl|rfl|rfl<;>decide
theorem aHr(neg:Bool)(n:Nat)(e:Int)(more:Bool)(f m:Int)(hf:Fm f)(hn:n<(2^64)^2000)(he:-1000000<=e/\e<=1000000):
  cB ((neg,Dw n,e,more,()),f,Cq f,m,())=some (((AP f m neg n e more).1:Int),((AP f m neg n e more).2:Int),()):=by
 show wD _ _ _ _ _ _ _ _ _ _ (neg,Dw n,e,more,()) f ((fW f:Int),((fP f:Int),((1-(fX f:Int)),((fX f:Int),())))) m=_;unfold wD AP;have hb:=sW hn;have hp:=DT hf;have hp8:=CV hf;have hw:=EI hf;have hx:=Ly hf;have hx15:=Ji hf;have ht:AA n e=e+(Ae n:Int)-1:=rfl;have pt:=aWn neg n e more hn he;have pb:=aWo hf m neg;have py:=aWr neg n e more f m hf hn he;have hrow:Cq f=((fW f:Int),((fP f:Int),((1-(fX f:Int)),((fX f:Int),())))):=rfl;rw[hrow]at py;simp only[bC8 pt,bAh pt,cond_true];by_cases h1:AA n e>(fX f:Int)
 ·rw[if_pos h1,decide_eq_true h1,cond_true];simp only[aFa pb,aEc pb,cond_true];rfl
 rw[if_neg h1,decide_eq_false h1,cond_false];have hM:∃M:Int,(if 1-(fX f:Int)>AA n e then 1-(fX f:Int)else AA n e)=M/\AA n e<=M/\1-(fX f:Int)<=M/\M<=fX f/\(M=AA n e∨M=1-(fX f:Int)):=by
  refine⟨_,rfl,?_⟩;split<;>omega
 obtain⟨M,hMe,m1,m2,m3,m4⟩:=hM;have hq:B1 f (AA n e)=M-fP f+1:=by unfold B1;rw[hMe]
 simp only[hMe,hq];have e1:aa .i64 (M-(fP f:Int))=M-(fP f:Int):=Av (by omega);have e2:aa .i64 (M-(fP f:Int)+1)=M-(fP f:Int)+1:=Av (by omega);simp only[e1,e2];have p0:=aHE m neg n e (M-(fP f:Int)+1) more hn he (p:=fP f) (by omega) (by omega) (by omega);have hc:=aDI (m:=m) (neg:=neg) (more:=more) (n:=n) (e:=e) (q:=M-(fP f:Int)+1) (p:=fP f) (by omega);generalize BB m neg n e (M-(fP f:Int)+1) more=u at *
 generalize Dj n e (M-(fP f:Int)+1) more=r at *
 have hP60:2^fP f<=2^60:=ai (by decide) (by omega);have hu:u<(2^64)^5000:=by
  rw[DL];exact bl hc (bt (by decide) (by omega))
 have hub:Ae u<=fP f+1:=CS (bl hc (bt (by decide) (by omega)));have p1:=VD hu;have e3:aa .i64 ((fP f:Int)-1)=((fP f-1:Nat):Int):=AJ _ (by omega);have e4:aa .i64 ((fW f:Int)-1)=((fW f-1:Nat):Int):=AJ _ (by omega);have e5:aa .i64 (M-(fP f:Int)+1+(Ae u:Int))=M-(fP f:Int)+1+(Ae u:Int):=Av (by omega);have e6:aa .i64 (M-(fP f:Int)+1+(Ae u:Int)-1)=M-(fP f:Int)+1+(Ae u:Int)-1:=Av (by omega);have e7:aa .i64 (1-(fX f:Int)-(fP f:Int))=1-(fX f:Int)-(fP f:Int):=Av (by omega);have e8:aa .i64 (1-(fX f:Int)-(fP f:Int)+1)=1-(fX f:Int)-(fP f:Int)+1:=Av (by omega);obtain⟨k,hk⟩:=cn (show 0<=M-(fP f:Int)+1-(1-(fX f:Int)-(fP f:Int)+1) by omega);have e9:aa .i64 (M-(fP f:Int)+1-(1-(fX f:Int)-(fP f:Int)+1))=(k:Int):=by rw[Av (by omega)];exact hk
 have e10:aa .u64 (k:Int)=(k:Int):=DO (by omega);have hkn:(M-(fP f:Int)+1-(1-(fX f:Int)-(fP f:Int)+1)).toNat=k:=by omega
 have hhalf:=aOS hf;have hk2:k<=2*fX f-1:=by omega
 have hk3:=aw (2^(fP f-1)) hk2;have hW64:2^(fW f-1)<=2^63:=ai (by decide) (by omega);have hpp:=af (fP f-1);have e11:Bj .u64 (k:Int) ((fP f-1:Nat):Int)=((k*2^(fP f-1):Nat):Int):=by
  rw[HP _ _ (by omega),bo (by omega)]
 have e12:Bj .u64 1 ((fW f-1:Nat):Int)=((1*2^(fW f-1):Nat):Int):=by rw[Ph (by omega),fx]
 generalize hA:k*2^(fP f-1)=A at *
 have hbits:A+u<2^(fW f-1):=by omega
 have e13:aa .u64 ((A:Int)+((u%2^64:Nat):Int))=((A+u:Nat):Int):=by
  rw[bo (by omega),DO (by omega)];omega
 have hor:∀b:Nat,b<2^(fW f-1)->Ak .u64 (b:Int) ((1*2^(fW f-1):Nat):Int)=((b+2^(fW f-1):Nat):Int):=fun b hb=>by
  have:=O8 (a:=b) (b:=1) (k:=fW f-1) hb (by omega);rw[fx]at this⊢;exact this
 have hsg:Bs f neg=if neg then 2^(fW f-1)else 0:=rfl;have htd:decide (AA n e<1-(fX f:Int)/\AA n e-fP f+Ae (BB m neg n e (AA n e-fP f+1) more)<1-(fX f:Int))=decide (DW f m neg n e more):=by
  unfold DW;rfl
 rw[htd]at py;simp only[aQx p0,aOm p0,cond_true,e3,AF,WN p1,Wv p1,e5,e6,e7,e8,e9,e10,e11,e4,e12,hkn,hA];rcases br u with hu0|hu0
 ·subst hu0;have hl0:decide ((((Dw 0).length:Nat):Int)>0)=false:=by rw[Ff];rfl
  rw[hl0,cond_false];by_cases h2:M-(fP f:Int)+1+(Ae 0:Int)-1>(fX f:Int)
  ·rw[decide_eq_true h2,cond_true,if_pos h2];simp only[aFa pb,aEc pb,cond_true];rfl
  ·rw[decide_eq_false h2,cond_false,if_neg h2];have hbi:=hor (A) (by omega);rw[hbi];by_cases hr:r=0
   ·rw[if_pos hr,decide_eq_false (p:=r≠0) (by omega)];simp only[au,cond_true];cases neg<;>rfl
   ·rw[if_neg hr,decide_eq_true (p:=r≠0) hr];simp only[bb,cond_false,aQy py,aOn py,cond_true];by_cases hti:DW f m neg n e more
    ·rw[if_pos hti,decide_eq_true hti];cases neg<;>rfl
    ·rw[if_neg hti,decide_eq_false hti];cases neg<;>rfl
 ·have hun:u≠0:=by omega
  simp only[LZ hun,Xe hun,cond_true,ap,Pp,e13];by_cases h2:M-(fP f:Int)+1+(Ae u:Int)-1>(fX f:Int)
  ·rw[decide_eq_true h2,cond_true,if_pos h2];simp only[aFa pb,aEc pb,cond_true];rfl
  ·rw[decide_eq_false h2,cond_false,if_neg h2];have hbi:=hor (A+u) (by omega);rw[hbi];by_cases hr:r=0
   ·rw[if_pos hr,decide_eq_false (p:=r≠0) (by omega)];simp only[au,cond_true];cases neg<;>rfl
   ·rw[if_neg hr,decide_eq_true (p:=r≠0) hr];simp only[bb,cond_false,aQy py,aOn py,cond_true];by_cases hti:DW f m neg n e more
    ·rw[if_pos hti,decide_eq_true hti];cases neg<;>rfl
    ·rw[if_neg hti,decide_eq_false hti];cases neg<;>rfl
theorem aHp{f m:Int}(hf:Fm f)(hm:0<=m/\m<=5):cA (f,m,())=some (Cq f,0,()):=by
 show wC As.pre As.F TC.pre TC.F f m=_;unfold wC;have p0:=IZ hf;have p1:cU (m,())=some (0,()):=by
  show w0 m=_;unfold w0;rw[decide_eq_false (show ¬m<0 by omega),decide_eq_false (show ¬m>5 by omega)];rfl
 simp only[C2 p0,CZ p0,cond_true,bC7 p1,bAg p1];rfl
theorem aWs{f:Int}(h:Fm f)(neg:Bool):cY (f,neg,())=some ((Bs f neg:Int),0,0,()):=by
 show xB B4.pre B4.F f neg=_;unfold xB;have p0:=cH h neg;simp only[kV p0,jP p0,cond_true]
theorem bJF(s:Nat)(hs:s<2^128):(Wi s).2.1::(Wi s).1::[]=Wd [s%2^64,s/2^64]/\Ws [s%2^64,s/2^64]/\nv (2^64) [s%2^64,s/2^64]=s:=by
 refine⟨rfl,⟨?_,by simp⟩,?_⟩
 ·intro x hx;have:x=s%2^64∨x=s/2^64:=by simpa using hx
  omega
 ·simp only[nv];omega
theorem cL{f m:Int}(hf:Fm f)(hm:0<=m/\m<=5)(neg:Bool)(s:Nat)(hs:s<2^128)(e:Int)(he:-40000<=e/\e<=40000)(more:Bool)(hmore:more=true->fP f+2<=Ae s):
  cK (f,m,neg,Wi s,e,more,())=some (if s=0 then((Bs f neg:Int),0,0,())else(((AP f m neg s e more).1:Int),((AP f m neg s e more).2:Int),0,())):=by
 show wL _ _ _ _ _ _ _ _ _ _ f m neg (Wi s) e more=_;unfold wL;obtain⟨w1,w2,w3⟩:=bJF s hs;have hP:=DT hf;have hW:=EI hf;have p0:=aHp hf hm;have p1:=aHm _ w2;rw[←w1,w3]at p1;have hs2:s<(2^64)^2000:=by
  rw[DL];exact ao hs (ai (by decide) (by decide))
 have p2:=VD (aPf hs2);have p3:=aWs hf neg;have p4:=aHr neg s e more f m hf hs2 (by omega);have e1:decide (e < -40000)=false:=decide_eq_false (by omega);have e2:decide (e>40000)=false:=decide_eq_false (by omega);have e3:aa .i64 ((Cq f).2.1+2)=((fP f+2:Nat):Int):=by
  show aa .i64 ((fP f:Int)+2)=_;rw[Av (by omega)];rfl
 have e4:(more&&decide ((Ae s:Int)<((fP f+2:Nat):Int)))=false:=by
  cases more with
  |false=>rfl
  |true=>rw[decide_eq_false (by have:=hmore rfl;omega)];rfl
 have z0:((0:Int)!=0)=false:=rfl;simp only[aQr p0,aOg p0,cond_true,z0,cond_false,aE6 p1,aD8 p1,e1,e2,ba,WN p2,Wv p2,av,e3,e4];by_cases h0:s=0
 ·rw[if_pos h0];subst h0;rw[show((((Dw 0).length:Nat):Int)==0)=true by rw[Ff];rfl,cond_true];simp only[bC9 p3,bAi p3,cond_true]
 ·rw[if_neg h0,AG _ (by have:=nN h0;omega),cond_false];simp only[aQs p4,aOh p4,cond_true]
end VL
end
