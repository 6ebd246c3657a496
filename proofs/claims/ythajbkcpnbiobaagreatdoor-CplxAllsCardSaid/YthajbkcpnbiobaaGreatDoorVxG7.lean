/- Part 7 of the proof. What is proved: symbolic execution of the functions, proved sound; what each function of the program computes, and that every run ends with it; what these functions compute, in plain numbers. Conditions: each theorem bears its own. -/
import Derived.Test.YthajbkcpnbiobaaGreatDoorVxG6
set_option linter.all false
set_option exponentiation.threshold 1000000
noncomputable section
open Bool renaming and_eq_true->ag,and_false->ay,and_self->av,and_true->bg,eq_iff_iff->fi,false_and->ao,false_or->bd,not_false->ar,not_true->au,or_eq_true->dv,or_false->bi,or_self->bb,or_true->ba,true_and->az,true_or->aw
open Classical renaming not_not->jg
open Go.IntKind renaming wrap->aa
open Int renaming add_zero->ln,eq_ofNat_of_zero_le->cd,le_refl->mg,natCast_add->ni,natCast_mul->le,natCast_zero->ij,sub_self->ow,tmod->gj,toNat->af,toNat_natCast->ab,toNat_zero->ap
open List renaming append_assoc->fe,append_nil->dk,drop_eq_getElem_cons->dz,drop_length->gy,drop_of_length_le->jj,drop_zero->jp,eq_of_mem_replicate->kz,getD_eq_getElem?_getD->ak,getElem?_append_right->cg,getElem?_drop->dt,getElem?_eq_getElem->bo,getElem?_eq_none->df,length_cons->dh,length_nil->ee,length_set->ip,mem_append->cw,replicate->aq,replicate_succ->jh,replicate_zero->il,set_append_right->ga,set_cons_zero->jn,take_length->dp,take_of_length_le->ck
open Nat renaming add_comm->io,add_mul->cm,add_mul_div_left->fc,add_mul_div_right->np,add_mul_mod_self_left->gv,add_mul_mod_self_right->kp,add_sub_cancel_left->je,add_zero->cz,div_add_mod->ct,div_div_eq_div_mul->dj,div_eq_of_lt->ci,div_eq_zero_iff->mi,div_le_self->dw,div_lt_iff_lt_mul->bv,div_mul_le_self->kx,eq_zero_or_pos->br,le_div_iff_mul_le->ir,le_mul_of_pos_left->ik,le_mul_of_pos_right->gf,le_of_lt_succ->oq,le_refl->bu,le_trans->fy,lt_of_le_of_lt->bl,lt_of_lt_of_le->al,lt_of_mul_lt_mul_right->kq,lt_or_ge->ax,lt_trans->fm,lt_trichotomy->fh,mod_add_div->iq,mod_eq_of_lt->bt,mod_lt->ca,mod_one->pw,mod_two_eq_zero_or_one->jk,mul_add->bw,mul_add_div->jw,mul_add_mod->jx,mul_assoc->bh,mul_comm->be,mul_div_cancel_left->ib,mul_le_mul->gw,mul_le_mul_left->cp,mul_le_mul_right->bc,mul_left_comm->fx,mul_lt_mul_of_pos_right->cj,mul_one->gq,mul_pos->gz,mul_right_comm->jo,mul_zero->fd,one_mul->fw,pow_add->bj,pow_le_pow_right->ai,pow_lt_pow_iff_right->cu,pow_lt_pow_right->bq,pow_mul->fq,pow_pos->go,pow_succ->dl,pow_succ'->jd,pow_zero->iu,sub_add_cancel->kc,sub_self->gr,sub_zero->mo,succ_eq_add_one->mj,two_pow_pos->aj,zero_add->de,zero_le->dq,zero_mul->ff
namespace VL
open Go Vx
def Y2(f m:Int)(nx:Bool)(X ex:Int)(ny:Bool)(Y ey:Int):Option (DenS Km):=bif(AN.pre (((0:Int),(X,())),((if((70:Int)<(aa .i64 (ex-ey)))then(70:Int)else(aa .i64 (ex-ey))),())))then(bif(AU.pre (((0:Int),(Y,())),((aa .i64 ((aa .i64 (ex-(if((70:Int)<(aa .i64 (ex-ey)))then(70:Int)else(aa .i64 (ex-ey)))))-ey)),())))then(bif(AN.pre ((AU.F (((0:Int),(Y,())),((aa .i64 ((aa .i64 (ex-(if((70:Int)<(aa .i64 (ex-ey)))then(70:Int)else(aa .i64 (ex-ey)))))-ey)),()))).1,((aa .i64 ((aa .i64 (ex-(if((70:Int)<(aa .i64 (ex-ey)))then(70:Int)else(aa .i64 (ex-ey)))))-ey)),())))then(bif(AU.pre (((0:Int),(Y,())),((aa .i64 ((aa .i64 (ex-(if((70:Int)<(aa .i64 (ex-ey)))then(70:Int)else(aa .i64 (ex-ey)))))-ey)),())))then(bif(nx==ny)then(bif(Nw.pre ((AN.F (((0:Int),(X,())),((if((70:Int)<(aa .i64 (ex-ey)))then(70:Int)else(aa .i64 (ex-ey))),()))).1,(AU.F (((0:Int),(Y,())),((aa .i64 ((aa .i64 (ex-(if((70:Int)<(aa .i64 (ex-ey)))then(70:Int)else(aa .i64 (ex-ey)))))-ey)),())))))then(bif(Cd.pre (f,(m,(nx,((Nw.F ((AN.F (((0:Int),(X,())),((if((70:Int)<(aa .i64 (ex-ey)))then(70:Int)else(aa .i64 (ex-ey))),()))).1,(AU.F (((0:Int),(Y,())),((aa .i64 ((aa .i64 (ex-(if((70:Int)<(aa .i64 (ex-ey)))then(70:Int)else(aa .i64 (ex-ey)))))-ey)),()))))).1,((aa .i64 (ex-(if((70:Int)<(aa .i64 (ex-ey)))then(70:Int)else(aa .i64 (ex-ey))))),(((!(((AN.F ((AU.F (((0:Int),(Y,())),((aa .i64 ((aa .i64 (ex-(if((70:Int)<(aa .i64 (ex-ey)))then(70:Int)else(aa .i64 (ex-ey)))))-ey)),()))).1,((aa .i64 ((aa .i64 (ex-(if((70:Int)<(aa .i64 (ex-ey)))then(70:Int)else(aa .i64 (ex-ey)))))-ey)),()))).1.1==(0:Int))&&((AN.F ((AU.F (((0:Int),(Y,())),((aa .i64 ((aa .i64 (ex-(if((70:Int)<(aa .i64 (ex-ey)))then(70:Int)else(aa .i64 (ex-ey)))))-ey)),()))).1,((aa .i64 ((aa .i64 (ex-(if((70:Int)<(aa .i64 (ex-ey)))then(70:Int)else(aa .i64 (ex-ey)))))-ey)),()))).1.2.1==Y)))||((decide ((aa .i64 ((aa .i64 (ex-(if((70:Int)<(aa .i64 (ex-ey)))then(70:Int)else(aa .i64 (ex-ey)))))-ey))>(63:Int)))&&(Y !=(0:Int)))),())))))))then(some (Cd.F (f,(m,(nx,((Nw.F ((AN.F (((0:Int),(X,())),((if((70:Int)<(aa .i64 (ex-ey)))then(70:Int)else(aa .i64 (ex-ey))),()))).1,(AU.F (((0:Int),(Y,())),((aa .i64 ((aa .i64 (ex-(if((70:Int)<(aa .i64 (ex-ey)))then(70:Int)else(aa .i64 (ex-ey)))))-ey)),()))))).1,((aa .i64 (ex-(if((70:Int)<(aa .i64 (ex-ey)))then(70:Int)else(aa .i64 (ex-ey))))),(((!(((AN.F ((AU.F (((0:Int),(Y,())),((aa .i64 ((aa .i64 (ex-(if((70:Int)<(aa .i64 (ex-ey)))then(70:Int)else(aa .i64 (ex-ey)))))-ey)),()))).1,((aa .i64 ((aa .i64 (ex-(if((70:Int)<(aa .i64 (ex-ey)))then(70:Int)else(aa .i64 (ex-ey)))))-ey)),()))).1.1==(0:Int))&&((AN.F ((AU.F (((0:Int),(Y,())),((aa .i64 ((aa .i64 (ex-(if((70:Int)<(aa .i64 (ex-ey)))then(70:Int)else(aa .i64 (ex-ey)))))-ey)),()))).1,((aa .i64 ((aa .i64 (ex-(if((70:Int)<(aa .i64 (ex-ey)))then(70:Int)else(aa .i64 (ex-ey)))))-ey)),()))).1.2.1==Y)))||((decide ((aa .i64 ((aa .i64 (ex-(if((70:Int)<(aa .i64 (ex-ey)))then(70:Int)else(aa .i64 (ex-ey)))))-ey))>(63:Int)))&&(Y !=(0:Int)))),()))))))))else none)else none)else bif(Eu.pre ((AN.F (((0:Int),(X,())),((if((70:Int)<(aa .i64 (ex-ey)))then(70:Int)else(aa .i64 (ex-ey))),()))).1,(AU.F (((0:Int),(Y,())),((aa .i64 ((aa .i64 (ex-(if((70:Int)<(aa .i64 (ex-ey)))then(70:Int)else(aa .i64 (ex-ey)))))-ey)),())))))then(bif(decide ((Eu.F ((AN.F (((0:Int),(X,())),((if((70:Int)<(aa .i64 (ex-ey)))then(70:Int)else(aa .i64 (ex-ey))),()))).1,(AU.F (((0:Int),(Y,())),((aa .i64 ((aa .i64 (ex-(if((70:Int)<(aa .i64 (ex-ey)))then(70:Int)else(aa .i64 (ex-ey)))))-ey)),()))))).1<(0:Int)))then(bif(B4.pre ((AU.F (((0:Int),(Y,())),((aa .i64 ((aa .i64 (ex-(if((70:Int)<(aa .i64 (ex-ey)))then(70:Int)else(aa .i64 (ex-ey)))))-ey)),()))).1,(AN.F (((0:Int),(X,())),((if((70:Int)<(aa .i64 (ex-ey)))then(70:Int)else(aa .i64 (ex-ey))),())))))then(bif((!(((AN.F ((AU.F (((0:Int),(Y,())),((aa .i64 ((aa .i64 (ex-(if((70:Int)<(aa .i64 (ex-ey)))then(70:Int)else(aa .i64 (ex-ey)))))-ey)),()))).1,((aa .i64 ((aa .i64 (ex-(if((70:Int)<(aa .i64 (ex-ey)))then(70:Int)else(aa .i64 (ex-ey)))))-ey)),()))).1.1==(0:Int))&&((AN.F ((AU.F (((0:Int),(Y,())),((aa .i64 ((aa .i64 (ex-(if((70:Int)<(aa .i64 (ex-ey)))then(70:Int)else(aa .i64 (ex-ey)))))-ey)),()))).1,((aa .i64 ((aa .i64 (ex-(if((70:Int)<(aa .i64 (ex-ey)))then(70:Int)else(aa .i64 (ex-ey)))))-ey)),()))).1.2.1==Y)))||((decide ((aa .i64 ((aa .i64 (ex-(if((70:Int)<(aa .i64 (ex-ey)))then(70:Int)else(aa .i64 (ex-ey)))))-ey))>(63:Int)))&&(Y !=(0:Int))))then(bif(B4.pre ((B4.F ((AU.F (((0:Int),(Y,())),((aa .i64 ((aa .i64 (ex-(if((70:Int)<(aa .i64 (ex-ey)))then(70:Int)else(aa .i64 (ex-ey)))))-ey)),()))).1,(AN.F (((0:Int),(X,())),((if((70:Int)<(aa .i64 (ex-ey)))then(70:Int)else(aa .i64 (ex-ey))),()))))).1,(((0:Int),((1:Int),())),())))then(bif((((B4.F ((B4.F ((AU.F (((0:Int),(Y,())),((aa .i64 ((aa .i64 (ex-(if((70:Int)<(aa .i64 (ex-ey)))then(70:Int)else(aa .i64 (ex-ey)))))-ey)),()))).1,(AN.F (((0:Int),(X,())),((if((70:Int)<(aa .i64 (ex-ey)))then(70:Int)else(aa .i64 (ex-ey))),()))))).1,(((0:Int),((1:Int),())),()))).1.1==(0:Int))&&((B4.F ((B4.F ((AU.F (((0:Int),(Y,())),((aa .i64 ((aa .i64 (ex-(if((70:Int)<(aa .i64 (ex-ey)))then(70:Int)else(aa .i64 (ex-ey)))))-ey)),()))).1,(AN.F (((0:Int),(X,())),((if((70:Int)<(aa .i64 (ex-ey)))then(70:Int)else(aa .i64 (ex-ey))),()))))).1,(((0:Int),((1:Int),())),()))).1.2.1==(0:Int)))&&(!((!(((AN.F ((AU.F (((0:Int),(Y,())),((aa .i64 ((aa .i64 (ex-(if((70:Int)<(aa .i64 (ex-ey)))then(70:Int)else(aa .i64 (ex-ey)))))-ey)),()))).1,((aa .i64 ((aa .i64 (ex-(if((70:Int)<(aa .i64 (ex-ey)))then(70:Int)else(aa .i64 (ex-ey)))))-ey)),()))).1.1==(0:Int))&&((AN.F ((AU.F (((0:Int),(Y,())),((aa .i64 ((aa .i64 (ex-(if((70:Int)<(aa .i64 (ex-ey)))then(70:Int)else(aa .i64 (ex-ey)))))-ey)),()))).1,((aa .i64 ((aa .i64 (ex-(if((70:Int)<(aa .i64 (ex-ey)))then(70:Int)else(aa .i64 (ex-ey)))))-ey)),()))).1.2.1==Y)))||((decide ((aa .i64 ((aa .i64 (ex-(if((70:Int)<(aa .i64 (ex-ey)))then(70:Int)else(aa .i64 (ex-ey)))))-ey))>(63:Int)))&&(Y !=(0:Int))))))then(bif(B0.pre (f,((m==(4:Int)),())))then(some ((B0.F (f,((m==(4:Int)),()))).1,((0:Int),((0:Int),()))))else none)else bif(Cd.pre (f,(m,(ny,((B4.F ((B4.F ((AU.F (((0:Int),(Y,())),((aa .i64 ((aa .i64 (ex-(if((70:Int)<(aa .i64 (ex-ey)))then(70:Int)else(aa .i64 (ex-ey)))))-ey)),()))).1,(AN.F (((0:Int),(X,())),((if((70:Int)<(aa .i64 (ex-ey)))then(70:Int)else(aa .i64 (ex-ey))),()))))).1,(((0:Int),((1:Int),())),()))).1,((aa .i64 (ex-(if((70:Int)<(aa .i64 (ex-ey)))then(70:Int)else(aa .i64 (ex-ey))))),(((!(((AN.F ((AU.F (((0:Int),(Y,())),((aa .i64 ((aa .i64 (ex-(if((70:Int)<(aa .i64 (ex-ey)))then(70:Int)else(aa .i64 (ex-ey)))))-ey)),()))).1,((aa .i64 ((aa .i64 (ex-(if((70:Int)<(aa .i64 (ex-ey)))then(70:Int)else(aa .i64 (ex-ey)))))-ey)),()))).1.1==(0:Int))&&((AN.F ((AU.F (((0:Int),(Y,())),((aa .i64 ((aa .i64 (ex-(if((70:Int)<(aa .i64 (ex-ey)))then(70:Int)else(aa .i64 (ex-ey)))))-ey)),()))).1,((aa .i64 ((aa .i64 (ex-(if((70:Int)<(aa .i64 (ex-ey)))then(70:Int)else(aa .i64 (ex-ey)))))-ey)),()))).1.2.1==Y)))||((decide ((aa .i64 ((aa .i64 (ex-(if((70:Int)<(aa .i64 (ex-ey)))then(70:Int)else(aa .i64 (ex-ey)))))-ey))>(63:Int)))&&(Y !=(0:Int)))),())))))))then(some (Cd.F (f,(m,(ny,((B4.F ((B4.F ((AU.F (((0:Int),(Y,())),((aa .i64 ((aa .i64 (ex-(if((70:Int)<(aa .i64 (ex-ey)))then(70:Int)else(aa .i64 (ex-ey)))))-ey)),()))).1,(AN.F (((0:Int),(X,())),((if((70:Int)<(aa .i64 (ex-ey)))then(70:Int)else(aa .i64 (ex-ey))),()))))).1,(((0:Int),((1:Int),())),()))).1,((aa .i64 (ex-(if((70:Int)<(aa .i64 (ex-ey)))then(70:Int)else(aa .i64 (ex-ey))))),(((!(((AN.F ((AU.F (((0:Int),(Y,())),((aa .i64 ((aa .i64 (ex-(if((70:Int)<(aa .i64 (ex-ey)))then(70:Int)else(aa .i64 (ex-ey)))))-ey)),()))).1,((aa .i64 ((aa .i64 (ex-(if((70:Int)<(aa .i64 (ex-ey)))then(70:Int)else(aa .i64 (ex-ey)))))-ey)),()))).1.1==(0:Int))&&((AN.F ((AU.F (((0:Int),(Y,())),((aa .i64 ((aa .i64 (ex-(if((70:Int)<(aa .i64 (ex-ey)))then(70:Int)else(aa .i64 (ex-ey)))))-ey)),()))).1,((aa .i64 ((aa .i64 (ex-(if((70:Int)<(aa .i64 (ex-ey)))then(70:Int)else(aa .i64 (ex-ey)))))-ey)),()))).1.2.1==Y)))||((decide ((aa .i64 ((aa .i64 (ex-(if((70:Int)<(aa .i64 (ex-ey)))then(70:Int)else(aa .i64 (ex-ey)))))-ey))>(63:Int)))&&(Y !=(0:Int)))),()))))))))else none)else none)else bif((((B4.F ((AU.F (((0:Int),(Y,())),((aa .i64 ((aa .i64 (ex-(if((70:Int)<(aa .i64 (ex-ey)))then(70:Int)else(aa .i64 (ex-ey)))))-ey)),()))).1,(AN.F (((0:Int),(X,())),((if((70:Int)<(aa .i64 (ex-ey)))then(70:Int)else(aa .i64 (ex-ey))),()))))).1.1==(0:Int))&&((B4.F ((AU.F (((0:Int),(Y,())),((aa .i64 ((aa .i64 (ex-(if((70:Int)<(aa .i64 (ex-ey)))then(70:Int)else(aa .i64 (ex-ey)))))-ey)),()))).1,(AN.F (((0:Int),(X,())),((if((70:Int)<(aa .i64 (ex-ey)))then(70:Int)else(aa .i64 (ex-ey))),()))))).1.2.1==(0:Int)))&&(!((!(((AN.F ((AU.F (((0:Int),(Y,())),((aa .i64 ((aa .i64 (ex-(if((70:Int)<(aa .i64 (ex-ey)))then(70:Int)else(aa .i64 (ex-ey)))))-ey)),()))).1,((aa .i64 ((aa .i64 (ex-(if((70:Int)<(aa .i64 (ex-ey)))then(70:Int)else(aa .i64 (ex-ey)))))-ey)),()))).1.1==(0:Int))&&((AN.F ((AU.F (((0:Int),(Y,())),((aa .i64 ((aa .i64 (ex-(if((70:Int)<(aa .i64 (ex-ey)))then(70:Int)else(aa .i64 (ex-ey)))))-ey)),()))).1,((aa .i64 ((aa .i64 (ex-(if((70:Int)<(aa .i64 (ex-ey)))then(70:Int)else(aa .i64 (ex-ey)))))-ey)),()))).1.2.1==Y)))||((decide ((aa .i64 ((aa .i64 (ex-(if((70:Int)<(aa .i64 (ex-ey)))then(70:Int)else(aa .i64 (ex-ey)))))-ey))>(63:Int)))&&(Y !=(0:Int))))))then(bif(B0.pre (f,((m==(4:Int)),())))then(some ((B0.F (f,((m==(4:Int)),()))).1,((0:Int),((0:Int),()))))else none)else bif(Cd.pre (f,(m,(ny,((B4.F ((AU.F (((0:Int),(Y,())),((aa .i64 ((aa .i64 (ex-(if((70:Int)<(aa .i64 (ex-ey)))then(70:Int)else(aa .i64 (ex-ey)))))-ey)),()))).1,(AN.F (((0:Int),(X,())),((if((70:Int)<(aa .i64 (ex-ey)))then(70:Int)else(aa .i64 (ex-ey))),()))))).1,((aa .i64 (ex-(if((70:Int)<(aa .i64 (ex-ey)))then(70:Int)else(aa .i64 (ex-ey))))),(((!(((AN.F ((AU.F (((0:Int),(Y,())),((aa .i64 ((aa .i64 (ex-(if((70:Int)<(aa .i64 (ex-ey)))then(70:Int)else(aa .i64 (ex-ey)))))-ey)),()))).1,((aa .i64 ((aa .i64 (ex-(if((70:Int)<(aa .i64 (ex-ey)))then(70:Int)else(aa .i64 (ex-ey)))))-ey)),()))).1.1==(0:Int))&&((AN.F ((AU.F (((0:Int),(Y,())),((aa .i64 ((aa .i64 (ex-(if((70:Int)<(aa .i64 (ex-ey)))then(70:Int)else(aa .i64 (ex-ey)))))-ey)),()))).1,((aa .i64 ((aa .i64 (ex-(if((70:Int)<(aa .i64 (ex-ey)))then(70:Int)else(aa .i64 (ex-ey)))))-ey)),()))).1.2.1==Y)))||((decide ((aa .i64 ((aa .i64 (ex-(if((70:Int)<(aa .i64 (ex-ey)))then(70:Int)else(aa .i64 (ex-ey)))))-ey))>(63:Int)))&&(Y !=(0:Int)))),())))))))then(some (Cd.F (f,(m,(ny,((B4.F ((AU.F (((0:Int),(Y,())),((aa .i64 ((aa .i64 (ex-(if((70:Int)<(aa .i64 (ex-ey)))then(70:Int)else(aa .i64 (ex-ey)))))-ey)),()))).1,(AN.F (((0:Int),(X,())),((if((70:Int)<(aa .i64 (ex-ey)))then(70:Int)else(aa .i64 (ex-ey))),()))))).1,((aa .i64 (ex-(if((70:Int)<(aa .i64 (ex-ey)))then(70:Int)else(aa .i64 (ex-ey))))),(((!(((AN.F ((AU.F (((0:Int),(Y,())),((aa .i64 ((aa .i64 (ex-(if((70:Int)<(aa .i64 (ex-ey)))then(70:Int)else(aa .i64 (ex-ey)))))-ey)),()))).1,((aa .i64 ((aa .i64 (ex-(if((70:Int)<(aa .i64 (ex-ey)))then(70:Int)else(aa .i64 (ex-ey)))))-ey)),()))).1.1==(0:Int))&&((AN.F ((AU.F (((0:Int),(Y,())),((aa .i64 ((aa .i64 (ex-(if((70:Int)<(aa .i64 (ex-ey)))then(70:Int)else(aa .i64 (ex-ey)))))-ey)),()))).1,((aa .i64 ((aa .i64 (ex-(if((70:Int)<(aa .i64 (ex-ey)))then(70:Int)else(aa .i64 (ex-ey)))))-ey)),()))).1.2.1==Y)))||((decide ((aa .i64 ((aa .i64 (ex-(if((70:Int)<(aa .i64 (ex-ey)))then(70:Int)else(aa .i64 (ex-ey)))))-ey))>(63:Int)))&&(Y !=(0:Int)))),()))))))))else none)else none)else bif(B4.pre ((AN.F (((0:Int),(X,())),((if((70:Int)<(aa .i64 (ex-ey)))then(70:Int)else(aa .i64 (ex-ey))),()))).1,(AU.F (((0:Int),(Y,())),((aa .i64 ((aa .i64 (ex-(if((70:Int)<(aa .i64 (ex-ey)))then(70:Int)else(aa .i64 (ex-ey)))))-ey)),())))))then(bif((!(((AN.F ((AU.F (((0:Int),(Y,())),((aa .i64 ((aa .i64 (ex-(if((70:Int)<(aa .i64 (ex-ey)))then(70:Int)else(aa .i64 (ex-ey)))))-ey)),()))).1,((aa .i64 ((aa .i64 (ex-(if((70:Int)<(aa .i64 (ex-ey)))then(70:Int)else(aa .i64 (ex-ey)))))-ey)),()))).1.1==(0:Int))&&((AN.F ((AU.F (((0:Int),(Y,())),((aa .i64 ((aa .i64 (ex-(if((70:Int)<(aa .i64 (ex-ey)))then(70:Int)else(aa .i64 (ex-ey)))))-ey)),()))).1,((aa .i64 ((aa .i64 (ex-(if((70:Int)<(aa .i64 (ex-ey)))then(70:Int)else(aa .i64 (ex-ey)))))-ey)),()))).1.2.1==Y)))||((decide ((aa .i64 ((aa .i64 (ex-(if((70:Int)<(aa .i64 (ex-ey)))then(70:Int)else(aa .i64 (ex-ey)))))-ey))>(63:Int)))&&(Y !=(0:Int))))then(bif(B4.pre ((B4.F ((AN.F (((0:Int),(X,())),((if((70:Int)<(aa .i64 (ex-ey)))then(70:Int)else(aa .i64 (ex-ey))),()))).1,(AU.F (((0:Int),(Y,())),((aa .i64 ((aa .i64 (ex-(if((70:Int)<(aa .i64 (ex-ey)))then(70:Int)else(aa .i64 (ex-ey)))))-ey)),()))))).1,(((0:Int),((1:Int),())),())))then(bif((((B4.F ((B4.F ((AN.F (((0:Int),(X,())),((if((70:Int)<(aa .i64 (ex-ey)))then(70:Int)else(aa .i64 (ex-ey))),()))).1,(AU.F (((0:Int),(Y,())),((aa .i64 ((aa .i64 (ex-(if((70:Int)<(aa .i64 (ex-ey)))then(70:Int)else(aa .i64 (ex-ey)))))-ey)),()))))).1,(((0:Int),((1:Int),())),()))).1.1==(0:Int))&&((B4.F ((B4.F ((AN.F (((0:Int),(X,())),((if((70:Int)<(aa .i64 (ex-ey)))then(70:Int)else(aa .i64 (ex-ey))),()))).1,(AU.F (((0:Int),(Y,())),((aa .i64 ((aa .i64 (ex-(if((70:Int)<(aa .i64 (ex-ey)))then(70:Int)else(aa .i64 (ex-ey)))))-ey)),()))))).1,(((0:Int),((1:Int),())),()))).1.2.1==(0:Int)))&&(!((!(((AN.F ((AU.F (((0:Int),(Y,())),((aa .i64 ((aa .i64 (ex-(if((70:Int)<(aa .i64 (ex-ey)))then(70:Int)else(aa .i64 (ex-ey)))))-ey)),()))).1,((aa .i64 ((aa .i64 (ex-(if((70:Int)<(aa .i64 (ex-ey)))then(70:Int)else(aa .i64 (ex-ey)))))-ey)),()))).1.1==(0:Int))&&((AN.F ((AU.F (((0:Int),(Y,())),((aa .i64 ((aa .i64 (ex-(if((70:Int)<(aa .i64 (ex-ey)))then(70:Int)else(aa .i64 (ex-ey)))))-ey)),()))).1,((aa .i64 ((aa .i64 (ex-(if((70:Int)<(aa .i64 (ex-ey)))then(70:Int)else(aa .i64 (ex-ey)))))-ey)),()))).1.2.1==Y)))||((decide ((aa .i64 ((aa .i64 (ex-(if((70:Int)<(aa .i64 (ex-ey)))then(70:Int)else(aa .i64 (ex-ey)))))-ey))>(63:Int)))&&(Y !=(0:Int))))))then(bif(B0.pre (f,((m==(4:Int)),())))then(some ((B0.F (f,((m==(4:Int)),()))).1,((0:Int),((0:Int),()))))else none)else bif(Cd.pre (f,(m,(nx,((B4.F ((B4.F ((AN.F (((0:Int),(X,())),((if((70:Int)<(aa .i64 (ex-ey)))then(70:Int)else(aa .i64 (ex-ey))),()))).1,(AU.F (((0:Int),(Y,())),((aa .i64 ((aa .i64 (ex-(if((70:Int)<(aa .i64 (ex-ey)))then(70:Int)else(aa .i64 (ex-ey)))))-ey)),()))))).1,(((0:Int),((1:Int),())),()))).1,((aa .i64 (ex-(if((70:Int)<(aa .i64 (ex-ey)))then(70:Int)else(aa .i64 (ex-ey))))),(((!(((AN.F ((AU.F (((0:Int),(Y,())),((aa .i64 ((aa .i64 (ex-(if((70:Int)<(aa .i64 (ex-ey)))then(70:Int)else(aa .i64 (ex-ey)))))-ey)),()))).1,((aa .i64 ((aa .i64 (ex-(if((70:Int)<(aa .i64 (ex-ey)))then(70:Int)else(aa .i64 (ex-ey)))))-ey)),()))).1.1==(0:Int))&&((AN.F ((AU.F (((0:Int),(Y,())),((aa .i64 ((aa .i64 (ex-(if((70:Int)<(aa .i64 (ex-ey)))then(70:Int)else(aa .i64 (ex-ey)))))-ey)),()))).1,((aa .i64 ((aa .i64 (ex-(if((70:Int)<(aa .i64 (ex-ey)))then(70:Int)else(aa .i64 (ex-ey)))))-ey)),()))).1.2.1==Y)))||((decide ((aa .i64 ((aa .i64 (ex-(if((70:Int)<(aa .i64 (ex-ey)))then(70:Int)else(aa .i64 (ex-ey)))))-ey))>(63:Int)))&&(Y !=(0:Int)))),())))))))then(some (Cd.F (f,(m,(nx,((B4.F ((B4.F ((AN.F (((0:Int),(X,())),((if((70:Int)<(aa .i64 (ex-ey)))then(70:Int)else(aa .i64 (ex-ey))),()))).1,(AU.F (((0:Int),(Y,())),((aa .i64 ((aa .i64 (ex-(if((70:Int)<(aa .i64 (ex-ey)))then(70:Int)else(aa .i64 (ex-ey)))))-ey)),()))))).1,(((0:Int),((1:Int),())),()))).1,((aa .i64 (ex-(if((70:Int)<(aa .i64 (ex-ey)))then(70:Int)else(aa .i64 (ex-ey))))),(((!(((AN.F ((AU.F (((0:Int),(Y,())),((aa .i64 ((aa .i64 (ex-(if((70:Int)<(aa .i64 (ex-ey)))then(70:Int)else(aa .i64 (ex-ey)))))-ey)),()))).1,((aa .i64 ((aa .i64 (ex-(if((70:Int)<(aa .i64 (ex-ey)))then(70:Int)else(aa .i64 (ex-ey)))))-ey)),()))).1.1==(0:Int))&&((AN.F ((AU.F (((0:Int),(Y,())),((aa .i64 ((aa .i64 (ex-(if((70:Int)<(aa .i64 (ex-ey)))then(70:Int)else(aa .i64 (ex-ey)))))-ey)),()))).1,((aa .i64 ((aa .i64 (ex-(if((70:Int)<(aa .i64 (ex-ey)))then(70:Int)else(aa .i64 (ex-ey)))))-ey)),()))).1.2.1==Y)))||((decide ((aa .i64 ((aa .i64 (ex-(if((70:Int)<(aa .i64 (ex-ey)))then(70:Int)else(aa .i64 (ex-ey)))))-ey))>(63:Int)))&&(Y !=(0:Int)))),()))))))))else none)else none)else bif((((B4.F ((AN.F (((0:Int),(X,())),((if((70:Int)<(aa .i64 (ex-ey)))then(70:Int)else(aa .i64 (ex-ey))),()))).1,(AU.F (((0:Int),(Y,())),((aa .i64 ((aa .i64 (ex-(if((70:Int)<(aa .i64 (ex-ey)))then(70:Int)else(aa .i64 (ex-ey)))))-ey)),()))))).1.1==(0:Int))&&((B4.F ((AN.F (((0:Int),(X,())),((if((70:Int)<(aa .i64 (ex-ey)))then(70:Int)else(aa .i64 (ex-ey))),()))).1,(AU.F (((0:Int),(Y,())),((aa .i64 ((aa .i64 (ex-(if((70:Int)<(aa .i64 (ex-ey)))then(70:Int)else(aa .i64 (ex-ey)))))-ey)),()))))).1.2.1==(0:Int)))&&(!((!(((AN.F ((AU.F (((0:Int),(Y,())),((aa .i64 ((aa .i64 (ex-(if((70:Int)<(aa .i64 (ex-ey)))then(70:Int)else(aa .i64 (ex-ey)))))-ey)),()))).1,((aa .i64 ((aa .i64 (ex-(if((70:Int)<(aa .i64 (ex-ey)))then(70:Int)else(aa .i64 (ex-ey)))))-ey)),()))).1.1==(0:Int))&&((AN.F ((AU.F (((0:Int),(Y,())),((aa .i64 ((aa .i64 (ex-(if((70:Int)<(aa .i64 (ex-ey)))then(70:Int)else(aa .i64 (ex-ey)))))-ey)),()))).1,((aa .i64 ((aa .i64 (ex-(if((70:Int)<(aa .i64 (ex-ey)))then(70:Int)else(aa .i64 (ex-ey)))))-ey)),()))).1.2.1==Y)))||((decide ((aa .i64 ((aa .i64 (ex-(if((70:Int)<(aa .i64 (ex-ey)))then(70:Int)else(aa .i64 (ex-ey)))))-ey))>(63:Int)))&&(Y !=(0:Int))))))then(bif(B0.pre (f,((m==(4:Int)),())))then(some ((B0.F (f,((m==(4:Int)),()))).1,((0:Int),((0:Int),()))))else none)else bif(Cd.pre (f,(m,(nx,((B4.F ((AN.F (((0:Int),(X,())),((if((70:Int)<(aa .i64 (ex-ey)))then(70:Int)else(aa .i64 (ex-ey))),()))).1,(AU.F (((0:Int),(Y,())),((aa .i64 ((aa .i64 (ex-(if((70:Int)<(aa .i64 (ex-ey)))then(70:Int)else(aa .i64 (ex-ey)))))-ey)),()))))).1,((aa .i64 (ex-(if((70:Int)<(aa .i64 (ex-ey)))then(70:Int)else(aa .i64 (ex-ey))))),(((!(((AN.F ((AU.F (((0:Int),(Y,())),((aa .i64 ((aa .i64 (ex-(if((70:Int)<(aa .i64 (ex-ey)))then(70:Int)else(aa .i64 (ex-ey)))))-ey)),()))).1,((aa .i64 ((aa .i64 (ex-(if((70:Int)<(aa .i64 (ex-ey)))then(70:Int)else(aa .i64 (ex-ey)))))-ey)),()))).1.1==(0:Int))&&((AN.F ((AU.F (((0:Int),(Y,())),((aa .i64 ((aa .i64 (ex-(if((70:Int)<(aa .i64 (ex-ey)))then(70:Int)else(aa .i64 (ex-ey)))))-ey)),()))).1,((aa .i64 ((aa .i64 (ex-(if((70:Int)<(aa .i64 (ex-ey)))then(70:Int)else(aa .i64 (ex-ey)))))-ey)),()))).1.2.1==Y)))||((decide ((aa .i64 ((aa .i64 (ex-(if((70:Int)<(aa .i64 (ex-ey)))then(70:Int)else(aa .i64 (ex-ey)))))-ey))>(63:Int)))&&(Y !=(0:Int)))),())))))))then(some (Cd.F (f,(m,(nx,((B4.F ((AN.F (((0:Int),(X,())),((if((70:Int)<(aa .i64 (ex-ey)))then(70:Int)else(aa .i64 (ex-ey))),()))).1,(AU.F (((0:Int),(Y,())),((aa .i64 ((aa .i64 (ex-(if((70:Int)<(aa .i64 (ex-ey)))then(70:Int)else(aa .i64 (ex-ey)))))-ey)),()))))).1,((aa .i64 (ex-(if((70:Int)<(aa .i64 (ex-ey)))then(70:Int)else(aa .i64 (ex-ey))))),(((!(((AN.F ((AU.F (((0:Int),(Y,())),((aa .i64 ((aa .i64 (ex-(if((70:Int)<(aa .i64 (ex-ey)))then(70:Int)else(aa .i64 (ex-ey)))))-ey)),()))).1,((aa .i64 ((aa .i64 (ex-(if((70:Int)<(aa .i64 (ex-ey)))then(70:Int)else(aa .i64 (ex-ey)))))-ey)),()))).1.1==(0:Int))&&((AN.F ((AU.F (((0:Int),(Y,())),((aa .i64 ((aa .i64 (ex-(if((70:Int)<(aa .i64 (ex-ey)))then(70:Int)else(aa .i64 (ex-ey)))))-ey)),()))).1,((aa .i64 ((aa .i64 (ex-(if((70:Int)<(aa .i64 (ex-ey)))then(70:Int)else(aa .i64 (ex-ey)))))-ey)),()))).1.2.1==Y)))||((decide ((aa .i64 ((aa .i64 (ex-(if((70:Int)<(aa .i64 (ex-ey)))then(70:Int)else(aa .i64 (ex-ey)))))-ey))>(63:Int)))&&(Y !=(0:Int)))),()))))))))else none)else none)else none)else none)else none)else none)else none
theorem bG7(f m:Int)(nx:Bool)(X ex:Int)(ny:Bool)(Y ey:Int):W0 (f,m,(nx,X,ex,()),(ny,Y,ey,()),()) =
 (bif((X==0)&&(Y==0))&&(nx==ny)then(bif B0.pre (f,nx,())then some ((B0.F (f,nx,())).1,0,0,())else none)
 else bif(X==0)||((Y !=0)&&decide (ex<ey))then(bif X==0 then Y2 f m ny Y ey nx X ey else Y2 f m ny Y ey nx X ex)
 else bif Y==0 then Y2 f m nx X ex ny Y ex else Y2 f m nx X ex ny Y ey):=by kernel_rfl
theorem aHQ{n:Nat}(h:n<2^64):((0:Int),((n:Int),()))=Wi n:=by
 unfold Wi;rw[ci h,bt h];rfl
theorem aVY:((0:Int),((1:Int),()))=Wi 1:=rfl
theorem aHR{n:Nat}(h:n<2^128):(((Wi n).1==0)&&((Wi n).2.1==0))=decide (n=0):=by
 show(((n/2^64:Nat):Int)==0&&((n%2^64:Nat):Int)==0)=_;rw[FT,FT,fi,ag,beq_iff_eq,beq_iff_eq,decide_eq_true_eq];omega
theorem aZU{Y dn:Nat}(hY:Y<2^64):((!(((Wi (Y/2^dn*2^dn)).1==0)&&((Wi (Y/2^dn*2^dn)).2.1==(Y:Int))))||(decide ((dn:Int)>63)&&((Y:Int)!=0)))=decide (Y%2^dn≠0):=by
 have hdm:=ct Y (2^dn);rw[be]at hdm;generalize hL:Y/2^dn*2^dn=L at *
 show((!(((L/2^64:Nat):Int)==0&&((L%2^64:Nat):Int)==(Y:Int)))||(decide ((dn:Int)>63)&&((Y:Int)!=0)))=_;rw[FT,Lj,VQ];by_cases h:Y%2^dn=0
 ·rw[decide_eq_false (p:=Y%2^dn≠0) (by omega)];rw[show(L/2^64==0)=true by rw[beq_iff_eq];omega,show(L%2^64==Y)=true by rw[beq_iff_eq];omega];by_cases hy:Y=0
  ·rw[hy];simp
  ·have:¬(dn:Int)>63:=fun hd=>by
    have h1:Y<2^dn:=al hY (ai (by decide) (by omega));rw[bt h1]at h;exact hy h
   rw[decide_eq_false this];rfl
 ·rw[decide_eq_true (p:=Y%2^dn≠0) h];rw[show(L%2^64==Y)=false by rw[beq_eq_false_iff_ne];omega];simp
theorem T3{n k:Nat}(h:2^k<=n):k+1<=Am n:=by
 have h1:=Hj n;have:k<Am n:=(cu (a:=2) (by decide)).1 (bl h h1);omega
def DN(f m:Int)(nx:Bool)(X:Nat)(ex:Int)(ny:Bool)(Y:Nat)(ey:Int):Nat×Nat:=let e:=if ex<=ey then ex else ey;let a:=X*2^(ex-e).toNat;let b:=Y*2^(ey-e).toNat;if nx=ny then(if a+b=0 then(BK f nx,0)else Bj f m nx (a+b) e false)else if a=b then(BK f (m==4),0)else if b<a then Bj f m nx (a-b) e false else Bj f m ny (b-a) e false
theorem aD0{f m:Int}{nx:Bool}{X:Nat}{ey:Int}{ny:Bool}{Y:Nat}(D:Nat):
  DN f m nx X (ey+D) ny Y ey=if nx=ny then(if X*2^D+Y=0 then(BK f nx,0)else Bj f m nx (X*2^D+Y) ey false)
   else if X*2^D=Y then(BK f (m==4),0)else if Y<X*2^D then Bj f m nx (X*2^D-Y) ey false else Bj f m ny (Y-X*2^D) ey false:=by
 unfold DN;have he:(if ey+(D:Int)<=ey then ey+(D:Int)else ey)=ey:=by split<;>omega
 simp only[he];rw[show(ey+(D:Int)-ey).toNat=D by omega,show(ey-ey).toNat=0 by omega,iu,gq]
theorem tX(f m:Int)(nx:Bool)(X:Nat)(ex:Int)(ny:Bool)(Y:Nat)(ey:Int):DN f m nx X ex ny Y ey=DN f m ny Y ey nx X ex:=by
 unfold DN;have he:(if ex<=ey then ex else ey)=(if ey<=ex then ey else ex):=by split<;>split<;>omega
 simp only[he];generalize(if ey<=ex then ey else ex)=e;generalize X*2^(ex-e).toNat=a;generalize Y*2^(ey-e).toNat=b;by_cases hn:nx=ny
 ·subst hn;rw[if_pos rfl,if_pos rfl,io]
 ·rw[if_neg hn,if_neg (Ne.symm hn)];rcases fh a b with h|h|h
  ·rw[if_neg (by omega),if_neg (by omega),if_neg (by omega),if_pos h]
  ·rw[if_pos h,if_pos h.symm]
  ·rw[if_neg (by omega),if_pos h,if_neg (by omega),if_neg (by omega)]
theorem V8{f m:Int}(hf:Fm f)(nx:Bool)(X:Nat)(ex:Int)(ny:Bool)(ey:Int):DN f m nx X ex ny 0 ey=if X=0 then(if nx=ny then(BK f nx,0)else(BK f (m==4),0))else Bj f m nx X ex false:=by
 rcases Int.le_total ex ey with h|h
 ·obtain⟨D,hD⟩:=cd (show 0<=ey-ex by omega);have:ey=ex+D:=by omega
  subst this;rw[tX,aD0,ff,de];by_cases hn:nx=ny
  ·subst hn;simp only[↓reduceIte]
  ·rw[if_neg (Ne.symm hn),if_neg hn];by_cases hx:X=0
   ·subst hx;simp only[↓reduceIte]
   ·rw[if_neg (by omega),if_neg (by omega),if_neg hx,mo]
 ·obtain⟨D,hD⟩:=cd (show 0<=ex-ey by omega);have:ex=ey+D:=by omega
  subst this;rw[aD0,cz];by_cases hx:X=0
  ·subst hx;rw[if_pos rfl,ff,if_pos rfl,if_pos rfl]
  ·have hp:=aj D;have hpos:0<X*2^D:=gz (by omega) hp;rw[if_neg hx];by_cases hn:nx=ny
   ·rw[if_pos hn,if_neg (by omega),YT hf hx]
   ·rw[if_neg hn,if_neg (by omega),if_pos hpos,mo,YT hf hx]
theorem xU{f m:Int}(hf:Fm f)(hm:0<=m/\m<=5)(nx:Bool)(X D:Nat)(ny:Bool)(Y:Nat)(ey:Int)(hX:X<2^53)(hY:Y<2^53)(he:-2000<=ey/\ey+D<=2000)(h0:X≠0∨(Y=0/\nx≠ny)):
  Y2 f m nx X (ey+D) ny Y ey=some (((DN f m nx X (ey+D) ny Y ey).1:Int),((DN f m nx X (ey+D) ny Y ey).2:Int),0,()):=by
 rw[aD0];have hW:=Ez hf;have hP:=Et hf;have hU:∃U dn:Nat,(if(70:Int)<(D:Int)then(70:Int)else(D:Int))=(U:Int)/\D=U+dn/\U<=70/\(dn≠0->U=70):=by
  by_cases h:70<D
  ·exact⟨70,D-70,by rw[if_pos (by omega)];rfl,by omega,by omega,fun _=>rfl⟩
  ·exact⟨D,0,by rw[if_neg (by omega)],by omega,by omega,fun h=>absurd rfl h⟩
 obtain⟨U,dn,hU1,hU2,hU3,hU4⟩:=hU;have e1:aa .i64 (ey+(D:Int)-ey)=(D:Int):=by rw[At (by omega)];omega
 have e2:aa .i64 (ey+(D:Int)-(U:Int))=ey+(dn:Int):=by rw[At (by omega)];omega
 have e3:aa .i64 (ey+(dn:Int)-ey)=(dn:Int):=by rw[At (by omega)];omega
 have hpU:=aj U;have hpd:=aj dn;have hU70:2^U<=2^70:=ai (by decide) hU3;have hH:X*2^U<2^123:=by
  have h1:X*2^U<=X*2^70:=cp _ hU70;have h2:X*2^70<2^53*2^70:=cj hX (by decide);omega
 have hXD:X*2^D=X*2^U*2^dn:=by rw[hU2,bj,bh]
 have hbig:Y%2^dn≠0->2^70<=X*2^U/\X≠0:=fun h=>by
  have hd:dn≠0:=fun h1=>by rw[h1,iu,pw]at h;exact h rfl
  have hy:Y≠0:=fun h1=>by rw[h1,Nat.zero_mod]at h;exact h rfl
  have hx:X≠0:=by
   rcases h0 with h|h
   ·exact h
   ·exact absurd h.1 hy
  refine⟨?_,hx⟩;rw[hU4 hd];exact ik _ (by omega)
 have hYL:Y/2^dn<=Y:=dw _ _;have hLd:Y/2^dn*2^dn<=Y:=kx _ _;have p1:UQ (((0:Int),((X:Int),())),((U:Int),()))=some (Wi (X*2^U),()):=by
  rw[aHQ (by omega),aFU _ _ (by omega),bt (by omega)]
 have p2:WD (((0:Int),((Y:Int),())),((dn:Int),()))=some (Wi (Y/2^dn),()):=by
  rw[aHQ (by omega),aUr _ _ (by omega)]
 have p3:UQ (Wi (Y/2^dn),((dn:Int),()))=some (Wi (Y/2^dn*2^dn),()):=by
  rw[aFU _ _ (by omega),bt (by omega)]
 have p4:=aUs (X*2^U) (Y/2^dn) (by omega);have p5:=aUt (X*2^U) (Y/2^dn);have pz:=aK hf (m==4);unfold Y2;simp only[e1,hU1,e2,e3,aOO p1,aMJ p1,bAX p2,aYn p2,aOO p3,aMJ p3,cond_true,bAY p4,aYo p4,bAZ p5,aYp p5,aZU (show Y<2^64 by omega)];have hdm:=ct Y (2^dn);have hml:=ca Y hpd;have hX0H:X=0->X*2^U=0:=fun h=>by rw[h,ff]
 have hXb:X≠0->dn≠0->2^70<=X*2^U:=fun h1 h2=>by rw[hU4 h2];exact ik _ (by omega)
 have hHp:X≠0->0<X*2^U:=fun h=>gz (by omega) hpU;clear e1 e2 e3 p1 p2 p3;rw[be]at hdm;generalize hHe:X*2^U=H at *
 generalize hLe:Y/2^dn=L at *
 generalize hRe:Y%2^dn=R at *
 by_cases hn:nx=ny
 ·subst hn;rw[if_pos rfl,show(nx==nx)=true by cases nx<;>rfl,cond_true];have hX0:X≠0:=by
   rcases h0 with h|h
   ·exact h
   ·exact absurd rfl h.2
  have hHp:=hHp hX0;have hN:X*2^D+Y=Y+H*2^dn:=by rw[hXD,io]
  have hNd:(X*2^D+Y)/2^dn=H+L:=by rw[hN,np _ _ hpd,hLe,io]
  have hNm:(X*2^D+Y)%2^dn=R:=by rw[hN,kp,hRe]
  have hbl:R≠0->fP f+2<=Am (H+L):=fun h=>by
   have h1:=(hbig h).1;have:=T3 (n:=H+L) (k:=70) (by omega);omega
  have p6:=aN hf hm nx (H+L) (by omega) (ey+(dn:Int)) (by omega) (decide (R≠0)) (fun h=>hbl (by simpa using h));rw[if_neg (by omega)]at p6;simp only[jA p6,gX p6,cond_true];have htr:=aDN (f:=f) (m:=m) (neg:=nx) (N:=X*2^D+Y) (k:=dn) (E:=ey) hf (by rw[hNd];omega) (by rw[hNd,hNm];exact hbl);rw[hNd,hNm]at htr;have hpp:0<H*2^dn:=gz hHp hpd;rw[htr,if_neg (by rw[hXD];omega)]
 ·rw[if_neg hn,show(nx==ny)=false by cases nx<;>cases ny<;>first|rfl|exact absurd rfl hn,cond_false];by_cases hlt:H<L
  ·have hm0:R=0:=by
    by_cases h:R=0
    ·exact h
    ·have:=(hbig h).1;omega
   have hdn:dn=0:=by
    by_cases h:dn=0
    ·exact h
    ·exfalso;rcases h0 with h1|h1
     ·have h2:=hXb h1 h;omega
     ·have:=h1.1;omega
   subst hdn;have hY1:Y=L:=by rw[←hLe];simp
   subst hY1;have hXD1:X*2^D=H:=by rw[hXD];simp
   rw[hm0,hXD1];have p7:=zT Y H (by omega) (by omega);have p6:=aN hf hm ny (Y-H) (by omega) (ey+((0:Nat):Int)) (by omega) false (fun h=>by cases h);rw[if_neg (by omega)]at p6;have z1:decide ((if H=Y then(0:Int)else if H<Y then -1 else 1)<0)=true:=by
    rw[if_neg (by omega),if_pos hlt];rfl
   have z2:decide ((0:Nat)≠0)=false:=by decide
   have z3:=aHR (n:=Y-H) (by omega);rw[decide_eq_false (p:=Y-H=0) (by omega)]at z3;simp only[z1,z2,cond_true,cond_false,aDq p7,aCx p7,z3,ao,jA p6,gX p6];rw[if_neg (by omega),if_neg (by omega),ij,ln]
  ·have hge:L<=H:=by omega
   have p7:=zT H L (by omega) hge;have z1:decide ((if H=L then(0:Int)else if H<L then -1 else 1)<0)=false:=by
    by_cases h:H=L
    ·rw[if_pos h];rfl
    ·rw[if_neg h,if_neg hlt];rfl
   simp only[z1,cond_false,aDq p7,aCx p7,cond_true];by_cases hm0:R=0
   ·rw[hm0,show decide ((0:Nat)≠0)=false by decide,cond_false];have hYe:Y=L*2^dn:=by omega
    have z3:=aHR (n:=H-L) (by omega);rw[z3];by_cases hz:H-L=0
    ·have heq:X*2^D=Y:=by rw[hXD,hYe,show H=L by omega]
     rw[decide_eq_true hz,if_pos heq];simp only[ar,av,cond_true,i9 pz,gW pz];rfl
    ·rw[decide_eq_false hz];have p6:=aN hf hm nx (H-L) (by omega) (ey+(dn:Int)) (by omega) false (fun h=>by cases h);rw[if_neg hz]at p6;simp only[ao,cond_false,jA p6,gX p6,cond_true];have hN:X*2^D-Y=(H-L)*2^dn:=by rw[hXD,Nat.sub_mul,←hYe]
     have hpp:0<(H-L)*2^dn:=gz (by omega) hpd;have hlt2:Y<X*2^D:=by omega
     rw[if_neg (by omega),if_pos hlt2,hN,YT hf hz]
   ·rw[decide_eq_true (p:=R≠0) hm0,cond_true];obtain⟨hb1,hX0⟩:=hbig hm0;have p8:=zT (H-L) 1 (by omega) (by omega);rw[←aVY]at p8;have hbl:fP f+2<=Am (H-L-1):=by
     have:=T3 (n:=H-L-1) (k:=69) (by omega);omega
    have p6:=aN hf hm nx (H-L-1) (by omega) (ey+(dn:Int)) (by omega) true (fun _=>hbl);rw[if_neg (by omega)]at p6;simp only[aDq p8,aCx p8,cond_true,au,ay,cond_false,jA p6,gX p6];have h2:(L+1+(H-L-1))*2^dn=H*2^dn:=by rw[show L+1+(H-L-1)=H by omega]
    rw[cm,cm,fw]at h2;have hN:X*2^D-Y=(2^dn-R)+(H-L-1)*2^dn:=by rw[hXD];omega
    have hlt2:Y<X*2^D:=by omega
    have hNd:(X*2^D-Y)/2^dn=H-L-1:=by
     rw[hN,np _ _ hpd,ci (by omega),de]
    have hNm:(X*2^D-Y)%2^dn=2^dn-R:=by
     rw[hN,kp,bt (by omega)]
    have htr:=aDN (f:=f) (m:=m) (neg:=nx) (N:=X*2^D-Y) (k:=dn) (E:=ey) hf (by rw[hNd];omega) (fun _=>by rw[hNd];exact hbl);rw[hNd,hNm,decide_eq_true (p:=2^dn-R≠0) (by omega)]at htr;rw[htr,if_neg (by omega),if_pos hlt2]
theorem aVm{f m:Int}(hf:Fm f)(hm:0<=m/\m<=5)(nx:Bool)(X:Nat)(ex:Int)(ny:Bool)(Y:Nat)(ey:Int)(hX:X<2^53)(hY:Y<2^53)(hex:-2000<=ex/\ex<=2000)(hey:-2000<=ey/\ey<=2000):
  W0 (f,m,(nx,(X:Int),ex,()),(ny,(Y:Int),ey,()),())=some (((DN f m nx X ex ny Y ey).1:Int),((DN f m nx X ex ny Y ey).2:Int),0,()):=by
 rw[bG7];by_cases hX0:X=0
 ·subst hX0;by_cases hYn:Y=0/\nx=ny
  ·obtain⟨rfl,rfl⟩:=hYn;have p0:=aK hf nx;rw[show((((0:Nat):Int)==0)&&(((0:Nat):Int)==0)&&(nx==nx))=true by cases nx<;>rfl,cond_true];simp only[i9 p0,gW p0,cond_true];rw[V8 hf,if_pos rfl,if_pos rfl];rfl
  ·have hg:((((0:Nat):Int)==0)&&(((Y:Nat):Int)==0)&&(nx==ny))=false:=by
    by_cases hy:Y=0
    ·have:nx≠ny:=fun h=>hYn ⟨hy,h⟩;subst hy;cases nx<;>cases ny<;>first|rfl|exact absurd rfl this
    ·rw[AF Y hy,ay,ao]
   have h1:(((0:Nat):Int)==0)=true:=rfl;rw[hg,cond_false,h1,aw,cond_true,cond_true];have ht:=xU hf hm ny Y 0 nx 0 ey hY hX (by omega) (by
    by_cases hy:Y=0
    ·exact .inr ⟨rfl,fun h=>hYn ⟨hy,h.symm⟩⟩
    ·exact .inl hy)
   rw[ij,ln]at ht;rw[ij,ht,tX f m nx 0 ex,V8 hf,V8 hf]
 ·have hx0:((X:Int)==0)=false:=AF _ hX0;rw[hx0,ao,ao,cond_false,bd,cond_false];by_cases hY0:Y=0
  ·subst hY0;have ht:=xU hf hm nx X 0 ny 0 ex hX hY (by omega) (.inl hX0);rw[ij,ln]at ht;rw[show(((0:Nat):Int)!=0)=false by rfl,ao,cond_false,show(((0:Nat):Int)==0)=true by rfl,cond_true,ij,ht,V8 hf,V8 hf]
  ·rw[AI _ hY0,az,AF _ hY0,cond_false];by_cases hlt:ex<ey
   ·rw[decide_eq_true hlt,cond_true];obtain⟨D,hD⟩:=cd (show 0<=ey-ex by omega);have hee:ey=ex+D:=by omega
    subst hee;rw[xU hf hm ny Y D nx X ex hY hX (by omega) (.inl hY0),tX f m ny Y]
   ·rw[decide_eq_false hlt,cond_false];obtain⟨D,hD⟩:=cd (show 0<=ex-ey by omega);have hee:ex=ey+D:=by omega
    subst hee;rw[xU hf hm nx X D ny Y ey hX hY (by omega) (.inl hX0)]
end VL
namespace VL
open Go Vx
def Dh(n:Nat):List Int:=Wd (dg (2^32) n)
def Hs(l:List Nat):Prop:=(∀x∈l,x<2^32)/\l.length<=1000000
theorem Hs.dg{n:Nat}(h:n<2^100000):Hs (dg (2^32) n):=by
 refine⟨La (by decide) n,?_⟩;have:n<(2^32)^3125:=by rw[←fq];exact h
 have:=D0 (B:=2^32) (by decide) 3125 n this;omega
theorem Fl(n:Nat):nv (2^32) (dg (2^32) n)=n:=i2 (by decide) n
theorem aEj:Dh 0=[]:=by unfold Dh;rw[Dt];rfl
theorem Wl(n:Nat):(((Dh n).length:Int)==0)=decide (n=0):=by
 unfold Dh;rw[Ay];by_cases h:n=0
 ·subst h;rw[Dt];rfl
 ·rw[Ep (by decide) (by omega),decide_eq_false h];exact AF _ (by simp)
theorem aEi{n:Nat}(h:n≠0):0<(Dh n).length:=by
 unfold Dh;rw[Ay,Ep (by decide) (by omega)];simp
theorem aRK(n:Nat):(Dh n).getD 0 0=((n%2^32:Nat):Int):=by
 unfold Dh;rw[BH];rcases br n with rfl|h
 ·rw[Dt];rfl
 ·rw[Ep (by decide) h];rfl
theorem lJ{x:Nat}(h0:x≠0)(h:x<2^32):Dh x=(x:Int)::[]:=by
 unfold Dh;rw[Ep (by decide) (by omega),bt h,ci h,Dt];rfl
theorem Lw(n:Nat)(h:n<=100000000):ED n 8=true:=by
 unfold ED;rw[Nat.ble_eq];omega
theorem O8(x:Nat):gj (x:Int) 4294967296=((x%2^32:Nat):Int):=rfl
theorem VZ(x:Nat)(h:x<2^64):Bg .u64 (x:Int) 4294967296=((x/2^32:Nat):Int):=by
 unfold Bg;have e:(x:Int).tdiv 4294967296=((x/2^32:Nat):Int):=rfl;rw[e,Dy (by omega)]
theorem aPk(n:Nat)(hn:n<=1000000000):Bg .i64 (n:Int) 32=((n/32:Nat):Int):=by
 unfold Bg;have e:(n:Int).tdiv 32=((n/32:Nat):Int):=rfl;rw[e,At (by omega)]
theorem aRs(n:Nat):gj (n:Int) 32=((n%32:Nat):Int):=rfl
theorem Ji(n:Nat)(h:n<2^64):aa .u64 (n:Int)=(n:Int):=Dy (by omega)
theorem j3(a b:Nat)(h:a*b<2^64):aa .u64 ((a:Int)*(b:Int))=((a*b:Nat):Int):=by
 rw[←le,Ji _ h]
theorem Dk(a b:Nat)(h:a+b<2^64):aa .u64 ((a:Int)+(b:Int))=((a+b:Nat):Int):=by
 rw[←ni,Ji _ h]
theorem Pa(l:List Nat)(v:Nat):Wd l++((v:Int)::[])=Wd (l++[v]):=by simp[Wd]
theorem bHj(l:List Nat)(u v:Nat):Wd l++((u:Int)::((v:Int)::[]))=Wd (l++[u,v]):=by simp[Wd]
theorem aVA(l:List Nat)(hl:l.length<=1000000)(n:Nat)(hn:n<=l.length)(ht:(Al l).length<=n):
  oD ((Wd l,((n:Int),())),())=some (.inl ((Wd l,(((Al l).length:Int),())),())):=by
 have key:=CD aNN (fun x=>x.1.2.1.toNat)
  (fun x=>∃n:Nat,n<=l.length/\(Al l).length<=n/\x=((Wd l,((n:Int),())),()))
  (fun _=>.inl ((Wd l,(((Al l).length:Int),())),())) ?_ ((Wd l,((n:Int),())),()) ⟨n,hn,ht,rfl⟩
 ·exact key
 intro L x hx hL;obtain⟨n,hn,ht,rfl⟩:=hx;unfold X3;rcases br n with rfl|hpos
 ·have e1:decide (((0:Nat):Int)>0)=false:=rfl;simp only[e1,ar,ba,cond_true,ao,cond_false];have:(Al l).length=0:=by omega
  rw[this]
 ·simp(disch:=omega) only[A5,AT,A6,AQ,AH,A7,AS,AR,A2,A1,AZ,AY,AW,AV,A4,A3,AX,AP,AE,AM,AF,AI,AO,ab,ap,cond_true,cond_false,av,az,bg,ao,ay,au,ar,bb,aw,ba,bd,bi,Ay,BH,FT];cases hz:(l.getD (n-1) 0==0)with
  |true=>
   simp only[cond_true];refine hL _ ⟨n-1,by omega,?_,rfl⟩ (by simp only[ab];omega);rcases ax (n-1) (Al l).length with h|h
   ·exfalso;have e:n=(Al l).length:=by omega
    have:=V9 l (by omega);rw[←e]at this;exact this (by simpa using hz)
   ·exact h
  |false=>
   simp only[cond_false];have:(Al l).length=n:=by
    rcases ax (n-1) (Al l).length with h|h
    ·omega
    ·exfalso;have:=xW l (n-1) h;rw[this]at hz;simp at hz
   rw[this]
theorem aF3(l:List Nat)(hl:l.length<=1000000):WI (Wd l,())=some (Wd (Al l),()):=by
 show uZ oD (Wd l)=_;unfold uZ;have h:=aVA l hl l.length (bu _) (Dx l).1;have e:=(Dx l).1;rw[Ay,h];show(bif(decide ((0:Int)<=((Al l).length:Int))&&decide (((Al l).length:Int)<=((Wd l).length:Int)))then some (((Wd l).take (af ((Al l).length:Int))).drop (af 0),())else none)=_;simp(disch:=omega) only[A5,AT,A6,AQ,AH,A7,AS,AR,A2,A1,AZ,AY,AW,AV,A4,A3,AX,AP,AE,AM,AF,AI,AO,ab,ap,cond_true,cond_false,av,az,bg,ao,ay,au,ar,bb,aw,ba,bd,bi,Ay,jp,eG];rw[←(Dx l).2]
theorem UT{l:List Nat}(hl:Hs l){v:Nat}(hv:nv (2^32) l=v):WI (Wd l,())=some (Dh v,()):=by
 rw[aF3 l hl.2,FW (by decide) _ hl.1,hv];rfl
theorem IP{B:Nat}{l:List Nat}{v:Nat}(h:∀x∈l,x<B)(hv:v<B):∀x∈l++[v],x<B:=fun x hx=>by
 rcases cw.1 hx with hx|hx
 ·exact h x hx
 ·have:x=v:=by simpa using hx
  rw[this];exact hv
theorem Ll(B:Nat)(l:List Nat)(v:Nat):nv B (l++[v])=nv B l+B^l.length*v:=by
 rw[Uo];simp[nv]
theorem aVs(a:List Nat)(ha:∀x∈a,x<2^64)(hlen:a.length<=1000000):
  n7 ((Wd a,((0:Int),((),()))),([],()))=some (.inl (((),()),(Wd (pd (2^32) (2*a.length) (nv (2^64) a)),()))):=by
 have key:=CD (aNF Ap.pre Ap.F) (fun x=>a.length-x.1.2.1.toNat)
  (fun x=>∃(i:Nat) (out:List Nat),i<=a.length/\out.length=2*i/\(∀x∈out,x<2^32)/\nv (2^32) out=nv (2^64) (a.take i)/\x=((Wd a,((i:Int),((),()))),(Wd out,())))
  (fun _=>.inl (((),()),(Wd (pd (2^32) (2*a.length) (nv (2^64) a)),()))) ?_ ((Wd a,((0:Int),((),()))),([],())) ⟨0,[],dq _,rfl,(fun x hx=>by simp at hx),by simp[nv],rfl⟩
 ·exact key
 intro L x hx hL;obtain⟨i,out,hi,hol,hod,hov,rfl⟩:=hx;unfold XV;rcases ax i a.length with hlt|hge
 ·have hx:=BZ (by decide) ha i;have hn:=C0 (2^64) a i;generalize hd:a.getD i 0=d at *
  simp(disch:=omega) only[A5,AT,A6,AQ,AH,A7,AS,AR,A2,A1,AZ,AY,AW,AV,A4,A3,AX,AP,AE,AM,AF,AI,AO,ab,ap,cond_true,cond_false,av,az,bg,ao,ay,au,ar,bb,aw,ba,bd,bi,Ay,BH,hd,O8,VZ,bHj,dh,ee,Lw];refine hL _ ⟨i+1,out++[d%2^32,d/2^32],by omega,by simp;omega,?_,?_,rfl⟩ (by simp only[ab];omega)
  ·intro x hx;rcases cw.1 hx with hx|hx
   ·exact hod x hx
   ·have:x=d%2^32∨x=d/2^32:=by simpa using hx
    omega
  ·rw[Uo,hov,hol,hn,fq];show nv (2^64) (a.take i)+(2^64)^i*(d%2^32+2^32*(d/2^32+2^32*0))=_;congr 2;omega
 ·have e:i=a.length:=by omega
  subst e;rw[dp]at hov;have ho:=Uq (B:=2^32) (by decide) hod hol hov;subst ho;simp(disch:=omega) only[A5,AT,A6,AQ,AH,A7,AS,AR,A2,A1,AZ,AY,AW,AV,A4,A3,AX,AP,AE,AM,AF,AI,AO,ab,ap,cond_true,cond_false,av,az,bg,ao,ay,au,ar,bb,aw,ba,bd,bi,Ay]
theorem aUu(a:List Nat)(ha:∀x∈a,x<2^64)(hlen:a.length<=400000):WE (Wd a,())=some (Dh (nv (2^64) a),()):=by
 show uG Ap.pre Ap.F n7 (Wd a)=_;unfold uG;have hw:=aVs a ha (by omega);have hlt:=CP (B:=2^64) (by decide) a ha;have p0:=UT (l:=pd (2^32) (2*a.length) (nv (2^64) a)) ⟨Hp (by decide) _ _,by rw[Da];omega⟩ (Hq (by decide) _ _ (by rw[fq];exact hlt));have e1:aa .i64 (2*((Wd a).length:Int))=((2*a.length:Nat):Int):=by rw[Ay,At (by omega)];omega
 have e2:decide (((2*a.length:Nat):Int)*8<=140737488355328)=true:=decide_eq_true (by omega);simp(disch:=omega) only[A5,AT,A6,AQ,AH,A7,AS,AR,A2,A1,AZ,AY,AW,AV,A4,A3,AX,AP,AE,AM,AF,AI,AO,ab,ap,cond_true,cond_false,av,az,bg,ao,ay,au,ar,bb,aw,ba,bd,bi,e1,e2,il,hw];show(bif Ap.pre (Wd (pd (2^32) (2*a.length) (nv (2^64) a)),())then some (Ap.F (Wd (pd (2^32) (2*a.length) (nv (2^64) a)),()))else none)=_;simp only[Ut p0,Uh p0,cond_true];rfl
theorem aFV{x:Nat}(h:x<2^64):WE (((x:Int)::[]),())=some (Dh x,()):=by
 have:=aUu [x] (fun y hy=>by rw[List.mem_singleton.1 hy];exact h) (by simp);simpa[nv,Wd]using this
theorem aLJ{B:Nat}{out:List Nat}{k c V V' d:Nat}(hol:out.length=k)(hov:nv B out+B^k*c=V)(hV:V'=V+B^k*d):
  nv B (out++[(d+c)%B])+B^(k+1)*((d+c)/B)=V':=by
 rw[Ll,hol,hV,←hov,dl,bh,Nat.add_assoc,←bw];have:=iq (d+c) B;rw[this,bw];omega
theorem aLH{B:Nat}(hB:2<=B){out:List Nat}{k c V:Nat}(hol:out.length=k)(hod:∀x∈out,x<B)(hov:nv B out+B^k*c=V):out=pd B k (V%B^k)/\c=V/B^k:=by
 have hlt:=CP hB out hod;rw[hol]at hlt;have hp:0<B^k:=go (by omega);refine⟨Uq (by omega) hod hol ?_,?_⟩
 ·rw[←hov,gv,bt hlt]
 ·rw[←hov,fc _ _ hp,ci hlt,de]
theorem sN(B n:Nat):nv B (aq n 0)=0:=by
 induction n with
 |zero=>rfl
 |succ n ih=>rw[jh];simp[nv,ih]
theorem aVt(l:List Nat)(hl:Hs l)(m w:Nat)(hm:m<=2^31)(hw:w<=1000000):
  n8 ((Wd l,((m:Int),((0:Int),((),((0:Int),()))))),(Wd (aq w 0),())) =
   some (.inl (((),((((2^32)^w*(nv (2^32) l*m)/(2^32)^(w+l.length):Nat):Int),())),(Wd (pd (2^32) (w+l.length) ((2^32)^w*(nv (2^32) l*m)%(2^32)^(w+l.length))),()))):=by
 have key:=CD (aNG Ap.pre Ap.F) (fun x=>l.length-x.1.2.2.1.toNat)
  (fun x=>∃(i:Nat) (out:List Nat) (c:Nat),i<=l.length/\out.length=w+i/\(∀x∈out,x<2^32)/\c<2^32/\nv (2^32) out+(2^32)^(w+i)*c=(2^32)^w*(nv (2^32) (l.take i)*m)/\x=((Wd l,((m:Int),((i:Int),((),((c:Int),()))))),(Wd out,())))
  (fun _=>.inl (((),((((2^32)^w*(nv (2^32) l*m)/(2^32)^(w+l.length):Nat):Int),())),(Wd (pd (2^32) (w+l.length) ((2^32)^w*(nv (2^32) l*m)%(2^32)^(w+l.length))),()))) ?_ _
  ⟨0,aq w 0,0,dq _,by simp,(fun x hx=>by have:=kz hx;omega),by decide,by rw[sN];simp[nv],rfl⟩
 ·exact key
 intro L x hx hL;obtain⟨i,out,c,hi,hol,hod,hc,hov,rfl⟩:=hx;have hll:=hl.2;unfold XW;rcases ax i l.length with hlt|hge
 ·have hx:=BZ (by decide) hl.1 i;have hn:=C0 (2^32) l i;generalize hd:l.getD i 0=d at *
  have hdm:d*m<=d*2^31:=cp _ hm;have hdm2:d*m<2^63:=by omega
  have hstep:=aLJ (B:=2^32) (V':=(2^32)^w*(nv (2^32) (l.take (i+1))*m)) (d:=d*m) hol hov (by
   rw[hn,cm,bw,bj,bh,bh])
  have e1:=j3 d m (by omega);generalize d*m=dm at *
  simp(disch:=omega) only[A5,AT,A6,AQ,AH,A7,AS,AR,A2,A1,AZ,AY,AW,AV,A4,A3,AX,AP,AE,AM,AF,AI,AO,ab,ap,cond_true,cond_false,av,az,bg,ao,ay,au,ar,bb,aw,ba,bd,bi,Ay,BH,hd,e1,Dk,O8,VZ,Pa,dh,ee,Lw];exact hL _ ⟨i+1,out++[(dm+c)%2^32],(dm+c)/2^32,by omega,by simp;omega,IP hod (ca _ (by decide)),by omega,hstep,rfl⟩ (by simp only[ab];omega)
 ·have e:i=l.length:=by omega
  subst e;rw[dp]at hov;obtain⟨h1,h2⟩:=aLH (by decide) hol hod hov;simp(disch:=omega) only[A5,AT,A6,AQ,AH,A7,AS,AR,A2,A1,AZ,AY,AW,AV,A4,A3,AX,AP,AE,AM,AF,AI,AO,ab,ap,cond_true,cond_false,av,az,bg,ao,ay,au,ar,bb,aw,ba,bd,bi,Ay];rw[h1,h2]
theorem aUv(l:List Nat)(hl:Hs l)(hl2:l.length<=400000)(n:Nat)(hn:n<=10000000):NC (Wd l,(n:Int),())=some (Dh (nv (2^32) l*2^n),()):=by
 show uI Ap.pre Ap.F n8 (Wd l) n=_;unfold uI;have hs:n%32<32:=ca _ (by decide);have hm:2^(n%32)<=2^31:=ai (by decide) (by omega);have hw:=aVt l hl (2^(n%32)) (n/32) hm (by omega);have hV:(2^32)^(n/32)*(nv (2^32) l*2^(n%32))=nv (2^32) l*2^n:=by
  rw[←fq,fx,←bj];congr 2;omega
 rw[hV]at hw;have hB:0<(2^32)^(n/32+l.length):=go (by decide);have hlt:=CP (B:=2^32) (by decide) l hl.1;have hq:nv (2^32) l*2^n/(2^32)^(n/32+l.length)<2^32:=by
  rw[bv hB,←hV,bj,fx (2^32)];refine(Nat.mul_lt_mul_left (go (n:=n/32) (show 0<2^32 by decide))).2 ?_;have h1:nv (2^32) l*2^(n%32)<=nv (2^32) l*2^32:=cp _ (by omega);have h2:nv (2^32) l*2^32<(2^32)^l.length*2^32:=cj hlt (by decide);rw[be (2^32) ((2^32)^l.length)];omega
 have hlast:nv (2^32) (pd (2^32) (n/32+l.length) (nv (2^32) l*2^n%(2^32)^(n/32+l.length))++[nv (2^32) l*2^n/(2^32)^(n/32+l.length)])=nv (2^32) l*2^n:=by
  rw[Ll,Da,Hq (by decide) _ _ (ca _ hB)];exact iq _ _
 have p0:=UT ⟨IP (Hp (by decide) (n/32+l.length) (nv (2^32) l*2^n%(2^32)^(n/32+l.length))) hq,by simp[Da];omega⟩ hlast;have hpl:=Da (2^32) (n/32+l.length) (nv (2^32) l*2^n%(2^32)^(n/32+l.length));generalize nv (2^32) l*2^n/(2^32)^(n/32+l.length)=C at *
 generalize pd (2^32) (n/32+l.length) (nv (2^32) l*2^n%(2^32)^(n/32+l.length))=O at *
 have e0:decide (((n/32+l.length+1:Nat):Int)*8<=140737488355328)=true:=decide_eq_true (by omega);have e1:(1:Int)=((1:Nat):Int):=rfl;simp(disch:=omega) only[A5,AT,A6,AQ,AH,A7,AS,AR,A2,A1,AZ,AY,AW,AV,A4,A3,AX,AP,AE,AM,AF,AI,AO,ab,ap,cond_true,cond_false,av,az,bg,ao,ay,au,ar,bb,aw,ba,bd,bi,aPk,aRs,Ji,O4,Ay,NF,e0,hw];show(bif ED ((Wd O).length+((C:Int)::[]).length) 8 then(bif Ap.pre (Wd O++((C:Int)::[]),())then some (Ap.F (Wd O++((C:Int)::[]),()))else none)else none)=_;simp(disch:=omega) only[A5,AT,A6,AQ,AH,A7,AS,AR,A2,A1,AZ,AY,AW,AV,A4,A3,AX,AP,AE,AM,AF,AI,AO,ab,ap,cond_true,cond_false,av,az,bg,ao,ay,au,ar,bb,aw,ba,bd,bi,Pa,Ay,dh,ee,Lw,Ut p0,Uh p0];rfl
theorem aVu(a b:List Nat)(ha:Hs a)(hb:Hs b)(K:Nat)(hK:K<=1000000)(haK:a.length<=K)(hbK:b.length<=K):
  n9 (((K:Int),(Wd a,(Wd b,((0:Int),((),((0:Int),())))))),([],())) =
   some (.inl (((),((((nv (2^32) a+nv (2^32) b)/(2^32)^K:Nat):Int),())),(Wd (pd (2^32) K ((nv (2^32) a+nv (2^32) b)%(2^32)^K)),()))):=by
 have key:=CD (aNH Ap.pre Ap.F) (fun x=>K-x.1.2.2.2.1.toNat)
  (fun x=>∃(i:Nat) (out:List Nat) (c:Nat),i<=K/\out.length=i/\(∀x∈out,x<2^32)/\c<=1/\nv (2^32) out+(2^32)^i*c=nv (2^32) (a.take i)+nv (2^32) (b.take i)/\x=(((K:Int),(Wd a,(Wd b,((i:Int),((),((c:Int),())))))),(Wd out,())))
  (fun _=>.inl (((),((((nv (2^32) a+nv (2^32) b)/(2^32)^K:Nat):Int),())),(Wd (pd (2^32) K ((nv (2^32) a+nv (2^32) b)%(2^32)^K)),()))) ?_ _
  ⟨0,[],0,dq _,rfl,(fun x hx=>by simp at hx),by decide,by simp[nv],rfl⟩
 ·exact key
 intro L x hx hL;obtain⟨i,out,c,hi,hol,hod,hc,hov,rfl⟩:=hx;have hla:=ha.2;have hlb:=hb.2;unfold XX;rcases ax i K with hlt|hge
 ·have hxa:=BZ (by decide) ha.1 i;have hxb:=BZ (by decide) hb.1 i;have hna:=C0 (2^32) a i;have hnb:=C0 (2^32) b i;have hstep:=aLJ (B:=2^32) (V':=nv (2^32) (a.take (i+1))+nv (2^32) (b.take (i+1))) (d:=a.getD i 0+b.getD i 0) hol hov (by
   rw[hna,hnb,bw];omega)
  have hza:a.length<=i->a.getD i 0=0:=fun h=>by rw[ak,df h];rfl
  have hzb:b.length<=i->b.getD i 0=0:=fun h=>by rw[ak,df h];rfl
  have hgo:=fun s=>hL (((K:Int),(Wd a,(Wd b,(((i+1:Nat):Int),((),((s:Int),())))))),(Wd (out++[(a.getD i 0+b.getD i 0+c)%2^32]),()));have hgo:=hgo (((a.getD i 0+b.getD i 0+c)/2^32:Nat)) ⟨i+1,_,(a.getD i 0+b.getD i 0+c)/2^32,by omega,by rw[List.length_append,hol];rfl,IP hod (ca _ (by decide)),by omega,hstep,rfl⟩ (by simp only[ab];omega);have hgo':∀s:Nat,s=a.getD i 0+b.getD i 0+c->L (((K:Int),(Wd a,(Wd b,(((i+1:Nat):Int),((),(((s/2^32:Nat):Int),())))))),(Wd (out++[s%2^32]),()))=L (((K:Int),(Wd a,(Wd b,(((i+1:Nat):Int),((),((((a.getD i 0+b.getD i 0+c)/2^32:Nat):Int),())))))),(Wd (out++[(a.getD i 0+b.getD i 0+c)%2^32]),())):=fun s hs=>by rw[hs]
  generalize hda:a.getD i 0=da at *
  generalize hdb:b.getD i 0=db at *
  rcases ax i a.length with hia|hia<;>rcases ax i b.length with hib|hib
  ·simp(disch:=omega) only[A5,AT,A6,AQ,AH,A7,AS,AR,A2,A1,AZ,AY,AW,AV,A4,A3,AX,AP,AE,AM,AF,AI,AO,ab,ap,cond_true,cond_false,av,az,bg,ao,ay,au,ar,bb,aw,ba,bd,bi,Ay,BH,hda,hdb,Dk,O8,VZ,Pa,dh,ee,Lw];exact(hgo' (c+da+db) (by omega)).trans hgo
  ·have:=hzb hib;simp(disch:=omega) only[A5,AT,A6,AQ,AH,A7,AS,AR,A2,A1,AZ,AY,AW,AV,A4,A3,AX,AP,AE,AM,AF,AI,AO,ab,ap,cond_true,cond_false,av,az,bg,ao,ay,au,ar,bb,aw,ba,bd,bi,Ay,BH,hda,hdb,Dk,O8,VZ,Pa,dh,ee,Lw];exact(hgo' (c+da) (by omega)).trans hgo
  ·have:=hza hia;simp(disch:=omega) only[A5,AT,A6,AQ,AH,A7,AS,AR,A2,A1,AZ,AY,AW,AV,A4,A3,AX,AP,AE,AM,AF,AI,AO,ab,ap,cond_true,cond_false,av,az,bg,ao,ay,au,ar,bb,aw,ba,bd,bi,Ay,BH,hda,hdb,Dk,O8,VZ,Pa,dh,ee,Lw];exact(hgo' (c+db) (by omega)).trans hgo
  ·have:=hza hia;have:=hzb hib;simp(disch:=omega) only[A5,AT,A6,AQ,AH,A7,AS,AR,A2,A1,AZ,AY,AW,AV,A4,A3,AX,AP,AE,AM,AF,AI,AO,ab,ap,cond_true,cond_false,av,az,bg,ao,ay,au,ar,bb,aw,ba,bd,bi,Ay,BH,hda,hdb,Dk,O8,VZ,Pa,dh,ee,Lw];exact(hgo' c (by omega)).trans hgo
 ·have e:i=K:=by omega
  subst e;rw[ck haK,ck hbK]at hov;obtain⟨h1,h2⟩:=aLH (by decide) hol hod hov;simp(disch:=omega) only[A5,AT,A6,AQ,AH,A7,AS,AR,A2,A1,AZ,AY,AW,AV,A4,A3,AX,AP,AE,AM,AF,AI,AO,ab,ap,cond_true,cond_false,av,az,bg,ao,ay,au,ar,bb,aw,ba,bd,bi,Ay];rw[h1,h2]
theorem aUw(a b:List Nat)(ha:Hs a)(hb:Hs b)(ha2:a.length<=400000)(hb2:b.length<=400000):TJ (Wd a,Wd b,())=some (Dh (nv (2^32) a+nv (2^32) b),()):=by
 show uJ Ap.pre Ap.F n9 (Wd a) (Wd b)=_;unfold uJ;have hKe:∃K:Nat,(if((Wd b).length:Int)>((Wd a).length:Int)then((Wd b).length:Int)else((Wd a).length:Int))=(K:Int)/\a.length<=K/\b.length<=K/\K<=400000:=by
  rw[Ay,Ay];by_cases h:(b.length:Int)>(a.length:Int)
  ·exact⟨b.length,by rw[if_pos h],by omega,bu _,hb2⟩
  ·exact⟨a.length,by rw[if_neg h],bu _,by omega,ha2⟩
 obtain⟨K,hK,haK,hbK,hK2⟩:=hKe;have hw:=aVu a b ha hb K (by omega) haK hbK;have hB:0<(2^32)^K:=go (by decide);have hla:=al (CP (B:=2^32) (by decide) a ha.1) (ai (by decide) haK);have hlb:=al (CP (B:=2^32) (by decide) b hb.1) (ai (by decide) hbK);have hq:(nv (2^32) a+nv (2^32) b)/(2^32)^K<2^32:=by
  rw[bv hB];have:2*(2^32)^K<=2^32*(2^32)^K:=bc _ (by decide);omega
 have hlast:nv (2^32) (pd (2^32) K ((nv (2^32) a+nv (2^32) b)%(2^32)^K)++[(nv (2^32) a+nv (2^32) b)/(2^32)^K])=nv (2^32) a+nv (2^32) b:=by
  rw[Ll,Da,Hq (by decide) _ _ (ca _ hB)];exact iq _ _
 have p0:=UT ⟨IP (Hp (by decide) K ((nv (2^32) a+nv (2^32) b)%(2^32)^K)) hq,by simp[Da];omega⟩ hlast;have hpl:=Da (2^32) K ((nv (2^32) a+nv (2^32) b)%(2^32)^K);generalize(nv (2^32) a+nv (2^32) b)/(2^32)^K=C at *
 generalize pd (2^32) K ((nv (2^32) a+nv (2^32) b)%(2^32)^K)=O at *
 have e0:decide (((K+1:Nat):Int)*8<=140737488355328)=true:=decide_eq_true (by omega);simp(disch:=omega) only[hK,A5,AT,A6,AQ,AH,A7,AS,AR,A2,A1,AZ,AY,AW,AV,A4,A3,AX,AP,AE,AM,AF,AI,AO,ab,ap,cond_true,cond_false,av,az,bg,ao,ay,au,ar,bb,aw,ba,bd,bi,il,e0,hw];show(bif ED ((Wd O).length+((C:Int)::[]).length) 8 then(bif Ap.pre (Wd O++((C:Int)::[]),())then some (Ap.F (Wd O++((C:Int)::[]),()))else none)else none)=_;simp(disch:=omega) only[A5,AT,A6,AQ,AH,A7,AS,AR,A2,A1,AZ,AY,AW,AV,A4,A3,AX,AP,AE,AM,AF,AI,AO,ab,ap,cond_true,cond_false,av,az,bg,ao,ay,au,ar,bb,aw,ba,bd,bi,Pa,Ay,dh,ee,Lw,Ut p0,Uh p0];rfl
end VL
namespace VL
open Go Vx
theorem Lk(B:Nat)(l:List Nat)(i:Nat)(h:i<l.length):nv B (l.drop i)=l.getD i 0+B*nv B (l.drop (i+1)):=by
 rw[dz h,ak,bo h];rfl
theorem aD5{B:Nat}(hB:2<=B){l:List Nat}(h:∀x∈l,x<B)(i:Nat):nv B (l.take i)<B^i:=by
 have:=CP hB (l.take i) fun x hx=>h x (List.mem_of_mem_take hx);refine al this (ai (by omega) ?_);rw[List.length_take];exact Nat.min_le_left _ _
theorem bGL{P A A' X Y:Nat}(h:A<P)(hxy:X<Y):A+P*X<A'+P*Y:=by
 have:P*(X+1)<=P*Y:=cp _ hxy;rw[bw,gq]at this;omega
theorem Lx{B:Nat}(hB:2<=B){a b:List Nat}(ha:∀x∈a,x<B){i:Nat}(hia:i<a.length)(hib:i<b.length)(hd:nv B (a.drop (i+1))=nv B (b.drop (i+1)))(h:a.getD i 0<b.getD i 0):nv B a<nv B b:=by
 rw[Lm B a i (by omega),Lm B b i (by omega),Lk B a i hia,Lk B b i hib,hd];exact bGL (aD5 hB ha i) (by omega)
theorem aVv(a b:List Nat)(ha:Hs a)(hb:Hs b)(hab:a.length=b.length):
  oA ((Wd a,(Wd b,((a.length:Int)-1,()))),())=some (if nv (2^32) a=nv (2^32) b then .inl ((),())else .inr (((if nv (2^32) a<nv (2^32) b then(-1:Int)else 1),()),())):=by
 have key:=CD aNI (fun x=>(x.1.2.2.1+1).toNat)
  (fun x=>∃j:Nat,j<=a.length/\nv (2^32) (a.drop j)=nv (2^32) (b.drop j)/\x=((Wd a,(Wd b,((j:Int)-1,()))),()))
  (fun _=>if nv (2^32) a=nv (2^32) b then .inl ((),())else .inr (((if nv (2^32) a<nv (2^32) b then(-1:Int)else 1),()),())) ?_ ((Wd a,(Wd b,((a.length:Int)-1,()))),())
  ⟨a.length,bu _,by rw[gy,hab,gy],rfl⟩
 ·exact key
 intro L x hx hL;obtain⟨j,hj,hd,rfl⟩:=hx;have hla:=ha.2;have hlb:=hb.2;unfold XY;rcases j with _|i
 ·have e1:decide ((((0:Nat):Int)-1)>=0)=false:=rfl;rw[jp,jp]at hd;simp only[e1,cond_false,if_pos hd]
 ·have e0:(((i+1:Nat):Int)-1)=(i:Int):=by omega
  have e2:aa .i64 ((i:Int)-1)=(i:Int)-1:=At (by omega);have e3:decide ((i:Int)>=0)=true:=decide_eq_true (by omega);simp(disch:=omega) only[e0,e2,e3,A5,AT,A6,AQ,AH,A7,AS,AR,A2,A1,AZ,AY,AW,AV,A4,A3,AX,AP,AE,AM,AF,AI,AO,ab,ap,cond_true,cond_false,av,az,bg,ao,ay,au,ar,bb,aw,ba,bd,bi,Ay,BH];rcases fh (a.getD i 0) (b.getD i 0)with h|h|h
  ·have hr:=Lx (by decide) ha.1 (by omega) (by omega) hd h;simp(disch:=omega) only[A5,AT,A6,AQ,AH,A7,AS,AR,A2,A1,AZ,AY,AW,AV,A4,A3,AX,AP,AE,AM,AF,AI,AO,ab,ap,cond_true,cond_false,av,az,bg,ao,ay,au,ar,bb,aw,ba,bd,bi];rw[if_neg (by omega),if_pos hr]
  ·simp(disch:=omega) only[A5,AT,A6,AQ,AH,A7,AS,AR,A2,A1,AZ,AY,AW,AV,A4,A3,AX,AP,AE,AM,AF,AI,AO,ab,ap,cond_true,cond_false,av,az,bg,ao,ay,au,ar,bb,aw,ba,bd,bi];refine hL _ ⟨i,by omega,?_,rfl⟩ (by simp only[ab];omega);rw[Lk _ a i (by omega),Lk _ b i (by omega),hd,h]
  ·have hr:=Lx (by decide) hb.1 (by omega) (by omega) hd.symm h;simp(disch:=omega) only[A5,AT,A6,AQ,AH,A7,AS,AR,A2,A1,AZ,AY,AW,AV,A4,A3,AX,AP,AE,AM,AF,AI,AO,ab,ap,cond_true,cond_false,av,az,bg,ao,ay,au,ar,bb,aw,ba,bd,bi];rw[if_neg (by omega),if_neg (by omega)]
theorem gG{B:Nat}(hB:2<=B){x y:Nat}(h:(dg B x).length<(dg B y).length):x<y:=by
 have h1:=gF hB x;rcases ax x y with h2|h2
 ·exact h2
 ·have:=D0 hB (dg B x).length y (by omega);omega
theorem zU(x y:Nat)(hx:x<2^100000)(hy:y<2^100000):aR (Dh x,Dh y,())=some (if x=y then 0 else if x<y then -1 else 1,()):=by
 show uK oA (Dh x) (Dh y)=_;unfold uK;have hX:=Hs.dg hx;have hY:=Hs.dg hy;have hlx:=hX.2;have hly:=hY.2;rcases fh (dg (2^32) x).length (dg (2^32) y).length with h|h|h
 ·have hr:=gG (by decide) h;have e0:(((dg (2^32) x).length:Int)!=((dg (2^32) y).length:Int))=true:=by rw[sJ];exact bne_iff_ne.2 (by omega)
  unfold Dh;simp(disch:=omega) only[A5,AT,A6,AQ,AH,A7,AS,AR,A2,A1,AZ,AY,AW,AV,A4,A3,AX,AP,AE,AM,AF,AI,AO,ab,ap,cond_true,cond_false,av,az,bg,ao,ay,au,ar,bb,aw,ba,bd,bi,Ay,e0];rw[if_neg (by omega),if_pos hr]
 ·have hw:=aVv _ _ hX hY h;rw[Fl,Fl]at hw;have e0:(((dg (2^32) x).length:Int)!=((dg (2^32) y).length:Int))=false:=by rw[sJ,h];simp
  have e2:aa .i64 (((dg (2^32) x).length:Int)-1)=((dg (2^32) x).length:Int)-1:=At (by omega);unfold Dh;simp only[Ay,e0,cond_false,e2,hw];by_cases he:x=y
  ·rw[if_pos he,if_pos he]
  ·rw[if_neg he,if_neg he]
 ·have hr:=gG (by decide) h;have e0:(((dg (2^32) x).length:Int)!=((dg (2^32) y).length:Int))=true:=by rw[sJ];exact bne_iff_ne.2 (by omega)
  unfold Dh;simp(disch:=omega) only[A5,AT,A6,AQ,AH,A7,AS,AR,A2,A1,AZ,AY,AW,AV,A4,A3,AX,AP,AE,AM,AF,AI,AO,ab,ap,cond_true,cond_false,av,az,bg,ao,ay,au,ar,bb,aw,ba,bd,bi,Ay,e0];rw[if_neg (by omega),if_neg (by omega)]
theorem x8(a:Nat)(h:a<2^33):aa .u64 ((a:Int)+4294967296)=((a+2^32:Nat):Int):=by rw[Dy (by omega)];omega
theorem Wc(a b:Nat)(h:b<=a/\a<2^64):aa .u64 ((a:Int)-(b:Int))=((a-b:Nat):Int):=by
 rw[Dy (by omega)];omega
theorem bGF{out:List Nat}{n i v:Nat}(hol:out.length=i)(h:i<n):(out++aq (n-i) 0).set i v=(out++[v])++aq (n-(i+1)) 0:=by
 have e:n-i=(n-(i+1))+1:=by omega
 rw[e,jh,ga _ _ (by omega),hol,gr,jn,fe];rfl
theorem aOi{P B A A' O a b c c' v:Nat}(h:A+P*c=A'+O)(h2:a+B*c'=b+c+v):A+P*a+P*B*c'=A'+P*b+(O+P*v):=by
 have h3:P*(a+B*c')=P*(b+c+v):=by rw[h2]
 rw[bw,bw,bw,←bh]at h3;omega
theorem aVw(a b:List Nat)(ha:Hs a)(hb:Hs b)(hba:b.length<=a.length)(hv:nv (2^32) b<=nv (2^32) a):
  oB (((0:Int),(Wd b,(Wd a,((0:Int),((),()))))),(Wd (aq a.length 0),()))=some (.inl (((),()),(Wd (pd (2^32) a.length (nv (2^32) a-nv (2^32) b)),()))):=by
 have key:=CD (aNJ Ap.pre Ap.F) (fun x=>a.length-x.1.2.2.2.1.toNat)
  (fun x=>∃(i:Nat) (out:List Nat) (c:Nat),i<=a.length/\out.length=i/\(∀x∈out,x<2^32)/\c<=1/\nv (2^32) (a.take i)+(2^32)^i*c=nv (2^32) (b.take i)+nv (2^32) out /\
   x=(((c:Int),(Wd b,(Wd a,((i:Int),((),()))))),(Wd (out++aq (a.length-i) 0),())))
  (fun _=>.inl (((),()),(Wd (pd (2^32) a.length (nv (2^32) a-nv (2^32) b)),()))) ?_ (((0:Int),(Wd b,(Wd a,((0:Int),((),()))))),(Wd (aq a.length 0),()))
  ⟨0,[],0,dq _,rfl,(fun x hx=>by simp at hx),by decide,by simp[nv],rfl⟩
 ·exact key
 intro L x hx hL;obtain⟨i,out,c,hi,hol,hod,hc,hov,rfl⟩:=hx;have hla:=ha.2;unfold XZ;rcases ax i a.length with hlt|hge
 ·have hxa:=BZ (by decide) ha.1 i;have hxb:=BZ (by decide) hb.1 i;have hna:=C0 (2^32) a i;have hnb:=C0 (2^32) b i;have hzb:b.length<=i->b.getD i 0=0:=fun h=>by rw[ak,df h];rfl
  have hset:=fun v=>bGF (v:=v) hol hlt;have hlen:(out++aq (a.length-i) 0).length=a.length:=by simp;omega
  generalize hda:a.getD i 0=da at *
  generalize hdb:b.getD i 0=db at *
  have hgo:∀c' v:Nat,c'<=1->v<2^32->da+2^32*c'=db+c+v->L (((c':Int),(Wd b,(Wd a,(((i+1:Nat):Int),((),()))))),(Wd (out++[v]++aq (a.length-(i+1)) 0),()))=_:=fun c' v h1 h2 h3=>
   hL _ ⟨i+1,out++[v],c',by omega,by simp;omega,IP hod h2,h1,by
    rw[hna,hnb,Ll,hol,dl];exact aOi hov h3,rfl⟩ (by simp only[ab];omega)
  have hg1:=fun v=>hgo 1 v (bu _);have hg0:=fun v=>hgo 0 v (dq _);rw[show((1:Nat):Int)=1 from rfl]at hg1;rw[show((0:Nat):Int)=0 from rfl]at hg0;rcases ax i b.length with hib|hib
  ·rcases ax da (c+db)with h|h
   ·simp(disch:=omega) only[A5,AT,A6,AQ,AH,A7,AS,AR,A2,A1,AZ,AY,AW,AV,A4,A3,AX,AP,AE,AM,AF,AI,AO,ab,ap,cond_true,cond_false,av,az,bg,ao,ay,au,ar,bb,aw,ba,bd,bi,Ay,BH,hda,hdb,Dk,x8,Wc,hlen,Dd,hset];exact hg1 _ (by omega) (by omega)
   ·simp(disch:=omega) only[A5,AT,A6,AQ,AH,A7,AS,AR,A2,A1,AZ,AY,AW,AV,A4,A3,AX,AP,AE,AM,AF,AI,AO,ab,ap,cond_true,cond_false,av,az,bg,ao,ay,au,ar,bb,aw,ba,bd,bi,Ay,BH,hda,hdb,Dk,x8,Wc,hlen,Dd,hset];exact hg0 _ (by omega) (by omega)
  ·have:=hzb hib;rcases ax da c with h|h
   ·simp(disch:=omega) only[A5,AT,A6,AQ,AH,A7,AS,AR,A2,A1,AZ,AY,AW,AV,A4,A3,AX,AP,AE,AM,AF,AI,AO,ab,ap,cond_true,cond_false,av,az,bg,ao,ay,au,ar,bb,aw,ba,bd,bi,Ay,BH,hda,hdb,Dk,x8,Wc,hlen,Dd,hset];exact hg1 _ (by omega) (by omega)
   ·simp(disch:=omega) only[A5,AT,A6,AQ,AH,A7,AS,AR,A2,A1,AZ,AY,AW,AV,A4,A3,AX,AP,AE,AM,AF,AI,AO,ab,ap,cond_true,cond_false,av,az,bg,ao,ay,au,ar,bb,aw,ba,bd,bi,Ay,BH,hda,hdb,Dk,x8,Wc,hlen,Dd,hset];exact hg0 _ (by omega) (by omega)
 ·have e:i=a.length:=by omega
  subst e;rw[dp,ck hba]at hov;have hlt:=CP (B:=2^32) (by decide) out hod;rw[hol]at hlt;have hc0:(2^32)^a.length*c=0:=by
   rcases(show c=0∨c=1 by omega)with h|h
   ·rw[h,fd]
   ·rw[h,gq]at hov;omega
  have ho:=Uq (B:=2^32) (v:=nv (2^32) a-nv (2^32) b) (by decide) hod hol (by omega);rw[gr,il,dk];simp(disch:=omega) only[A5,AT,A6,AQ,AH,A7,AS,AR,A2,A1,AZ,AY,AW,AV,A4,A3,AX,AP,AE,AM,AF,AI,AO,ab,ap,cond_true,cond_false,av,az,bg,ao,ay,au,ar,bb,aw,ba,bd,bi,Ay];rw[←ho]
theorem aUx(a b:List Nat)(ha:Hs a)(hb:Hs b)(hba:b.length<=a.length)(hv:nv (2^32) b<=nv (2^32) a):WF (Wd a,Wd b,())=some (Dh (nv (2^32) a-nv (2^32) b),()):=by
 show uL Ap.pre Ap.F oB (Wd a) (Wd b)=_;unfold uL;have hw:=aVw a b ha hb hba hv;have hla:=ha.2;have hlt:=CP (B:=2^32) (by decide) a ha.1;have p0:=UT (l:=pd (2^32) a.length (nv (2^32) a-nv (2^32) b)) ⟨Hp (by decide) _ _,by rw[Da];omega⟩ (Hq (by decide) _ _ (by omega));have e2:decide ((a.length:Int)*8<=140737488355328)=true:=decide_eq_true (by omega);simp(disch:=omega) only[A5,AT,A6,AQ,AH,A7,AS,AR,A2,A1,AZ,AY,AW,AV,A4,A3,AX,AP,AE,AM,AF,AI,AO,ab,ap,cond_true,cond_false,av,az,bg,ao,ay,au,ar,bb,aw,ba,bd,bi,Ay,e2,NF,hw];show(bif Ap.pre (Wd (pd (2^32) a.length (nv (2^32) a-nv (2^32) b)),())then some (Ap.F (Wd (pd (2^32) a.length (nv (2^32) a-nv (2^32) b)),()))else none)=_;simp only[Ut p0,Uh p0,cond_true];rfl
theorem aCc{B:Nat}(hB:2<=B){x y:Nat}(h:y<=x):(dg B y).length<=(dg B x).length:=by
 rcases ax (dg B x).length (dg B y).length with h1|h1
 ·have:=gG hB h1;omega
 ·exact h1
theorem nV{x y:Nat}(hx:x<2^100000)(h:y<=x):WF (Dh x,Dh y,())=some (Dh (x-y),()):=by
 have:=aUx (dg (2^32) x) (dg (2^32) y) (Hs.dg hx) (Hs.dg (by omega)) (aCc (by decide) h) (by rw[Fl,Fl];exact h);rwa [Fl,Fl]at this
theorem Hs.len{n:Nat}(h:n<2^100000):(VL.dg (2^32) n).length<=3125:=by
 have:n<(2^32)^3125:=by rw[←fq];exact h
 exact D0 (B:=2^32) (by decide) 3125 n this
theorem ND{x:Nat}(hx:x<2^100000)(n:Nat)(hn:n<=10000000):NC (Dh x,(n:Int),())=some (Dh (x*2^n),()):=by
 have:=aUv (dg (2^32) x) (Hs.dg hx) (by have:=Hs.len hx;omega) n hn;rwa [Fl]at this
theorem nU{x y:Nat}(hx:x<2^100000)(hy:y<2^100000):TJ (Dh x,Dh y,())=some (Dh (x+y),()):=by
 have:=aUw (dg (2^32) x) (dg (2^32) y) (Hs.dg hx) (Hs.dg hy) (by have:=Hs.len hx;omega) (by have:=Hs.len hy;omega);rwa [Fl,Fl]at this
theorem bBM(x:Nat)(h:x<2^64):Bg .u64 (x:Int) 2=((x/2:Nat):Int):=by
 unfold Bg;have e:(x:Int).tdiv 2=((x/2:Nat):Int):=rfl;rw[e,Dy (by omega)]
theorem aDG(x:Nat)(h:x<2^60):Bg .i64 (x:Int) 2=((x/2:Nat):Int):=by
 unfold Bg;have e:(x:Int).tdiv 2=((x/2:Nat):Int):=rfl;rw[e,At (by omega)]
theorem aD6(x:Nat):gj (x:Int) 2=((x%2:Nat):Int):=rfl
theorem bHl(a:Nat)(h:a<2^56):aa .i64 (32*(a:Int))=((32*a:Nat):Int):=by rw[At (by omega)];omega
theorem aXc{x:Nat}(h:x≠0):Am x=Am (x/2)+1:=by
 have:=qV (n:=x) (k:=1);rcases ax x 2 with h1|h1
 ·have:x=1:=by omega
  subst this;decide
 ·have:=this (by omega);rw[this,Nat.pow_one];omega
theorem aVB(x c:Nat)(hx:x<2^64)(hc:c+Am x<2^60):oE (((x:Int),((c:Int),())),())=some (.inl ((((c+Am x:Nat):Int),()),())):=by
 have key:=CD (aNO Ap.pre Ap.F) (fun y=>y.1.1.toNat)
  (fun y=>∃x' c':Nat,x'<2^64/\c'+Am x'=c+Am x/\y=(((x':Int),((c':Int),())),()))
  (fun _=>.inl ((((c+Am x:Nat):Int),()),())) ?_ (((x:Int),((c:Int),())),()) ⟨x,c,hx,rfl,rfl⟩
 ·exact key
 intro L y hy hL;obtain⟨x',c',hx',hc',rfl⟩:=hy;unfold X4;rcases br x' with rfl|hp
 ·have:Am 0=0:=by decide
  rw[this,cz]at hc';rw[←hc'];simp(disch:=omega) only[A5,AT,A6,AQ,AH,A7,AS,AR,A2,A1,AZ,AY,AW,AV,A4,A3,AX,AP,AE,AM,AF,AI,AO,ab,ap,cond_true,cond_false,av,az,bg,ao,ay,au,ar,bb,aw,ba,bd,bi]
 ·have hb:=aXc (x:=x') (by omega);simp(disch:=omega) only[A5,AT,A6,AQ,AH,A7,AS,AR,A2,A1,AZ,AY,AW,AV,A4,A3,AX,AP,AE,AM,AF,AI,AO,ab,ap,cond_true,cond_false,av,az,bg,ao,ay,au,ar,bb,aw,ba,bd,bi,bBM];exact hL _ ⟨x'/2,c'+1,by omega,by omega,rfl⟩ (by simp only[ab];omega)
theorem bC{n:Nat}(hn:n<2^100000):bB (Dh n,())=some ((Am n:Int),()):=by
 show u5 Ap.pre Ap.F oE (Dh n)=_;unfold u5;have hH:=Hs.dg hn;have hl:=Hs.len hn;have p0:=UT hH (Fl n);rw[show Wd (dg (2^32) n)=Dh n from rfl]at p0;simp only[Ut p0,Uh p0,cond_true,Wl];by_cases h0:n=0
 ·subst h0;rfl
 ·rw[decide_eq_false h0,cond_false];have hlen:0<(dg (2^32) n).length:=by rw[Ep (by decide) (by omega)];simp
  have ht:=OD (B:=2^32) (by decide) n;have hlast:=V9 (dg (2^32) n) (by rw[ht];exact hlen);rw[ht]at hlast;have hnv:=Fl n;rw[Lm _ _ ((dg (2^32) n).length-1) (by omega),Lk _ _ _ (by omega)]at hnv;rw[show(dg (2^32) n).length-1+1=(dg (2^32) n).length by omega,gy]at hnv;have htk:=aD5 (B:=2^32) (by decide) hH.1 ((dg (2^32) n).length-1);have htop:=BZ (B:=2^32) (by decide) hH.1 ((dg (2^32) n).length-1);have hb:Am n=32*((dg (2^32) n).length-1)+Am ((dg (2^32) n).getD ((dg (2^32) n).length-1) 0):=by
   rw[←fq]at hnv htk;have:=aBS htk (b:=(dg (2^32) n).getD ((dg (2^32) n).length-1) 0) (by omega);have hnv2:=hnv;simp only[nv,fd,cz]at hnv2;rw[hnv2]at this;exact this
  have hbb:=DY htop;have hw:=aVB ((dg (2^32) n).getD ((dg (2^32) n).length-1) 0) (32*((dg (2^32) n).length-1)) (by omega) (by omega);rw[←hb]at hw;unfold Dh;simp(disch:=omega) only[A5,AT,A6,AQ,AH,A7,AS,AR,A2,A1,AZ,AY,AW,AV,A4,A3,AX,AP,AE,AM,AF,AI,AO,ab,ap,cond_true,cond_false,av,az,bg,ao,ay,au,ar,bb,aw,ba,bd,bi,Ay,BH,bHl,hw]
theorem aEe(a:Nat)(h:a<2^32):aa .u64 ((a:Int)*4294967296)=((a*2^32:Nat):Int):=by rw[Dy (by omega)];omega
theorem aOs(B:Nat)(l:List Nat)(i x y:Nat)(hi:i<l.length)(hy:l.getD i 0+y=x):nv B (l.set i x)=nv B l+B^i*y:=by
 have:=YA B l i x hi;rw[←hy,bw]at this;rw[hy]at this;omega
theorem aVC(a:List Nat)(ha:Hs a):
  oF ((Wd a,((0:Int),((),()))),(Wd (aq ((a.length+1)/2) 0),()))=some (.inl (((),()),(Wd (pd (2^64) ((a.length+1)/2) (nv (2^32) a)),()))):=by
 have key:=CD (aNP Ap.pre Ap.F) (fun x=>a.length-x.1.2.1.toNat)
  (fun x=>∃(i:Nat) (out:List Nat),i<=a.length/\out.length=(a.length+1)/2/\(∀x∈out,x<2^64)/\nv (2^64) out=nv (2^32) (a.take i)/\(∀j,i<=2*j->out.getD j 0=0)/\(i%2=1->out.getD (i/2) 0<2^32) /\
   x=((Wd a,((i:Int),((),()))),(Wd out,())))
  (fun _=>.inl (((),()),(Wd (pd (2^64) ((a.length+1)/2) (nv (2^32) a)),()))) ?_ ((Wd a,((0:Int),((),()))),(Wd (aq ((a.length+1)/2) 0),()))
  ⟨0,aq ((a.length+1)/2) 0,dq _,by simp,(fun x hx=>by have:=kz hx;omega),by rw[sN];simp[nv],(fun j _=>by
   have h:=BZ (B:=1) (by decide) (l:=aq ((a.length+1)/2) 0) (fun x hx=>by have:=kz hx;omega) j;omega),(fun h=>by omega),rfl⟩
 ·exact key
 intro L x hx hL;obtain⟨i,out,hi,hol,hod,hov,hz,ho,rfl⟩:=hx;have hla:=ha.2;unfold X5;rcases ax i a.length with hlt|hge
 ·have hxa:=BZ (by decide) ha.1 i;have hna:=C0 (2^32) a i;generalize hda:a.getD i 0=da at *
  rcases jk i with h2|h2
  ·have hz0:=hz (i/2) (by omega);have hns:=aOs (2^64) out (i/2) da da (by omega) (by omega);simp(disch:=omega) only[A5,AT,A6,AQ,AH,A7,AS,AR,A2,A1,AZ,AY,AW,AV,A4,A3,AX,AP,AE,AM,AF,AI,AO,ab,ap,cond_true,cond_false,av,az,bg,ao,ay,au,ar,bb,aw,ba,bd,bi,Ay,BH,hda,aD6,aDG,Dd];refine hL _ ⟨i+1,out.set (i/2) da,by omega,by rw[ip];exact hol,tO hod (by omega),?_,?_,?_,rfl⟩ (by simp only[ab];omega)
   ·rw[hns,hna,hov];have:(2^64)^(i/2)=(2^32)^i:=by rw[←fq,←fq];congr 1;omega
    rw[this]
   ·intro j hj;rw[iB (by omega)];exact hz j (by omega)
   ·intro _;rw[show(i+1)/2=i/2 by omega,aCK (by omega)];exact hxa
  ·have hlo:=ho h2;generalize hdo:out.getD (i/2) 0=lo at *
   have hns:=aOs (2^64) out (i/2) (lo+da*2^32) (da*2^32) (by omega) (by omega);simp(disch:=omega) only[A5,AT,A6,AQ,AH,A7,AS,AR,A2,A1,AZ,AY,AW,AV,A4,A3,AX,AP,AE,AM,AF,AI,AO,ab,ap,cond_true,cond_false,av,az,bg,ao,ay,au,ar,bb,aw,ba,bd,bi,Ay,BH,hda,hdo,aD6,aDG,aEe,Dk,Dd];refine hL _ ⟨i+1,out.set (i/2) (lo+da*2^32),by omega,by rw[ip];exact hol,tO hod (by omega),?_,?_,?_,rfl⟩ (by simp only[ab];omega)
   ·rw[hns,hna,hov,be da,←bh];have:(2^64)^(i/2)*2^32=(2^32)^i:=by rw[←fq,←fq,←bj];congr 1;omega
    rw[this]
   ·intro j hj;rw[iB (by omega)];exact hz j (by omega)
   ·intro h;omega
 ·have e:i=a.length:=by omega
  subst e;rw[dp]at hov;have h1:=Uq (B:=2^64) (by decide) hod hol hov;simp(disch:=omega) only[A5,AT,A6,AQ,AH,A7,AS,AR,A2,A1,AZ,AY,AW,AV,A4,A3,AX,AP,AE,AM,AF,AI,AO,ab,ap,cond_true,cond_false,av,az,bg,ao,ay,au,ar,bb,aw,ba,bd,bi,Ay];rw[←h1]
theorem aUJ(a:List Nat)(ha:Hs a):WJ (Wd a,())=some (Dw (nv (2^32) a),()):=by
 show u9 Ap.pre Ap.F oF (Wd a)=_;unfold u9;have hla:=ha.2;have hw:=aVC a ha;have hlt:=CP (B:=2^32) (by decide) a ha.1;have hlt2:nv (2^32) a<(2^64)^((a.length+1)/2):=by
  refine al hlt ?_;rw[←fq,←fq];exact ai (by decide) (by omega)
 have p0:=aF3 (pd (2^64) ((a.length+1)/2) (nv (2^32) a)) (by rw[Da];omega);rw[FW (B:=2^64) (by decide) _ (Hp (by decide) _ _),Hq (by decide) _ _ hlt2]at p0;have e2:decide ((((a.length+1)/2:Nat):Int)*8<=140737488355328)=true:=decide_eq_true (by omega);simp(disch:=omega) only[A5,AT,A6,AQ,AH,A7,AS,AR,A2,A1,AZ,AY,AW,AV,A4,A3,AX,AP,AE,AM,AF,AI,AO,ab,ap,cond_true,cond_false,av,az,bg,ao,ay,au,ar,bb,aw,ba,bd,bi,Ay,aDG,e2,NF,hw];show(bif Ap.pre (Wd (pd (2^64) ((a.length+1)/2) (nv (2^32) a)),())then some (Ap.F (Wd (pd (2^64) ((a.length+1)/2) (nv (2^32) a)),()))else none)=_;simp only[Ut p0,Uh p0,cond_true];rfl
theorem aUK{n:Nat}(hn:n<2^100000):WJ (Dh n,())=some (Dw n,()):=by
 have:=aUJ (dg (2^32) n) (Hs.dg hn);rwa [Fl]at this
theorem aZ6{B:Nat}(hB:2<=B){l:List Nat}(h:∀x∈l,x<B)(i:Nat)(hi:i<=l.length):nv B l/B^i=nv B (l.drop i):=by
 rw[Lm B l i hi,fc _ _ (go (by omega)),ci (aD5 hB h i),de]
theorem bFw{l:List Nat}(hl:Hs l){w s k:Nat}(hs:s<32)(hi:w+k<l.length):
  nv (2^32) l/2^(32*w+s)/(2^32)^k%2^32=(l.getD (w+k) 0+l.getD (w+k+1) 0*2^32)/2^s%2^32:=by
 have e1:nv (2^32) l/2^(32*w+s)/(2^32)^k=nv (2^32) l/(2^32)^(w+k)/2^s:=by
  rw[dj,dj];congr 1;rw[←fq,←fq,←bj,←bj];congr 1;omega
 rw[e1,aZ6 (by decide) hl.1 _ (by omega),Lk _ _ _ hi];have e2:∃R,nv (2^32) (l.drop (w+k+1))=l.getD (w+k+1) 0+2^32*R:=by
  rcases ax (w+k+1) l.length with h|h
  ·exact⟨_,Lk _ _ _ h⟩
  ·refine⟨0,?_⟩;rw[List.drop_eq_nil_of_le h,ak,df h];rfl
 obtain⟨R,hR⟩:=e2;rw[hR];generalize l.getD (w+k) 0=x;generalize l.getD (w+k+1) 0=y;have hp:=aj s;have e3:x+2^32*(y+2^32*R)=(x+y*2^32)+2^s*(2^32*(2^(32-s)*R)):=by
  have h1:2^s*2^(32-s)=2^32:=by rw[←bj];congr 1;omega
  have h2:2^s*(2^32*(2^(32-s)*R))=2^32*(2^s*2^(32-s)*R):=by
   rw[fx,bh (2^s)]
  rw[h2,h1,bw];omega
 rw[e3,fc _ _ hp,gv]
theorem jK(x m:Nat)(h:x<2^64)(hm:0<m):Bg .u64 (x:Int) (m:Int)=((x/m:Nat):Int):=by
 unfold Bg;have e:(x:Int).tdiv (m:Int)=((x/m:Nat):Int):=rfl;have:=dw x m;generalize x/m=q at *
 rw[e,Dy (by omega)]
theorem aVF(l:List Nat)(hl:Hs l)(w s:Nat)(hs:s<32)(hw:w<=10000000):
  oI ((Wd l,(((2^s:Nat):Int),((w:Int),((),())))),([],()))=some (.inl (((),()),(Wd (pd (2^32) (l.length-w) (nv (2^32) l/2^(32*w+s)%(2^32)^(l.length-w))),()))):=by
 have key:=CD (aNS Ap.pre Ap.F) (fun x=>l.length-x.1.2.2.1.toNat)
  (fun x=>∃(k:Nat) (out:List Nat),(w+k<=l.length∨k=0)/\out.length=k/\(∀x∈out,x<2^32)/\nv (2^32) out=nv (2^32) l/2^(32*w+s)%(2^32)^k /\
   x=((Wd l,(((2^s:Nat):Int),(((w+k:Nat):Int),((),())))),(Wd out,())))
  (fun _=>.inl (((),()),(Wd (pd (2^32) (l.length-w) (nv (2^32) l/2^(32*w+s)%(2^32)^(l.length-w))),()))) ?_ ((Wd l,(((2^s:Nat):Int),((w:Int),((),())))),([],()))
  ⟨0,[],.inr rfl,rfl,(fun x hx=>by simp at hx),by simp[nv,pw],rfl⟩
 ·exact key
 intro L x hx hL;obtain⟨k,out,hk,hol,hod,hov,rfl⟩:=hx;have hla:=hl.2;have hp:=aj s;unfold X8;rcases ax (w+k) l.length with hlt|hge
 ·have hx:=BZ (by decide) hl.1 (w+k);have hy:=BZ (by decide) hl.1 (w+k+1);have hdig:=bFw hl hs hlt;have hzb:l.length<=w+k+1->l.getD (w+k+1) 0=0:=fun h=>by rw[ak,df h];rfl
  generalize nv (2^32) l/2^(32*w+s)=X at *
  have hgo:∀v:Nat,v=X/(2^32)^k%2^32->L ((Wd l,(((2^s:Nat):Int),(((w+k+1:Nat):Int),((),())))),(Wd (out++[v]),()))=_:=fun v hv=>
   hL _ ⟨k+1,out++[v],.inl (by omega),by simp;omega,IP hod (by rw[hv];exact ca _ (by decide)),by
    rw[Ll,hol,hov,hv,show(2^32)^(k+1)=(2^32)^k*2^32 from rfl,Nat.mod_mul],rfl⟩ (by simp only[ab];omega)
  generalize hdx:l.getD (w+k) 0=x at *
  generalize hdy:l.getD (w+k+1) 0=y at *
  rcases ax (w+k+1) l.length with h1|h1
  ·simp(disch:=omega) only[A5,AT,A6,AQ,AH,A7,AS,AR,A2,A1,AZ,AY,AW,AV,A4,A3,AX,AP,AE,AM,AF,AI,AO,ab,ap,cond_true,cond_false,av,az,bg,ao,ay,au,ar,bb,aw,ba,bd,bi,Ay,BH,hdx,hdy,aEe,Dk,jK,O8,Pa,dh,ee,Lw];exact hgo _ hdig.symm
  ·have h0:=hzb h1;rw[h0,ff,cz]at hdig;simp(disch:=omega) only[A5,AT,A6,AQ,AH,A7,AS,AR,A2,A1,AZ,AY,AW,AV,A4,A3,AX,AP,AE,AM,AF,AI,AO,ab,ap,cond_true,cond_false,av,az,bg,ao,ay,au,ar,bb,aw,ba,bd,bi,Ay,BH,hdx,hdy,aEe,Dk,jK,O8,Pa,dh,ee,Lw];exact hgo _ hdig.symm
 ·have e:k=l.length-w:=by omega
  subst e;have h1:=Uq (B:=2^32) (by decide) hod hol hov;simp(disch:=omega) only[A5,AT,A6,AQ,AH,A7,AS,AR,A2,A1,AZ,AY,AW,AV,A4,A3,AX,AP,AE,AM,AF,AI,AO,ab,ap,cond_true,cond_false,av,az,bg,ao,ay,au,ar,bb,aw,ba,bd,bi,Ay];rw[←h1]
theorem aUM(l:List Nat)(hl:Hs l)(n:Nat)(hn:n<=10000000):WO (Wd l,(n:Int),())=some (Dh (nv (2^32) l/2^n),()):=by
 show vH Ap.pre Ap.F oI (Wd l) n=_;unfold vH;have hla:=hl.2;have hw:=aVF l hl (n/32) (n%32) (ca _ (by decide)) (by omega);rw[show 32*(n/32)+n%32=n by omega]at hw;have hlt:=CP (B:=2^32) (by decide) l hl.1;have hX:nv (2^32) l/2^n<(2^32)^(l.length-n/32):=by
  rw[bv (aj n)];refine al hlt ?_;rw[←fq,←fq,←bj];exact ai (by decide) (by omega)
 rw[bt hX]at hw;have p0:=UT (l:=pd (2^32) (l.length-n/32) (nv (2^32) l/2^n)) ⟨Hp (by decide) _ _,by rw[Da];omega⟩ (Hq (by decide) _ _ hX);simp(disch:=omega) only[A5,AT,A6,AQ,AH,A7,AS,AR,A2,A1,AZ,AY,AW,AV,A4,A3,AX,AP,AE,AM,AF,AI,AO,ab,ap,cond_true,cond_false,av,az,bg,ao,ay,au,ar,bb,aw,ba,bd,bi,aPk,aRs,Ji,O4,hw];show(bif Ap.pre (Wd (pd (2^32) (l.length-n/32) (nv (2^32) l/2^n)),())then some (Ap.F (Wd (pd (2^32) (l.length-n/32) (nv (2^32) l/2^n)),()))else none)=_;simp only[Ut p0,Uh p0,cond_true];rfl
theorem aUN{x:Nat}(hx:x<2^100000)(n:Nat)(hn:n<=10000000):WO (Dh x,(n:Int),())=some (Dh (x/2^n),()):=by
 have:=aUM (dg (2^32) x) (Hs.dg hx) n hn;rwa [Fl]at this
end VL
namespace VL
open Go Vx
theorem dL{f:Int}(h:Fm f):WY (f,())=some ((fW f:Int),(fP f:Int),(1-(fX f:Int)),()):=by
 rcases Cm h with rfl|rfl|rfl|rfl<;>kernel_rfl
theorem aHs{f:Int}(h:¬Fm f):WY (f,())=some (0,0,0,()):=by
 show xH f=_;unfold xH;have hn:∀k:Int,0<=k/\k<4->(f==k)=false:=fun k hk=>VJ _ _ (fun e=>h (by rw[e];exact hk));rw[hn 0 (by omega),hn 1 (by omega),hn 2 (by omega),hn 3 (by omega)];rfl
theorem aHw{f:Int}(h:Fm f)(neg:Bool):dT (f,neg,())=some ((BK f neg:Int),()):=by
 rcases Cm h with rfl|rfl|rfl|rfl<;>cases neg<;>kernel_rfl
theorem zX{f:Int}(h:Fm f)(neg:Bool):bG (f,neg,())=some ((Dg f neg:Int),()):=by
 rcases Cm h with rfl|rfl|rfl|rfl<;>cases neg<;>kernel_rfl
theorem aGu{f:Int}(h:Fm f)(neg:Bool):bZ (f,neg,())=some ((BK f neg:Int),()):=by
 rcases Cm h with rfl|rfl|rfl|rfl<;>cases neg<;>kernel_rfl
theorem aAh{f:Int}(h:Fm f):dQ (f,())=some ((Cz f:Int),()):=by
 rcases Cm h with rfl|rfl|rfl|rfl<;>kernel_rfl
theorem aZi{f:Int}(h:Fm f)(neg:Bool):1<=Dg f neg/\Dg f neg<2^64:=by
 rcases Cm h with rfl|rfl|rfl|rfl<;>cases neg<;>decide
theorem aUI{f:Int}(h:Fm f)(m:Int)(neg:Bool):bD (f,m,neg,())=some ((TY f m neg:Int),()):=by
 show u6 Eh.pre Eh.F f m neg=_;have p0:=zX h neg;have hp:=aZi h neg;have e1:aa .u64 ((Dg f neg:Int)-1)=((Dg f neg-1:Nat):Int):=Wc _ 1 (by omega);unfold u6 TY;simp only[sW p0,r4 p0,cond_true,e1];show(bif Jf m neg then _ else _)=_;cases Jf m neg<;>rfl
theorem Fk{f:Int}(hf:Fm f):fP f<=53:=by
 rcases Cm hf with rfl|rfl|rfl|rfl<;>decide
theorem aC7{m:Int}(hm:0<=m/\m<=5):m=0∨m=1∨m=2∨m=3∨m=4∨m=5:=by omega
theorem aRL(n:Nat):(decide ((0:Int)<(((Dh n).length:Nat):Int))||!decide ((((Dh n).length:Nat):Int)>0))=true:=by
 cases decide ((((Dh n).length:Nat):Int)>0)<;>rfl
theorem aRM(u:Nat):(decide ((((Dh u).length:Nat):Int)>0)&&(gj ((Dh u).getD (af 0) 0) 2==1))=decide (u%2=1):=by
 rw[ap,aRK,aD6,show(u%2^32)%2=u%2 by omega];rcases jk u with h|h
 ·rw[h];simp
 ·have:0<(Dh u).length:=aEi (by omega);rw[h,decide_eq_true (show(((Dh u).length:Nat):Int)>0 by omega)];rfl
theorem aZS(N n:Nat):N-N/2^n*2^n=N%2^n:=by
 have:=iq N (2^n);rw[be]at this;omega
theorem aF4{m:Int}(hm:0<=m/\m<=5)(neg:Bool)(N:Nat)(E q:Int)(hN:N<2^50000)(hb:-20000<=E/\E<=20000/\-20000<=q/\q<=20000)(hsh:q<=E->N*2^(E-q).toNat<2^100000):
  bE (m,(neg,Dh N,E,()),q,())=some (Dh (BI m neg N E q false),decide (Ds N E q false≠0),()):=by
 show u7 S7.pre S7.F CI.pre CI.F CF.pre CF.F CH.pre CH.F CG.pre CG.F m (neg,Dh N,E,()) q=_;have hN2:N<2^100000:=fm hN (bq (by decide) (by decide));unfold u7 BI;rw[Vy];dsimp only;by_cases hqE:q<=E
 ·obtain⟨d,hd⟩:=cd (show 0<=E-q by omega);have e0:aa .i64 (E-q)=(d:Int):=by rw[At (by omega)];exact hd
  have p0:=ND hN2 d (by omega);rw[decide_eq_true hqE,cond_true,e0];simp only[Ja p0,I1 p0,cond_true];rw[tL hqE,jJ hqE,hd,ab];rfl
 ·obtain⟨n,hn⟩:=cd (show 0<=q-E by omega);have e0:aa .i64 (q-E)=(n:Int):=by rw[At (by omega)];exact hn
  have e1:aa .i64 ((n:Int)-1)=((n-1:Nat):Int):=AH _ (by omega);have hQN:N/2^n*2^n<=N:=kx _ _;have hQ2:N/2^n<=N:=dw _ _;have p0:=aUN hN2 n (by omega);have p1:=ND (x:=N/2^n) (by omega) n (by omega);have p2:=nV hN2 hQN;rw[aZS]at p2;rw[decide_eq_false hqE,cond_false,e0,jN (by omega),YP (by omega),hn,ab];simp only[bA8 p0,aYy p0,cond_true,Ja p1,I1 p1,sU p2,rY p2,Wl];have hRN:=Nat.mod_le N (2^n);generalize N/2^n=Q at *
  generalize N%2^n=R at *
  by_cases hR:R=0
  ·subst hR;rw[decide_eq_true rfl,cond_true];rfl
  ·have hQ1:1<2^100000:=al (show 1<2^1 by decide) (ai (by decide) (by decide));have p3:=ND (x:=1) hQ1 (n-1) (by omega);rw[lJ (by decide) (by decide),fw]at p3;have hH:2^(n-1)<2^100000:=bq (by decide) (by omega);have p4:=zU R (2^(n-1)) (by omega) hH;have p5:=nU (x:=Q) (y:=1) (by omega) hQ1;rw[lJ (x:=1) (by decide) (by decide)]at p5;rw[show((1:Nat):Int)=1 from rfl]at p3 p5;have hcls:Cx R n≠0:=by
    unfold Cx;rw[if_neg hR];split
    ·decide
    ·split<;>decide
   have hcut:(if Cx R n≠0/\Df m neg (decide (Q%2=1)) (Cx R n)=true then Q+1 else Q)=bif Df m neg (decide (Q%2=1)) (Cx R n)then Q+1 else Q:=by
    cases h:Df m neg (decide (Q%2=1)) (Cx R n)with
    |true=>rw[if_pos ⟨hcls,rfl⟩];rfl
    |false=>rw[if_neg (fun hh=>by cases hh.2)];rfl
   rw[hcut,decide_eq_false hR,cond_false,decide_eq_true hcls];simp only[e1,Ja p3,I1 p3,sT p4,rX p4,cond_true,aRL,aRM,sS p5,rW p5];generalize hcmp:(if R=2^(n-1)then(0:Int)else if R<2^(n-1)then -1 else 1)=cmp at *
   have hcase:(cmp=-1/\Cx R n=1)∨(cmp=0/\Cx R n=2)∨(cmp=1/\Cx R n=3):=by
    unfold Cx;rw[if_neg hR,←hcmp];rcases fh R (2^(n-1))with h|h|h
    ·left;rw[if_neg (by omega),if_pos h,if_pos h];exact⟨rfl,rfl⟩
    ·right;left;rw[if_pos h,if_neg (by omega),if_pos h];exact⟨rfl,rfl⟩
    ·right;right;rw[if_neg (by omega),if_neg (by omega),if_neg (by omega),if_neg (by omega)];exact⟨rfl,rfl⟩
   generalize Cx R n=cl at *
   generalize decide (Q%2=1)=odd at *
   clear hcut hcmp p0 p1 p2 p3 p4 p5 hcls;rcases hcase with⟨rfl,rfl⟩|⟨rfl,rfl⟩|⟨rfl,rfl⟩<;>rcases aC7 hm with rfl|rfl|rfl|rfl|rfl|rfl<;>cases neg<;>cases odd<;>rfl
theorem aCa{f m:Int}(hf:Fm f){neg:Bool}{n:Nat}{e q:Int}(h:AA n e-fP f+1<=q):BI m neg n e q false<=2^fP f:=aB9 h
theorem aFW{f m:Int}(hf:Fm f)(hm:0<=m/\m<=5)(neg:Bool)(N:Nat)(E:Int)(h0:N≠0)(hN:N<2^6000)(hE:-6000<=E/\E<=6000):
  aQ (f,m,(neg,Dh N,E,()),())=some (((Bj f m neg N E false).1:Int),((Bj f m neg N E false).2:Int),()):=by
 show uH B3.pre B3.F S4.pre S4.F DV.pre DV.F S6.pre S6.F S5.pre S5.F Dm.pre Dm.F f m (neg,Dh N,E,())=_;have hP:=DH hf;have hPW:=Et hf;have hW:=Ez hf;have hX:=Lc hf;have hX15:=OH hf;have hbl:=DY hN;have hbl1:=gA h0;have htop:AA N E=E+(Am N:Int)-1:=rfl;have hNbig:N<2^50000:=fm hN (bq (by decide) (by decide));have pP:=dL hf;have pB:=bC (n:=N) (fm hN (bq (by decide) (by decide)));have pY:=aUI hf m neg;have pS:=aHw hf neg;have e1:aa .i64 (aa .i64 (E+(Am N:Int))-1)=AA N E:=by rw[At (n:=E+_) (by omega),At (by omega)];rfl
 have e2:aa .i64 (1-(1-(fX f:Int)))=(fX f:Int):=by rw[At (by omega)];omega
 have e3:aa .i64 (aa .i64 ((if 1-(fX f:Int)>AA N E then 1-(fX f:Int)else AA N E)-(fP f:Int))+1)=B5 f (AA N E):=by
  unfold B5;have hb:-100000<=(if 1-(fX f:Int)>AA N E then 1-(fX f:Int)else AA N E)/\(if 1-(fX f:Int)>AA N E then 1-(fX f:Int)else AA N E)<=100000:=by split<;>omega
  rw[At (n:=_-(fP f:Int)) (by omega),At (by omega)]
 have e4:aa .i64 (aa .i64 ((1-(fX f:Int))-(fP f:Int))+1)=1-(fX f:Int)-(fP f:Int)+1:=by
  rw[At (n:=_-(fP f:Int)) (by omega),At (by omega)]
 have e5:aa .i64 (AA N E-(fP f:Int)+1)=AA N E-(fP f:Int)+1:=At (by omega);have e6:aa .i64 (AA N E-(fP f:Int))=AA N E-(fP f:Int):=At (by omega);unfold uH Bj;dsimp only;simp only[VX pP,VH pP,cond_true,jB pB,gY pB,e1,e2,e3,e4,e5,e6,bA6 pY,aYw pY,aPe pS,aM8 pS];by_cases hov:AA N E>fX f
 ·rw[if_pos hov,decide_eq_true hov,cond_true];rfl
 rw[if_neg hov,decide_eq_false hov,cond_false];have hlow:AA N E-(fP f:Int)+1<=B5 f (AA N E)/\1-(fX f:Int)-(fP f:Int)+1<=B5 f (AA N E)/\B5 f (AA N E)<=2000/\B5 f (AA N E)<=(fX f:Int)-(fP f:Int)+1/\(B5 f (AA N E)≠1-(fX f:Int)-(fP f:Int)+1->B5 f (AA N E)=AA N E-(fP f:Int)+1):=by
  unfold B5;split<;>refine⟨?_,?_,?_,?_,?_⟩<;>omega
 generalize hqd:B5 f (AA N E)=q at *
 have hshl:∀q:Int,-20000<=q->q<=E->N*2^(E-q).toNat<2^100000:=fun q h1 h2=>by
  have h3:N*2^(E-q).toNat<2^6000*2^(E-q).toNat:=cj hN (aj _);rw[←bj]at h3;exact al h3 (ai (by decide) (by omega))
 have p61:=aF4 hm neg N E q hNbig (by omega) (hshl q (by omega));have hu:=aCa (m:=m) (neg:=neg) hf hlow.1;have hu64:BI m neg N E q false<=2^53:=fy hu (ai (by decide) (Fk hf));have p591:=bC (n:=BI m neg N E q false) (bl hu64 (bq (by decide) (by decide)));have p62:=aUK (n:=BI m neg N E q false) (bl hu64 (bq (by decide) (by decide)));have p63:=aF4 hm neg N E (AA N E-(fP f:Int)+1) hNbig (by omega) (hshl _ (by omega));have hu2:=aCa (m:=m) (neg:=neg) hf (mg (AA N E-(fP f:Int)+1));have hu264:BI m neg N E (AA N E-(fP f:Int)+1) false<=2^53:=fy hu2 (ai (by decide) (Fk hf));have p592:=bC (n:=BI m neg N E (AA N E-(fP f:Int)+1) false) (bl hu264 (bq (by decide) (by decide)));have hU0:BI m neg N E q false=0->q=1-(fX f:Int)-(fP f:Int)+1:=fun h=>by
  by_cases hq:q=1-(fX f:Int)-(fP f:Int)+1
  ·exact hq
  ·exfalso;have hq2:=hlow.2.2.2.2 hq;have hQ:Hu N E q=0:=by
    unfold BI at h;split at h
    ·omega
    ·exact h
   by_cases hqE:q<=E
   ·rw[jJ hqE]at hQ;have:=gz (show 0<N by omega) (aj (E-q).toNat);omega
   ·rw[YP (by omega),mi]at hQ;rcases hQ with hQ|hQ
    ·have:=aj (q-E).toNat;omega
    ·have:=DY hQ;omega
 have hb1:=DY (show BI m neg N E q false<2^60 by omega);have hb2:=DY (show BI m neg N E (AA N E-(fP f:Int)+1) false<2^60 by omega);have htny:D3 f m neg N E false↔(AA N E<1-(fX f:Int)/\AA N E-(fP f:Int)+(Am (BI m neg N E (AA N E-(fP f:Int)+1) false):Int)<1-(fX f:Int)):=Iff.rfl;have hodd:Ds N E q false=0↔¬(Ds N E q false≠0):=by omega
 simp only[htny];generalize hU:BI m neg N E q false=U at *
 generalize hU2:BI m neg N E (AA N E-(fP f:Int)+1) false=U2 at *
 generalize hRd:Ds N E q false=R at *
 generalize AA N E=t at *
 have e7:aa .i64 (aa .i64 (q+(Am U:Int))-1)=q+(Am U:Int)-1:=by
  rw[At (n:=q+_) (by omega),At (by omega)]
 have e8:aa .i64 (t-(fP f:Int)+(Am U2:Int))=t-(fP f:Int)+(Am U2:Int):=At (by omega);obtain⟨k,hk⟩:=cd (show 0<=q-(1-(fX f:Int)-(fP f:Int)+1) by omega);have e9:aa .u64 (aa .i64 (k:Int))=(k:Int):=by
  rw[At (by omega),Ji _ (by omega)]
 have e10:aa .u64 (aa .i64 ((fP f:Int)-1))=((fP f-1:Nat):Int):=by
  rw[AH _ (by omega),Ji _ (by omega)]
 have hhalf:=aNg hf;have hpp:=aj (fP f-1);have hk2:k<=2*fX f-1:=by omega
 have hkp:k*2^(fP f-1)<=(2*fX f-1)*2^(fP f-1):=bc _ hk2;have hW1:2^(fW f-1)<=2^63:=ai (by decide) (by omega);have e11:Be .u64 (k:Int) ((fP f-1:Nat):Int)=((k*2^(fP f-1):Nat):Int):=by
  rw[Hw _ _ (by omega),bt (by omega)]
 have hs:BK f neg<=2^63:=by unfold BK;split<;>omega
 have e12:aa .u64 ((U:Int)+((k*2^(fP f-1):Nat):Int))=((U+k*2^(fP f-1):Nat):Int):=Dk _ _ (by omega);have e13:aa .u64 ((BK f neg:Int)+((U+k*2^(fP f-1):Nat):Int))=((BK f neg+(U+k*2^(fP f-1)):Nat):Int):=Dk _ _ (by omega);have hDg:(Dw U).getD (af 0) 0=(U:Int):=by rw[ap,Pc,bt (by omega)]
 have eOr:Ai .i64 16 8=24:=by decide
 simp only[aOT p61,aMO p61,cond_true,jB p591,gY p591,e7];by_cases hov2:q+(Am U:Int)-1>fX f
 ·rw[if_pos hov2,decide_eq_true hov2,cond_true];rfl
 rw[if_neg hov2,decide_eq_false hov2,cond_false,hk,ab];have hval:BK f neg+(U+k*2^(fP f-1))=k*2^(fP f-1)+U+BK f neg:=by omega
 have hfl:((if R=0 then 0 else if t<1-(fX f:Int)/\t-(fP f:Int)+(Am U2:Int)<1-(fX f:Int)then 24 else 16:Nat):Int) =
   (bif !(decide (R≠0))then(0:Int)else bif decide (t<1-(fX f:Int))then(bif decide (t-(fP f:Int)+(Am U2:Int)<1-(fX f:Int))then 24 else 16)else 16):=by
  by_cases h1:R=0
  ·rw[if_pos h1,decide_eq_false (by omega)];rfl
  ·rw[if_neg h1,decide_eq_true h1];by_cases h2:t<1-(fX f:Int)
   ·by_cases h3:t-(fP f:Int)+(Am U2:Int)<1-(fX f:Int)
    ·rw[if_pos ⟨h2,h3⟩,decide_eq_true h2,decide_eq_true h3];rfl
    ·rw[if_neg (fun h=>h3 h.2),decide_eq_true h2,decide_eq_false h3];rfl
   ·rw[if_neg (fun h=>h2 h.1),decide_eq_false h2];rfl
 rw[hfl];simp only[bA7 p62,aYx p62,cond_true,e8,e9,e10,e11,e12,e13,hDg,aOT p63,aMO p63,jB p592,gY p592,eOr];by_cases hUz:U=0
 ·have hk0:k=0:=by have:=hU0 hUz;omega
  have eL:decide ((((Dw U).length:Nat):Int)>0)=false:=by rw[hUz,E9];rfl
  have ev:k*2^(fP f-1)+U+BK f neg=BK f neg:=by rw[hk0,hUz,ff,de]
  rw[eL,cond_false,ev];cases decide (R≠0)<;>cases decide (t<1-(fX f:Int))<;>cases decide (t-(fP f:Int)+(Am U2:Int)<1-(fX f:Int))<;>rfl
 ·have eL:decide ((((Dw U).length:Nat):Int)>0)=true:=LB hUz;have eL2:decide ((0:Int)<(((Dw U).length:Nat):Int))=true:=Wm hUz;rw[eL,cond_true,cond_true,hval];cases decide (R≠0)<;>cases decide (t<1-(fX f:Int))<;>cases decide (t-(fP f:Int)+(Am U2:Int)<1-(fX f:Int))<;>rfl
theorem aHv{f m:Int}(hf:Fm f)(hm:0<=m/\m<=5)(neg:Bool)(N:Nat)(E:Int)(zn:Bool)(hN:N<2^6000)(hE:-6000<=E/\E<=6000):
  dR (f,m,(neg,Dh N,E,()),zn,())=some (((if N=0 then(BK f zn,0)else Bj f m neg N E false:Nat×Nat).1:Int),((if N=0 then(BK f zn,0)else Bj f m neg N E false:Nat×Nat).2:Int),()):=by
 show xN Gl.pre Gl.F Gi.pre Gi.F f m (neg,Dh N,E,()) zn=_;unfold xN;dsimp only;rw[Wl];by_cases h:N=0
 ·have p0:=aGu hf zn;rw[decide_eq_true h,cond_true,if_pos h];simp only[aO1 p0,aMW p0,cond_true];rfl
 ·have p0:=aFW hf hm neg N E h hN hE;rw[decide_eq_false h,cond_false,if_neg h];simp only[aOQ p0,aML p0,cond_true]
end VL
namespace VL
open Go Vx
def DO(nx:Bool)(X:Nat)(ex:Int)(ny:Bool)(Y:Nat)(ey:Int):Bool×Nat×Int:=
 if X=0 then(ny,Y,ey)else if Y=0 then(nx,X,ex)else
 let e:=if ey<ex then ey else ex
 let a:=X*2^(ex-e).toNat
 let b:=Y*2^(ey-e).toNat
 if nx=ny then(nx,a+b,e)else if b<=a then(nx,a-b,e)else(ny,b-a,e)
theorem tP{X:Nat}(hX:X<2^53){d:Nat}(hd:d<=5000):X*2^d<2^5053:=by
 have h1:X*2^d<2^53*2^d:=cj hX (aj _);rw[←bj]at h1;exact al h1 (ai (by decide) (by omega))
theorem aVo(nx:Bool)(X:Nat)(ex:Int)(ny:Bool)(Y:Nat)(ey:Int)(hX:X<2^53)(hY:Y<2^53)(hex:-2000<=ex/\ex<=2000)(hey:-2000<=ey/\ey<=2000):
  dS ((nx,Dh X,ex,()),(ny,Dh Y,ey,()),())=some (((DO nx X ex ny Y ey).1,Dh (DO nx X ex ny Y ey).2.1,(DO nx X ex ny Y ey).2.2,()),()):=by
 show xO CF.pre CF.F CG.pre CG.F CH.pre CH.F CI.pre CI.F (nx,Dh X,ex,()) (ny,Dh Y,ey,())=_;unfold xO DO;dsimp only;rw[Wl,Wl];by_cases h1:X=0
 ·rw[decide_eq_true h1,cond_true,if_pos h1]
 rw[decide_eq_false h1,cond_false,if_neg h1];by_cases h2:Y=0
 ·rw[decide_eq_true h2,cond_true,if_pos h2]
 rw[decide_eq_false h2,cond_false,if_neg h2];have he:(if ey<ex then ey else ex)<=ex/\(if ey<ex then ey else ex)<=ey/\-2000<=(if ey<ex then ey else ex):=by split<;>omega
 generalize(if ey<ex then ey else ex)=e at *
 obtain⟨d1,hd1⟩:=cd (show 0<=ex-e by omega);obtain⟨d2,hd2⟩:=cd (show 0<=ey-e by omega);have e1:aa .i64 (d1:Int)=(d1:Int):=At (by omega);have e2:aa .i64 (d2:Int)=(d2:Int):=At (by omega);have g1:X<2^100000:=fm hX (bq (by decide) (by decide));have g2:Y<2^100000:=fm hY (bq (by decide) (by decide));have p1:=ND g1 d1 (by omega);have p2:=ND g2 d2 (by omega);have k1:=fm (tP hX (d:=d1) (by omega)) (bq (a:=2) (n:=100000) (by decide) (by decide));have k2:=fm (tP hY (d:=d2) (by omega)) (bq (a:=2) (n:=100000) (by decide) (by decide));have p3:=nU k1 k2;have p4:=zU _ _ k1 k2;simp only[e1,e2,Ja p1,I1 p1,Ja p2,I1 p2,cond_true,hd1,hd2,ab];generalize X*2^d1=a at *
 generalize Y*2^d2=b at *
 by_cases hn:nx=ny
 ·subst hn;have:(nx==nx)=true:=by cases nx<;>rfl
  rw[this,cond_true,if_pos rfl];simp only[sS p3,rW p3,cond_true]
 ·have:(nx==ny)=false:=by cases nx<;>cases ny<;>first|rfl|exact absurd rfl hn
  rw[this,cond_false,if_neg hn];simp only[sT p4,rX p4,cond_true];by_cases hle:b<=a
  ·have p5:=nV k1 hle;have z:decide ((if a=b then(0:Int)else if a<b then -1 else 1)>=0)=true:=by
    by_cases hab:a=b
    ·rw[if_pos hab];rfl
    ·rw[if_neg hab,if_neg (by omega)];rfl
   simp only[z,cond_true,sU p5,rY p5,if_pos hle]
  ·have p5:=nV (y:=a) k2 (by omega);have z:decide ((if a=b then(0:Int)else if a<b then -1 else 1)>=0)=false:=by
    rw[if_neg (by omega),if_pos (by omega)];rfl
   simp only[z,cond_false,sU p5,rY p5,if_neg hle,cond_true]
theorem bGY(nx:Bool)(X:Nat)(ex:Int)(ny:Bool)(Y:Nat)(ey:Int)(hX:X<2^53)(hY:Y<2^53)(hex:-2000<=ex/\ex<=2000)(hey:-2000<=ey/\ey<=2000):
  (DO nx X ex ny Y ey).2.1<2^6000/\-6000<=(DO nx X ex ny Y ey).2.2/\(DO nx X ex ny Y ey).2.2<=6000:=by
 have g1:X<2^6000:=fm hX (bq (by decide) (by decide));have g2:Y<2^6000:=fm hY (bq (by decide) (by decide));unfold DO;dsimp only;have he:(if ey<ex then ey else ex)<=ex/\(if ey<ex then ey else ex)<=ey/\-2000<=(if ey<ex then ey else ex):=by split<;>omega
 generalize(if ey<ex then ey else ex)=e at *
 have k1:=tP hX (d:=(ex-e).toNat) (by omega);have k2:=tP hY (d:=(ey-e).toNat) (by omega);have k3:2^5053+2^5053<=2^6000:=by
  rw[←Nat.two_mul,←jd];exact ai (by decide) (by decide)
 generalize X*2^(ex-e).toNat=a at *
 generalize Y*2^(ey-e).toNat=b at *
 generalize 2^5053=P at *
 generalize 2^6000=P2 at *
 split
 ·exact⟨g2,by dsimp only;omega,by dsimp only;omega⟩
 split
 ·exact⟨g1,by dsimp only;omega,by dsimp only;omega⟩
 split
 ·exact⟨by dsimp only;omega,by dsimp only;omega,by dsimp only;omega⟩
 split
 ·exact⟨by dsimp only;omega,by dsimp only;omega,by dsimp only;omega⟩
 ·exact⟨by dsimp only;omega,by dsimp only;omega,by dsimp only;omega⟩
theorem bG6{f m:Int}(hf:Fm f)(nx:Bool)(X:Nat)(ex:Int)(ny:Bool)(Y:Nat)(ey:Int)(zn:Bool)(hz:zn=if X=0/\Y=0/\nx=ny then nx else(m==4)):
  (if(DO nx X ex ny Y ey).2.1=0 then(BK f zn,0)else Bj f m (DO nx X ex ny Y ey).1 (DO nx X ex ny Y ey).2.1 (DO nx X ex ny Y ey).2.2 false)=DN f m nx X ex ny Y ey:=by
 by_cases hX:X=0
 ·subst hX;rw[tX,V8 hf];unfold DO;rw[if_pos rfl];dsimp only;by_cases hY:Y=0
  ·rw[if_pos hY,if_pos hY,hz];by_cases hn:nx=ny
   ·rw[if_pos ⟨rfl,hY,hn⟩,if_pos hn.symm,hn]
   ·rw[if_neg (fun h=>hn h.2.2),if_neg (Ne.symm hn)]
  ·rw[if_neg hY,if_neg hY]
 by_cases hY:Y=0
 ·subst hY;rw[V8 hf,if_neg hX];unfold DO;rw[if_neg hX,if_pos rfl];dsimp only;rw[if_neg hX]
 rw[if_neg (fun h=>hX h.1)]at hz;subst hz;obtain⟨e,he⟩:∃e,(if ex<=ey then ex else ey)=e:=⟨_,rfl⟩
 obtain⟨a,ha⟩:∃a,X*2^(ex-e).toNat=a:=⟨_,rfl⟩
 obtain⟨b,hb⟩:∃b,Y*2^(ey-e).toNat=b:=⟨_,rfl⟩
 have he2:(if ey<ex then ey else ex)=e:=by rw[←he];split<;>split<;>omega
 have hD:DO nx X ex ny Y ey=if nx=ny then(nx,a+b,e)else if b<=a then(nx,a-b,e)else(ny,b-a,e):=by
  unfold DO;rw[if_neg hX,if_neg hY];simp only[he2,ha,hb]
 have hS:DN f m nx X ex ny Y ey=if nx=ny then(if a+b=0 then(BK f nx,0)else Bj f m nx (a+b) e false)
   else if a=b then(BK f (m==4),0)else if b<a then Bj f m nx (a-b) e false else Bj f m ny (b-a) e false:=by
  unfold DN;simp only[he,ha,hb]
 have ha0:0<a:=by rw[←ha];exact gz (by omega) (aj _)
 have hb0:0<b:=by rw[←hb];exact gz (by omega) (aj _)
 rw[hD,hS];by_cases hn:nx=ny
 ·rw[if_pos hn,if_pos hn];dsimp only;rw[if_neg (by omega),if_neg (by omega)]
 ·rw[if_neg hn,if_neg hn];rcases fh a b with h|h|h
  ·rw[if_neg (show ¬b<=a by omega)];dsimp only;rw[if_neg (show ¬b-a=0 by omega),if_neg (show ¬a=b by omega),if_neg (show ¬b<a by omega)]
  ·rw[if_pos (show b<=a by omega)];dsimp only;rw[if_pos (show a-b=0 by omega),if_pos h]
  ·rw[if_pos (show b<=a by omega)];dsimp only;rw[if_neg (show ¬a-b=0 by omega),if_neg (show ¬a=b by omega),if_pos h]
theorem gR{f:Int}(hf:Fm f){a:Nat}(ha:a<2^64):dM (f,(a:Int),())=some (decide (Ak f a=0),()):=by
 show xI B3.pre B3.F f a=_;unfold xI;have p0:=dL hf;have hW:=Ez hf;have h2:=Et hf;simp only[VX p0,VH p0,cond_true];have e1:aa .u64 (fW f:Int)=(fW f:Int):=Ji _ (by omega);rw[e1,Dv _ _ hW,FT];have hc:Ak f a=0↔a<2^fW f:=by
  unfold Ak;rw[if_pos hf];split<;>simp_all
 have:(((fW f:Int)==64)||(a/2^fW f==0))=decide (Ak f a=0):=by
  rw[fi,dv,beq_iff_eq,beq_iff_eq,decide_eq_true_eq,hc];constructor
  ·rintro (h|h)
   ·have:fW f=64:=by omega
    rw[this];exact ha
   ·rw[mi]at h;rcases h with h|h
    ·have:=aj (fW f);omega
    ·exact h
  ·intro h;right;exact ci h
 rw[this]
theorem aHu(f m:Int):dP (f,m,())=some ((if Fm f then(if 0<=m/\m<=5 then 0 else 3)else 2),()):=by
 show xL B3.pre B3.F f m=_;unfold xL;by_cases hf:Fm f
 ·have p0:=dL hf;have h2:=Et hf;have e0:((fW f:Int)==0)=false:=AF _ (by omega);simp only[VX p0,VH p0,cond_true,e0,cond_false,if_pos hf];by_cases hm:0<=m/\m<=5
  ·rw[if_pos hm,decide_eq_false (p:=m<0) (by omega),decide_eq_false (p:=m>5) (by omega)];rfl
  ·rw[if_neg hm];have:(decide (m<0)||decide (m>5))=true:=by
    by_cases h:m<0
    ·rw[decide_eq_true h];rfl
    ·rw[decide_eq_true (p:=m>5) (by omega),ba]
   rw[this];rfl
 ·have p0:=aHs hf;simp only[VX p0,VH p0,cond_true,if_neg hf];rfl
def Ao(f:Int)(a:Nat):Nat:=if eF f a=0 then mF f a else mF f a+2^(fP f-1)
def Ar(f:Int)(a:Nat):Int:=1-(fX f:Int)-(fP f:Int)+1+(if eF f a=0 then 0 else(eF f a:Int)-1)
theorem Yv(f:Int)(a:Nat):mF f a<2^(fP f-1):=ca _ (aj _)
theorem Li{f:Int}(hf:Fm f)(a:Nat):Ao f a<2^53:=by
 have h1:=Yv f a;have h2:=DH hf;have h3:=Et hf;have h4:=Ez hf;have h5:2^(fP f-1)<=2^52:=ai (by decide) (by rcases Cm hf with rfl|rfl|rfl|rfl<;>decide);unfold Ao;split<;>omega
theorem gK{f:Int}(hf:Fm f)(a:Nat):eF f a<2048:=by
 have:2^(fW f-fP f)<=2^11:=ai (by decide) (by rcases Cm hf with rfl|rfl|rfl|rfl<;>decide);have h:eF f a<2^(fW f-fP f):=ca _ (aj _);omega
theorem Lz{f:Int}(hf:Fm f)(a:Nat):-2000<=Ar f a/\Ar f a<=2000:=by
 have h1:=gK hf a;have h2:=Lc hf;have h3:=Fk hf;have h4:=OH hf;have h5:=DH hf;have h6:(eF f a:Int)<=2*fX f+1:=by
  have:eF f a<2^(fW f-fP f):=ca _ (aj _);have:=aCg hf;omega
 unfold Ar;split<;>omega
theorem aAg{f:Int}(hf:Fm f){a:Nat}(h:Ak f a=0):W1 (f,(a:Int),()) =
  some (if eF f a=BO f then(mF f a !=0,(mF f a !=0)&&(mF f a/2^(fP f-2)==0),mF f a==0,sF f a,(false,[],0,()),())
   else(false,false,false,sF f a,(sF f a,Dh (Ao f a),Ar f a,()),()),()):=by
 have ha:=VU h;have haW:=(Gv h).2;show xM B3.pre B3.F SZ.pre SZ.F f a=_;unfold xM;have h1:=DH hf;have h2:=Et hf;have h3:=Ez hf;have h4:=Lc hf;have h5:=Fk hf;have h6:=OH hf;have hE:=gK hf a;have hM:=Yv f a;have hPp:2^(fP f-1)<=2^52:=ai (by decide) (by omega);have hpp:=aj (fP f-1);have hWp:=aj (fW f-fP f);have hWq:2^(fW f-fP f)<=2^11:=ai (by decide) (by rcases Cm hf with rfl|rfl|rfl|rfl<;>decide);have p0:=dL hf;have e1:aa .u64 (aa .i64 ((fP f:Int)-1))=((fP f-1:Nat):Int):=by rw[AH _ (by omega),Ji _ (by omega)]
 have e2:aa .u64 (aa .i64 ((fW f:Int)-(fP f:Int)))=((fW f-fP f:Nat):Int):=by rw[AQ _ _ (by omega),Ji _ (by omega)]
 have e3:aa .u64 (aa .i64 ((fW f:Int)-1))=((fW f-1:Nat):Int):=by rw[AH _ (by omega),Ji _ (by omega)]
 have e4:aa .u64 (aa .i64 ((fP f:Int)-2))=((fP f-2:Nat):Int):=by rw[At (by omega),Dy (by omega)];omega
 have e5:aa .u64 (((2^(fW f-fP f):Nat):Int)-1)=((2^(fW f-fP f)-1:Nat):Int):=Wc _ 1 (by omega);have e6:aa .u64 (((2^(fP f-1):Nat):Int)-1)=((2^(fP f-1)-1:Nat):Int):=Wc _ 1 (by omega);have e7:Be .i64 1 ((fW f-fP f:Nat):Int)=((2^(fW f-fP f):Nat):Int):=by
  rcases Cm hf with rfl|rfl|rfl|rfl<;>decide
 have e8:aa .i64 (((2^(fW f-fP f):Nat):Int)-1)=((BO f:Nat):Int):=AH _ (by omega);have e9:BN .u64 ((a/2^(fP f-1):Nat):Int) ((2^(fW f-fP f)-1:Nat):Int)=((eF f a:Nat):Int):=TX (bl (dw _ _) ha) (by omega);have e10:aa .i64 ((eF f a:Nat):Int)=((eF f a:Nat):Int):=At (by omega);have e11:BN .u64 (a:Int) ((2^(fP f-1)-1:Nat):Int)=((mF f a:Nat):Int):=TX ha (by omega);have e12:BN .u64 ((a/2^(fW f-1):Nat):Int) 1=((a/2^(fW f-1)%2^1:Nat):Int):=TX (n:=1) (bl (dw _ _) ha) (by omega);have e13:(((a/2^(fW f-1)%2^1:Nat):Int)==1)=sF f a:=by
  have hq:a/2^(fW f-1)<2:=by
   rw[bv (aj _),←jd,mj,kc (by omega)];exact haW
  unfold sF;rw[show((1:Int))=((1:Nat):Int)from rfl,Lj];rcases(show ∀q:Nat,q<2->q=0∨q=1 from fun q h=>by omega) _ hq with hh|hh<;>rw[hh]<;>rfl
 have e14:aa .i64 (aa .i64 ((1-(fX f:Int))-(fP f:Int))+1)=1-(fX f:Int)-(fP f:Int)+1:=by
  rw[At (n:=_-(fP f:Int)) (by omega),At (by omega)]
 have e15:aa .u64 (((mF f a:Nat):Int)+((2^(fP f-1):Nat):Int))=((mF f a+2^(fP f-1):Nat):Int):=Dk _ _ (by omega);have s1:Be .u64 1 ((fP f-1:Nat):Int)=((2^(fP f-1):Nat):Int):=O4 (by omega);have s2:Be .u64 1 ((fW f-fP f:Nat):Int)=((2^(fW f-fP f):Nat):Int):=O4 (by omega);have r1:AL .u64 (a:Int) ((fP f-1:Nat):Int)=((a/2^(fP f-1):Nat):Int):=Dv _ _ (by omega);have r2:AL .u64 (a:Int) ((fW f-1:Nat):Int)=((a/2^(fW f-1):Nat):Int):=Dv _ _ (by omega);have r3:AL .u64 ((mF f a:Nat):Int) ((fP f-2:Nat):Int)=((mF f a/2^(fP f-2):Nat):Int):=Dv _ _ (by omega);simp only[VX p0,VH p0,cond_true,e1,e2,e3,e4,s1,s2,r1,r2,e5,e6,e7,e8,e9,e10,e11,e12,e13,e14,e15,r3];by_cases hfull:eF f a=BO f
 ·rw[Lj,show(eF f a==BO f)=true by simp[hfull],cond_true,if_pos hfull,VQ,FT,FT]
 ·rw[Lj,show(eF f a==BO f)=false by simp[hfull],cond_false,if_neg hfull];by_cases h0:eF f a=0
  ·have p1:=aFV (x:=mF f a) (by omega);have hg:decide (((eF f a:Nat):Int)>0)=false:=decide_eq_false (by omega);have hm:Ao f a=mF f a:=by unfold Ao;rw[if_pos h0]
   have hx:Ar f a=1-(fX f:Int)-(fP f:Int)+1:=by unfold Ar;rw[if_pos h0,ln]
   simp only[hg,cond_false,aOP p1,aMK p1,cond_true,hm,hx]
  ·have p1:=aFV (x:=mF f a+2^(fP f-1)) (by omega);have hg:decide (((eF f a:Nat):Int)>0)=true:=decide_eq_true (by omega);have hm:Ao f a=mF f a+2^(fP f-1):=by unfold Ao;rw[if_neg h0]
   have hx:aa .i64 ((1-(fX f:Int)-(fP f:Int)+1)+aa .i64 (((eF f a:Nat):Int)-1))=Ar f a:=by
    unfold Ar;rw[if_neg h0,At (n:=((eF f a:Nat):Int)-1) (by omega),At (by omega)]
   simp only[hg,cond_true,aOP p1,aMK p1,hm,hx]
def AB(f:Int)(a:Nat):Bool:=eF f a==BO f&&mF f a==0
def fQ(f m:Int)(a b:Nat):Int×Int×Int×Unit:=bif Bn f a||Bn f b then((Cz f:Int),1,0,())else bif nan f a||nan f b then((Cz f:Int),0,0,())else bif(AB f a&&AB f b)&&!(sF f a==sF f b)then((Cz f:Int),1,0,())else bif AB f a then((a:Int),0,0,())else bif AB f b then((b:Int),0,0,())else(((DN f m (sF f a) (Ao f a) (Ar f a) (sF f b) (Ao f b) (Ar f b)).1:Int),((DN f m (sF f a) (Ao f a) (Ar f a) (sF f b) (Ao f b) (Ar f b)).2:Int),0,())
def Ov(f m:Int)(a b:Nat):Int×Int×Int×Unit:=if Fm f then(if 0<=m/\m<=5 then(if Ak f a=0/\Ak f b=0 then fQ f m a b else(0,0,4,()))else(0,0,3,()))else(0,0,2,())
theorem aAi(s s':Bool)(X:Nat)(e:Int):U0 ((false,false,false,s,(s',Dh X,e,()),()),())=some (decide (X=0),()):=by
 show Y1 (false,false,false,s,(s',Dh X,e,()),())=_;unfold Y1;dsimp only;rw[Wl];rfl
theorem gV{f:Int}{a:Nat}(h:eF f a=BO f):nan f a=(!(mF f a==0))/\Bn f a=(!(mF f a==0)&&(mF f a/2^(fP f-2)==0))/\AB f a=(mF f a==0):=by
 unfold Bn nan AB;rw[h];simp[bne]
theorem i7{f:Int}{a:Nat}(h:eF f a≠BO f):nan f a=false/\Bn f a=false/\AB f a=false:=by
 unfold Bn nan AB;simp[h]
theorem aAa(f m:Int){a b:Nat}(ha:a<2^64)(hb:b<2^64):WQ (f,m,(a:Int),(b:Int),())=some (Ov f m a b):=by
 show vP Dq.pre Dq.F CL.pre CL.F Em.pre Em.F En.pre En.F Eo.pre Eo.F TI.pre TI.F Gs.pre Gs.F f m a b=_;unfold vP Ov;have p0:=aHu f m;by_cases hf:Fm f
 ·rw[if_pos hf]at p0⊢;by_cases hm:0<=m/\m<=5
  ·rw[if_pos hm]at p0⊢;have p1:=gR hf ha;have p2:=gR hf hb;simp only[YK p0,XP p0,jF p1,hZ p1,jF p2,hZ p2,bne_self_eq_false,cond_false,cond_true,aw];by_cases hca:Ak f a=0
   ·by_cases hcb:Ak f b=0
    ·rw[if_pos ⟨hca,hcb⟩,decide_eq_true hca,decide_eq_true hcb];have p3:=aAg hf hca;have p4:=aAg hf hcb;have p5:=aAh hf;have nb:∀n:Nat,(n !=0)=!(n==0):=fun _=>rfl;rw[nb]at p3 p4;unfold fQ;by_cases fa:eF f a=BO f
     ·rw[if_pos fa]at p3;obtain⟨v1,v2,v3⟩:=gV fa;rw[v1,v2,v3];generalize(mF f a==0)=x1 at *
      generalize(mF f a/2^(fP f-2)==0)=q1 at *
      by_cases fb:eF f b=BO f
      ·rw[if_pos fb]at p4;obtain⟨w1,w2,w3⟩:=gV fb;rw[w1,w2,w3];generalize(mF f b==0)=x2 at *
       generalize(mF f b/2^(fP f-2)==0)=q2 at *
       simp only[au,bb,cond_false,Ht p3,Hn p3,Ht p4,Hn p4,cond_true,O1 p5,OO p5];cases x1<;>cases q1<;>cases x2<;>cases q2<;>cases sF f a<;>cases sF f b<;>rfl
      ·rw[if_neg fb]at p4;obtain⟨w1,w2,w3⟩:=i7 fb;rw[w1,w2,w3];simp only[au,bb,cond_false,Ht p3,Hn p3,Ht p4,Hn p4,cond_true,O1 p5,OO p5];cases x1<;>cases q1<;>cases sF f a<;>cases sF f b<;>rfl
     ·rw[if_neg fa]at p3;obtain⟨v1,v2,v3⟩:=i7 fa;rw[v1,v2,v3];by_cases fb:eF f b=BO f
      ·rw[if_pos fb]at p4;obtain⟨w1,w2,w3⟩:=gV fb;rw[w1,w2,w3];generalize(mF f b==0)=x2 at *
       generalize(mF f b/2^(fP f-2)==0)=q2 at *
       simp only[au,bb,cond_false,Ht p3,Hn p3,Ht p4,Hn p4,cond_true,O1 p5,OO p5];cases x2<;>cases q2<;>cases sF f a<;>cases sF f b<;>rfl
      ·rw[if_neg fb]at p4;obtain⟨w1,w2,w3⟩:=i7 fb;rw[w1,w2,w3];have p6:=aAi (sF f a) (sF f a) (Ao f a) (Ar f a);have p7:=aAi (sF f b) (sF f b) (Ao f b) (Ar f b);have p8:=aVo (sF f a) (Ao f a) (Ar f a) (sF f b) (Ao f b) (Ar f b) (Li hf a) (Li hf b) (Lz hf a) (Lz hf b);have hbd:=bGY (sF f a) (Ao f a) (Ar f a) (sF f b) (Ao f b) (Ar f b) (Li hf a) (Li hf b) (Lz hf a) (Lz hf b);have hss:=fun zn=>bG6 (m:=m) hf (sF f a) (Ao f a) (Ar f a) (sF f b) (Ao f b) (Ar f b) zn;have p9:=fun zn=>aHv hf hm (DO (sF f a) (Ao f a) (Ar f a) (sF f b) (Ao f b) (Ar f b)).1 (DO (sF f a) (Ao f a) (Ar f a) (sF f b) (Ao f b) (Ar f b)).2.1 (DO (sF f a) (Ao f a) (Ar f a) (sF f b) (Ao f b) (Ar f b)).2.2 zn hbd.1 hbd.2;generalize DO (sF f a) (Ao f a) (Ar f a) (sF f b) (Ao f b) (Ar f b)=D at *
       simp only[au,bb,cond_false,Ht p3,Hn p3,Ht p4,Hn p4,cond_true,YL p6,XQ p6,YL p7,XQ p7,aw,bBI p8,aY8 p8,ao,ay];by_cases hz:Ao f a=0/\Ao f b=0/\sF f a=sF f b
       ·have hg:((decide (Ao f a=0)&&decide (Ao f b=0))&&(sF f a==sF f b))=true:=by
         rw[decide_eq_true hz.1,decide_eq_true hz.2.1,hz.2.2];cases sF f b<;>rfl
        have p10:=p9 (sF f a);have hs2:=hss (sF f a) (by rw[if_pos hz]);simp only[hs2]at p10;simp only[hg,cond_true,aDy p10,aCF p10]
       ·have hg:((decide (Ao f a=0)&&decide (Ao f b=0))&&(sF f a==sF f b))=false:=by
         cases hh:((decide (Ao f a=0)&&decide (Ao f b=0))&&(sF f a==sF f b))with
         |false=>rfl
         |true=>
          exfalso;simp only[ag,decide_eq_true_eq,beq_iff_eq]at hh;exact hz ⟨hh.1.1,hh.1.2,hh.2⟩
        have p10:=p9 (m==4);have hs2:=hss (m==4) (by rw[if_neg hz]);simp only[hs2]at p10;simp only[hg,cond_false,aDy p10,aCF p10,cond_true]
    ·rw[if_neg (fun h=>hcb h.2),decide_eq_false hcb];cases decide (Ak f a=0)<;>rfl
   ·rw[if_neg (fun h=>hca h.1),decide_eq_false hca];rfl
  ·rw[if_neg hm]at p0⊢;simp only[YK p0,XP p0];rfl
 ·rw[if_neg hf]at p0⊢;simp only[YK p0,XP p0];rfl
theorem aUS{f:Int}{a:Nat}(h:Ak f a=0):bM (f,(a:Int),())=some ((I7 f a:Int),()):=by
 obtain⟨hf,h0⟩:=Gv h;show vS DV.pre DV.F f a=_;unfold vS;have h2:=Et hf;have h3:=Ez hf;have p0:=aHw hf true;have e0:BK f true=2^(fW f-1):=rfl;simp only[aPe p0,aM8 p0,cond_true,e0];rw[aRH (by omega) (by rw[kc (by omega)];exact h0)];have e:(if a<2^(fW f-1)then a+2^(fW f-1)else a-2^(fW f-1))=I7 f a:=by
  have hp:=aOF h;have hl:=aBL (f:=f) a;unfold I7;unfold DK at hp⊢;cases hs:sF f a<;>rw[hs]at hp<;>simp only[cond_true,cond_false,au,ar]at hp⊢
  ·rw[if_pos (by omega)];omega
  ·rw[if_neg (by omega)];omega
 rw[e]
def UA(f m:Int)(a b:Nat):Int×Int×Int×Unit:=Ov f m a (if Ak f b=0 then I7 f b else b)
theorem aOo{f:Int}{b:Nat}(h:Ak f b=0):I7 f b<2^64:=VU (aOn (Gv h).1 b)
theorem aUQ(f m:Int){a b:Nat}(ha:a<2^64)(hb:b<2^64):WP (f,m,(a:Int),(b:Int),())=some (UA f m a b):=by
 show vN B3.pre B3.F CL.pre CL.F Ta.pre Ta.F Gk.pre Gk.F f m a b=_;unfold vN UA;have pA:=aAa f m ha hb;by_cases hf:Fm f
 ·have p0:=dL hf;have p1:=gR hf hb;have h2:=Et hf;have e0:((fW f:Int)==0)=false:=AF _ (by omega);simp only[VX p0,VH p0,cond_true,e0,jF p1,hZ p1,aw,bd];by_cases h:Ak f b=0
  ·have p2:=aUS h;have p3:=aAa f m ha (aOo h);rw[if_pos h,decide_eq_true h];simp only[au,cond_false,bBd p2,aYD p2,cond_true,sX p3,r5 p3]
  ·rw[if_neg h,decide_eq_false h];simp only[ar,sX pA,r5 pA,cond_true]
 ·have p0:=aHs hf;have h:¬Ak f b=0:=by rw[aLK hf];decide
  rw[if_neg h];simp only[VX p0,VH p0,cond_true,beq_self_eq_true,cond_false,ar,ba,aw,sX pA,r5 pA]
end VL
namespace VL
open Go Vx
theorem aAm{f:Int}{a:Nat}(h:Ak f a=0):dY (f,(a:Int),())=some (sF f a,(eF f a:Int),(mF f a:Int),0,()):=by
 obtain⟨hf,h0⟩:=Gv h;have ha:=VU h;show xS Au.pre Au.F DD.pre DD.F f a=_;unfold xS;have p0:=KN f a ha;have p2:=aAj hf a ha;have hr1:decide (0<=f)=true:=decide_eq_true hf.1;have hr2:decide (f<((4:Nat):Int))=true:=decide_eq_true hf.2;simp only[aDO hf,hr1,hr2,Jb p0,I2 p0,aDz p2,aCG p2,h,cond_true,bne_self_eq_false,cond_false]
theorem aHt{f:Int}{a:Nat}(h:Ak f a=0):dO (f,Ck f,(a:Int),())=some ((sF f a,(Ao f a:Int),Ar f a,()),()):=by
 obtain⟨hf,h0⟩:=Gv h;show xK Cg.pre Cg.F f (Ck f) a=_;unfold xK;have h1:=DH hf;have h3:=Fk hf;have h4:=Lc hf;have hE:=gK hf a;have hM:=Yv f a;have hPp:2^(fP f-1)<=2^52:=ai (by decide) (by omega);have p0:=aAm h;have r1:(Ck f).2.1=(fP f:Int):=rfl;have r2:(Ck f).2.2.1=1-(fX f:Int):=rfl;have e0:aa .i64 ((fP f:Int)-1)=((fP f-1:Nat):Int):=AH _ (by omega);have e1:aa .i64 (aa .i64 ((1-(fX f:Int))-(fP f:Int))+1)=1-(fX f:Int)-(fP f:Int)+1:=by
  rw[At (n:=_-(fP f:Int)) (by omega),At (by omega)]
 have e2:aa .i64 (eF f a:Int)=(eF f a:Int):=At (by omega);have e3:Be .u64 1 ((fP f-1:Nat):Int)=((2^(fP f-1):Nat):Int):=O4 (by omega);have e4:Ai .u64 (mF f a:Int) ((2^(fP f-1):Nat):Int)=((mF f a+2^(fP f-1):Nat):Int):=by
  have:=OY (a:=mF f a) (b:=1) (k:=fP f-1) hM (by omega);rwa [fw]at this
 simp only[aDC p0,aCJ p0,cond_true,r1,r2,e0,e1,e2,e3,e4,AE];by_cases hz:eF f a=0
 ·have hg:decide ((eF f a:Int)>0)=false:=decide_eq_false (by omega);have hm:Ao f a=mF f a:=by unfold Ao;rw[if_pos hz]
  have hx:Ar f a=1-(fX f:Int)-(fP f:Int)+1:=by unfold Ar;rw[if_pos hz,ln]
  rw[hg,cond_false,hm,hx]
 ·have hg:decide ((eF f a:Int)>0)=true:=decide_eq_true (by omega);have hm:Ao f a=mF f a+2^(fP f-1):=by unfold Ao;rw[if_neg hz]
  have hx:aa .i64 ((1-(fX f:Int)-(fP f:Int)+1)+aa .i64 ((eF f a:Int)-1))=Ar f a:=by
   unfold Ar;rw[if_neg hz,At (n:=(eF f a:Int)-1) (by omega),At (by omega)]
  rw[hg,cond_true,hm,hx]
theorem aB7(f:Int)(a:Nat):(Ch f a==2||Ch f a==9)=AB f a:=by
 unfold Ch AB;cases eF f a==BO f<;>cases eF f a==0<;>cases mF f a==0<;>cases sF f a<;>cases mF f a/2^(fP f-2)!=0<;>rfl
theorem aXp(f:Int)(a b:Nat):((AB f a&&AB f b)&&(Ch f a !=Ch f b))=((AB f a&&AB f b)&&!(sF f a==sF f b)):=by
 unfold Ch AB;cases eF f a==BO f<;>cases mF f a==0<;>cases eF f b==BO f<;>cases mF f b==0<;>first|rfl|(cases sF f a<;>cases sF f b<;>rfl)
theorem zZ(f m:Int){a b:Nat}(ha:a<2^64)(hb:b<2^64):bJ (f,m,(a:Int),(b:Int),())=some (Ov f m a b):=by
 show vO Aq.pre Aq.F Bv.pre Bv.F Bs.pre Bs.F TH.pre TH.F TG.pre TG.F f m a b=_;unfold vO Ov;by_cases hf:Fm f
 ·rw[if_pos hf];have p0:=IF hf;simp only[CT p0,CQ p0,cond_true,bne_self_eq_false,cond_false];by_cases hm:0<=m/\m<=5
  ·have hmm:(decide (m<0)||decide (m>5))=false:=by
    rw[decide_eq_false (p:=m<0) (by omega),decide_eq_false (p:=m>5) (by omega)];rfl
   rw[if_pos hm,hmm,cond_false];have c4:∀x:Nat,Ak f x≠0->Ak f x=4:=fun x h=>by
    unfold Ak at h⊢;rw[if_pos hf]at h⊢;split at h
    ·exact absurd rfl h
    ·rename_i h1;rw[if_neg h1]
   by_cases hca:Ak f a=0
   ·have p1:=nY ha hca;by_cases hcb:Ak f b=0
    ·have p2:=nY hb hcb;rw[if_pos ⟨hca,hcb⟩];have p3:=aAf hf;have p4:=aHt hca;have p5:=aHt hcb;have p6:=aVm hf hm (sF f a) (Ao f a) (Ar f a) (sF f b) (Ao f b) (Ar f b) (Li hf a) (Li hf b) (Lz hf a) (Lz hf b);simp only[Uu p1,Ui p1,Uu p2,Ui p2,cond_true,bne_self_eq_false,cond_false,aDx p3,aCE p3,aPd p4,aM7 p4,aPd p5,aM7 p5,bBH p6,aY7 p6,aB7,aXp];unfold fQ;rw[←rB,←rB,←rA,←rA];generalize((AB f a&&AB f b)&&!(sF f a==sF f b))=w1;generalize AB f a=w2;generalize AB f b=w3;generalize(Ch f a==0)=x1;generalize(Ch f b==0)=x2;generalize(Ch f a==1)=x3;generalize(Ch f b==1)=x4;cases x1<;>cases x2<;>cases x3<;>cases x4<;>cases w1<;>cases w2<;>cases w3<;>rfl
    ·have p2:=aAe hb hcb;rw[if_neg (fun h=>hcb h.2)];have hne:(Ak f b !=0)=true:=by simpa using hcb
     simp only[Uu p1,Ui p1,Uu p2,Ui p2,cond_true,bne_self_eq_false,cond_false,hne];rw[c4 b hcb]
   ·have p1:=aAe ha hca;rw[if_neg (fun h=>hca h.1)];have hne:(Ak f a !=0)=true:=by simpa using hca
    simp only[Uu p1,Ui p1,cond_true,hne];rw[c4 a hca]
  ·rw[if_neg hm];have:(decide (m<0)||decide (m>5))=true:=by
    by_cases h:m<0
    ·rw[decide_eq_true h];rfl
    ·rw[decide_eq_true (p:=m>5) (by omega),ba]
   rw[this];rfl
 ·rw[if_neg hf];have p0:=KO hf;simp only[CT p0,CQ p0];rfl
theorem aUP(f m:Int){a b:Nat}(ha:a<2^64)(hb:b<2^64):bI (f,m,(a:Int),(b:Int),())=some (UA f m a b):=by
 show vM Au.pre Au.F Fi.pre Fi.F FK.pre FK.F f m a b=_;unfold vM UA;have p0:=KN f b hb;by_cases h:Ak f b=0
 ·have p1:=aVl h;have p2:=zZ f m ha (aOo h);rw[if_pos h];simp only[Jb p0,I2 p0,h,beq_self_eq_true,cond_true,bBG p1,aY6 p1,aDv p2,aCC p2]
 ·have p2:=zZ f m ha hb;have hne:(Ak f b==0)=false:=by simpa using h
  rw[if_neg h];simp only[Jb p0,I2 p0,cond_true,hne,cond_false,aDv p2,aCC p2]
end VL
namespace VL
open Go Vx
theorem aZg(f:Int)(neg:Bool):Dg f neg=Ct f+BK f neg:=by
 unfold Dg Ct BO;rw[be]
theorem qN(f:Int)(s:Bool)(x:Nat):x+BK f s=DK f s x:=by
 unfold DK BK;cases s<;>rfl
theorem aCT{f:Int}(hf:Fm f):Ct f=(2*fX f+1)*2^(fP f-1):=by
 unfold Ct BO;rw[←aCg hf,be]
def Fo(f m:Int)(neg:Bool)(n:Nat)(e:Int):Nat×Nat:=
 if AA n e>fX f then((if Jf m neg then Ct f else Ct f-1),20)
 else
  let q:=B5 f (AA n e)
  let u:=BI m neg n e q false
  if q+Am u-1>fX f then((if Jf m neg then Ct f else Ct f-1),20)
  else((q-(1-(fX f:Int)-fP f+1)).toNat*2^(fP f-1)+u,
   if Ds n e q false=0 then 0 else if D3 f m neg n e false then 24 else 16)
theorem aZh{f:Int}(hf:Fm f):1<=Ct f:=by
 rw[aCT hf];exact gz (by omega) (aj _)
theorem aLp{f m:Int}(hf:Fm f)(neg:Bool):TY f m neg=DK f neg (if Jf m neg then Ct f else Ct f-1):=by
 have:=aZh hf;unfold TY;rw[aZg,←qN];split<;>omega
theorem YS{f:Int}(hf:Fm f)(m:Int)(neg:Bool)(n:Nat)(e:Int):Bj f m neg n e false=(DK f neg (Fo f m neg n e).1,(Fo f m neg n e).2):=by
 unfold Bj Fo;by_cases h:AA n e>fX f
 ·rw[if_pos h,if_pos h,aLp hf]
 ·rw[if_neg h,if_neg h];dsimp only;by_cases h2:B5 f (AA n e)+(Am (BI m neg n e (B5 f (AA n e)) false):Int)-1>fX f
  ·rw[if_pos h2,if_pos h2,aLp hf]
  ·rw[if_neg h2,if_neg h2];dsimp only;rw[qN]
theorem aZB(f:Int)(hf:Fm f)(t:Int)(ht:¬t>fX f):t-(fP f:Int)+1<=B5 f t/\1-(fX f:Int)-(fP f:Int)+1<=B5 f t/\B5 f t<=(fX f:Int)-(fP f:Int)+1:=by
 have:=OH hf;unfold B5;split<;>refine⟨?_,?_,?_⟩<;>omega
theorem bFx{f m:Int}(hf:Fm f){neg:Bool}{n:Nat}{e:Int}(h1:¬AA n e>fX f)(h2:¬B5 f (AA n e)+(Am (BI m neg n e (B5 f (AA n e)) false):Int)-1>fX f):
  (B5 f (AA n e)-(1-(fX f:Int)-fP f+1)).toNat*2^(fP f-1)+BI m neg n e (B5 f (AA n e)) false<Ct f:=by
 obtain⟨g1,g2,g3⟩:=aZB f hf _ h1;have hu:=aCa (m:=m) (neg:=neg) hf g1;generalize B5 f (AA n e)=q at *
 generalize BI m neg n e q false=u at *
 have hP:=DH hf;have hX:=OH hf;have hpp:=aj (fP f-1);have h2p:2^fP f=2*2^(fP f-1):=by rw[←jd,mj,kc (by omega)]
 rw[aCT hf];obtain⟨k,hk⟩:=cd (show 0<=q-(1-(fX f:Int)-(fP f:Int)+1) by omega);rw[hk,ab];rcases ax u (2^fP f)with h|h
 ·have hk2:k+2<=2*fX f+1:=by omega
  have:=bc (2^(fP f-1)) hk2;rw[cm]at this;omega
 ·have hb:fP f+1<=Am u:=T3 h;have hk2:k+3<=2*fX f+1:=by omega
  have:=bc (2^(fP f-1)) hk2;rw[cm]at this;omega
theorem tK{f:Int}(hf:Fm f)(m:Int)(neg:Bool)(n:Nat)(e:Int):(Fo f m neg n e).1<=Ct f:=by
 unfold Fo;by_cases h:AA n e>fX f
 ·rw[if_pos h];dsimp only;split<;>omega
 ·rw[if_neg h];dsimp only;by_cases h2:B5 f (AA n e)+(Am (BI m neg n e (B5 f (AA n e)) false):Int)-1>fX f
  ·rw[if_pos h2];dsimp only;split<;>omega
  ·rw[if_neg h2];exact Nat.le_of_lt (bFx hf h h2)
def VP(m:Int):Int:=if m=3 then 4 else if m=4 then 3 else m
theorem aY9{m:Int}(hm:0<=m/\m<=5)(neg odd:Bool)(r:Nat):Df (VP m) (!neg) odd r=Df m neg odd r:=by
 rcases aC7 hm with rfl|rfl|rfl|rfl|rfl|rfl<;>cases neg<;>rfl
theorem bHi{m:Int}(hm:0<=m/\m<=5)(neg:Bool):Jf (VP m) (!neg)=Jf m neg:=by
 rcases aC7 hm with rfl|rfl|rfl|rfl|rfl|rfl<;>cases neg<;>rfl
theorem aLV{m:Int}(hm:0<=m/\m<=5)(neg:Bool)(n:Nat)(e q:Int)(more:Bool):BI (VP m) (!neg) n e q more=BI m neg n e q more:=by
 unfold BI;rw[aY9 hm]
theorem bHc{f m:Int}(hm:0<=m/\m<=5)(neg:Bool)(n:Nat)(e:Int)(more:Bool):D3 f (VP m) (!neg) n e more↔D3 f m neg n e more:=by
 unfold D3;rw[aLV hm]
theorem bFy{f m:Int}(hm:0<=m/\m<=5)(neg:Bool)(n:Nat)(e:Int):Fo f (VP m) (!neg) n e=Fo f m neg n e:=by
 unfold Fo;simp only[bHi hm,aLV hm,bHc hm]
theorem tQ(f:Int)(s:Bool):BK f s=DK f s 0:=by
 rw[←qN,de]
theorem bG2{f m:Int}(hf:Fm f)(hm:0<=m/\m<=5)(nx:Bool)(X:Nat)(ex:Int)(ny:Bool)(Y:Nat)(ey:Int):
  ∃s s' x g,DN f m nx X ex ny Y ey=(DK f s x,g)/\DN f (VP m) (!nx) X ex (!ny) Y ey=(DK f s' x,g)/\x<=Ct f/\(s'=!s∨x=0):=by
 unfold DN;dsimp only;generalize(if ex<=ey then ex else ey)=e;generalize X*2^(ex-e).toNat=a;generalize Y*2^(ey-e).toNat=b;have hr:∀neg n,Bj f (VP m) (!neg) n e false=(DK f (!neg) (Fo f m neg n e).1,(Fo f m neg n e).2):=fun neg n=>by
  rw[YS hf,bFy hm]
 by_cases hn:nx=ny
 ·subst hn;rw[if_pos rfl,if_pos rfl];by_cases h0:a+b=0
  ·rw[if_pos h0,if_pos h0];exact⟨nx,!nx,0,0,by rw[tQ],by rw[tQ],dq _,.inr rfl⟩
  ·rw[if_neg h0,if_neg h0];exact⟨nx,!nx,_,_,YS hf _ _ _ _,hr _ _,tK hf _ _ _ _,.inl rfl⟩
 ·have hn2:¬((!nx)=(!ny)):=fun h=>hn (by cases nx<;>cases ny<;>first|rfl|cases h);rw[if_neg hn,if_neg hn2];by_cases h1:a=b
  ·rw[if_pos h1,if_pos h1];exact⟨_,_,0,0,by rw[tQ],by rw[tQ],dq _,.inr rfl⟩
  ·rw[if_neg h1,if_neg h1];by_cases h2:b<a
   ·rw[if_pos h2,if_pos h2];exact⟨nx,!nx,_,_,YS hf _ _ _ _,hr _ _,tK hf _ _ _ _,.inl rfl⟩
   ·rw[if_neg h2,if_neg h2];exact⟨ny,!ny,_,_,YS hf _ _ _ _,hr _ _,tK hf _ _ _ _,.inl rfl⟩
theorem aNk{f:Int}(hf:Fm f):Ct f<2^(fW f-1):=by have:=aZj hf;omega
end VL
namespace VL
open Go Vx
def qm(f:Int):Int:=1-(fX f:Int)-(fP f:Int)+1
def Ey(m:Int)(neg:Bool)(n j:Nat):Nat:=if Cx (n%2^j) j≠0/\Df m neg (decide (n/2^j%2=1)) (Cx (n%2^j) j)=true then n/2^j+1 else n/2^j
def OW(f m:Int)(neg:Bool)(n:Nat):Nat:=if n<2^fP f then n else(Am n-fP f)*2^(fP f-1)+Ey m neg n (Am n-fP f)
def aNv(f m:Int)(neg:Bool):Nat:=if Jf m neg then Ct f else Ct f-1
theorem aXr(m:Int)(neg:Bool)(n j:Nat):n/2^j<=Ey m neg n j/\Ey m neg n j<=n/2^j+1:=by
 unfold Ey;split<;>omega
theorem bBO{f:Int}(hf:Fm f){n:Nat}(h:¬n<2^fP f):1<=Am n-fP f/\2^(fP f-1)<=n/2^(Am n-fP f)/\n/2^(Am n-fP f)<2^fP f:=by
 have hP:=DH hf;have hb:=T3 (n:=n) (k:=fP f) (by omega);obtain⟨j,hj⟩:∃j,Am n=fP f+j:=⟨Am n-fP f,by omega⟩
 have h1:=Hj n;have h2:=Ox (n:=n) (by have:=aj (fP f);omega);rw[hj]at h1 h2⊢;rw[je];refine⟨by omega,?_,?_⟩
 ·rw[ir (aj _),←bj];refine fy (ai (by decide) ?_) h2;omega
 ·rw[bv (aj _),←bj];exact h1
theorem aRy{f:Int}(hf:Fm f):2^fP f=2*2^(fP f-1):=by
 have hP:=DH hf;rw[←jd,mj,kc (by omega)]
theorem bFz{f:Int}(hf:Fm f)(m:Int)(neg:Bool){n:Nat}(h0:n≠0):
  Fo f m neg n (qm f)=if Ct f<=OW f m neg n then(aNv f m neg,20)else(OW f m neg n,if n<2^fP f then 0 else if Cx (n%2^(Am n-fP f)) (Am n-fP f)=0 then 0 else 16):=by
 have hP:=DH hf;have hX:=OH hf;have h2p:=aRy hf;have hpp:=aj (fP f-1);have hinf:=aCT hf;have hb1:=gA h0;have htop:AA n (qm f)=qm f+(Am n:Int)-1:=rfl;have hqm:qm f=1-(fX f:Int)-(fP f:Int)+1:=rfl;unfold Fo;by_cases h:n<2^fP f
 ·have hb:=DY h;have hlow:B5 f (AA n (qm f))=qm f:=by unfold B5;split<;>omega
  have hmu:OW f m neg n=n:=by unfold OW;rw[if_pos h]
  have hcut:Ds n (qm f) (qm f) false=0:=by rw[Vy,tL (mg _)]
  have hcn:BI m neg n (qm f) (qm f) false=n:=by
   unfold BI;rw[if_neg (fun hh=>hh.1 hcut),jJ (mg _),ow];simp
  have hlt:2*2^(fP f-1)<=(2*fX f+1)*2^(fP f-1):=bc _ (by omega);rw[if_neg (show ¬AA n (qm f)>fX f by omega),hlow,hmu,if_neg (show ¬Ct f<=n by omega)];dsimp only;rw[hcn,if_neg (show ¬qm f+(Am n:Int)-1>fX f by omega),hcut,if_pos rfl,if_pos h,←hqm,ow];simp
 ·obtain⟨hj1,hq1,hq2⟩:=bBO hf h;have hblen:(Am n:Int)=(fP f:Int)+((Am n-fP f:Nat):Int):=by omega
  obtain⟨hc1,hc2⟩:=aXr m neg n (Am n-fP f);have hmu:OW f m neg n=(Am n-fP f)*2^(fP f-1)+Ey m neg n (Am n-fP f):=by unfold OW;rw[if_neg h]
  rw[hmu,if_neg h];have hlow:B5 f (AA n (qm f))=qm f+((Am n-fP f:Nat):Int):=by unfold B5;rw[if_neg (by omega)];omega
  have htiny:¬D3 f m neg n (qm f) false:=fun hh=>by have:=hh.1;omega
  have hcr:Ds n (qm f) (qm f+((Am n-fP f:Nat):Int)) false=Cx (n%2^(Am n-fP f)) (Am n-fP f):=by
   rw[Vy,jN (by omega),show(qm f+((Am n-fP f:Nat):Int)-qm f).toNat=Am n-fP f by omega]
  have hcn:BI m neg n (qm f) (qm f+((Am n-fP f:Nat):Int)) false=Ey m neg n (Am n-fP f):=by
   unfold BI Ey;rw[hcr,YP (by omega),show(qm f+((Am n-fP f:Nat):Int)-qm f).toNat=Am n-fP f by omega]
  rw[hlow];dsimp only;rw[hcn,hcr,show(qm f+((Am n-fP f:Nat):Int)-(1-(fX f:Int)-(fP f:Int)+1)).toNat=Am n-fP f by omega];generalize Am n-fP f=j at *
  generalize Ey m neg n j=u at *
  generalize n/2^j=Q at *
  by_cases ht:AA n (qm f)>fX f
  ·have hj2:2*fX f+1<=j+1:=by omega
   have:=bc (2^(fP f-1)) hj2;rw[cm j,fw]at this;rw[if_pos ht,if_pos (show Ct f<=j*2^(fP f-1)+u by omega)];rfl
  ·rw[if_neg ht];rcases ax u (2^fP f)with hu|hu
   ·have hbu:=DY hu;have hj2:j+2<=2*fX f+1:=by omega
    have:=bc (2^(fP f-1)) hj2;rw[cm]at this;rw[if_neg (show ¬qm f+(j:Int)+(Am u:Int)-1>fX f by omega),if_neg (show ¬Ct f<=j*2^(fP f-1)+u by omega),if_neg htiny]
   ·have hbu:=T3 hu;have hbu2:=DY (n:=u) (k:=fP f+1) (by rw[dl];omega);by_cases hj2:j+3<=2*fX f+1
    ·have:=bc (2^(fP f-1)) hj2;rw[cm]at this;rw[if_neg (show ¬qm f+(j:Int)+(Am u:Int)-1>fX f by omega),if_neg (show ¬Ct f<=j*2^(fP f-1)+u by omega),if_neg htiny]
    ·have hj3:2*fX f+1<=j+2:=by omega
     have:=bc (2^(fP f-1)) hj3;rw[cm j]at this;rw[if_pos (show qm f+(j:Int)+(Am u:Int)-1>fX f by omega),if_pos (show Ct f<=j*2^(fP f-1)+u by omega)];rfl
end VL
namespace VL
open Go Vx
def fO(f m:Int)(a b:Nat):Nat×Nat:=bif Bn f a||Bn f b then(Cz f,1)else bif nan f a||nan f b then(Cz f,0)else bif(AB f a&&AB f b)&&!(sF f a==sF f b)then(Cz f,1)else bif AB f a then(a,0)else bif AB f b then(b,0)else DN f m (sF f a) (Ao f a) (Ar f a) (sF f b) (Ao f b) (Ar f b)
theorem aWS(f m:Int)(a b:Nat):fQ f m a b=(((fO f m a b).1:Int),((fO f m a b).2:Int),0,()):=by
 unfold fQ fO;cases Bn f a||Bn f b<;>cases nan f a||nan f b<;>cases(AB f a&&AB f b)&&!(sF f a==sF f b)<;>cases AB f a<;>cases AB f b<;>rfl
theorem bG5{f m:Int}(hf:Fm f)(hm:0<=m/\m<=5)(nx:Bool)(X:Nat)(ex:Int)(ny:Bool)(Y:Nat)(ey:Int):
  ∃s x g,DN f m nx X ex ny Y ey=(DK f s x,g)/\x<=Ct f:=by
 obtain⟨s,_,x,g,h,_,h2,_⟩:=bG2 hf hm nx X ex ny Y ey;exact⟨s,x,g,h,h2⟩
theorem aNr{f:Int}{a:Nat}(h:AB f a=true):nan f a=false:=by
 unfold AB at h;unfold nan;simp only[ag,beq_iff_eq]at h;simp[h.2]
theorem aWR{f m:Int}(hf:Fm f)(hm:0<=m/\m<=5){a b:Nat}(ha:Ak f a=0)(hb:Ak f b=0):Ak f (fO f m a b).1=0:=by
 have hn:=(i0 hf).2;unfold fO;cases Bn f a||Bn f b
 ·cases nan f a||nan f b
  ·cases(AB f a&&AB f b)&&!(sF f a==sF f b)
   ·cases AB f a
    ·cases AB f b
     ·obtain⟨s,x,g,h,hx⟩:=bG5 hf hm (sF f a) (Ao f a) (Ar f a) (sF f b) (Ao f b) (Ar f b);simp only[cond_false];rw[h];exact aC6 hf _ (bl hx (aNk hf))
     ·exact hb
    ·exact ha
   ·exact hn
  ·exact hn
 ·exact hn
end VL
namespace VL
open Go Vx
def vI(f:Int)(neg:Bool)(X:Nat)(e:Int):Int:=bif neg then -((X*2^(e-qm f).toNat:Nat):Int)else((X*2^(e-qm f).toNat:Nat):Int)
theorem bFD{f:Int}(hf:Fm f)(m:Int)(neg:Bool){N:Nat}(hN:N≠0){e:Int}(he:qm f<=e):
  Bj f m neg N e false=(DK f neg (Fo f m neg (N*2^(e-qm f).toNat) (qm f)).1,(Fo f m neg (N*2^(e-qm f).toNat) (qm f)).2):=by
 have h:=YT (f:=f) (m:=m) (neg:=neg) hf hN (e-qm f).toNat (qm f);rw[show qm f+((e-qm f).toNat:Int)=e by omega]at h;rw[←h,YS hf]
end VL
namespace VL
open Go Vx
def sl(V:Nat->Int)(i:Nat):List Int:=[if 0<i then V 0 else 0,if 1<i then V 1 else 0,if 2<i then V 2 else 0,if 3<i then V 3 else 0,if 4<i then V 4 else 0,if 5<i then V 5 else 0]
end VL
namespace VL
open Go Vx
def vA(f:Int)(a:Nat):Int:=vI f (sF f a) (Ao f a) (Ar f a)
end VL
namespace VL
open Go Vx
def tz(n:Nat):Nat:=if n=0 then 0 else if n%2=1 then 0 else tz (n/2)+1
termination_by n
decreasing_by omega
theorem aRB:∀(t k:Nat),tz (2^t*(2*k+1))=t
 |0,k=>by
  rw[tz,iu,fw,if_neg (by omega),if_pos (by omega)]
 |t+1,k=>by
  have e:2^(t+1)*(2*k+1)=2*(2^t*(2*k+1)):=by rw[dl,be (2^t) 2,bh]
  have hp:0<2^t*(2*k+1):=gz (aj t) (by omega)
  have ih:=aRB t k
  rw[e]
  generalize 2^t*(2*k+1)=n at *
  rw[tz,if_neg (by omega),if_neg (by omega),show 2*n/2=n by omega,ih]
theorem xZ{n:Nat}(h:n≠0):∃k,n=2^tz n*(2*k+1):=by
 obtain⟨t,k,e⟩:=aRz (x:=n) (by omega);refine⟨k,?_⟩;have:=aRB t k;rw[←e]at this;rw[this];exact e
abbrev Dya:=Ab (.pair (.bool) (.pair (.slice (.int .u64)) (.pair (.int .i64) (.unit))))
def dy(s:Bool)(n:Nat)(e:Int):Dya:=(s,Dw n,e,())
theorem aXO:dy false 0 0=(false,[],0,()):=by unfold dy;rw[E9]
end VL
namespace VL
open Go Vx
theorem aVz(a b:List Nat)(ha:∀x∈a,x<2^64)(hb:∀x∈b,x<2^64)(hla:a.length<=1000000)(hab:a.length=b.length):
  oC ((Wd a,(Wd b,((a.length:Int)-1,()))),())=some (if nv (2^64) a=nv (2^64) b then .inl ((),())else .inr (((if nv (2^64) a<nv (2^64) b then(-1:Int)else 1),()),())):=by
 have key:=CD (aNM Aj.pre Aj.F) (fun x=>(x.1.2.2.1+1).toNat)
  (fun x=>∃j:Nat,j<=a.length/\nv (2^64) (a.drop j)=nv (2^64) (b.drop j)/\x=((Wd a,(Wd b,((j:Int)-1,()))),()))
  (fun _=>if nv (2^64) a=nv (2^64) b then .inl ((),())else .inr (((if nv (2^64) a<nv (2^64) b then(-1:Int)else 1),()),())) ?_ ((Wd a,(Wd b,((a.length:Int)-1,()))),())
  ⟨a.length,bu _,by rw[gy,hab,gy],rfl⟩
 ·exact key
 intro L x hx hL;obtain⟨j,hj,hd,rfl⟩:=hx;unfold X2;rcases j with _|i
 ·have e1:decide ((((0:Nat):Int)-1)>=0)=false:=rfl;rw[jp,jp]at hd;simp only[e1,cond_false,if_pos hd]
 ·have e0:(((i+1:Nat):Int)-1)=(i:Int):=by omega
  have e2:aa .i64 ((i:Int)-1)=(i:Int)-1:=At (by omega);have e3:decide ((i:Int)>=0)=true:=decide_eq_true (by omega);simp(disch:=omega) only[e0,e2,e3,A5,AT,A6,AQ,AH,A7,AS,AR,A2,A1,AZ,AY,AW,AV,A4,A3,AX,AP,AE,AM,AF,AI,AO,ab,ap,cond_true,cond_false,av,az,bg,ao,ay,au,ar,bb,aw,ba,bd,bi,Ay,BH];rcases fh (a.getD i 0) (b.getD i 0)with h|h|h
  ·have hr:=Lx (by decide) ha (by omega) (by omega) hd h;simp(disch:=omega) only[A5,AT,A6,AQ,AH,A7,AS,AR,A2,A1,AZ,AY,AW,AV,A4,A3,AX,AP,AE,AM,AF,AI,AO,ab,ap,cond_true,cond_false,av,az,bg,ao,ay,au,ar,bb,aw,ba,bd,bi];rw[if_neg (by omega),if_pos hr]
  ·simp(disch:=omega) only[A5,AT,A6,AQ,AH,A7,AS,AR,A2,A1,AZ,AY,AW,AV,A4,A3,AX,AP,AE,AM,AF,AI,AO,ab,ap,cond_true,cond_false,av,az,bg,ao,ay,au,ar,bb,aw,ba,bd,bi];refine hL _ ⟨i,by omega,?_,rfl⟩ (by simp only[ab];omega);rw[Lk _ a i (by omega),Lk _ b i (by omega),hd,h]
  ·have hr:=Lx (by decide) hb (by omega) (by omega) hd.symm h;simp(disch:=omega) only[A5,AT,A6,AQ,AH,A7,AS,AR,A2,A1,AZ,AY,AW,AV,A4,A3,AX,AP,AE,AM,AF,AI,AO,ab,ap,cond_true,cond_false,av,az,bg,ao,ay,au,ar,bb,aw,ba,bd,bi];rw[if_neg (by omega),if_neg (by omega)]
theorem WL{x:Nat}(hx:x<(2^64)^5000):UU (Dw x,())=some (Dw x,()):=by
 have:=Ex (dg (2^64) x) (DP hx).2;rw[OD (by decide)]at this;exact this
theorem zW{x y:Nat}(hx:x<(2^64)^5000)(hy:y<(2^64)^5000):aT (Dw x,Dw y,())=some (if x=y then 0 else if x<y then -1 else 1,()):=by
 show uP Aj.pre Aj.F oC (Dw x) (Dw y)=_;unfold uP;have p0:=WL hx;have p1:=WL hy;have hX:=DP hx;have hY:=DP hy;have hlx:=hX.2;simp only[Dj p0,De p0,Dj p1,De p1,cond_true];clear p0 p1;rcases fh (dg (2^64) x).length (dg (2^64) y).length with h|h|h
 ·have hr:=gG (by decide) h;unfold Dw;simp(disch:=omega) only[A5,AT,A6,AQ,AH,A7,AS,AR,A2,A1,AZ,AY,AW,AV,A4,A3,AX,AP,AE,AM,AF,AI,AO,ab,ap,cond_true,cond_false,av,az,bg,ao,ay,au,ar,bb,aw,ba,bd,bi,Ay];rw[if_neg (by omega),if_pos hr]
 ·have hw:=aVz _ _ hX.1 hY.1 hlx h;rw[CS,CS]at hw;have e2:aa .i64 (((dg (2^64) x).length:Int)-1)=((dg (2^64) x).length:Int)-1:=At (by omega);unfold Dw;simp(disch:=omega) only[A5,AT,A6,AQ,AH,A7,AS,AR,A2,A1,AZ,AY,AW,AV,A4,A3,AX,AP,AE,AM,AF,AI,AO,ab,ap,cond_true,cond_false,av,az,bg,ao,ay,au,ar,bb,aw,ba,bd,bi,Ay,e2,hw];by_cases he:x=y
  ·rw[if_pos he,if_pos he];first|rfl|skip
  ·rw[if_neg he,if_neg he];first|rfl|skip
 ·have hr:=gG (by decide) h;unfold Dw;simp(disch:=omega) only[A5,AT,A6,AQ,AH,A7,AS,AR,A2,A1,AZ,AY,AW,AV,A4,A3,AX,AP,AE,AM,AF,AI,AO,ab,ap,cond_true,cond_false,av,az,bg,ao,ay,au,ar,bb,aw,ba,bd,bi,Ay];rw[if_neg (by omega),if_neg (by omega)]
theorem jQ{out a:List Nat}{i v:Nat}(hol:out.length=i)(h:i<a.length):(out++a.drop i).set i v=(out++[v])++a.drop (i+1):=by
 rw[ga _ _ (by omega),hol,gr,dz h,jn,fe];rfl
theorem aZc{out a:List Nat}{i:Nat}(hol:out.length=i):(out++a.drop i).getD i 0=a.getD i 0:=by
 rw[ak,cg (by omega),hol,gr,dt,cz,←ak]
theorem aVr(a b:List Nat)(ha:∀x∈a,x<2^64)(hb:∀x∈b,x<2^64)(hla:a.length<=1000000)(hba:b.length<=a.length)(hv:nv (2^64) b<=nv (2^64) a):
  dZ (((a.length:Int),(Wd b,((0:Int),((0:Int),((),()))))),(Wd a,()))=some (.inl (((),()),(Wd (pd (2^64) a.length (nv (2^64) a-nv (2^64) b)),()))):=by
 have key:=CD (aNE Cc.pre Cc.F By.pre By.F Aj.pre Aj.F) (fun x=>a.length-x.1.2.2.2.1.toNat)
  (fun x=>∃(i:Nat) (out:List Nat) (c:Nat),i<=a.length/\out.length=i/\(∀x∈out,x<2^64)/\c<=1/\nv (2^64) (a.take i)+(2^64)^i*c=nv (2^64) (b.take i)+nv (2^64) out /\
   x=(((a.length:Int),(Wd b,((c:Int),((i:Int),((),()))))),(Wd (out++a.drop i),())))
  (fun _=>.inl (((),()),(Wd (pd (2^64) a.length (nv (2^64) a-nv (2^64) b)),()))) ?_ (((a.length:Int),(Wd b,((0:Int),((0:Int),((),()))))),(Wd a,()))
  ⟨0,[],0,dq _,rfl,(fun x hx=>by simp at hx),by decide,by simp[nv],rfl⟩
 ·exact key
 intro L x hx hL;obtain⟨i,out,c,hi,hol,hod,hc,hov,rfl⟩:=hx;unfold XU;rcases ax i a.length with hlt|hge
 ·have hxa:=BZ (by decide) ha i;have hxb:=BZ (by decide) hb i;have hna:=C0 (2^64) a i;have hnb:=C0 (2^64) b i;have hzb:b.length<=i->b.getD i 0=0:=fun h=>by rw[ak,df h];rfl
  have hset:=fun v=>jQ (v:=v) hol hlt;have hlen:(out++a.drop i).length=a.length:=by simp;omega
  have hget:=aZc (a:=a) hol;generalize hda:a.getD i 0=da at *
  generalize hdb:b.getD i 0=db at *
  have hgo:∀c' v:Nat,c'<=1->v<2^64->da+2^64*c'=db+c+v->L (((a.length:Int),(Wd b,((c':Int),(((i+1:Nat):Int),((),()))))),(Wd (out++[v]++a.drop (i+1)),()))=_:=fun c' v h1 h2 h3=>
   hL _ ⟨i+1,out++[v],c',by omega,by simp;omega,IP hod h2,h1,by
    rw[hna,hnb,Ll,hol,dl];exact aOi hov h3,rfl⟩ (by simp only[ab];omega)
  have hgo2:=hgo (if da<db+c then 1 else 0) ((da+2^64-db-c)%2^64) (by split<;>omega) (ca _ (by decide)) (by split<;>omega);have hF:=jW da db c hc hxa hxb;have hP:=jX (da:Int) (db:Int) c hc;rcases ax i b.length with hib|hib
  ·simp(disch:=omega) only[A5,AT,A6,AQ,AH,A7,AS,AR,A2,A1,AZ,AY,AW,AV,A4,A3,AX,AP,AE,AM,AF,AI,AO,ab,ap,cond_true,cond_false,av,az,bg,ao,ay,au,ar,bb,aw,ba,bd,bi,Ay,BH,hdb,hget,hF,hP,hlen,Dd,hset];exact hgo2
  ·have h0:=hzb hib;rw[h0]at hF hP;simp(disch:=omega) only[A5,AT,A6,AQ,AH,A7,AS,AR,A2,A1,AZ,AY,AW,AV,A4,A3,AX,AP,AE,AM,AF,AI,AO,ab,ap,cond_true,cond_false,av,az,bg,ao,ay,au,ar,bb,aw,ba,bd,bi,Ay,BH,hget];have hF':By.F ((da:Int),((0:Int),((c:Int),())))=_:=hF;have hP':By.pre ((da:Int),((0:Int),((c:Int),())))=true:=hP;rw[h0]at hgo2;simp(disch:=omega) only[A5,AT,A6,AQ,AH,A7,AS,AR,A2,A1,AZ,AY,AW,AV,A4,A3,AX,AP,AE,AM,AF,AI,AO,ab,ap,cond_true,cond_false,av,az,bg,ao,ay,au,ar,bb,aw,ba,bd,bi,hF',hP',hlen,Dd,hset];exact hgo2
 ·have e:i=a.length:=by omega
  subst e;rw[dp,ck hba]at hov;have hlt:=CP (B:=2^64) (by decide) out hod;rw[hol]at hlt;have hc0:(2^64)^a.length*c=0:=by
   rcases(show c=0∨c=1 by omega)with h|h
   ·rw[h,fd]
   ·rw[h,gq]at hov;omega
  have ho:=Uq (B:=2^64) (v:=nv (2^64) a-nv (2^64) b) (by decide) hod hol (by omega);rw[gy,dk];simp(disch:=omega) only[A5,AT,A6,AQ,AH,A7,AS,AR,A2,A1,AZ,AY,AW,AV,A4,A3,AX,AP,AE,AM,AF,AI,AO,ab,ap,cond_true,cond_false,av,az,bg,ao,ay,au,ar,bb,aw,ba,bd,bi,Ay];rw[←ho]
theorem aFQ(l:List Nat)(hl:Ws l):UP (Wd l,())=some (Dw (nv (2^64) l),()):=by
 show t6 Aj.pre Aj.F (Wd l)=_;unfold t6;have p0:=Ex l hl.2;have hle:=(Dx l).1;have h2:=hl.2;have e3:decide ((((Al l).length:Nat):Int)*8<=140737488355328)=true:=decide_eq_true (by omega);simp(disch:=omega) only[A5,AT,A6,AQ,AH,A7,AS,AR,A2,A1,AZ,AY,AW,AV,A4,A3,AX,AP,AE,AM,AF,AI,AO,ab,ap,cond_true,cond_false,av,az,bg,ao,ay,au,ar,bb,aw,ba,bd,bi,Dj p0,De p0,Ay,e3,List.length_replicate,List.drop_replicate,gr];rw[ck (by rw[Ay];exact bu _),il,dk,FW (by decide) l hl.1];rfl
theorem aUA{x y:Nat}(hx:x<(2^64)^5000)(h:y<=x):aU (Dw x,Dw y,())=some (Dw (x-y),0,()):=by
 show uQ SY.pre SY.F Dl.pre Dl.F B1.pre B1.F CJ.pre CJ.F Aj.pre Aj.F Wz.pre Wz.F (Dw x) (Dw y)=_;unfold uQ;have hy:y<(2^64)^5000:=bl h hx;have p0:=zW hx hy;have p1:=aFQ (dg (2^64) x) (DP hx);rw[CS]at p1;have p1:UP (Dw x,())=some (Dw x,()):=p1;have p2:=WL hy;have z1:decide ((if x=y then(0:Int)else if x<y then -1 else 1)<0)=false:=by
  by_cases he:x=y
  ·rw[if_pos he];rfl
  ·rw[if_neg he,if_neg (by omega)];rfl
 have hX:=DP hx;have hY:=DP hy;have hlx:=hX.2;have p3:aI (Dw x,Dw y,())=some (Dw (x-y),()):=by
  show t9 Cc.pre Cc.F By.pre By.F Aj.pre Aj.F dZ (Dw x) (Dw y)=_;unfold t9;have hw:=aVr (dg (2^64) x) (dg (2^64) y) hX.1 hY.1 hlx (aCc (by decide) h) (by rw[CS,CS];exact h);rw[CS,CS]at hw;have q1:=aFT (pd (2^64) (dg (2^64) x).length (x-y)) (by rw[Da];exact hlx);have hlt:=gF (B:=2^64) (by decide) x;rw[FW (by decide) _ (Hp (by decide) _ _),Hq (by decide) _ _ (by omega)]at q1;rw[show(Dw x).length=(dg (2^64) x).length from Ay _];rw[show dZ ((((dg (2^64) x).length:Int),(Dw y,((0:Int),((0:Int),((),()))))),(Dw x,()))=_ from hw];show(bif Cc.pre (Wd (pd (2^64) (dg (2^64) x).length (x-y)),())then some (Cc.F (Wd (pd (2^64) (dg (2^64) x).length (x-y)),()))else none)=_;simp only[aON q1,aMI q1,cond_true];rfl
 simp only[aDr p0,aCy p0,cond_true,z1,cond_false,aDp p1,aCw p1,Dj p2,De p2,bAW p3,aYm p3]
def od(s:Bool)(n:Nat)(e:Int):Bool×Nat×Int:=if n=0 then(false,0,0)else(s,n/2^tz n,e+tz n)
def XD(t:Bool×Nat×Int):Dya:=dy t.1 t.2.1 t.2.2
theorem VS(s:Bool)(n:Nat)(e:Int):(od s n e=(false,0,0)/\n=0)∨((od s n e).1=s/\(od s n e).2.1%2=1/\n≠0/\n=2^tz n*(od s n e).2.1/\(od s n e).2.2=e+tz n):=by
 unfold od;by_cases h:n=0
 ·rw[if_pos h];exact .inl ⟨rfl,h⟩
 ·right;rw[if_neg h];obtain⟨k,hk⟩:=xZ h;have hd:n/2^tz n=2*k+1:=by
   have:=ib (2*k+1) (aj (tz n));rw[←hk]at this;exact this
  dsimp only;rw[hd];exact⟨rfl,by omega,h,hk,rfl⟩
theorem aEa{n k:Nat}(h:n<2^k)(h0:n≠0):tz n<k:=by
 obtain⟨j,hj⟩:=xZ h0;have h1:2^tz n*1<=2^tz n*(2*j+1):=cp _ (by omega);exact(cu (a:=2) (by decide)).1 (by omega)
theorem aW8{n k:Nat}(h:n<2^k)(hk:k<=64*2000):n<(2^64)^2000:=by
 rw[Du];exact al h (ai (by decide) hk)
theorem zV{x y:Nat}(hx:x<(2^64)^5000)(hy:y<(2^64)^5000):UR (Dw x,Dw y,())=some (Dw (x+y),()):=by
 have h1:(dg (2^64) x).length<=5000:=D0 (by decide) _ _ hx;have h2:(dg (2^64) y).length<=5000:=D0 (by decide) _ _ hy;have:=aF0 (dg (2^64) x) (dg (2^64) y) (DP hx) (DP hy) (by rw[OD (by decide)];omega) (by rw[OD (by decide)];omega);rw[CS,CS]at this;exact this
end VL
namespace VL
open Go Vx
theorem lL{x:Nat}(h0:x≠0)(h:x<2^64):Dw x=(x:Int)::[]:=by
 unfold Dw;rw[Ep (by decide) (by omega),bt h,ci h,Dt];rfl
theorem aGN{f:Int}{a:Nat}(h:Ak f a=0)(hfin:eF f a≠BO f):cG (f,(a:Int),())=some (XD (od (sF f a) (Ao f a) (Ar f a)),0,()):=by
 obtain⟨hf,h0⟩:=Gv h;have ha:=VU h;show wD Au.pre Au.F DD.pre DD.F BY.pre BY.F Co.pre Co.F f a=_;unfold wD;have h1:=DH hf;have h2:=Et hf;have h3:=Ez hf;have h4:=Lc hf;have h5:=Fk hf;have h6:=OH hf;have hE:=gK hf a;have hM:=Yv f a;have hPp:2^(fP f-1)<=2^52:=ai (by decide) (by omega);have hpp:=aj (fP f-1);have p0:=KN f a ha;have p1:=n4 (fW f-fP f) (by omega);have p2:=aAj hf a ha;have hr1:decide (0<=f)=true:=decide_eq_true hf.1;have hr2:decide (f<((4:Nat):Int))=true:=decide_eq_true hf.2;have r1:(Ck f).1=(fW f:Int):=rfl;have r2:(Ck f).2.1=(fP f:Int):=rfl;have r3:(Ck f).2.2.1=1-(fX f:Int):=rfl;have e1:aa .i64 ((fW f:Int)-(fP f:Int))=((fW f-fP f:Nat):Int):=AQ _ _ (by omega);have e2:aa .i64 ((fP f:Int)-1)=((fP f-1:Nat):Int):=AH _ (by omega);have e3:Be .u64 1 ((fP f-1:Nat):Int)=((2^(fP f-1):Nat):Int):=O4 (by omega);have e4:Ai .u64 (mF f a:Int) ((2^(fP f-1):Nat):Int)=((mF f a+2^(fP f-1):Nat):Int):=by
  have:=OY (a:=mF f a) (b:=1) (k:=fP f-1) hM (by omega);rwa [fw]at this
 have hfl:(((eF f a:Nat):Int)==((2^(fW f-fP f)-1:Nat):Int))=false:=by
  rw[Lj];exact beq_eq_false_iff_ne.2 hfin
 have ew:∀z:Int,-1000000<=z/\z<=1000000->aa .i64 z=z:=fun z hz=>At (by omega);simp only[aDO hf,r1,r2,r3,hr1,hr2,Jb p0,I2 p0,aDz p2,aCG p2,h,cond_true,bne_self_eq_false,cond_false,e1,e2,e3,e4,tC p1,sB p1,hfl,AE];by_cases hz:eF f a=0
 ·have hg:(((eF f a:Nat):Int)==0)=true:=AM _ hz;have hm:Ao f a=mF f a:=by unfold Ao;rw[if_pos hz]
  have hx:Ar f a=1-(fX f:Int)-(fP f:Int)+1:=by unfold Ar;rw[if_pos hz,ln]
  rw[hg,cond_true,hm,hx];by_cases hm0:mF f a=0
  ·rw[AM _ hm0,cond_true];unfold od XD;rw[if_pos hm0,aXO]
  ·obtain⟨k,hk⟩:=xZ hm0;have htl:=aEa (n:=mF f a) (k:=53) (by omega) hm0;have p3:=aAk (t:=tz (mF f a)) (k:=k) (by omega);rw[←hk]at p3;have hq:mF f a/2^tz (mF f a)≠0:=by
    have:=ib (2*k+1) (aj (tz (mF f a)));rw[←hk]at this;omega
   have hql:=dw (mF f a) (2^tz (mF f a));rw[AF _ hm0,cond_false];simp only[aDA p3,aCH p3,cond_true,AE,Dv (mF f a) (tz (mF f a)) (by omega)];rw[←lL hq (by omega)];unfold od XD dy;rw[if_neg hm0];rw[ew 1 (by omega),ew (1-1) (by omega),ew (1-1+_) (by omega),ew (1-1+_-_) (by omega),ew (1-1+_-_+1) (by omega),ew _ (by omega)];rw[show(1:Int)-1+(1-(fX f:Int))-(fP f:Int)+1+(tz (mF f a):Int)=1-(fX f:Int)-(fP f:Int)+1+(tz (mF f a):Int) by omega]
 ·have hg:(((eF f a:Nat):Int)==0)=false:=AF _ hz;have hm:Ao f a=mF f a+2^(fP f-1):=by unfold Ao;rw[if_neg hz]
  have hx:Ar f a=1-(fX f:Int)-(fP f:Int)+1+((eF f a:Int)-1):=by unfold Ar;rw[if_neg hz]
  rw[hg,cond_false,hm,hx];have hm0:mF f a+2^(fP f-1)≠0:=by omega
  have hml:mF f a+2^(fP f-1)<2^54:=by omega
  generalize mF f a+2^(fP f-1)=n at *
  obtain⟨k,hk⟩:=xZ hm0;have htl:=aEa hml hm0;have p3:=aAk (t:=tz n) (k:=k) (by rw[←hk];omega);rw[←hk]at p3;have hq:n/2^tz n≠0:=by
   have:=ib (2*k+1) (aj (tz n));rw[←hk]at this;omega
  have hql:=dw n (2^tz n);rw[AF _ hm0,cond_false];simp only[aDA p3,aCH p3,cond_true,AE,Dv n (tz n) (by omega)];rw[←lL hq (by omega)];unfold od XD dy;rw[if_neg hm0];rw[ew (eF f a:Int) (by omega),ew ((eF f a:Int)-1) (by omega),ew ((eF f a:Int)-1+_) (by omega),ew ((eF f a:Int)-1+_-_) (by omega),ew ((eF f a:Int)-1+_-_+1) (by omega),ew _ (by omega)];rw[show(eF f a:Int)-1+(1-(fX f:Int))-(fP f:Int)+1+(tz n:Int)=1-(fX f:Int)-(fP f:Int)+1+((eF f a:Int)-1)+(tz n:Int) by omega]
theorem aOt(s:Bool){n:Nat}(e:Int)(hn:n<2^53)(he:-2000<=e/\e<=2000):(od s n e).2.1<2^53/\-2500<=(od s n e).2.2/\(od s n e).2.2<=2500:=by
 rcases VS s n e with⟨h,_⟩|⟨_,h2,h3,h4,h5⟩
 ·rw[h];exact⟨aj _,by dsimp only;omega,by dsimp only;omega⟩
 ·have hle:(od s n e).2.1<=n:=by
   have:=ik (od s n e).2.1 (aj (tz n));omega
  have:=aEa hn h3;refine⟨by omega,by omega,by omega⟩
end VL
namespace VL
open Go Vx
theorem aPj{f:Int}(hf:Fm f):qm f<=0:=by
 have:=OH hf;have:=DH hf;unfold qm;omega
end VL
namespace VL
open Go Vx
def Bd(f:Int)(n:Nat)(e:Int):Prop:=qm f<=e/\e<=6000/\n*2^(e-qm f).toNat<2^5000
theorem Bd.lt{f:Int}{n:Nat}{e:Int}(h:Bd f n e):n<2^5000:=by
 have:=gf n (aj (e-qm f).toNat);exact bl this h.2.2
theorem Bd.od{f:Int}(hf:Fm f){n:Nat}{e:Int}(s:Bool)(h:Bd f n e):Bd f (VL.od s n e).2.1 (VL.od s n e).2.2:=by
 rcases VS s n e with⟨hz,_⟩|⟨_,h2,h3,h4,h5⟩
 ·rw[hz];exact⟨aPj hf,by dsimp only;omega,by dsimp only;rw[ff];exact aj _⟩
 ·have hle:2^(tz n+(e-qm f).toNat)<=n*2^(e-qm f).toNat:=by
   rw[bj];refine bc _ ?_;have:=gf (2^tz n) (show 0<(VL.od s n e).2.1 by omega);omega
  have hlt:=(cu (a:=2) (by decide)).1 (bl hle h.2.2);have hq:=aPj hf;have h1:=h.1;refine⟨by omega,by omega,?_⟩;have e1:(VL.od s n e).2.1*2^((VL.od s n e).2.2-qm f).toNat=n*2^(e-qm f).toNat:=by
   rw[h5,show(e+(tz n:Int)-qm f).toNat=tz n+(e-qm f).toNat by omega,bj,←bh,be _ (2^tz n),←h4]
  rw[e1];exact h.2.2
end VL
namespace VL
open Go Vx
theorem aZQ{f:Int}(hf:Fm f)(a:Nat):Ao f a<2^fP f:=by
 have h1:=Yv f a;have h2:=aRy hf;have hpp:=aj (fP f-1);unfold Ao;split<;>omega
end VL
namespace VL
open Go Vx
structure Hid (p:Prop):Prop where
 out:p
end VL
namespace VL
open Go Vx
theorem jR{l:List Nat}{j v:Nat}(hj:j<l.length)(h:l.getD j 0=v):l.set j v=l:=by
 rw[ak,bo hj,Option.getD_some]at h;subst h;exact List.set_getElem_self hj
end VL
namespace VL
open Go Vx
theorem IS{n k:Nat}(h:n<2^k)(hk:k<=64*5000):n<(2^64)^5000:=by
 rw[Du];exact al h (ai (by decide) hk)
theorem aRN(n:Nat):((((Dw n).length:Nat):Int)==0)=decide (n=0):=by
 by_cases h:n=0
 ·subst h;rw[E9];rfl
 ·rw[decide_eq_false h];exact AF _ (by have:=lK h;omega)
end VL
namespace VL
open Go Vx
def aLO(far n:Int):Int:=if(if far<n then far else n)>-far then(if far<n then far else n)else -far
def bGC(f m:Int)(a:Nat)(n:Int):DenS Mt:=if ¬Fm f then(0,0,2,())else if m<0∨m>5 then(0,0,3,())else if Ak f a≠0 then(0,0,Ak f a,())else bif nan f a then((Cz f:Int),(bif Bn f a then 1 else 0),0,())else if eF f a=BO f∨Ou f a=0 then((a:Int),0,0,())else(((Bj f m (sF f a) (Ao f a) (Ar f a+aLO 5000 n) false).1:Int),((Bj f m (sF f a) (Ao f a) (Ar f a+aLO 5000 n) false).2:Int),0,())
end VL
namespace VL
open Go Vx
theorem fM{x:Nat}(h:x<2^64):BN .u64 (x:Int) 4294967295=((x%2^32:Nat):Int):=TX (n:=32) h (by decide)
theorem V5(x:Nat):AL .u64 (x:Int) 32=((x/2^32:Nat):Int):=by
 have h:=aPM (a:=(x:Int)) 32 (by decide);rw[show((32:Nat):Int)=32 from rfl]at h;rw[h];norm_cast
theorem aZV{x0 x1 y0 y1:Nat}(h0:x0<2^32)(h1:x1<2^32)(k0:y0<2^32)(k1:y1<2^32):
  ((x1*y1%2^64+(x1*y0%2^64+x0*y0%2^64/2^32)%2^64/2^32)%2^64+((x1*y0%2^64+x0*y0%2^64/2^32)%2^64%2^32+x0*y1%2^64)%2^64/2^32)%2^64=(x0+2^32*x1)*(y0+2^32*y1)/2^64:=by
 have b00:x0*y0<=(2^32-1)*(2^32-1):=gw (by omega) (by omega);have b01:x0*y1<=(2^32-1)*(2^32-1):=gw (by omega) (by omega);have b10:x1*y0<=(2^32-1)*(2^32-1):=gw (by omega) (by omega);have b11:x1*y1<=(2^32-1)*(2^32-1):=gw (by omega) (by omega);have e1:x0*(2^32*y1)=2^32*(x0*y1):=fx _ _ _;have e2:2^32*x1*y0=2^32*(x1*y0):=bh _ _ _;have e3:2^32*x1*(2^32*y1)=2^64*(x1*y1):=by
  rw[bh,fx x1,←bh]
 rw[cm,bw,bw,e1,e2,e3];generalize x0*y0=a at *
 generalize x0*y1=b at *
 generalize x1*y0=c at *
 generalize x1*y1=d at *
 have ha:a%2^64=a:=bt (by omega);have hb:b%2^64=b:=bt (by omega);have hc:c%2^64=c:=bt (by omega);have hd:d%2^64=d:=bt (by omega);rw[ha,hb,hc,hd];have ht:(c+a/2^32)%2^64=c+a/2^32:=bt (by omega);rw[ht];generalize hT:c+a/2^32=t;have hw:(t%2^32+b)%2^64=t%2^32+b:=bt (by omega);rw[hw];have hq:(d+t/2^32)%2^64=d+t/2^32:=bt (by omega);rw[hq];omega
theorem aAb{x y:Nat}(hx:x<2^64)(hy:y<2^64):bK ((x:Int),(y:Int),())=some (((x*y/2^64:Nat):Int),((x*y%2^64:Nat):Int),()):=by
 show vQ (x:Int) (y:Int)=_;unfold vQ;dsimp only;rw[fM hx,fM hy,V5 x,V5 y];have hm:∀z:Nat,z%2^64<2^64:=fun z=>ca _ (by decide);have am:∀z:Nat,BN .u64 ((z%2^64:Nat):Int) 4294967295=((z%2^64%2^32:Nat):Int):=fun z=>fM (hm z);have wm:∀a b:Nat,aa .u64 ((a:Int)*(b:Int))=((a*b%2^64:Nat):Int):=fun a b=>by rw[←le];exact x7 _
 have wa:∀a b:Nat,aa .u64 ((a:Int)+(b:Int))=(((a+b)%2^64:Nat):Int):=fun a b=>by rw[←ni];exact x7 _
 simp only[wm,wa,V5,am];have e:=aZV (x0:=x%2^32) (x1:=x/2^32) (y0:=y%2^32) (y1:=y/2^32) (by omega) (by omega) (by omega) (by omega);rw[iq,iq]at e;rw[e]
theorem aUR{x y:Nat}(hx:x<2^64)(hy:y<2^64):bL ((x:Int),(y:Int),())=some (Wi (x*y),()):=by
 show vR Bi.pre Bi.F (x:Int) (y:Int)=_;unfold vR;have p:=aAb hx hy;simp only[aDw p,aCD p,cond_true];rfl
def Bk(f:Int)(a:Nat):Bool:=eF f a==0&&mF f a==0
theorem aLQ{f:Int}(hf:Fm f)(a:Nat):(Ch f a==5||Ch f a==6)=Bk f a:=by
 have hp:=aCu hf;have hne:(eF f a==BO f&&eF f a==0)=false:=by
  cases h:eF f a==BO f
  ·rfl
  ·have:=beq_iff_eq.1 h;rw[az,this];exact beq_eq_false_iff_ne.2 (by omega)
 unfold Ch Bk;cases h1:eF f a==BO f<;>cases h2:eF f a==0<;>rw[h1,h2]at hne<;>cases mF f a==0<;>cases sF f a<;>cases mF f a/2^(fP f-2)!=0<;>first|rfl|cases hne
theorem bHt{f:Int}(hf:Fm f){a:Nat}(h:eF f a=0):
  aa .i64 (aa .i64 (aa .i64 (aa .i64 (aa .i64 (1:Int)-1)+(1-(fX f:Int)))-(fP f:Int))+1)=Ar f a:=by
 have h3:=Fk hf;have h4:=Lc hf;unfold Ar;rw[if_pos h,show aa .i64 (1:Int)=1 from rfl,At (n:=(1:Int)-1) (by omega),At (n:=(1:Int)-1+(1-(fX f:Int))) (by omega),At (n:=(1:Int)-1+(1-(fX f:Int))-(fP f:Int)) (by omega),At (by omega)];omega
theorem bHs{f:Int}(hf:Fm f){a:Nat}(h:eF f a≠0):
  aa .i64 (aa .i64 (aa .i64 (aa .i64 (aa .i64 (eF f a:Int)-1)+(1-(fX f:Int)))-(fP f:Int))+1)=Ar f a:=by
 have h3:=Fk hf;have h4:=Lc hf;have hE:=gK hf a;unfold Ar;rw[if_neg h,At (n:=(eF f a:Int)) (by omega),At (n:=(eF f a:Int)-1) (by omega),At (n:=(eF f a:Int)-1+(1-(fX f:Int))) (by omega),At (n:=(eF f a:Int)-1+(1-(fX f:Int))-(fP f:Int)) (by omega),At (by omega)];omega
theorem aZR{f:Int}(hf:Fm f)(a:Nat):Ai .u64 (mF f a:Int) (Be .u64 1 (aa .i64 ((fP f:Int)-1)))=((mF f a+2^(fP f-1):Nat):Int):=by
 have h1:=DH hf;have h3:=Fk hf;have hM:=Yv f a;have hPp:2^(fP f-1)<=2^52:=ai (by decide) (by omega);have e0:aa .i64 ((fP f:Int)-1)=((fP f-1:Nat):Int):=AH _ (by omega);have e3:Be .u64 1 ((fP f-1:Nat):Int)=((2^(fP f-1):Nat):Int):=O4 (by omega);rw[e0,e3];have:=OY (a:=mF f a) (b:=1) (k:=fP f-1) hM (by omega);rwa [fw]at this
theorem aGq{f:Int}{a:Nat}(h:Ak f a=0):WR (f,Ck f,(a:Int),())=some ((Ch f a,sF f a,(Ao f a:Int),Ar f a,()),0,()):=by
 obtain⟨hf,h0⟩:=Gv h;have ha:=VU h;show YY Bv.pre Bv.F Cg.pre Cg.F f (Ck f) a=_;unfold YY;have p1:=nY ha h;have p2:=aAm h;have h1:=DH hf;have h3:=Fk hf;have r1:(Ck f).2.1=(fP f:Int):=rfl;have r2:(Ck f).2.2.1=1-(fX f:Int):=rfl;have e0:decide (0<=aa .i64 ((fP f:Int)-1))=true:=by
  rw[AH _ (by omega)];exact AE _
 simp only[Uu p1,Ui p1,aDC p2,aCJ p2,cond_true,bne_self_eq_false,cond_false,r1,r2,e0];by_cases hz:eF f a=0
 ·rw[AM _ hz,cond_true,bHt hf hz];have hm:Ao f a=mF f a:=by unfold Ao;rw[if_pos hz]
  rw[hm]
 ·rw[AF _ hz,cond_false,bHs hf hz,aZR hf];have hm:Ao f a=mF f a+2^(fP f-1):=by unfold Ao;rw[if_neg hz]
  rw[hm]
theorem aGp{f:Int}{a:Nat}(ha:a<2^64)(h:Ak f a≠0):WR (f,Ck f,(a:Int),())=some ((0,false,0,0,()),Ak f a,()):=by
 show YY Bv.pre Bv.F Cg.pre Cg.F f (Ck f) a=_;unfold YY;have p1:=aAe ha h;have e:(Ak f a !=0)=true:=bne_iff_ne.2 h;simp only[Uu p1,Ui p1,cond_true,e]
def iZ(f m:Int)(a b:Nat):Int×Int×Int×Unit:=bif nan f a||nan f b then((Cz f:Int),(bif Bn f a||Bn f b then 1 else 0),0,())else bif(AB f a&&Bk f b)||(Bk f a&&AB f b)then((Cz f:Int),1,0,())else bif AB f a||AB f b then((Dg f (!(sF f a==sF f b)):Int),0,0,())else bif Bk f a||Bk f b then((BK f (!(sF f a==sF f b)):Int),0,0,())else(((Bj f m (!(sF f a==sF f b)) (Ao f a*Ao f b) (Ar f a+Ar f b) false).1:Int),((Bj f m (!(sF f a==sF f b)) (Ao f a*Ao f b) (Ar f a+Ar f b) false).2:Int),0,())
def Un(f m:Int)(a b:Nat):Int×Int×Int×Unit:=if ¬Fm f then(0,0,2,())else if m<0∨m>5 then(0,0,3,())else if Ak f a≠0 then(0,0,Ak f a,())else if Ak f b≠0 then(0,0,Ak f b,())else iZ f m a b
theorem Pb{f:Int}{a:Nat}(h:Bk f a=false):Ao f a≠0:=by
 unfold Bk at h;unfold Ao;by_cases hz:eF f a=0
 ·rw[if_pos hz];intro hm;rw[hz,hm]at h;cases h
 ·rw[if_neg hz];have:=aj (fP f-1);omega
theorem aUY(f m:Int){a b:Nat}(ha:a<2^64)(hb:b<2^64):bY (f,m,(a:Int),(b:Int),())=some (Un f m a b):=by
 show v0 Aq.pre Aq.F Tc.pre Tc.F Td.pre Td.F Bs.pre Bs.F Te.pre Te.F CM.pre CM.F Tf.pre Tf.F B0.pre B0.F Ew.pre Ew.F Cd.pre Cd.F f m a b=_;unfold v0 Un;dsimp only;by_cases hf:¬Fm f
 ·have p0:=KO hf;rw[if_pos hf];simp only[CT p0,CQ p0,cond_true];rfl
 have hf:=jg.1 hf;have p0:=IF hf;rw[if_neg (show ¬¬Fm f from fun h=>h hf)];simp only[CT p0,CQ p0,cond_true,bne_self_eq_false,cond_false];by_cases hm:m<0∨m>5
 ·rw[if_pos hm];have:(decide (m<0)||decide (m>5))=true:=by rcases hm with h|h<;>simp[h]
  rw[this,cond_true]
 rw[if_neg hm];have hm':0<=m/\m<=5:=by omega
 have:(decide (m<0)||decide (m>5))=false:=by simp;omega
 rw[this,cond_false];by_cases hca:Ak f a≠0
 ·have p1:=aGp ha hca;have e:(Ak f a !=0)=true:=bne_iff_ne.2 hca;rw[if_pos hca];simp only[sY p1,r6 p1,cond_true,e]
 have hca:=jg.1 hca;have p1:=aGq hca;rw[if_neg (show ¬Ak f a≠0 from fun h=>h hca)];simp only[sY p1,r6 p1,cond_true,bne_self_eq_false,cond_false];by_cases hcb:Ak f b≠0
 ·have p2:=aGp hb hcb;have e:(Ak f b !=0)=true:=bne_iff_ne.2 hcb;rw[if_pos hcb];simp only[sY p2,r6 p2,cond_true,e]
 have hcb:=jg.1 hcb;have p2:=aGq hcb;rw[if_neg (show ¬Ak f b≠0 from fun h=>h hcb)];have n351:∀(c:Int) (s:Bool) (n e:Int),bU ((c,s,n,e,()),())=some ((c==1||c==0),()):=fun _ _ _ _=>rfl;have n352:∀(c:Int) (s:Bool) (n e:Int),bV ((c,s,n,e,()),())=some ((c==2||c==9),()):=fun _ _ _ _=>rfl;have n353:∀(c:Int) (s:Bool) (n e:Int),bW ((c,s,n,e,()),())=some ((c==5||c==6),()):=fun _ _ _ _=>rfl;have q1:=n351 (Ch f a) (sF f a) (Ao f a:Int) (Ar f a);have q2:=n351 (Ch f b) (sF f b) (Ao f b:Int) (Ar f b);have q3:=n352 (Ch f a) (sF f a) (Ao f a:Int) (Ar f a);have q4:=n352 (Ch f b) (sF f b) (Ao f b:Int) (Ar f b);have q5:=n353 (Ch f a) (sF f a) (Ao f a:Int) (Ar f a);have q6:=n353 (Ch f b) (sF f b) (Ao f b:Int) (Ar f b);rw[rA]at q1 q2;rw[aB7]at q3 q4;rw[aLQ hf]at q5 q6;have s:=!(sF f a==sF f b);have p3:=aAf hf;have p4:=aAl hf (!(sF f a==sF f b));have p5:=aK hf (!(sF f a==sF f b));have ma:=Li hf a;have mb:=Li hf b;have xa:=Lz hf a;have xb:=Lz hf b;have hprod:Ao f a*Ao f b<2^128:=al (Nat.mul_lt_mul'' ma mb) (by decide);have p6:=aUR (x:=Ao f a) (y:=Ao f b) (fm ma (by decide)) (fm mb (by decide));have p7:=aN hf hm' (!(sF f a==sF f b)) (Ao f a*Ao f b) hprod (Ar f a+Ar f b) (by omega) false (fun h=>by cases h);have ew:aa .i64 (Ar f a+Ar f b)=Ar f a+Ar f b:=At (by omega);simp only[sY p2,r6 p2,cond_true,bne_self_eq_false,cond_false,aOY q1,aMT q1,aOY q2,aMT q2,aOZ q3,aMU q3,aOZ q4,aMU q4,aO0 q5,aMV q5,aO0 q6,aMV q6,aDx p3,aCE p3,aDB p4,aCI p4,i9 p5,gW p5,bBc p6,aYC p6,ew,jA p7,gX p7,aw,rB];unfold iZ;cases h1:nan f a||nan f b
 ·simp only[cond_false];cases h2:AB f a&&Bk f b||Bk f a&&AB f b
  ·simp only[cond_false];cases h3:AB f a||AB f b
   ·simp only[cond_false];cases h4:Bk f a||Bk f b
    ·simp only[cond_false];simp only[Bool.or_eq_false_iff]at h4;rw[if_neg (Nat.mul_ne_zero (Pb h4.1) (Pb h4.2))]
    ·simp only[cond_true]
   ·simp only[cond_true]
  ·simp only[cond_true]
 ·simp only[cond_true];cases Bn f a||Bn f b<;>rfl
end VL
namespace VL
open Go Vx
theorem aXX(n:Nat):∃r,r*r<=n/\n<(r+1)*(r+1):=by
 induction n with
 |zero=>exact⟨0,by decide,by decide⟩
 |succ n ih=>
  obtain⟨r,h1,h2⟩:=ih;by_cases h:n+1<(r+1)*(r+1)
  ·exact⟨r,by omega,h⟩
  ·refine⟨r+1,by omega,?_⟩;have:(r+1+1)*(r+1+1)=(r+1)*(r+1)+2*(r+1)+1:=by
    rw[bw (r+1+1),cm (r+1) 1 (r+1)];omega
   omega
def sH(n:Nat):Nat:=Classical.choose (aXX n)
def aPw(f m:Int)(X:Nat)(E:Int):Nat×Nat:=if sH X*sH X=X then Bj f m false (sH X) E false else Bj f m false (2*sH X+1) (E-1) false
end VL
namespace VL
open Go Vx
def OX(f:Int)(l:List Nat):Bool:=l.all fun a=>Ak f a==0
theorem aB4{f:Int}(hf:Fm f)(a:Nat):Ak f a=0∨Ak f a=4:=by
 unfold Ak;rw[if_pos hf];split<;>simp
def Fj(f m:Int)(l:List Nat):Int:=if ¬Fm f then 2 else if m<0∨m>5 then 3 else bif OX f l then 0 else 4
def aPx(f m:Int)(n:Nat)(e:Int):Nat×Nat:=if e%2=1 then aPw f m (n*2*2^200) ((e-1)/2-100)else aPw f m (n*2^200) (e/2-100)
def bGM(f m:Int)(a:Nat):Int×Int×Int×Unit:=if Fj f m [a]≠0 then(0,0,Fj f m [a],())else bif nan f a then((Cz f:Int),(bif Bn f a then 1 else 0),0,())else bif sF f a&&!Bk f a then((Cz f:Int),1,0,())else bif Bk f a||AB f a then((a:Int),0,0,())else(((aPx f m (Ao f a) (Ar f a)).1:Int),((aPx f m (Ao f a) (Ar f a)).2:Int),0,())
end VL
namespace VL
open Go Vx
theorem aL3{q r yn1 yn0 u u1:Nat}(hq:q*yn1+r=u):(2^32*r+u1<q*yn0)↔u*2^32+u1<q*(yn1*2^32+yn0):=by
 rw[bw,←bh,←hq,cm];omega
theorem aL0{q r yn1 yn0 u u1:Nat}(hq:q*yn1+r=u)(hr:r<2^32)(h0:yn0<2^32)(hu1:u1<2^32)(hlt:u<yn1*2^32+yn0):
  (decide ((q:Int)>=4294967296)||decide (aa .u64 ((q:Int)*(yn0:Int))>aa .u64 (aa .u64 ((4294967296:Int)*(r:Int))+(u1:Int))))=decide (u*2^32+u1<q*(yn1*2^32+yn0)):=by
 rcases ax q (2^32)with h|h
 ·have hm:q*yn0<=(2^32-1)*(2^32-1):=gw (by omega) (by omega);have e1:aa .u64 ((q:Int)*(yn0:Int))=((q*yn0:Nat):Int):=j3 _ _ (by omega);have e2:aa .u64 ((4294967296:Int)*(r:Int))=((2^32*r:Nat):Int):=j3 (2^32) r (by omega);have e3:aa .u64 (((2^32*r:Nat):Int)+(u1:Int))=((2^32*r+u1:Nat):Int):=Dk _ _ (by omega);have e4:decide ((q:Int)>=4294967296)=false:=decide_eq_false (by omega);rw[e1,e2,e3,e4,bd,fi,decide_eq_true_eq,decide_eq_true_eq,←aL3 hq];omega
 ·have e4:decide ((q:Int)>=4294967296)=true:=decide_eq_true (by omega);have hm:2^32*(yn1*2^32+yn0)<=q*(yn1*2^32+yn0):=bc _ h;rw[e4,aw,decide_eq_true (by omega)]
theorem aL2{yn1 yn0 u u1:Nat}(hy:0<yn1)(hu1:u1<2^32):u*2^32+u1<(u/yn1+1)*(yn1*2^32+yn0):=by
 have h1:u<(u/yn1+1)*yn1:=by
  have:=Nat.lt_div_mul_add hy (a:=u);rw[cm,fw];exact this
 rw[bw,←bh];omega
theorem aL1{q r yn1 yn0 u u1:Nat}(hq:q*yn1+r=u)(h:u*2^32+u1<q*(yn1*2^32+yn0)):1<=q/\(q-1)*yn1+(r+yn1)=u:=by
 have h1:1<=q:=by
  rcases br q with h0|h0
  ·rw[h0,ff]at h;omega
  ·exact h0
 refine⟨h1,?_⟩;obtain⟨p,rfl⟩:∃p,q=p+1:=⟨q-1,by omega⟩
 rw[cm,fw]at hq;rw[show p+1-1=p by omega];omega
theorem aLZ{q r yn1 yn0 u u1:Nat}(hq:q*yn1+r=u)(hr:2^32<=r)(h0:yn0<2^32)(hlt:u<yn1*2^32+yn0):q*(yn1*2^32+yn0)<=u*2^32+u1:=by
 have h1:q*yn1<2^32*yn1:=by omega
 have h2:q<2^32:=kq h1;have h3:q*yn0<=2^32*(2^32-1):=gw (by omega) (by omega);have h4:¬2^32*r+u1<q*yn0:=by omega
 rw[aL3 hq]at h4;omega
theorem rI{a b q:Nat}(h1:q*b<=a)(h2:a<(q+1)*b):a/b=q:=Nat.div_eq_of_lt_le h1 h2
theorem aVJ{u u1 yn0 yn1:Nat}(h0:yn0<2^32)(h1:yn1<2^32)(hy:0<yn1)(hu1:u1<2^32)(hlt:u<yn1*2^32+yn0)(u0 y s:Int):
  oM ((((u%yn1:Nat):Int),((u:Int),((u1:Int),((yn0:Int),((yn1:Int),(((u/yn1:Nat):Int),(u0,(y,(s,()))))))))),()) =
   some (.inl (((u:Int),((u1:Int),((yn0:Int),((yn1:Int),((((u*2^32+u1)/(yn1*2^32+yn0):Nat):Int),(u0,(y,(s,())))))))),())):=by
 have key:=CD (aNW B2.pre B2.F) (fun x=>x.1.2.2.2.2.2.1.toNat)
  (fun x=>∃q r:Nat,q*yn1+r=u/\r<2^32/\u*2^32+u1<(q+1)*(yn1*2^32+yn0)/\x=(((r:Int),((u:Int),((u1:Int),((yn0:Int),((yn1:Int),((q:Int),(u0,(y,(s,()))))))))),()))
  (fun _=>.inl (((u:Int),((u1:Int),((yn0:Int),((yn1:Int),((((u*2^32+u1)/(yn1*2^32+yn0):Nat):Int),(u0,(y,(s,())))))))),())) ?_ _
  ⟨u/yn1,u%yn1,by rw[be];exact ct u yn1,fm (ca _ hy) h1,aL2 hy hu1,rfl⟩
 ·exact key
 intro L x hx hL;obtain⟨q,r,hq,hr,hup,rfl⟩:=hx;unfold Yc;have hqu:q<=u:=by
  have:=gf q hy;omega
 dsimp only;rw[aL0 hq hr h0 hu1 hlt];by_cases hc:u*2^32+u1<q*(yn1*2^32+yn0)
 ·obtain⟨d1,d2⟩:=aL1 hq hc;have e1:aa .u64 ((q:Int)-1)=((q-1:Nat):Int):=by rw[Dy (by omega)];omega
  have e2:aa .u64 ((r:Int)+(yn1:Int))=((r+yn1:Nat):Int):=Dk _ _ (by omega);rw[decide_eq_true hc,cond_true,e1,e2];by_cases hb:2^32<=r+yn1
  ·have e3:decide (((r+yn1:Nat):Int)>=4294967296)=true:=decide_eq_true (by omega);rw[e3,cond_true];have:=aLZ (u1:=u1) d2 hb h0 hlt;rw[rI this (by rw[show q-1+1=q by omega];exact hc)]
  ·have e3:decide (((r+yn1:Nat):Int)>=4294967296)=false:=decide_eq_false (by omega);rw[e3,cond_false];exact hL _ ⟨q-1,r+yn1,d2,by omega,by rw[show q-1+1=q by omega];exact hc,rfl⟩ (by simp only[ab];omega)
 ·rw[decide_eq_false hc,cond_false,rI (by omega) hup]
theorem aVK{u u1 yn0 yn1:Nat}(h0:yn0<2^32)(h1:yn1<2^32)(hy:0<yn1)(hu1:u1<2^32)(hlt:u<yn1*2^32+yn0)(q1 y s:Int):
  oN (((yn0:Int),(((u%yn1:Nat):Int),((yn1:Int),(q1,((u:Int),((u1:Int),(((u/yn1:Nat):Int),(y,(s,()))))))))),()) =
   some (.inl ((q1,((u:Int),((u1:Int),((((u*2^32+u1)/(yn1*2^32+yn0):Nat):Int),(y,(s,())))))),())):=by
 have key:=CD (aNX B2.pre B2.F) (fun x=>x.1.2.2.2.2.2.2.1.toNat)
  (fun x=>∃q r:Nat,q*yn1+r=u/\r<2^32/\u*2^32+u1<(q+1)*(yn1*2^32+yn0)/\x=(((yn0:Int),((r:Int),((yn1:Int),(q1,((u:Int),((u1:Int),((q:Int),(y,(s,()))))))))),()))
  (fun _=>.inl ((q1,((u:Int),((u1:Int),((((u*2^32+u1)/(yn1*2^32+yn0):Nat):Int),(y,(s,())))))),())) ?_ _
  ⟨u/yn1,u%yn1,by rw[be];exact ct u yn1,fm (ca _ hy) h1,aL2 hy hu1,rfl⟩
 ·exact key
 intro L x hx hL;obtain⟨q,r,hq,hr,hup,rfl⟩:=hx;unfold Yd;have hqu:q<=u:=by
  have:=gf q hy;omega
 dsimp only;rw[aL0 hq hr h0 hu1 hlt];by_cases hc:u*2^32+u1<q*(yn1*2^32+yn0)
 ·obtain⟨d1,d2⟩:=aL1 hq hc;have e1:aa .u64 ((q:Int)-1)=((q-1:Nat):Int):=by rw[Dy (by omega)];omega
  have e2:aa .u64 ((r:Int)+(yn1:Int))=((r+yn1:Nat):Int):=Dk _ _ (by omega);rw[decide_eq_true hc,cond_true,e1,e2];by_cases hb:2^32<=r+yn1
  ·have e3:decide (((r+yn1:Nat):Int)>=4294967296)=true:=decide_eq_true (by omega);rw[e3,cond_true];have:=aLZ (u1:=u1) d2 hb h0 hlt;rw[rI this (by rw[show q-1+1=q by omega];exact hc)]
  ·have e3:decide (((r+yn1:Nat):Int)>=4294967296)=false:=decide_eq_false (by omega);rw[e3,cond_false];exact hL _ ⟨q-1,r+yn1,d2,by omega,by rw[show q-1+1=q by omega];exact hc,rfl⟩ (by simp only[ab];omega)
 ·rw[decide_eq_false hc,cond_false,rI (by omega) hup]
theorem aXG{A y u32 u1 u0 q1 r1 q0 r0:Nat}(hA:A=(u32*2^32+u1)*2^32+u0)(h1:u32*2^32+u1=q1*y+r1)(h2:r1*2^32+u0=q0*y+r0)(hr:r0<y):
  A/y=q1*2^32+q0/\A%y=r0:=by
 have e:A=(q1*2^32+q0)*y+r0:=by
  rw[hA,h1,cm,cm,jo];omega
 have hy:0<y:=by omega
 rw[e,be _ y];exact⟨by rw[jw hy,ci hr,cz],by rw[jx,bt hr]⟩
theorem bGK(U X:Nat):U*2^64+X=(U*2^32+X/2^32)*2^32+X%2^32:=by omega
theorem orL{a b k:Nat}(ha:a<2^k)(h:b*2^k+a<2^64):Ai .u64 ((b*2^k:Nat):Int) (a:Int)=((b*2^k+a:Nat):Int):=by
 rw[i5 (by omega) (by omega)];congr 1;have:=Nat.two_pow_add_eq_or_of_lt ha b;rw[be b,←this]
theorem aGm{n:Nat}(hn:n<2^64):bN ((n:Int),())=some (((64-Am n:Nat):Int),()):=by
 show vT Cu.pre Cu.F (n:Int)=_;unfold vT;have p0:=aF9 n hn;have hb:=DY hn;have e:aa .i64 ((64:Int)-(Am n:Int))=((64-Am n:Nat):Int):=by rw[At (by omega)];omega
 simp only[aOV p0,aMQ p0,cond_true,e]
theorem aGn{hi lo y:Nat}(hlo:lo<2^64)(hy:y<2^64)(hlt:hi<y):
  bO ((hi:Int),(lo:Int),(y:Int),())=some ((((hi*2^64+lo)/y:Nat):Int),(((hi*2^64+lo)%y:Nat):Int),()):=by
 have hy0:0<y:=by omega
 show vU B2.pre B2.F oM oN (hi:Int) (lo:Int) (y:Int)=_;unfold vU;have hbl:=DY hy;have hbl1:=gA (n:=y) (by omega);have p0:=aGm hy;generalize hs:64-Am y=s at *
 have e9:aa .u64 (s:Int)=(s:Int):=Ji _ (by omega);have e10:aa .u64 ((64:Int)-(s:Int))=((64-s:Nat):Int):=by rw[Dy (by omega)];omega
 have g0:((y:Int)==0)=false:=AF _ (by omega);have g1:decide ((y:Int)<=(hi:Int))=false:=decide_eq_false (by omega);have g2:((y:Int)!=0)=true:=AI _ (by omega);dsimp only;simp only[g0,g1,g2,cond_false,cond_true,aOW p0,aMR p0,e9,e10];by_cases hh:hi=0
 ·subst hh;have e1:(((0:Nat):Int)==0)=true:=rfl;rw[e1,cond_true,jK _ _ hlo hy0,ff,de];rfl
 have e1:((hi:Int)==0)=false:=AF _ hh;rw[e1,cond_false];have hp:=aj s;have hyl:=Ox (n:=y) (by omega);have hyu:=Hj y;have hY1:y*2^s<2^64:=by
  have:y*2^s<2^Am y*2^s:=cj hyu hp;rw[←bj,show Am y+s=64 by omega]at this;exact this
 have hY2:2^63<=y*2^s:=by
  have:2^(Am y-1)*2^s<=y*2^s:=bc _ hyl;rw[←bj,show Am y-1+s=63 by omega]at this;exact this
 have hH:hi*2^s<y*2^s:=cj hlt hp;have hlos:lo/2^(64-s)<2^s:=by
  rw[bv (aj _),←bj,show s+(64-s)=64 by omega];exact hlo
 have e264:2^64=2^s*2^(64-s):=by rw[←bj];congr 1;omega
 have hU:hi*2^s+lo/2^(64-s)<y*2^s:=by
  have h1:(hi+1)*2^s<=y*2^s:=bc _ hlt;rw[cm,fw]at h1;omega
 have hsc:(hi*2^64+lo)*2^s=(hi*2^s+lo/2^(64-s))*2^64+lo*2^s%2^64:=by
  have h1:lo*2^s=lo*2^s/2^64*2^64+lo*2^s%2^64:=by
   have:=ct (lo*2^s) (2^64);omega
  have h2:lo*2^s/2^64=lo/2^(64-s):=by
   rw[e264,be lo,Nat.mul_div_mul_left _ _ hp]
  rw[h2]at h1;rw[cm,cm,jo];omega
 have s1:=Hw hi s (by omega);have s2:=Dv lo (64-s) (by omega);have s3:=Hw y s (by omega);have s4:=Hw lo s (by omega);rw[bt (by omega)]at s1 s3;have hY32:y*2^s/2^32*2^32+y*2^s%2^32=y*2^s:=by omega
 have hdiv:(hi*2^64+lo)*2^s/(y*2^s)=(hi*2^64+lo)/y:=Nat.mul_div_mul_right _ _ hp;have hmod:(hi*2^64+lo)*2^s%(y*2^s)=(hi*2^64+lo)%y*2^s:=Nat.mul_mod_mul_right _ _ _;have hX:lo*2^s%2^64<2^64:=ca _ (by decide);have s5:=orL (b:=hi) hlos (by omega);rw[s1,s2,s3,s4,s5];have hq64:(hi*2^64+lo)/y<2^64:=by
  rw[bv hy0];have:(hi+1)*2^64<=y*2^64:=bc _ hlt;omega
 rw[hsc]at hdiv hmod;generalize hi*2^s+lo/2^(64-s)=U at *
 generalize lo*2^s%2^64=X at *
 generalize hYd:y*2^s=Y at *
 rw[V5 Y,V5 X,fM hY1,fM hX];have hYY1:Y/2^32<2^32:=by omega
 have hYY0:Y%2^32<2^32:=by omega
 have hYp:0<Y/2^32:=by omega
 have g3:(((Y/2^32:Nat):Int)!=0)=true:=AI _ (by omega);have hrem:∀V:Nat,V<2^64->aa .u64 ((V:Int)-aa .u64 (((V/(Y/2^32):Nat):Int)*((Y/2^32:Nat):Int)))=((V%(Y/2^32):Nat):Int):=fun V hV=>by
  have hdm:=ct V (Y/2^32);rw[be]at hdm;rw[j3 _ _ (by omega)];generalize V/(Y/2^32)*(Y/2^32)=z at *
  generalize V%(Y/2^32)=w at *
  rw[Dy (by omega)];omega
 rw[g3,cond_true,jK _ _ (by omega) hYp,hrem U (by omega)];have w1:=aVJ hYY0 hYY1 hYp (show X/2^32<2^32 by omega) (u:=U) (by omega) ((X%2^32:Nat):Int) (Y:Int) (s:Int);rw[w1,hY32];show(bif(((Y/2^32:Nat):Int)!=0)then _ else _)=_;rw[g3,cond_true];dsimp only;have hd1:=ct (U*2^32+X/2^32) Y;have hr1:=ca (U*2^32+X/2^32) (show 0<Y by omega);have hq1:(U*2^32+X/2^32)/Y<2^32:=by
  rw[bv (by omega)];have:(U+1)*2^32<=Y*2^32:=bc _ hU;omega
 have hrem2:∀a b c q r:Nat,a*2^32+b=Y*q+r->r<Y->aa .u64 (aa .u64 (aa .u64 ((a:Int)*4294967296)+(b:Int))-aa .u64 ((q:Int)*(Y:Int)))=(r:Int):=fun a b _ q r h1 h2=>by
  have e:(q:Int)*(Y:Int)=((Y*q:Nat):Int):=by rw[le,Int.mul_comm]
  rw[e];generalize Y*q=z at *
  show((((a:Int)*4294967296)%18446744073709551616+(b:Int))%18446744073709551616-((z:Int)%18446744073709551616))%18446744073709551616=(r:Int)
  omega
 rw[hrem2 U (X/2^32) 0 _ _ hd1.symm hr1];clear w1;obtain⟨q1,hQ1⟩:∃q,q=(U*2^32+X/2^32)/Y:=⟨_,rfl⟩
 obtain⟨r1,hR1⟩:∃q,q=(U*2^32+X/2^32)%Y:=⟨_,rfl⟩
 rw[←hQ1]at hd1 hq1;rw[←hR1]at hd1 hr1;rw[←hQ1,←hR1];rw[jK _ _ (by omega) hYp,hrem r1 (by omega)];have w2:=aVK hYY0 hYY1 hYp (show X%2^32<2^32 by omega) (u:=r1) (by omega) (q1:Int) (Y:Int) (s:Int);rw[w2,hY32];show some (_,(_,()))=_;dsimp only;have hd2:=ct (r1*2^32+X%2^32) Y;have hr2:=ca (r1*2^32+X%2^32) (show 0<Y by omega);have hq2:(r1*2^32+X%2^32)/Y<2^32:=by
  rw[bv (by omega)];have:(r1+1)*2^32<=Y*2^32:=bc _ hr1;omega
 rw[hrem2 r1 (X%2^32) 0 _ _ hd2.symm hr2];obtain⟨q0,hQ0⟩:∃q,q=(r1*2^32+X%2^32)/Y:=⟨_,rfl⟩
 obtain⟨r0,hR0⟩:∃q,q=(r1*2^32+X%2^32)%Y:=⟨_,rfl⟩
 rw[←hQ0]at hd2 hq2;rw[←hR0]at hd2 hr2;rw[←hQ0,←hR0];obtain⟨f1,f2⟩:=aXG (A:=U*2^64+X) (y:=Y) (u32:=U) (u1:=X/2^32) (u0:=X%2^32) (bGK U X) (by rw[be q1];exact hd1.symm) (by rw[be q0];exact hd2.symm) hr2;rw[hdiv]at f1;rw[hmod]at f2;have e5:aa .u64 (aa .u64 ((q1:Int)*4294967296)+(q0:Int))=(((hi*2^64+lo)/y:Nat):Int):=by
  rw[f1];show((((q1:Int)*4294967296)%18446744073709551616)+(q0:Int))%18446744073709551616=_;omega
 have e6:AL .u64 (r0:Int) (s:Int)=(((hi*2^64+lo)%y:Nat):Int):=by
  rw[Dv _ _ (by omega),←f2,Nat.mul_div_cancel _ hp]
 rw[e5,e6]
end VL
namespace VL
open Go Vx
theorem OT{D Y:Type}{Φ:{R:Type}->(D->Option R)->(Y->Option R)->D->Option R}(hp:Bo Φ)(μ:D->Nat)(I:D->Prop)(Q:Y->Prop)
  (h:∀(L:D->Option Y) x,I x->(∀x',I x'->μ x'<μ x->∃y,L x'=some y/\Q y)->∃y,Φ L some x=some y/\Q y):∀x,I x->∃y,Bf (fun L=>Φ L some) x=some y/\Q y:=by
 have key:∀m x,I x->μ x<m->∃y,CR (fun L=>Φ L some) m x=some y/\Q y:=by
  intro m;induction m with
  |zero=>intro x _ h;omega
  |succ m ih=>
   intro x hx hm;simp only[CR];exact h _ x hx fun x' hx' hlt=>ih x' hx' (by omega)
 intro x hx;obtain⟨y,hy,hQ⟩:=key (μ x+1) x hx (by omega);exact⟨y,aNu hp hy,hQ⟩
theorem Lr(i:Nat):(2^64)^(i+1)=(2^64)^i*2^64:=dl ..
theorem Wb{A us C:List Nat}{i:Nat}(h:i<us.length):(Wd (A++us++C)).getD (A.length+i) 0=((us.getD i 0:Nat):Int):=by
 rw[BH];congr 1;rw[ak,ak,fe,cg (by omega),je,List.getElem?_append_left h]
theorem x5{A us C:List Nat}{i v:Nat}(h:i<us.length):(Wd (A++us++C)).set (A.length+i) (v:Int)=Wd (A++us.set i v++C):=by
 rw[Dd];congr 1;rw[fe,ga _ _ (by omega),je,List.set_append_left _ _ h,←fe]
theorem rG{out us:List Nat}{i:Nat}(hol:out.length=i)(hi:i<us.length):(out++us.drop i).getD i 0=us.getD i 0:=by
 rw[ak,ak,cg (by omega),hol,gr,dt,cz]
theorem aZX{x y c:Nat}(hx:x<2^64)(hy:y<2^64)(hc:c<2^64):
  x*y+c=2^64*(x*y/2^64+(x*y%2^64+c)/2^64)+(x*y%2^64+c)%2^64/\x*y/2^64+(x*y%2^64+c)/2^64<2^64:=by
 have:x*y<=(2^64-1)*(2^64-1):=gw (by omega) (by omega);generalize x*y=z at *
 omega
theorem aPO{d l b:Nat}(hd:d<2^64)(hl:l<2^64)(hb:b<=1):
  (d+2^64-l-b)%2^64+l+b=d+2^64*(if d<l+b then 1 else 0)/\(d+2^64-l-b)%2^64<2^64/\(if d<l+b then 1 else 0)<=1:=by
 split<;>omega
theorem bHb{P U V O x y c b d o l c' b':Nat}(h:O+x*V=U+P*(c+b))(h1:x*y+c=2^64*c'+l)(h2:o+l+b=d+2^64*b'):
  O+P*o+x*(V+P*y)=U+P*d+P*2^64*(c'+b'):=by
 have h3:P*(c+b+o+x*y)=P*(d+2^64*(c'+b')):=by
  congr 1;omega
 rw[bw P,bw P,bw P d,←bh P (2^64)]at h3;rw[bw x,fx x P y];omega
theorem aUT(A us C v:List Nat)(hlen:us.length=v.length+1)(hu:∀x∈us,x<2^64)(hv:∀x∈v,x<2^64)(hn:v.length<=1000000){x:Nat}(hx:x<2^64):
  ∃out:List Nat,out.length=us.length/\(∀z∈out,z<2^64)/\nv (2^64) out+x*nv (2^64) v=nv (2^64) us+(if nv (2^64) us<x*nv (2^64) v then(2^64)^us.length else 0) /\
   bP ((Wd (A++us++C),(A.length,us.length)),(Wd v,((x:Int),())))=some (Wd (A++out++C),decide (nv (2^64) us<x*nv (2^64) v),()):=by
 show ∃out:List Nat,_/\_/\_/\vV Bi.pre Bi.F AC.pre AC.F By.pre By.F oO (Wd (A++us++C),(A.length,us.length)) (Wd v) (x:Int)=_;have key:=OT (aNY Bi.pre Bi.F AC.pre AC.F By.pre By.F) (fun s=>v.length-s.1.2.2.2.1.toNat)
  (fun s=>∃(i:Nat) (out:List Nat) (c b:Nat),i<=v.length/\out.length=i/\(∀z∈out,z<2^64)/\c<2^64/\b<=1/\nv (2^64) out+x*nv (2^64) (v.take i)=nv (2^64) (us.take i)+(2^64)^i*(c+b) /\
   s=(((v.length:Int),(Wd v,((x:Int),((i:Int),(Wd v,((A.length,us.length),((c:Int),((b:Int),())))))))),(Wd (A++(out++us.drop i)++C),())))
  (fun y=>∃(out:List Nat) (c b:Nat),out.length=v.length/\(∀z∈out,z<2^64)/\c<2^64/\b<=1/\nv (2^64) out+x*nv (2^64) v=nv (2^64) (us.take v.length)+(2^64)^v.length*(c+b) /\
   y=.inl ((Wd v,((A.length,us.length),((c:Int),((b:Int),())))),(Wd (A++(out++us.drop v.length)++C),()))) ?_
  (((v.length:Int),(Wd v,((x:Int),((0:Int),(Wd v,((A.length,us.length),((0:Int),((0:Int),())))))))),(Wd (A++us++C),()))
  ⟨0,[],0,0,dq _,rfl,(fun z hz=>by simp at hz),by decide,by decide,by simp[nv],rfl⟩
 ·obtain⟨y,hy,out,c,b,k1,k2,k3,k4,k5,rfl⟩:=key;have hy:oO (((v.length:Int),(Wd v,((x:Int),((0:Int),(Wd v,((A.length,us.length),((0:Int),((0:Int),())))))))),(Wd (A++us++C),()))=_:=hy;have hlt:v.length<us.length:=by omega
  have hwl:(out++us.drop v.length).length=us.length:=by simp[k1];omega
  have hdg:=rG (us:=us) k1 hlt;have hg:=Wb (A:=A) (C:=C) (us:=out++us.drop v.length) (i:=v.length) (by omega);rw[hdg]at hg;have hst:=fun z=>x5 (A:=A) (C:=C) (us:=out++us.drop v.length) (i:=v.length) (v:=z) (by omega);have hsd:=fun z=>jQ (a:=us) (v:=z) k1 hlt;have hd:=BZ (by decide) hu v.length;obtain⟨w1,w2,w3⟩:=aPO (d:=us.getD v.length 0) (l:=c) (b:=b) hd k3 k4;have q1:=jW (us.getD v.length 0) c b k4 hd k3;have q2:=jX ((us.getD v.length 0:Nat):Int) (c:Int) b k4;have hnx:=C0 (2^64) us v.length;rw[ck (show us.length<=v.length+1 by omega)]at hnx;have hnil:us.drop (v.length+1)=[]:=jj (by omega);unfold vV;dsimp only;rw[Ay,hy];have e0:decide ((0:Int)<=(v.length:Int))=true:=decide_eq_true (by omega);have e1:decide ((v.length:Int)<(us.length:Int))=true:=decide_eq_true (by omega);dsimp only[Ba,A9];simp only[e0,e1,av,cond_true,Ay,ab,hg,q2,q1,hst,hsd,hnil,dk];generalize us.getD v.length 0=d at *
  generalize(d+2^64-c-b)%2^64=o at *
  have hO:nv (2^64) (out++[o])+x*nv (2^64) v=nv (2^64) us+(2^64)^us.length*(if d<c+b then 1 else 0):=by
   rw[Ll,k1,hnx,hlen,Lr];have h3:(2^64)^v.length*(o+c+b)=(2^64)^v.length*(d+2^64*(if d<c+b then 1 else 0)):=by rw[w1]
   rw[bw,bw,bw _ d,←bh _ (2^64)]at h3;rw[bw]at k5;omega
  have hod:=IP k2 w2;have hOl:=CP (B:=2^64) (by decide) (out++[o]) hod;have hol:(out++[o]).length=us.length:=by simp[k1];omega
  rw[hol]at hOl;by_cases hb:d<c+b
  ·rw[if_pos hb,gq]at hO;have hlt2:nv (2^64) us<x*nv (2^64) v:=by omega
   refine⟨out++[o],hol,hod,by rw[if_pos hlt2];exact hO,?_⟩;rw[if_pos hb,decide_eq_true hlt2];rfl
  ·rw[if_neg hb,fd,cz]at hO;have hlt2:¬nv (2^64) us<x*nv (2^64) v:=by omega
   refine⟨out++[o],hol,hod,by rw[if_neg hlt2,cz];exact hO,?_⟩;rw[if_neg hb,decide_eq_false hlt2];rfl
 intro L s hs hL;obtain⟨i,out,c,b,hi,hol,hod,hc,hb,hinv,rfl⟩:=hs;unfold Ye;rcases ax i v.length with hlt|hge
 ·have hy:=BZ (by decide) hv i;have hd:=BZ (by decide) hu i;have hnv:=C0 (2^64) v i;have hnu:=C0 (2^64) us i;have hwl:(out++us.drop i).length=us.length:=by simp[hol];omega
  have hdg:=rG (us:=us) hol (by omega);have hg:=Wb (A:=A) (C:=C) (us:=out++us.drop i) (i:=i) (by omega);rw[hdg]at hg;have hst:=fun z=>x5 (A:=A) (C:=C) (us:=out++us.drop i) (i:=i) (v:=z) (by omega);have hsd:=fun z=>jQ (a:=us) (v:=z) hol (by omega);have hgv:(Wd v).getD i 0=((v.getD i 0:Nat):Int):=BH v i;generalize v.getD i 0=y at *
  generalize us.getD i 0=d at *
  have p0:=aAb hx hy;obtain⟨m1,m2⟩:=aZX hx hy hc;have q1:=Xu (x*y%2^64) c 0;have q2:=Xv ((x*y%2^64:Nat):Int) (c:Int) 0 (by decide);rw[cz]at q1;have hl:(x*y%2^64+c)%2^64<2^64:=ca _ (by decide);have e5:=Dk (x*y/2^64) ((x*y%2^64+c)/2^64) m2;generalize x*y/2^64+(x*y%2^64+c)/2^64=c' at *
  generalize hlq:(x*y%2^64+c)%2^64=l at *
  obtain⟨w1,w2,w3⟩:=aPO (d:=d) (l:=l) (b:=b) hd hl hb;have r1:=jW d l b hb hd hl;have r2:=jX (d:Int) (l:Int) b hb;generalize(d+2^64-l-b)%2^64=o at *
  generalize(if d<l+b then 1 else 0)=b' at *
  have hstep:=bHb (P:=(2^64)^i) hinv m1 w1;have e0:decide ((i:Int)<(v.length:Int))=true:=decide_eq_true (by omega);have e1:decide ((0:Int)<=(i:Int))=true:=decide_eq_true (by omega);have e2:decide ((i:Int)<((us.length:Nat):Int))=true:=decide_eq_true (by omega);have e3:aa .i64 ((i:Int)+1)=((i+1:Nat):Int):=by rw[At (by omega)];omega
  have z0:((0:Nat):Int)=0:=rfl;rw[z0]at q1 q2;dsimp only;simp only[e0,e1,e2,e3,cond_true,av,Ay,ab,hgv,hg,aDw p0,aCD p0,q1,q2,r1,r2,e5,hst,hsd];refine hL _ ⟨i+1,out++[o],c',b',by omega,by simp[hol],IP hod w2,m2,w3,?_,rfl⟩ (by simp only[ab];omega);rw[Ll,hol,hnv,hnu,Lr];exact hstep
 ·have e:i=v.length:=by omega
  subst e;have e0:decide ((v.length:Int)<(v.length:Int))=false:=decide_eq_false (by omega);simp only[e0,cond_false];rw[dp]at hinv;exact⟨_,rfl,out,c,b,hol,hod,hc,hb,hinv,rfl⟩
end VL
namespace VL
open Go Vx
theorem aLn{P U V O y c d:Nat}(h:O+P*c=U+V):O+P*((d+y+c)%2^64)+P*2^64*((d+y+c)/2^64)=U+P*d+(V+P*y):=by
 have h1:P*((d+y+c)%2^64+2^64*((d+y+c)/2^64))=P*(d+y+c):=by rw[iq]
 rw[bw,bw P (d+y),bw,←bh P (2^64)]at h1;omega
theorem aUU(A us C v:List Nat)(hlen:us.length=v.length+1)(hu:∀x∈us,x<2^64)(hv:∀x∈v,x<2^64)(hn:v.length<=1000000):
  ∃out:List Nat,out.length=us.length/\(∀z∈out,z<2^64)/\nv (2^64) out+(if(2^64)^us.length<=nv (2^64) us+nv (2^64) v then(2^64)^us.length else 0)=nv (2^64) us+nv (2^64) v /\
   bQ ((Wd (A++us++C),(A.length,us.length)),(Wd v,()))=some (Wd (A++out++C),decide ((2^64)^us.length<=nv (2^64) us+nv (2^64) v),()):=by
 show ∃out:List Nat,_/\_/\_/\vW AC.pre AC.F oP (Wd (A++us++C),(A.length,us.length)) (Wd v)=_;have key:=OT (aNZ AC.pre AC.F) (fun s=>v.length-s.1.2.2.1.toNat)
  (fun s=>∃(i:Nat) (out:List Nat) (c:Nat),i<=v.length/\out.length=i/\(∀z∈out,z<2^64)/\c<=1/\nv (2^64) out+(2^64)^i*c=nv (2^64) (us.take i)+nv (2^64) (v.take i) /\
   s=(((v.length:Int),(Wd v,((i:Int),(Wd v,((A.length,us.length),((c:Int),())))))),(Wd (A++(out++us.drop i)++C),())))
  (fun y=>∃(out:List Nat) (c:Nat),out.length=v.length/\(∀z∈out,z<2^64)/\c<=1/\nv (2^64) out+(2^64)^v.length*c=nv (2^64) (us.take v.length)+nv (2^64) v /\
   y=.inl ((Wd v,((A.length,us.length),((c:Int),()))),(Wd (A++(out++us.drop v.length)++C),()))) ?_
  (((v.length:Int),(Wd v,((0:Int),(Wd v,((A.length,us.length),((0:Int),())))))),(Wd (A++us++C),()))
  ⟨0,[],0,dq _,rfl,(fun z hz=>by simp at hz),by decide,by simp[nv],rfl⟩
 ·obtain⟨y,hy,out,c,k1,k2,k3,k5,rfl⟩:=key;have hy:oP (((v.length:Int),(Wd v,((0:Int),(Wd v,((A.length,us.length),((0:Int),())))))),(Wd (A++us++C),()))=_:=hy;have hlt:v.length<us.length:=by omega
  have hwl:(out++us.drop v.length).length=us.length:=by simp[k1];omega
  have hdg:=rG (us:=us) k1 hlt;have hg:=Wb (A:=A) (C:=C) (us:=out++us.drop v.length) (i:=v.length) (by omega);rw[hdg]at hg;have hst:=fun z=>x5 (A:=A) (C:=C) (us:=out++us.drop v.length) (i:=v.length) (v:=z) (by omega);have hsd:=fun z=>jQ (a:=us) (v:=z) k1 hlt;have hd:=BZ (by decide) hu v.length;have q1:=Xu (us.getD v.length 0) 0 c;have q2:=Xv ((us.getD v.length 0:Nat):Int) ((0:Nat):Int) c k3;have z0:((0:Nat):Int)=0:=rfl;rw[z0]at q1 q2;have hnx:=C0 (2^64) us v.length;rw[ck (show us.length<=v.length+1 by omega)]at hnx;have hnil:us.drop (v.length+1)=[]:=jj (by omega);unfold vW;dsimp only;rw[Ay,hy];have e0:decide ((0:Int)<=(v.length:Int))=true:=decide_eq_true (by omega);have e1:decide ((v.length:Int)<(us.length:Int))=true:=decide_eq_true (by omega);dsimp only[Ba,A9];simp only[e0,e1,av,cond_true,Ay,ab,hg,q2,q1,hst,hsd,hnil,dk];have hstep:=aLn (P:=(2^64)^v.length) (y:=0) (d:=us.getD v.length 0) k5;generalize us.getD v.length 0=d at *
  have ho:(d+0+c)%2^64<2^64:=ca _ (by decide);have hO:nv (2^64) (out++[(d+0+c)%2^64])+(2^64)^us.length*((d+0+c)/2^64)=nv (2^64) us+nv (2^64) v:=by
   rw[Ll,k1,hnx,hlen,Lr];rw[fd]at hstep;omega
  have hod:=IP k2 ho;have hOl:=CP (B:=2^64) (by decide) (out++[(d+0+c)%2^64]) hod;have hol:(out++[(d+0+c)%2^64]).length=us.length:=by simp[k1];omega
  rw[hol]at hOl;by_cases hb:(d+0+c)/2^64=1
  ·rw[hb,gq]at hO;have hlt2:(2^64)^us.length<=nv (2^64) us+nv (2^64) v:=by omega
   refine⟨out++[(d+0+c)%2^64],hol,hod,by rw[if_pos hlt2];exact hO,?_⟩;rw[hb,decide_eq_true hlt2];rfl
  ·have hb0:(d+0+c)/2^64=0:=by omega
   rw[hb0,fd,cz]at hO;have hlt2:¬(2^64)^us.length<=nv (2^64) us+nv (2^64) v:=by omega
   refine⟨out++[(d+0+c)%2^64],hol,hod,by rw[if_neg hlt2,cz];exact hO,?_⟩;rw[hb0,decide_eq_false hlt2];rfl
 intro L s hs hL;obtain⟨i,out,c,hi,hol,hod,hc,hinv,rfl⟩:=hs;unfold Yf;rcases ax i v.length with hlt|hge
 ·have hy:=BZ (by decide) hv i;have hd:=BZ (by decide) hu i;have hnv:=C0 (2^64) v i;have hnu:=C0 (2^64) us i;have hwl:(out++us.drop i).length=us.length:=by simp[hol];omega
  have hdg:=rG (us:=us) hol (by omega);have hg:=Wb (A:=A) (C:=C) (us:=out++us.drop i) (i:=i) (by omega);rw[hdg]at hg;have hst:=fun z=>x5 (A:=A) (C:=C) (us:=out++us.drop i) (i:=i) (v:=z) (by omega);have hsd:=fun z=>jQ (a:=us) (v:=z) hol (by omega);have hgv:(Wd v).getD i 0=((v.getD i 0:Nat):Int):=BH v i;generalize v.getD i 0=y at *
  generalize us.getD i 0=d at *
  have q1:=Xu d y c;have q2:=Xv (d:Int) (y:Int) c hc;have ho:(d+y+c)%2^64<2^64:=ca _ (by decide);have hc':(d+y+c)/2^64<=1:=by omega
  have hstep:=aLn (P:=(2^64)^i) (y:=y) (d:=d) hinv;have e0:decide ((i:Int)<(v.length:Int))=true:=decide_eq_true (by omega);have e1:decide ((0:Int)<=(i:Int))=true:=decide_eq_true (by omega);have e2:decide ((i:Int)<((us.length:Nat):Int))=true:=decide_eq_true (by omega);have e3:aa .i64 ((i:Int)+1)=((i+1:Nat):Int):=by rw[At (by omega)];omega
  dsimp only;simp only[e0,e1,e2,e3,cond_true,av,Ay,ab,hgv,hg,q1,q2,hst,hsd];refine hL _ ⟨i+1,out++[(d+y+c)%2^64],(d+y+c)/2^64,by omega,by simp[hol],IP hod ho,hc',?_,rfl⟩ (by simp only[ab];omega);rw[Ll,hol,hnv,hnu,Lr];exact hstep
 ·have e:i=v.length:=by omega
  subst e;have e0:decide ((v.length:Int)<(v.length:Int))=false:=decide_eq_false (by omega);simp only[e0,cond_false];rw[dp]at hinv;exact⟨_,rfl,out,c,hol,hod,hc,hinv,rfl⟩
theorem aVM(A C v:List Nat){k U:Nat}(hk:k=v.length+1)(hv:∀x∈v,x<2^64)(hn:v.length<=1000000)(us:List Nat)(g:Nat)(hlen:us.length=k)(hu:∀x∈us,x<2^64)(hg:g<2^64)
  (hinv:nv (2^64) us+g*nv (2^64) v=U+(2^64)^k) :
  ∃out:List Nat,out.length=k/\(∀z∈out,z<2^64)/\nv (2^64) out=U%nv (2^64) v /\
   eC ((((g:Int),((A.length,k),(Wd v,()))),(Wd (A++us++C),())):Gc.D)=some (.inl ((((U/nv (2^64) v:Nat):Int),()),(Wd (A++out++C),()))):=by
 have key:=OT (aN0 Bl.pre Bl.F Bi.pre Bi.F AC.pre AC.F Cn.pre Cn.F CX.pre CX.F) (fun s=>s.1.1.toNat)
  (fun s=>∃(us:List Nat) (g:Nat),us.length=k/\(∀x∈us,x<2^64)/\g<2^64/\nv (2^64) us+g*nv (2^64) v=U+(2^64)^k /\
   s=(((g:Int),((A.length,k),(Wd v,()))),(Wd (A++us++C),())))
  (fun y=>∃out:List Nat,out.length=k/\(∀z∈out,z<2^64)/\nv (2^64) out=U%nv (2^64) v/\y=.inl ((((U/nv (2^64) v:Nat):Int),()),(Wd (A++out++C),()))) ?_
  (((g:Int),((A.length,k),(Wd v,()))),(Wd (A++us++C),())) ⟨us,g,hlen,hu,hg,hinv,rfl⟩
 ·obtain⟨y,hy,out,k1,k2,k3,rfl⟩:=key;exact⟨out,k1,k2,k3,hy⟩
 clear hinv hg hu hlen us g;intro L s hs hL;obtain⟨us,g,hlen,hu,hg,hinv,rfl⟩:=hs;unfold Yg;obtain⟨out,o1,o2,o3,o4⟩:=aUU A us C v (by omega) hu hv hn;rw[hlen]at o1 o3 o4;have hul:=CP (B:=2^64) (by decide) us hu;rw[hlen]at hul;have hg1:1<=g:=by
  rcases br g with h|h
  ·rw[h,ff]at hinv;omega
  ·exact h
 obtain⟨p,rfl⟩:∃p,g=p+1:=⟨g-1,by omega⟩
 rw[cm,fw]at hinv;have e1:aa .u64 (((p+1:Nat):Int)-1)=(p:Int):=by rw[Dy (by omega)];omega
 dsimp only;rw[bBf o4,aYF o4,cond_true,e1];dsimp only;by_cases hc:(2^64)^k<=nv (2^64) us+nv (2^64) v
 ·rw[if_pos hc]at o3;rw[decide_eq_true hc,cond_true];have hV:nv (2^64) out<nv (2^64) v:=by omega
  have hd:U=nv (2^64) v*p+nv (2^64) out:=by rw[be];omega
  have hpos:0<nv (2^64) v:=by omega
  refine⟨_,rfl,out,o1,o2,?_,?_⟩
  ·rw[hd,jx,bt hV]
  ·rw[hd,jw hpos,ci hV,cz]
 ·rw[if_neg hc]at o3;rw[decide_eq_false hc,cond_false];exact hL _ ⟨out,p,o1,o2,by omega,by omega,rfl⟩ (by simp only[ab];omega)
theorem aZy{h l r w:Nat}(hl:l<2^64)(hw:w<2^64):(decide ((h:Int)<(r:Int))||(((h:Int)==(r:Int))&&decide ((l:Int)<=(w:Int))))=decide (h*2^64+l<=r*2^64+w):=by
 rw[fi,dv,ag,decide_eq_true_eq,decide_eq_true_eq,decide_eq_true_eq,beq_iff_eq];omega
theorem aXT{U V P v1 v2 u2 u0 g rest:Nat}(hP:0<P)(hV:(v1*2^64+v2)*P<=V)(hU:U<(u2*2^64+u0+1)*P)(hg:g*v1+rest=u2)(h:¬g*v2<=rest*2^64+u0):U/V<g:=by
 rcases ax (U/V) g with h1|h1
 ·exact h1
 ·exfalso;have h2:g*V<=U:=fy (bc V h1) (kx U V);have h3:g*((v1*2^64+v2)*P)<=g*V:=cp g hV;rw[←bh]at h3;have h4:=kq (bl (fy h3 h2) hU);rw[bw,←bh]at h4;rw[←hg,cm]at h4;omega
theorem aXU{U V P v1 v2 u2 u0:Nat}(hP:0<P)(h1:0<v1)(hV:(v1*2^64+v2)*P<=V)(hU:U<(u2*2^64+u0+1)*P)(hu0:u0<2^64):U/V<=u2/v1:=by
 rw[ir h1];have h2:U/V*V<=U:=kx U V;have h3:U/V*((v1*2^64+v2)*P)<=U/V*V:=cp _ hV;rw[←bh]at h3;have h4:=kq (bl (fy h3 h2) hU);rw[bw,←bh]at h4;omega
theorem aRA{v:List Nat}{n:Nat}(hn:v.length=n+2):(v.getD (n+1) 0*2^64+v.getD n 0)*(2^64)^n<=nv (2^64) v:=by
 have h1:=C0 (2^64) v n;have h2:=C0 (2^64) v (n+1);rw[ck (by omega)]at h2;rw[h2,h1,Lr,cm,be _ ((2^64)^n),be (v.getD n 0),bh,be (2^64) (v.getD (n+1) 0)];omega
theorem aRr{u:List Nat}{n:Nat}(hu:∀x∈u,x<2^64)(hn:u.length=n+3):nv (2^64) u<((u.getD (n+2) 0*2^64+u.getD (n+1) 0)*2^64+u.getD n 0+1)*(2^64)^n:=by
 have h0:=i3 hu n;have h1:=C0 (2^64) u n;have h2:=C0 (2^64) u (n+1);have h3:=C0 (2^64) u (n+2);rw[ck (show u.length<=n+2+1 by omega)]at h3;rw[h3,h2,h1];rw[show(2^64)^(n+2)=(2^64)^n*2^64*2^64 by rw[show n+2=n+1+1 by omega,Lr,Lr],Lr];generalize(2^64)^n=P at *
 generalize u.getD (n+2) 0=a;generalize u.getD (n+1) 0=b;generalize u.getD n 0=c;rw[be (_+1) P,bw,bw,cm,bw,gq];have e1:P*(a*2^64*2^64)=P*2^64*2^64*a:=by rw[bh P,bh P,bh a,be a]
 have e2:P*(b*2^64)=P*2^64*b:=by rw[bh P,be b]
 rw[e1,e2];omega
end VL
namespace VL
open Go Vx
theorem aVL(A us C v:List Nat){n:Nat}(hvl:v.length=n+2)(hlen:us.length=n+3)(hu:∀x∈us,x<2^64)(hv:∀x∈v,x<2^64)(hn:v.length<=1000000)
  (hV0:0<v.getD (n+1) 0) (g rest:Nat) (hg:g<2^64) (hr:rest<2^64) (hinv:g*v.getD (n+1) 0+rest=us.getD (n+2) 0*2^64+us.getD (n+1) 0) (hq:nv (2^64) us/nv (2^64) v<=g) :
  ∃g':Nat,g'<2^64/\nv (2^64) us/nv (2^64) v<=g' /\
   oQ ((((g:Int),((rest:Int),((v.length:Int),((A.length,us.length),(Wd v,()))))),(Wd (A++us++C),())):Gd.D)=some (.inl (((A.length,us.length),(Wd v,((g':Int),()))),(Wd (A++us++C),()))):=by
 have key:=OT (aN1 Bl.pre Bl.F Bi.pre Bi.F AC.pre AC.F Cn.pre Cn.F CX.pre CX.F) (fun s=>s.1.1.toNat)
  (fun s=>∃(g rest:Nat),g<2^64/\rest<2^64/\g*v.getD (n+1) 0+rest=us.getD (n+2) 0*2^64+us.getD (n+1) 0/\nv (2^64) us/nv (2^64) v<=g /\
   s=(((g:Int),((rest:Int),((v.length:Int),((A.length,us.length),(Wd v,()))))),(Wd (A++us++C),())))
  (fun y=>∃g':Nat,g'<2^64/\nv (2^64) us/nv (2^64) v<=g'/\y=.inl (((A.length,us.length),(Wd v,((g':Int),()))),(Wd (A++us++C),()))) ?_
  (((g:Int),((rest:Int),((v.length:Int),((A.length,us.length),(Wd v,()))))),(Wd (A++us++C),())) ⟨g,rest,hg,hr,hinv,hq,rfl⟩
 ·obtain⟨y,hy,g',k1,k2,rfl⟩:=key;exact⟨g',k1,k2,hy⟩
 clear hinv hg hr hq g rest;intro L s hs hL;obtain⟨g,rest,hg,hr,hinv,hq,rfl⟩:=hs;unfold Yh;have hv1:=BZ (by decide) hv (n+1);have hv2:=BZ (by decide) hv n;have hu0:=BZ (by decide) hu n;have g1:(Wd v).getD (n+1) 0=((v.getD (n+1) 0:Nat):Int):=BH v _;have g2:(Wd v).getD n 0=((v.getD n 0:Nat):Int):=BH v _;have g3:=Wb (A:=A) (C:=C) (us:=us) (i:=n) (by omega);have e11:aa .i64 ((v.length:Int)-2)=(n:Int):=by rw[At (by omega)];omega
 have e12:aa .i64 ((v.length:Int)-1)=((n+1:Nat):Int):=by rw[At (by omega)];omega
 have p0:=aAb hg hv2;have e0:decide ((0:Int)<=(n:Int))=true:=decide_eq_true (by omega);have e1:decide ((n:Int)<(v.length:Int))=true:=decide_eq_true (by omega);have e2:decide ((n:Int)<(us.length:Int))=true:=decide_eq_true (by omega);have e3:decide ((0:Int)<=((n+1:Nat):Int))=true:=decide_eq_true (by omega);have e4:decide (((n+1:Nat):Int)<(v.length:Int))=true:=decide_eq_true (by omega);have hlo:g*v.getD n 0%2^64<2^64:=ca _ (by decide);have hlex:=aZy (h:=g*v.getD n 0/2^64) (r:=rest) hlo hu0;rw[show g*v.getD n 0/2^64*2^64+g*v.getD n 0%2^64=g*v.getD n 0 by omega]at hlex;dsimp only;simp only[e11,e12,e0,e1,e2,e3,e4,av,aw,cond_true,Ay,ab,g1,g2,g3,aDw p0,aCD p0,hlex];by_cases hc:g*v.getD n 0<=rest*2^64+us.getD n 0
 ·rw[decide_eq_true hc,cond_true];exact⟨_,rfl,g,hg,hq,rfl⟩
 ·rw[decide_eq_false hc,cond_false];have hdn:=aXT (go (by decide)) (aRA hvl) (aRr hu hlen) hinv hc;have hg1:1<=g:=bl (dq _) hdn;obtain⟨p,rfl⟩:∃p,g=p+1:=⟨g-1,by omega⟩
  have e5:aa .u64 (((p+1:Nat):Int)-1)=(p:Int):=by rw[Dy (by omega)];omega
  have q1:=Xu rest (v.getD (n+1) 0) 0;have q2:=Xv (rest:Int) ((v.getD (n+1) 0:Nat):Int) 0 (by decide);have z0:((0:Nat):Int)=0:=rfl;rw[z0]at q1 q2;simp only[q1,q2,cond_true,e5];by_cases hb:(rest+v.getD (n+1) 0+0)/2^64=0
  ·have e6:((((rest+v.getD (n+1) 0+0)/2^64:Nat):Int)!=0)=false:=by rw[hb];rfl
   rw[e6,cond_false];have hs:(rest+v.getD (n+1) 0+0)%2^64=rest+v.getD (n+1) 0:=by omega
   rw[hs];refine hL _ ⟨p,rest+v.getD (n+1) 0,by omega,by omega,?_,oq hdn,rfl⟩ (by simp only[ab];omega);rw[cm,fw]at hinv;omega
  ·have e6:((((rest+v.getD (n+1) 0+0)/2^64:Nat):Int)!=0)=true:=AI _ hb;rw[e6,cond_true];exact⟨_,rfl,p,by omega,oq hdn,rfl⟩
theorem aUV(A us C v:List Nat){n:Nat}(hvl:v.length=n+2)(hlen:us.length=n+3)(hu:∀x∈us,x<2^64)(hv:∀x∈v,x<2^64)(hn:v.length<=1000000)
  (hlt:nv (2^64) us<nv (2^64) v*2^64) :
  ∃out:List Nat,out.length=us.length/\(∀z∈out,z<2^64)/\nv (2^64) out=nv (2^64) us%nv (2^64) v /\
   bR ((Wd (A++us++C),(A.length,us.length)),(Wd v,()))=some (Wd (A++out++C),((nv (2^64) us/nv (2^64) v:Nat):Int),()):=by
 show ∃out:List Nat,_/\_/\_/\vX Bl.pre Bl.F Bi.pre Bi.F AC.pre AC.F Cn.pre Cn.F CX.pre CX.F oQ eC (Wd (A++us++C),(A.length,us.length)) (Wd v)=_;have hVp:0<nv (2^64) v:=by omega
 have hq64:nv (2^64) us/nv (2^64) v<2^64:=by rw[bv hVp,be];exact hlt
 have hv1:=BZ (by decide) hv (n+1);have hu2:=BZ (by decide) hu (n+2);have hu1:=BZ (by decide) hu (n+1);have hu0:=BZ (by decide) hu n;have CC:∀g:Nat,g<2^64->nv (2^64) us/nv (2^64) v<=g ->
   ∃out:List Nat,out.length=us.length/\(∀z∈out,z<2^64)/\nv (2^64) out=nv (2^64) us%nv (2^64) v /\
    (bif Cn.pre ((Wd (A++us++C),(A.length,us.length)),(Wd v,((g:Int),())))then
     (bif(Cn.F ((Wd (A++us++C),(A.length,us.length)),(Wd v,((g:Int),())))).2.1 then
      (Vx.Ba (eC (((g:Int),((A.length,us.length),(Wd v,()))),((Cn.F ((Wd (A++us++C),(A.length,us.length)),(Wd v,((g:Int),())))).1,()))) fun y5=>
      Vx.A9 y5 (fun y6=>some (y6.2.1,y6.1)) (fun _=>none))
     else some ((Cn.F ((Wd (A++us++C),(A.length,us.length)),(Wd v,((g:Int),())))).1,((g:Int),())))
    else none)=(some (Wd (A++out++C),(((nv (2^64) us/nv (2^64) v:Nat):Int),())):Option (LK.B Fu×DenS J9)):=by
  intro g hg hq;obtain⟨out,o1,o2,o3,o4⟩:=aUT A us C v (by omega) hu hv hn hg;have hpr:Cn.pre ((Wd (A++us++C),(A.length,us.length)),(Wd v,((g:Int),())))=true:=bBe o4;have hfr:Cn.F ((Wd (A++us++C),(A.length,us.length)),(Wd v,((g:Int),())))=(Wd (A++out++C),decide (nv (2^64) us<g*nv (2^64) v),()):=aYE o4;rw[hpr,hfr];rw[cond_true];by_cases hb:nv (2^64) us<g*nv (2^64) v
  ·rw[if_pos hb]at o3;obtain⟨out2,u1,u2,u3,u4⟩:=aVM A C v (k:=us.length) (U:=nv (2^64) us) (by omega) hv hn out g o1 o2 hg o3;refine⟨out2,u1,u2,u3,?_⟩;dsimp only;rw[decide_eq_true hb,cond_true,u4]
  ·rw[if_neg hb,cz]at o3;have h1:nv (2^64) us/nv (2^64) v=g:=by
    have:g<=nv (2^64) us/nv (2^64) v:=by rw[ir hVp];omega
    exact Nat.le_antisymm hq this
   have h2:nv (2^64) out=nv (2^64) us%nv (2^64) v:=by
    have:=ct (nv (2^64) us) (nv (2^64) v);rw[h1,be]at this;omega
   refine⟨out,o1,o2,h2,?_⟩;dsimp only;rw[decide_eq_false hb,cond_false,h1]
 have g1:(Wd v).getD (n+1) 0=((v.getD (n+1) 0:Nat):Int):=BH v _;have g2:=Wb (A:=A) (C:=C) (us:=us) (i:=n+2) (by omega);have g3:=Wb (A:=A) (C:=C) (us:=us) (i:=n+1) (by omega);have e10:aa .i64 ((v.length:Int)-1)=((n+1:Nat):Int):=by rw[At (by omega)];omega
 have e0:decide ((0:Int)<=(v.length:Int))=true:=decide_eq_true (by omega);have e1:decide ((v.length:Int)<(us.length:Int))=true:=decide_eq_true (by omega);have e2:decide ((0:Int)<=((n+1:Nat):Int))=true:=decide_eq_true (by omega);have e3:decide (((n+1:Nat):Int)<(v.length:Int))=true:=decide_eq_true (by omega);have e4:decide (((n+1:Nat):Int)<(us.length:Int))=true:=decide_eq_true (by omega);have evl:v.length=n+2:=hvl;have g2':(Wd (A++us++C)).getD (A.length+v.length) 0=((us.getD (n+2) 0:Nat):Int):=by rw[evl];exact g2
 unfold vX;dsimp only;simp only[Ay,ab,e10,g1,g2',g3,e0,e1,e2,e3,e4,av,cond_true];by_cases hc:us.getD (n+2) 0<v.getD (n+1) 0
 ·have e5:decide (((us.getD (n+2) 0:Nat):Int)<((v.getD (n+1) 0:Nat):Int))=true:=decide_eq_true (by omega);have p0:=aGn hu1 hv1 hc;simp only[e5,cond_true,aOX p0,aMS p0];have hgl:(us.getD (n+2) 0*2^64+us.getD (n+1) 0)/v.getD (n+1) 0<2^64:=by
   rw[bv (by omega)];have:(us.getD (n+2) 0+1)*2^64<=v.getD (n+1) 0*2^64:=bc _ hc;rw[cm,fw]at this;rw[be (2^64)];omega
  have hrl:(us.getD (n+2) 0*2^64+us.getD (n+1) 0)%v.getD (n+1) 0<2^64:=fm (ca _ (by omega)) hv1;have hst:=aXU (go (n:=n) (show 0<2^64 by decide)) (show 0<v.getD (n+1) 0 by omega) (aRA hvl) (aRr hu hlen) hu0;obtain⟨g',k1,k2,k3⟩:=aVL A us C v hvl hlen hu hv hn (by omega) _ _ hgl hrl (by rw[be];exact ct _ _) hst;rw[k3];obtain⟨out,o1,o2,o3,o4⟩:=CC g' k1 k2;exact⟨out,o1,o2,o3,o4⟩
 ·have e5:decide (((us.getD (n+2) 0:Nat):Int)<((v.getD (n+1) 0:Nat):Int))=false:=decide_eq_false (by omega);simp only[e5,cond_false];obtain⟨out,o1,o2,o3,o4⟩:=CC (2^64-1) (by decide) (Nat.le_pred_of_lt hq64);exact⟨out,o1,o2,o3,o4⟩
end VL
end
