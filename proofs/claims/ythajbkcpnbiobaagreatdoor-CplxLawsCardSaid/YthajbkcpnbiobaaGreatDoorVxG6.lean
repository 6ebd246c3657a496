/- Part 6 of the proof. What is proved: symbolic execution of the functions, proved sound; what each function of the program computes, and that every run ends with it; what these functions compute, in plain numbers. Conditions: each theorem bears its own. -/
import Derived.Test.YthajbkcpnbiobaaGreatDoorVxG5
import Derived.IntWalk
set_option linter.all false
set_option exponentiation.threshold 1000000
noncomputable section
open BitVec renaming ofInt->ce,toNat_and->pm,toNat_or->qb
open Bool renaming and_eq_false_iff->lu,and_eq_true->af,and_false->bm,and_self->bc,and_true->cm,eq_iff_iff->ee,false_and->ba,false_or->bt,not_false->bh,not_true->bq,or_comm->jn,or_eq_true->dz,or_false->ca,or_self->br,or_true->bg,true_and->bi,true_or->bb
open Go.IntKind renaming bits->gy,signed->im,wrap->aa
open Int renaming add_zero->lb,eq_ofNat_of_zero_le->cy,le_refl->ob,natCast_nonneg->om,natCast_zero->gr,sub_self->nw,tmod->iu,toNat->ai,toNat_natCast->ae,toNat_zero->bf
open List renaming all_eq_true->kw,append_nil->df,drop->qp,drop_eq_getElem_cons->dv,drop_replicate->kz,drop_zero->kv,getD_cons_succ->oh,getD_cons_zero->og,getD_eq_getElem?_getD->al,getElem?_eq_getElem->ay,getElem?_eq_none->du,getElem?_eq_some_iff->au,getElem?_map->kl,getElem?_of_mem->md,length_cons->fq,length_map->lc,length_nil->ib,length_replicate->fj,length_set->jj,length_take->gj,mem_append->cv,mem_cons->cn,mem_of_mem_drop->kt,mem_of_mem_take->fa,mem_range->ku,nil_append->mi,range->gn,replicate->ar,replicate_succ->jo,replicate_zero->jp,set_append_right->fy,set_cons_zero->jx,set_set->nn,take->kc,take_length->dk,take_of_length_le->cw,take_succ->qk,take_zero->ms
open Nat renaming add_assoc->gh,add_comm->io,add_mul->bw,add_mul_div_left->fg,add_mul_div_right->nu,add_mul_mod_self_left->gw,add_mul_mod_self_right->kp,add_sub_cancel_left->jq,add_zero->dc,div_add_mod->ci,div_div_eq_div_mul->dl,div_eq_of_lt->co,div_le_self->dq,div_lt_iff_lt_mul->bo,div_lt_self->nr,eq_of_testBit_eq->mc,eq_zero_or_pos->bd,le_mul_of_pos_left->ju,le_refl->bj,lt_of_le_of_lt->ao,lt_of_lt_of_le->ak,lt_or_ge->aq,lt_trans->je,lt_trichotomy->gk,min_eq_left->gz,min_le_left->lf,mod_add_div->lj,mod_eq_of_lt->be,mod_lt->bp,mod_mod->qt,mod_mul->mj,mod_two_eq_zero_or_one->kq,mul_add->bl,mul_assoc->av,mul_comm->ap,mul_div_cancel->jf,mul_div_cancel_left->gd,mul_eq_zero->nq,mul_le_mul_left->cq,mul_le_mul_right->aw,mul_lt_mul_of_pos_left->mm,mul_lt_mul_of_pos_right->cr,mul_mod->qc,mul_mod_left->nh,mul_mod_mul_right->dw,mul_mod_right->ko,mul_one->gl,mul_pos->ii,mul_right_comm->jd,mul_zero->ej,one_mul->fb,or_comm->qr,pow_add->az,pow_le_pow_right->ag,pow_lt_pow_iff_right->cp,pow_lt_pow_right->ff,pow_mul->ky,pow_pos->ij,pow_succ->dr,pow_succ'->jb,pow_zero->jm,strongRecOn->nt,sub_add_cancel->jw,sub_self->gq,sub_zero->mp,succ_eq_add_one->ml,testBit_lt_two_pow->nj,testBit_succ->kx,testBit_two_pow->oe,testBit_two_pow_mul_add->ip,two_pow_pos->aj,zero_add->dm,zero_le->dt,zero_mod->ln,zero_mul->fd
namespace Vx
open Go
theorem Ax{I O:Aa}{T:DenS I->Option (DenS O)}{d:DenS O}{x:DenS I}{y:DenS O}(h:T x=some y):(Aj I O T d).pre x=true:=by
 show(T x).isSome=true;rw[h];rfl
theorem Aw{I O:Aa}{T:DenS I->Option (DenS O)}{d:DenS O}{x:DenS I}{y:DenS O}(h:T x=some y):(Aj I O T d).F x=y:=by
 show(T x).getD d=y;rw[h];rfl
theorem Ht{k:LK}{I O:Aa}{T:k.D×DenS I->Option (k.B×DenS O)}{d:k.B×DenS O}{x:k.D×DenS I}{y:k.B×DenS O}(h:T x=some y):(Eo k I O T d).pre x=true:=by
 show(T x).isSome=true;rw[h];rfl
theorem Hr{k:LK}{I O:Aa}{T:k.D×DenS I->Option (k.B×DenS O)}{d:k.B×DenS O}{x:k.D×DenS I}{y:k.B×DenS O}(h:T x=some y):(Eo k I O T d).F x=y:=by
 show(T x).getD d=y;rw[h];rfl
theorem CJ{x y}(h:UZ x=some y):Ao.pre x=true:=Ax h
theorem CF{x y}(h:UZ x=some y):Ao.F x=y:=Aw h
theorem Hl{x y}(h:YQ x=some y):Ar.pre x=true:=Ax h
theorem Hf{x y}(h:YQ x=some y):Ar.F x=y:=Aw h
theorem WJ{x y}(h:YX x=some y):Br.pre x=true:=Ax h
theorem VO{x y}(h:YX x=some y):Br.F x=y:=Aw h
theorem yM{x y}(h:YW x=some y):DD.pre x=true:=Ax h
theorem wS{x y}(h:YW x=some y):DD.F x=y:=Aw h
theorem KJ{x y}(h:UX x=some y):AW.pre x=true:=Ax h
theorem KA{x y}(h:UX x=some y):AW.F x=y:=Aw h
theorem aYk{x y}(h:XU x=some y):DA.pre x=true:=Ax h
theorem aVP{x y}(h:XU x=some y):DA.F x=y:=Aw h
theorem lQ{x y}(h:YS x=some y):AS.pre x=true:=Ax h
theorem kO{x y}(h:YS x=some y):AS.F x=y:=Aw h
theorem lS{x y}(h:Y1 x=some y):B1.pre x=true:=Ax h
theorem kQ{x y}(h:Y1 x=some y):B1.F x=y:=Aw h
theorem aLD{x y}(h:YU x=some y):RO.pre x=true:=Ax h
theorem aJw{x y}(h:YU x=some y):RO.F x=y:=Aw h
theorem aLc{x y}(h:Ta x=some y):AJ.pre x=true:=Ax h
theorem aI6{x y}(h:Ta x=some y):AJ.F x=y:=Aw h
theorem aYg{x y}(h:UG x=some y):AK.pre x=true:=Ax h
theorem aVL{x y}(h:UG x=some y):AK.F x=y:=Aw h
theorem aYh{x y}(h:XP x=some y):Mn.pre x=true:=Ax h
theorem aVM{x y}(h:XP x=some y):Mn.F x=y:=Aw h
theorem aYi{x y}(h:XR x=some y):Ef.pre x=true:=Ax h
theorem aVN{x y}(h:XR x=some y):Ef.F x=y:=Aw h
theorem yD{x y}(h:XS x=some y):BR.pre x=true:=Ax h
theorem wJ{x y}(h:XS x=some y):BR.F x=y:=Aw h
theorem WD{x y}(h:XO x=some y):Bu.pre x=true:=Ax h
theorem VH{x y}(h:XO x=some y):Bu.F x=y:=Aw h
theorem aYn{x y}(h:XZ x=some y):Re.pre x=true:=Ax h
theorem aVS{x y}(h:XZ x=some y):Re.F x=y:=Aw h
theorem aK9{x y}(h:XH x=some y):Fp.pre x=true:=Ax h
theorem aI3{x y}(h:XH x=some y):Fp.F x=y:=Aw h
theorem CU{x y}(h:Td x=some y):Ag.pre x=true:=Ax h
theorem CT{x y}(h:Td x=some y):Ag.F x=y:=Aw h
theorem aYm{x y}(h:XY x=some y):CQ.pre x=true:=Ax h
theorem aVR{x y}(h:XY x=some y):CQ.F x=y:=Aw h
theorem yB{x y}(h:UF x=some y):Cc.pre x=true:=Ax h
theorem wH{x y}(h:UF x=some y):Cc.F x=y:=Aw h
theorem aLg{x y}(h:X5 x=some y):CE.pre x=true:=Ax h
theorem aJa{x y}(h:X5 x=some y):CE.F x=y:=Aw h
theorem Nu{x y}(h:UK x=some y):A8.pre x=true:=Ax h
theorem Nj{x y}(h:UK x=some y):A8.F x=y:=Aw h
theorem aYp{x y}(h:X3 x=some y):Ic.pre x=true:=Ax h
theorem aVU{x y}(h:X3 x=some y):Ic.F x=y:=Aw h
theorem aYo{x y}(h:X0 x=some y):Ux.pre x=true:=Ax h
theorem aVT{x y}(h:X0 x=some y):Ux.F x=y:=Aw h
theorem aLb{x y}(h:XM x=some y):B7.pre x=true:=Ax h
theorem aI5{x y}(h:XM x=some y):B7.F x=y:=Aw h
theorem aYe{x y}(h:XL x=some y):Rb.pre x=true:=Ax h
theorem aVJ{x y}(h:XL x=some y):Rb.F x=y:=Aw h
theorem yF{x y}(h:Tc x=some y):BI.pre x=true:=Ax h
theorem wL{x y}(h:Tc x=some y):BI.F x=y:=Aw h
theorem yN{x y}(h:YY x=some y):Cv.pre x=true:=Ax h
theorem wT{x y}(h:YY x=some y):Cv.F x=y:=Aw h
theorem aYr{x y}(h:X6 x=some y):Rf.pre x=true:=Ax h
theorem aVW{x y}(h:X6 x=some y):Rf.F x=y:=Aw h
theorem lI{x y}(h:UM x=some y):UC.pre x=true:=Ax h
theorem kF{x y}(h:UM x=some y):UC.F x=y:=Aw h
theorem lJ{x y}(h:RS x=some y):B0.pre x=true:=Ax h
theorem kG{x y}(h:RS x=some y):B0.F x=y:=Aw h
theorem WG{x y}(h:Ig x=some y):Cp.pre x=true:=Ax h
theorem VK{x y}(h:Ig x=some y):Cp.F x=y:=Aw h
theorem KH{x y}(h:JY x=some y):BS.pre x=true:=Ax h
theorem Ky{x y}(h:JY x=some y):BS.F x=y:=Aw h
theorem Nt{x y}(h:Ms x=some y):DB.pre x=true:=Ax h
theorem Ni{x y}(h:Ms x=some y):DB.F x=y:=Aw h
theorem WF{x y}(h:Te x=some y):UD.pre x=true:=Ax h
theorem VJ{x y}(h:Te x=some y):UD.F x=y:=Aw h
theorem Gt{x y}(h:RR x=some y):BE.pre x=true:=Ax h
theorem Gr{x y}(h:RR x=some y):BE.F x=y:=Aw h
theorem aLe{x y}(h:UJ x=some y):Ib.pre x=true:=Ax h
theorem aI8{x y}(h:UJ x=some y):Ib.F x=y:=Aw h
theorem lR{x y}(h:YZ x=some y):Cq.pre x=true:=Ax h
theorem kP{x y}(h:YZ x=some y):Cq.F x=y:=Aw h
theorem aYF{x y}(h:Yx x=some y):JT.pre x=true:=Ax h
theorem aWa{x y}(h:Yx x=some y):JT.F x=y:=Aw h
theorem yE{x y}(h:X1 x=some y):Uy.pre x=true:=Ax h
theorem wK{x y}(h:X1 x=some y):Uy.F x=y:=Aw h
theorem aLf{x y}(h:X2 x=some y):Uz.pre x=true:=Ax h
theorem aI9{x y}(h:X2 x=some y):Uz.F x=y:=Aw h
theorem aLa{x y}(h:XJ x=some y):Fq.pre x=true:=Ax h
theorem aI4{x y}(h:XJ x=some y):Fq.F x=y:=Aw h
theorem T6{x y}(h:XQ x=some y):Bv.pre x=true:=Ax h
theorem TL{x y}(h:XQ x=some y):Bv.F x=y:=Aw h
theorem aYM{x y}(h:U0 x=some y):RN.pre x=true:=Ax h
theorem aWh{x y}(h:U0 x=some y):RN.F x=y:=Aw h
theorem yG{x y}(h:X8 x=some y):Fs.pre x=true:=Ax h
theorem wM{x y}(h:X8 x=some y):Fs.F x=y:=Aw h
theorem aYd{x y}(h:XK x=some y):Fr.pre x=true:=Ax h
theorem aVI{x y}(h:XK x=some y):Fr.F x=y:=Aw h
theorem aYL{x y}(h:YP x=some y):E1.pre x=true:=Ax h
theorem aWg{x y}(h:YP x=some y):E1.F x=y:=Aw h
theorem aYs{x y}(h:X7 x=some y):Mo.pre x=true:=Ax h
theorem aVX{x y}(h:X7 x=some y):Mo.F x=y:=Aw h
theorem lL{x y}(h:UT x=some y):Rl.pre x=true:=Ax h
theorem kI{x y}(h:UT x=some y):Rl.F x=y:=Aw h
theorem aLo{x y}(h:Ym x=some y):Rm.pre x=true:=Ax h
theorem aJi{x y}(h:Ym x=some y):Rm.F x=y:=Aw h
theorem aLp{x y}(h:Yn x=some y):Rn.pre x=true:=Ax h
theorem aJj{x y}(h:Yn x=some y):Rn.F x=y:=Aw h
theorem aLq{x y}(h:Yo x=some y):Ro.pre x=true:=Ax h
theorem aJk{x y}(h:Yo x=some y):Ro.F x=y:=Aw h
theorem lK{x y}(h:Ya x=some y):AN.pre x=true:=Ax h
theorem kH{x y}(h:Ya x=some y):AN.F x=y:=Aw h
theorem aYt{x y}(h:Yb x=some y):Eg.pre x=true:=Ax h
theorem aVY{x y}(h:Yb x=some y):Eg.F x=y:=Aw h
theorem aYz{x y}(h:Yp x=some y):Mp.pre x=true:=Ax h
theorem aV4{x y}(h:Yp x=some y):Mp.F x=y:=Aw h
theorem aYA{x y}(h:UU x=some y):Rp.pre x=true:=Ax h
theorem aV5{x y}(h:UU x=some y):Rp.F x=y:=Aw h
theorem aLr{x y}(h:Yq x=some y):Rq.pre x=true:=Ax h
theorem aJl{x y}(h:Yq x=some y):Rq.F x=y:=Aw h
theorem aLs{x y}(h:Yr x=some y):Rr.pre x=true:=Ax h
theorem aJm{x y}(h:Yr x=some y):Rr.F x=y:=Aw h
theorem aLt{x y}(h:Yw x=some y):DC.pre x=true:=Ax h
theorem aJn{x y}(h:Yw x=some y):DC.F x=y:=Aw h
theorem yC{x y}(h:S8 x=some y):Dk.pre x=true:=Ax h
theorem wI{x y}(h:S8 x=some y):Dk.F x=y:=Aw h
theorem aLk{x y}(h:Yf x=some y):BP.pre x=true:=Ax h
theorem aJe{x y}(h:Yf x=some y):BP.F x=y:=Aw h
theorem aLl{x y}(h:Yg x=some y):AV.pre x=true:=Ax h
theorem aJf{x y}(h:Yg x=some y):AV.F x=y:=Aw h
theorem aYj{x y}(h:XT x=some y):EE.pre x=true:=Ax h
theorem aVO{x y}(h:XT x=some y):EE.F x=y:=Aw h
theorem WE{x y}(h:XW x=some y):AU.pre x=true:=Ax h
theorem VI{x y}(h:XW x=some y):AU.F x=y:=Aw h
theorem aYv{x y}(h:Yh x=some y):Cu.pre x=true:=Ht h
theorem aV0{x y}(h:Yh x=some y):Cu.F x=y:=Hr h
theorem aYw{x y}(h:Yi x=some y):CZ.pre x=true:=Ht h
theorem aV1{x y}(h:Yi x=some y):CZ.F x=y:=Hr h
theorem aYx{x y}(h:Yj x=some y):EF.pre x=true:=Ht h
theorem aV2{x y}(h:Yj x=some y):EF.F x=y:=Hr h
theorem aLm{x y}(h:Yk x=some y):Dm.pre x=true:=Ax h
theorem aJg{x y}(h:Yk x=some y):Dm.F x=y:=Aw h
theorem aYy{x y}(h:Yl x=some y):EG.pre x=true:=Ax h
theorem aV3{x y}(h:Yl x=some y):EG.F x=y:=Aw h
theorem aYf{x y}(h:XN x=some y):Rc.pre x=true:=Ax h
theorem aVK{x y}(h:XN x=some y):Rc.F x=y:=Aw h
theorem aYl{x y}(h:XX x=some y):DN.pre x=true:=Ax h
theorem aVQ{x y}(h:XX x=some y):DN.F x=y:=Aw h
theorem aYB{x y}(h:Ys x=some y):Rs.pre x=true:=Ax h
theorem aV6{x y}(h:Ys x=some y):Rs.F x=y:=Aw h
theorem aYC{x y}(h:Yt x=some y):Rt.pre x=true:=Ax h
theorem aV7{x y}(h:Yt x=some y):Rt.F x=y:=Aw h
theorem aYD{x y}(h:Yu x=some y):Mq.pre x=true:=Ax h
theorem aV8{x y}(h:Yu x=some y):Mq.F x=y:=Aw h
theorem lM{x y}(h:Yv x=some y):Dd.pre x=true:=Ax h
theorem kJ{x y}(h:Yv x=some y):Dd.F x=y:=Aw h
theorem yH{x y}(h:UO x=some y):Ie.pre x=true:=Ax h
theorem wN{x y}(h:UO x=some y):Ie.F x=y:=Aw h
theorem aLh{x y}(h:X9 x=some y):If.pre x=true:=Ax h
theorem aJb{x y}(h:X9 x=some y):If.F x=y:=Aw h
theorem aLj{x y}(h:Yd x=some y):Dl.pre x=true:=Ax h
theorem aJd{x y}(h:Yd x=some y):Dl.F x=y:=Aw h
theorem aYu{x y}(h:Ye x=some y):F5.pre x=true:=Ax h
theorem aVZ{x y}(h:Ye x=some y):F5.F x=y:=Aw h
theorem aLu{x y}(h:UV x=some y):Rz.pre x=true:=Ax h
theorem aJo{x y}(h:UV x=some y):Rz.F x=y:=Aw h
theorem aYE{x y}(h:UW x=some y):RA.pre x=true:=Ax h
theorem aV9{x y}(h:UW x=some y):RA.F x=y:=Aw h
theorem aLv{x y}(h:Mv x=some y):Mr.pre x=true:=Ax h
theorem kK{x y}(h:Mv x=some y):Mr.F x=y:=Aw h
theorem aYG{x y}(h:Yy x=some y):RB.pre x=true:=Ax h
theorem aWb{x y}(h:Yy x=some y):RB.F x=y:=Aw h
theorem aYH{x y}(h:RT x=some y):RC.pre x=true:=Ax h
theorem aWc{x y}(h:RT x=some y):RC.F x=y:=Aw h
theorem lN{x y}(h:Yz x=some y):C5.pre x=true:=Ht h
theorem kL{x y}(h:Yz x=some y):C5.F x=y:=Hr h
theorem KI{x y}(h:YA x=some y):F8.pre x=true:=Ht h
theorem Kz{x y}(h:YA x=some y):F8.F x=y:=Hr h
theorem aLw{x y}(h:YB x=some y):F9.pre x=true:=Ht h
theorem aJp{x y}(h:YB x=some y):F9.F x=y:=Hr h
theorem bE{x y}(h:YC x=some y):D4.pre x=true:=Ht h
theorem Z6{x y}(h:YC x=some y):D4.F x=y:=Hr h
theorem aYI{x y}(h:YE x=some y):RD.pre x=true:=Ht h
theorem aWd{x y}(h:YE x=some y):RD.F x=y:=Hr h
theorem WI{x y}(h:RU x=some y):D5.pre x=true:=Ht h
theorem VN{x y}(h:RU x=some y):D5.F x=y:=Hr h
theorem Sz{x y}(h:G2 x=some y):Ga.pre x=true:=Ax h
theorem Sm{x y}(h:G2 x=some y):Ga.F x=y:=Aw h
theorem aLx{x y}(h:YG x=some y):RE.pre x=true:=Ht h
theorem aJq{x y}(h:YG x=some y):RE.F x=y:=Hr h
theorem aYJ{x y}(h:YH x=some y):RF.pre x=true:=Ht h
theorem aWe{x y}(h:YH x=some y):RF.F x=y:=Hr h
theorem yL{x y}(h:Mw x=some y):Gb.pre x=true:=Ax h
theorem wR{x y}(h:Mw x=some y):Gb.F x=y:=Aw h
theorem aLy{x y}(h:YI x=some y):RG.pre x=true:=Ax h
theorem aJr{x y}(h:YI x=some y):RG.F x=y:=Aw h
theorem aYK{x y}(h:YJ x=some y):RH.pre x=true:=Ht h
theorem aWf{x y}(h:YJ x=some y):RH.F x=y:=Hr h
theorem lO{x y}(h:Tg x=some y):RI.pre x=true:=Ax h
theorem kM{x y}(h:Tg x=some y):RI.F x=y:=Aw h
theorem lP{x y}(h:YR x=some y):Dn.pre x=true:=Ax h
theorem kN{x y}(h:YR x=some y):Dn.F x=y:=Aw h
theorem aYq{x y}(h:UL x=some y):D3.pre x=true:=Ax h
theorem aVV{x y}(h:UL x=some y):D3.F x=y:=Aw h
theorem aLd{x y}(h:UH x=some y):Rd.pre x=true:=Ax h
theorem aI7{x y}(h:UH x=some y):Rd.F x=y:=Aw h
theorem SA{x y}(h:U1 x=some y):D6.pre x=true:=Ax h
theorem Sn{x y}(h:U1 x=some y):D6.F x=y:=Aw h
theorem aLE{x y}(h:U2 x=some y):RP.pre x=true:=Ax h
theorem aJx{x y}(h:U2 x=some y):RP.F x=y:=Aw h
theorem aYN{x y}(h:YV x=some y):RQ.pre x=true:=Ax h
theorem aWi{x y}(h:YV x=some y):RQ.F x=y:=Aw h
theorem bD{x y}(h:Tf x=some y):F4.pre x=true:=Ax h
theorem Z5{x y}(h:Tf x=some y):F4.F x=y:=Aw h
theorem aLz{x y}(h:YK x=some y):RJ.pre x=true:=Ax h
theorem aJs{x y}(h:YK x=some y):RJ.F x=y:=Aw h
theorem aLA{x y}(h:YL x=some y):RK.pre x=true:=Ax h
theorem aJt{x y}(h:YL x=some y):RK.F x=y:=Aw h
theorem aLi{x y}(h:Yc x=some y):Rg.pre x=true:=Ax h
theorem aJc{x y}(h:Yc x=some y):Rg.F x=y:=Aw h
theorem WH{x y}(h:JZ x=some y):Rh.pre x=true:=Ax h
theorem VM{x y}(h:JZ x=some y):Rh.F x=y:=Aw h
theorem yI{x y}(h:UP x=some y):Ri.pre x=true:=Ax h
theorem wO{x y}(h:UP x=some y):Ri.F x=y:=Aw h
theorem yJ{x y}(h:UQ x=some y):Rj.pre x=true:=Ax h
theorem wP{x y}(h:UQ x=some y):Rj.F x=y:=Aw h
theorem yK{x y}(h:UR x=some y):F6.pre x=true:=Ax h
theorem wQ{x y}(h:UR x=some y):F6.F x=y:=Aw h
theorem aLB{x y}(h:YM x=some y):RL.pre x=true:=Ax h
theorem aJu{x y}(h:YM x=some y):RL.F x=y:=Aw h
theorem T7{x y}(h:YN x=some y):Gc.pre x=true:=Ax h
theorem TM{x y}(h:YN x=some y):Gc.F x=y:=Aw h
theorem aLC{x y}(h:YO x=some y):RM.pre x=true:=Ax h
theorem aJv{x y}(h:YO x=some y):RM.F x=y:=Aw h
theorem aLn{x y}(h:US x=some y):Rk.pre x=true:=Ax h
theorem aJh{x y}(h:US x=some y):Rk.F x=y:=Aw h
end Vx
namespace Vx
open Go
theorem aMg{a:Int}(n:Nat)(hn:n<=64):AE .u64 a (n:Int)=a/2^n:=by
 unfold AE;rw[Int.fdiv_eq_ediv_of_nonneg]
 ·congr 2;simp[gy];omega
 ·exact Int.pow_nonneg (by omega)
theorem KD{m:Nat}(h:m<2^64):(ce 64 (m:Int)).toNat=m:=by
 rw[BitVec.toNat_ofInt];omega
theorem R4{m n:Nat}(h:m<2^64)(hn:n<=64):Bs .u64 (m:Int) ((2^n-1:Nat):Int)=((m%2^n:Nat):Int):=by
 have h2:2^n<=2^64:=ag (by omega) hn;have h3:0<2^n:=aj n;have hlt:m%2^n<2^n:=bp _ h3;have key:(ce 64 (m:Int) &&& ce 64 ((2^n-1:Nat):Int)).toNat=m%2^n:=by
  rw[pm,KD h,KD (by omega),Nat.and_two_pow_sub_one_eq_mod]
 show IntKind.u64.wrap (((ce 64 (m:Int) &&& ce 64 ((2^n-1:Nat):Int)).toNat:Nat):Int)=_;rw[key];exact IntWalk.u64_in _ (by omega)
theorem SL{n:Nat}(hn:n<=63):AQ .u64 1 (n:Int)=((2^n:Nat):Int):=by
 have h2:2^n<=2^63:=ag (by omega) hn;have:(min (n:Int).toNat IntKind.u64.bits)=n:=by simp[gy];omega
 unfold AQ;rw[this,Int.one_mul];have e:(2:Int)^n=((2^n:Nat):Int):=by simp
 rw[e];refine IntWalk.u64_in _ ⟨om _,?_⟩;have:((2^n:Nat):Int)<=((2^63:Nat):Int):=Int.ofNat_le.2 h2;exact Int.le_trans this (by decide)
end Vx
namespace VL
open Go Vx
def Fm(f:Int):Prop:=0<=f/\f<4
instance (f:Int):Decidable (Fm f):=by unfold Fm;infer_instance
def fW(f:Int):Nat:=if f=0 then 16 else if f=1 then 16 else if f=2 then 32 else 64
def fP(f:Int):Nat:=if f=0 then 11 else if f=1 then 8 else if f=2 then 24 else 53
def fX(f:Int):Nat:=if f=0 then 15 else if f=1 then 127 else if f=2 then 127 else 1023
def BH(f:Int):Ab rowsSh:=((fW f:Int),((fP f:Int),((1-(fX f:Int)),((fX f:Int),()))))
theorem Ct{f:Int}(h:Fm f):f=0∨f=1∨f=2∨f=3:=by
 obtain⟨h1,h2⟩:=h;omega
theorem zD{f:Int}(h:Fm f)(d:Ab rowsSh):k_rows.getD (ai f) d=BH f:=by
 rcases Ct h with rfl|rfl|rfl|rfl<;>rfl
theorem C0{f:Int}(h:Fm f):8<=fP f:=by
 rcases Ct h with rfl|rfl|rfl|rfl<;>decide
theorem Eh{f:Int}(h:Fm f):fP f+5<=fW f:=by
 rcases Ct h with rfl|rfl|rfl|rfl<;>decide
theorem Ea{f:Int}(h:Fm f):fW f<=64:=by
 rcases Ct h with rfl|rfl|rfl|rfl<;>decide
theorem Ix{f:Int}(h:Fm f):fX f<=1023:=by
 rcases Ct h with rfl|rfl|rfl|rfl<;>decide
theorem TG{f:Int}(h:Fm f):2*fX f+1=2^(fW f-fP f)-1:=by
 rcases Ct h with rfl|rfl|rfl|rfl<;>decide
theorem Au{n:Int}(h:-9223372036854775808<=n/\n<9223372036854775808):aa .i64 n=n:=IntWalk.i64_in n ⟨h.1,by omega⟩
theorem DL{n:Int}(h:0<=n/\n<18446744073709551616):aa .u64 n=n:=IntWalk.u64_in n ⟨h.1,by omega⟩
theorem Dv(a n:Nat)(hn:n<=64):AE .u64 (a:Int) (n:Int)=((a/2^n:Nat):Int):=by
 rw[aMg n hn];simp
theorem Ep(m n:Nat)(h:n<=m)(hm:m<=4611686018427387904):aa .i64 ((m:Int)-(n:Int))=((m-n:Nat):Int):=by
 rw[Au (by omega)];omega
theorem IG(m n:Nat):((m:Int)==(n:Int))=(m==n):=by
 rw[ee];simp only[beq_iff_eq];omega
theorem FD(m:Nat):((m:Int)==0)=(m==0):=IG m 0
theorem aXh(m n:Nat):((m:Int)!=(n:Int))=(m !=n):=by
 show(!((m:Int)==(n:Int)))=!(m==n);rw[IG]
theorem TU(m:Nat):((m:Int)!=0)=(m !=0):=aXh m 0
theorem xS(m n:Nat):(decide ((m:Int)<(n:Int)))=decide (m<n):=by
 rw[ee];simp
theorem A6(m:Nat):(decide (0<=(m:Int)))=true:=by simp
def Af(f:Int)(a:Nat):Int:=if Fm f then(if a<2^fW f then 0 else 4)else 2
def eF(f:Int)(a:Nat):Nat:=a/2^(fP f-1)%2^(fW f-fP f)
def mF(f:Int)(a:Nat):Nat:=a%2^(fP f-1)
def sF(f:Int)(a:Nat):Bool:=a/2^(fW f-1)!=0
def A4(f:Int):Nat:=2^(fW f-fP f)-1
def Bj(f:Int)(a:Nat):Nat:=a%2^(fW f-1)
theorem Ge{f:Int}(h:Fm f):UZ (f,())=some (BH f,0,()):=by
 rcases Ct h with rfl|rfl|rfl|rfl<;>kernel_rfl
theorem Ii{f:Int}(h:¬Fm f):UZ (f,())=some ((0,0,0,0,()),2,()):=by
 show pN f=_;unfold pN;have:(decide (f<(0:Int))||decide (f>=(4:Int)))=true:=by
  simp only[Fm]at h;simp only[dz,decide_eq_true_eq];omega
 rw[this];rfl
theorem aUK{f:Int}(h:¬Fm f)(a:Nat):Af f a=2:=by unfold Af;rw[if_neg h]
theorem vK{f:Int}(h:Fm f){a:Nat}(ha:a<2^fW f):Af f a=0:=by unfold Af;rw[if_pos h,if_pos ha]
theorem aUL{f:Int}(h:Fm f){a:Nat}(ha:¬a<2^fW f):Af f a=4:=by unfold Af;rw[if_pos h,if_neg ha]
theorem E4{f:Int}{a:Nat}(h:Af f a=0):Fm f/\a<2^fW f:=by
 unfold Af at h;split at h
 ·split at h
  ·exact⟨by assumption,by assumption⟩
  ·cases h
 ·cases h
theorem vS{a n:Nat}:(a/2^n !=0)=decide (2^n<=a):=by
 rw[ee];simp[Nat.div_eq_zero_iff,aj]
theorem Ih(f:Int)(a:Nat)(ha:a<2^64):YQ (f,(a:Int),())=some (Af f a,()):=by
 show pM Ao.pre Ao.F f a=_;unfold pM;by_cases hf:Fm f
 ·simp only[CJ (Ge hf),CF (Ge hf),cond_true,BH,A6,bb];rw[Dv _ _ (Ea hf),TU,vS];show(bif decide ((fW f:Int)<((64:Nat):Int))&&_ then _ else _)=_;rw[xS];have hw:=Ea hf;by_cases h:a<2^fW f
  ·have:(decide (fW f<64)&&decide (2^fW f<=a))=false:=by simp;intro _;exact h
   rw[this,vK hf h];rfl
  ·have:(decide (fW f<64)&&decide (2^fW f<=a))=true:=by
    simp only[af,decide_eq_true_eq];refine⟨?_,by omega⟩;rcases aq (fW f) 64 with h1|h1
    ·exact h1
    ·have:fW f=64:=by omega
     rw[this]at h;omega
   rw[this,aUL hf h];rfl
 ·simp only[CJ (Ii hf),CF (Ii hf),cond_true,aUK hf];rfl
theorem U3(n:Nat)(hn:n<=63):YX ((n:Int),())=some (((2^n-1:Nat):Int),()):=by
 show pR n=_;unfold pR;have h2:2^n<=2^63:=ag (by omega) hn;have h1:0<2^n:=aj n;rw[A6,cond_true,SL hn];generalize 2^n=c at *
 rw[DL (by omega)];have:(c:Int)-1=((c-1:Nat):Int):=by omega
 rw[this]
theorem sD{f:Int}(hf:Fm f)(a:Nat)(ha:a<2^64):YW (BH f,(a:Int),())=some (sF f a,(eF f a:Int),(mF f a:Int),()):=by
 show pQ Br.pre Br.F (BH f) a=_;unfold pQ;have h1:=C0 hf;have h2:=Eh hf;have h3:=Ea hf;have e1:aa .i64 ((BH f).1-1)=((fW f-1:Nat):Int):=Ep (fW f) 1 (by omega) (by omega);have e2:aa .i64 ((BH f).2.1-1)=((fP f-1:Nat):Int):=Ep (fP f) 1 (by omega) (by omega);have e3:aa .i64 ((BH f).1-(BH f).2.1)=((fW f-fP f:Nat):Int):=Ep (fW f) (fP f) (by omega) (by omega);have p1:=U3 (fW f-fP f) (by omega);have p2:=U3 (fP f-1) (by omega);rw[e1,e2,e3];simp only[A6,cond_true,WJ p1,WJ p2,VO p1,VO p2];rw[Dv _ _ (by omega),Dv _ _ (by omega),R4 (ao (dq _ _) ha) (by omega),R4 ha (by omega),TU];rfl
def BT(f:Int)(a:Nat):Int:=bif eF f a==A4 f&&mF f a==0 then(bif sF f a then 2 else 9)else bif eF f a==A4 f&&mF f a/2^(fP f-2)!=0 then 1 else bif eF f a==A4 f then 0 else bif eF f a==0&&mF f a==0 then(bif sF f a then 5 else 6)else bif eF f a==0 then(bif sF f a then 4 else 7)else(bif sF f a then 3 else 8)
theorem UY{f:Int}{a:Nat}(ha:a<2^64)(h:Af f a=0):UX (f,(a:Int),())=some (BT f a,0,()):=by
 obtain⟨hf,h0⟩:=E4 h;show W0 Ar.pre Ar.F DD.pre DD.F Br.pre Br.F f a=_;unfold W0;have h1:=C0 hf;have h2:=Eh hf;have h3:=Ea hf;have e3:aa .i64 ((BH f).1-(BH f).2.1)=((fW f-fP f:Nat):Int):=Ep (fW f) (fP f) (by omega) (by omega);have e4:aa .i64 ((BH f).2.1-2)=((fP f-2:Nat):Int):=Ep (fP f) 2 (by omega) (by omega);have p0:=Ih f a ha;have p1:=U3 (fW f-fP f) (by omega);have p2:=sD hf a ha;have hr:(decide (0<=f)&&decide (f<((4:Nat):Int)))=true:=by
  simp only[af,decide_eq_true_eq];exact hf
 simp only[zD hf,e3,e4,hr,Hl p0,Hf p0,WJ p1,VO p1,yM p2,wS p2,h,cond_true,A6,bb,bne_self_eq_false,cond_false];rw[Dv _ _ (by omega),IG,FD,FD,TU];unfold BT A4;generalize(eF f a==2^(fW f-fP f)-1)=b1;generalize(mF f a==0)=b2;generalize(mF f a/2^(fP f-2)!=0)=b3;generalize(eF f a==0)=b4;generalize sF f a=b5;cases b1<;>cases b2<;>cases b3<;>cases b4<;>cases b5<;>rfl
theorem sA{f:Int}{a:Nat}(ha:a<2^64)(h:Af f a≠0):UX (f,(a:Int),())=some (0,Af f a,()):=by
 show W0 Ar.pre Ar.F DD.pre DD.F Br.pre Br.F f a=_;unfold W0;have p0:=Ih f a ha;have:(Af f a !=0)=true:=by simpa using h
 simp only[Hl p0,Hf p0,this,cond_true]
theorem aRp{f:Int}(hf:Fm f):XK (f,())=some (((2^(fW f-1):Nat):Int),()):=by
 rcases Ct hf with rfl|rfl|rfl|rfl<;>kernel_rfl
def AY(f:Int)(a:Nat):Int:=bif sF f a then -(Bj f a:Int)else Bj f a
def jL(f:Int)(a b:Nat):Int:=if Af f a=0 then Af f b else Af f a
def nan(f:Int)(a:Nat):Bool:=eF f a==A4 f&&mF f a !=0
def AI(f:Int)(a:Nat):Bool:=nan f a&&mF f a/2^(fP f-2)==0
theorem Vw(f:Int)(a:Nat):(BT f a==1||BT f a==0)=nan f a:=by
 unfold BT nan;simp only[bne];cases eF f a==A4 f<;>cases mF f a==0<;>cases sF f a<;>cases eF f a==0<;>cases mF f a/2^(fP f-2)==0<;>rfl
theorem Tz(f:Int)(a:Nat):(BT f a==0)=AI f a:=by
 unfold BT AI nan;simp only[bne];cases eF f a==A4 f<;>cases hm:mF f a==0<;>cases sF f a<;>cases eF f a==0<;>cases mF f a/2^(fP f-2)==0<;>rfl
def jQ(f:Int)(a b:Nat)(signal:Bool):Int×Int×Int×Unit:=if jL f a b≠0 then(0,0,jL f a b,())else bif nan f a||nan f b then(3,(bif signal then 1 else bif AI f a||AI f b then 1 else 0),0,())else if AY f a<AY f b then(0,0,0,())else if AY f a>AY f b then(2,0,0,())else(1,0,0,())
end VL
namespace VL
open Go Vx
theorem bS{f:Int}{a:Nat}(h:nan f a=false):AI f a=false:=by
 unfold AI;rw[h];rfl
end VL
namespace VL
open Go Vx
theorem aYc{f:Int}(hf:Fm f):2^(fW f-1)=2^(fP f-1)*2^(fW f-fP f):=by
 have h1:=C0 hf;have h2:=Eh hf;rw[←az];congr 1;omega
theorem ZC{f:Int}(hf:Fm f)(a:Nat):Bj f a=mF f a+2^(fP f-1)*eF f a:=by
 unfold Bj mF eF;rw[aYc hf,mj]
theorem aX9{f:Int}{a:Nat}(h:Af f a=0):a=Bj f a+(bif sF f a then 2^(fW f-1)else 0):=by
 obtain⟨hf,h0⟩:=E4 h;have h2:=Eh hf;have e:2^fW f=2*2^(fW f-1):=by rw[←jb];congr 1;omega
 unfold Bj sF;rw[vS];by_cases hc:2^(fW f-1)<=a
 ·rw[decide_eq_true hc];simp only[cond_true];have:a%2^(fW f-1)=a-2^(fW f-1):=by
   rw[Nat.mod_eq_sub_mod hc,be (by omega)]
  omega
 ·rw[decide_eq_false hc];simp only[cond_false];rw[be (by omega)];rfl
theorem Tu{f:Int}(a:Nat):Bj f a<2^(fW f-1):=bp _ (aj _)
theorem kE{f:Int}(hf:Fm f):0<A4 f:=by
 rcases Ct hf with rfl|rfl|rfl|rfl<;>decide
theorem bD7{f:Int}(hf:Fm f)(a:Nat):Bj f a=0↔eF f a=0/\mF f a=0:=by
 rw[ZC hf];have:=aj (fP f-1);constructor
 ·intro h;have h1:2^(fP f-1)*eF f a=0:=by omega
  rcases nq.1 h1 with h2|h2
  ·omega
  ·exact⟨h2,by omega⟩
 ·rintro ⟨h1,h2⟩;rw[h1,h2];rfl
def BD(f:Int):Nat:=2^(fW f-1)-2^(fP f-2)
def bD3(f:Int)(neg:Bool):Nat:=bif neg then 2^(fW f-1)else 0
theorem YT{f:Int}(hf:Fm f):YS (f,())=some ((BD f:Int),0,()):=by
 rcases Ct hf with rfl|rfl|rfl|rfl<;>kernel_rfl
def aYa(f:Int)(a b:Nat)(g:Bool):Nat:=if AY f a=AY f b/\a≠b then bD3 f (!g)else if(AY f b<AY f a/\g=false)∨(AY f a<AY f b/\g=true)then b else a
def v8(f:Int)(a b:Nat):Int:=bif AI f a||AI f b then 1 else 0
def aK6(f:Int)(a b:Nat)(g:Bool):Int×Int×Int×Unit:=if jL f a b≠0 then(0,0,jL f a b,())else bif nan f a&&nan f b then((BD f:Int),v8 f a b,0,())else bif nan f a then((b:Int),v8 f a b,0,())else bif nan f b then((a:Int),v8 f a b,0,())else((aYa f a b g:Int),0,0,())
end VL
namespace VL
open Go Vx
theorem aKT(k:Nat):Nat.testBit 1 k=decide (k=0):=by
 rw[ee];simp[Nat.testBit_one_eq_true_iff_self_eq_zero]
theorem bD0{m n:Nat}(h:m<2^(n+1)):m ^^^ 2^n=if m<2^n then m+2^n else m-2^n:=by
 apply mc;intro i;rw[Nat.testBit_xor,oe];have h2:2^(n+1)=2*2^n:=jb;split
 ·rename_i hm;have:m+2^n=2^n*1+m:=by omega
  rw[this,ip _ hm];by_cases hi:i<n
  ·have:¬n=i:=by omega
   simp[hi,this]
  ·rw[if_neg hi,nj (ak hm (ag (by omega) (by omega)))];rw[aKT];by_cases hn:n=i
   ·subst hn;simp
   ·have:¬i-n=0:=by omega
    simp[hn,this]
 ·rename_i hm;have e:m=2^n*1+(m-2^n):=by omega
  have hr:m-2^n<2^n:=by omega
  rw[e,ip _ hr];have e2:2^n*1+(m-2^n)-2^n=m-2^n:=by omega
  rw[e2];by_cases hi:i<n
  ·have:¬n=i:=by omega
   simp[hi,this]
  ·rw[if_neg hi,nj (x:=m-2^n) (ak hr (ag (by omega) (by omega))),aKT];by_cases hn:n=i
   ·subst hn;simp
   ·have:¬i-n=0:=by omega
    simp[hn,this]
theorem aN9{m n:Nat}(hn:n<=63)(h:m<2^(n+1)):cF .u64 (m:Int) ((2^n:Nat):Int)=((if m<2^n then m+2^n else m-2^n:Nat):Int):=by
 have h1:2^(n+1)<=2^64:=ag (by omega) (by omega);have h2:2^n<2^64:=ff (by omega) (by omega);have h3:2^(n+1)=2*2^n:=jb;have key:(ce 64 (m:Int) ^^^ ce 64 ((2^n:Nat):Int)).toNat=if m<2^n then m+2^n else m-2^n:=by
  rw[BitVec.toNat_xor,KD (by omega),KD h2,bD0 h]
 show IntKind.u64.wrap (((ce 64 (m:Int) ^^^ ce 64 ((2^n:Nat):Int)).toNat:Nat):Int)=_;rw[key];refine DL ⟨om _,?_⟩;split<;>omega
def Cy(f:Int)(s:Bool)(n:Nat):Nat:=n+(bif s then 2^(fW f-1)else 0)
theorem bDP{f:Int}(hf:Fm f):2^fW f=2*2^(fW f-1):=by
 have h2:=Eh hf;rw[←jb];congr 1;omega
theorem kY{f:Int}(hf:Fm f)(s:Bool){n:Nat}(hn:n<2^(fW f-1)):Af f (Cy f s n)=0:=by
 apply vK hf;rw[bDP hf];unfold Cy;cases s<;>simp<;>omega
theorem Wu{f:Int}(s:Bool){n:Nat}(hn:n<2^(fW f-1)):Bj f (Cy f s n)=n:=by
 unfold Bj Cy;cases s
 ·simp only[cond_false,dc];exact be hn
 ·simp only[cond_true,Nat.add_mod_right];exact be hn
theorem aT{f:Int}(s:Bool){n:Nat}(hn:n<2^(fW f-1)):sF f (Cy f s n)=s:=by
 unfold sF Cy;rw[vS];cases s
 ·simp only[cond_false,dc,decide_eq_false_iff_not];omega
 ·simp
theorem Sx{f:Int}{a:Nat}(h:Af f a=0):a=Cy f (sF f a) (Bj f a):=aX9 h
theorem T3{f:Int}{a:Nat}(h:Af f a=0):a<2^64:=by
 obtain⟨hf,h0⟩:=E4 h;exact ak h0 (ag (by omega) (Ea hf))
theorem TD{f:Int}(hf:Fm f)(a:Nat):eF f a=Bj f a/2^(fP f-1):=by
 rw[ZC hf,fg _ _ (aj _)];have:mF f a/2^(fP f-1)=0:=co (bp _ (aj _));omega
theorem Np{f:Int}(hf:Fm f)(a:Nat):mF f a=Bj f a%2^(fP f-1):=by
 rw[ZC hf,gw];exact(be (bp _ (aj _))).symm
theorem aKH{f:Int}(hf:Fm f){a b:Nat}(h:Bj f a=Bj f b):nan f a=nan f b:=by
 unfold nan;rw[TD hf,TD hf b,Np hf,Np hf b,h]
theorem bDg{f:Int}(hf:Fm f){a b:Nat}(h:Bj f a=Bj f b):AI f a=AI f b:=by
 unfold AI;rw[aKH hf h,Np hf,Np hf b,h]
def CO(f:Int):Nat:=2^(fP f-1)*A4 f
theorem aJM{f:Int}(hf:Fm f):CO f+128<=2^(fW f-1):=by
 rcases Ct hf with rfl|rfl|rfl|rfl<;>decide
theorem vU{f:Int}(a:Nat):eF f a<=A4 f:=by
 have:eF f a<2^(fW f-fP f):=bp _ (aj _);unfold A4;omega
theorem aJK{f:Int}(hf:Fm f)(a:Nat):Bj f a=CO f↔eF f a=A4 f/\mF f a=0:=by
 have hp:=aj (fP f-1);constructor
 ·intro h;rw[TD hf,Np hf,h];unfold CO;exact⟨gd _ hp,ko _ _⟩
 ·rintro ⟨h1,h2⟩;rw[ZC hf,h1,h2];unfold CO;omega
def AP(f:Int)(a:Nat):Nat:=Cy f (!sF f a) (Bj f a)
theorem IH{f:Int}(hf:Fm f)(a:Nat):Af f (AP f a)=0:=kY hf _ (Tu a)
theorem aU{f:Int}(a:Nat):Bj f (AP f a)=Bj f a:=Wu _ (Tu a)
theorem TW{f:Int}(a:Nat):sF f (AP f a)=!sF f a:=aT _ (Tu a)
theorem neg_neg{f:Int}{a:Nat}(h:Af f a=0):AP f (AP f a)=a:=by
 unfold AP;rw[Wu _ (Tu a),aT _ (Tu a),Bool.not_not];exact(Sx h).symm
theorem xQ{f:Int}(a:Nat):AY f (AP f a)=-AY f a:=by
 unfold AY;rw[aU,TW];cases sF f a<;>simp
theorem aSc{f:Int}{a:Nat}(h:Af f a=0):YP (f,(a:Int),())=some ((AP f a:Int),0,()):=by
 obtain⟨hf,h0⟩:=E4 h;show pL Ar.pre Ar.F Fr.pre Fr.F f a=_;unfold pL;have h2:=Eh hf;have h3:=Ea hf;have p0:=Ih f a (T3 h);have p1:=aRp hf;simp only[Hl p0,Hf p0,aYd p1,aVI p1,h,cond_true,bne_self_eq_false,cond_false];rw[aN9 (by omega) (by rw[jw (by omega)];exact h0)];have e:(if a<2^(fW f-1)then a+2^(fW f-1)else a-2^(fW f-1))=AP f a:=by
  have hp:=Sx h;have hl:=Tu (f:=f) a;unfold AP;unfold Cy at hp⊢;cases hs:sF f a<;>rw[hs]at hp<;>simp only[cond_true,cond_false,bq,bh]at hp⊢
  ·rw[if_pos (by omega)];omega
  ·rw[if_neg (by omega)];omega
 rw[e]
def aXn(f:Int)(a:Nat)(w:Int):Nat:=bif(BT f a==9&&decide (w>0))||(BT f a==2&&decide (w<0))then a else if AY f a+w>0∨(AY f a+w=0/\w<0)then(AY f a+w).toNat else AP f (-(AY f a+w)).toNat
def bDu(f:Int)(a:Nat)(w:Int):Nat:=bif nan f a then BD f else aXn f a w
def bDt(f:Int)(a:Nat)(w:Int):Int×Int×Int×Unit:=if Af f a≠0 then(0,0,Af f a,())else((bDu f a w:Int),(bif AI f a then 1 else 0),0,())
theorem Hi{f:Int}(hf:Fm f):nan f (BD f)=true/\Af f (BD f)=0:=by
 rcases Ct hf with rfl|rfl|rfl|rfl<;>decide
end VL
namespace VL
open Go Vx
theorem Hj{f:Int}(hf:Fm f)(a:Nat):nan f (AP f a)=nan f a:=aKH hf (aU a)
theorem Ue{f:Int}(hf:Fm f)(a:Nat):AI f (AP f a)=AI f a:=bDg hf (aU a)
end VL
namespace VL
open Go Vx
def nv(B:Nat):List Nat->Nat
 | []=>0
 |x::r=>x+B*nv B r
def Ak:List Nat->List Nat
 | []=>[]
 |x::r=>match Ak r with
  | []=>if x=0 then[]else[x]
  |y::t=>x::y::t
def dg(B:Nat)(n:Nat):List Nat:=if h:n=0∨B<2 then[]else n%B::dg B (n/B)
termination_by n
decreasing_by exact nr (by omega) (by omega)
theorem DP(B:Nat):dg B 0=[]:=by rw[dg];simp
theorem EP{B n:Nat}(hB:2<=B)(hn:0<n):dg B n=n%B::dg B (n/B):=by
 rw[dg];rw[dif_neg (by omega)]
theorem Ks{B:Nat}(hB:2<=B):∀(n:Nat),∀x∈dg B n,x<B:=by
 intro n;induction n using nt with
 |ind n ih=>
  intro x hx;rcases bd n with rfl|hn
  ·rw[DP]at hx;simp at hx
  ·rw[EP hB hn]at hx;rcases cn.1 hx with rfl|hx
   ·exact bp _ (by omega)
   ·exact ih (n/B) (nr hn (by omega)) x hx
theorem lC{B:Nat}(hB:2<=B):∀(n:Nat),nv B (dg B n)=n:=by
 intro n;induction n using nt with
 |ind n ih=>
  rcases bd n with rfl|hn
  ·rw[DP];rfl
  ·rw[EP hB hn];simp only[nv];rw[ih (n/B) (nr hn (by omega))];exact lj n B
theorem aIj{B x v:Nat}(hB:2<=B)(hx:x<B)(h:0<x+B*v):dg B (x+B*v)=x::dg B v:=by
 rw[EP hB h,gw,be hx,fg _ _ (by omega),co hx,dm]
theorem Gv{B:Nat}(hB:2<=B):∀(l:List Nat),(∀x∈l,x<B)->Ak l=dg B (nv B l)
 | [],_=>by simp only[nv];rw[DP];rfl
 |x::r,h=>by
  have ih:=Gv hB r fun y hy=>h y (by simp[hy])
  simp only[Ak,nv]
  rcases bd (nv B r)with h0|h0
  ·rw[ih,h0,DP,ej,dc]
   simp only
   rcases bd x with rfl|hx
   ·rw[DP];rfl
   ·rw[if_neg (by omega)]
    have:=aIj (v:=0) hB (h x (by simp)) (by omega)
    rw[ej,dc,DP]at this
    exact this.symm
  ·have hp:0<B*nv B r:=ii (by omega) h0
   rw[aIj hB (h x (by simp)) (by omega),ih]
   rw[EP hB h0]
theorem Dx:∀(l:List Nat),(Ak l).length<=l.length/\Ak l=l.take (Ak l).length
 | []=>⟨bj _,rfl⟩
 |x::r=>by
  obtain⟨h1,h2⟩:=Dx r
  simp only[Ak]
  cases e:Ak r with
  |nil=>
   simp only
   split
   ·exact⟨by simp,rfl⟩
   ·exact⟨by simp,rfl⟩
  |cons y t=>
   rw[e]at h1 h2
   simp only
   refine⟨by simp at h1⊢;omega,?_⟩
   simp only[fq,List.take_succ_cons]
   congr 1
theorem pY:∀(l:List Nat) (i:Nat),(Ak l).length<=i->l.getD i 0=0
 | [],i,_=>by simp
 |x::r,i,h=>by
  have ih:=pY r
  simp only[Ak]at h
  cases e:Ak r with
  |nil=>
   rw[e]at h ih
   simp only at h
   cases i with
   |zero=>
    split at h
    ·rename_i hx;simp[hx]
    ·simp at h
   |succ i=>simpa using ih i (by simp)
  |cons y t=>
   rw[e]at h ih
   simp only at h
   cases i with
   |zero=>simp at h
   |succ i=>simpa using ih i (by simpa using h)
theorem W4:∀(l:List Nat),0<(Ak l).length->l.getD ((Ak l).length-1) 0≠0
 | [],h=>by simp[Ak]at h
 |x::r,h=>by
  have ih:=W4 r
  simp only[Ak]at h⊢
  cases e:Ak r with
  |nil=>
   rw[e]at h
   simp only at h⊢
   split at h
   ·simp at h
   ·rename_i hx;rw[if_neg hx];simpa using hx
  |cons y t=>
   rw[e]at ih
   simp only[fq]at ih⊢
   have:=ih (by simp)
   simpa using this
def Wd(l:List Nat):List Int:=l.map fun n:Nat=>(n:Int)
theorem AC(l:List Nat):(Wd l).length=l.length:=by simp[Wd]
theorem Cw(l:List Nat)(i:Nat):(Wd l).getD i 0=((l.getD i 0:Nat):Int):=by
 unfold Wd;rw[al,al,kl];cases l[i]?<;>simp
theorem Za(l:List Nat)(n:Nat):(Wd l).take n=Wd (l.take n):=by simp[Wd,List.map_take]
theorem aSG(l:List Nat)(n:Nat):(Wd l).drop n=Wd (l.drop n):=by simp[Wd,List.map_drop]
theorem EJ(l:List Nat)(i n:Nat):(Wd l).set i (n:Int)=Wd (l.set i n):=by simp[Wd,List.map_set]
theorem U4(n:Nat):ar n (0:Int)=Wd (ar n 0):=by simp[Wd]
end VL
namespace VL
open Go Vx
def Ws(l:List Nat):Prop:=(∀x∈l,x<2^64)/\l.length<=1000000
theorem aSp(l:List Nat)(hl:l.length<=1000000)(n:Nat)(hn:n<=l.length)(ht:(Ak l).length<=n):
  gN ((Wd l,((n:Int),())),())=some (.inl ((Wd l,(((Ak l).length:Int),())),())):=by
 have key:=DU aKd (fun x=>x.1.2.1.toNat)
  (fun x=>∃n:Nat,n<=l.length/\(Ak l).length<=n/\x=((Wd l,((n:Int),())),()))
  (fun _=>.inl ((Wd l,(((Ak l).length:Int),())),())) ?_ ((Wd l,((n:Int),())),()) ⟨n,hn,ht,rfl⟩
 ·exact key
 intro L x hx hL;obtain⟨n,hn,ht,rfl⟩:=hx;unfold V0;rcases bd n with rfl|hpos
 ·have e1:decide (((0:Nat):Int)>0)=false:=rfl;simp only[e1,bh,bg,cond_true,ba,cond_false];have:(Ak l).length=0:=by omega
  rw[this]
 ·have e0:aa .i64 ((n:Int)-1)=((n-1:Nat):Int):=Ep n 1 (by omega) (by omega);have e1:decide ((n:Int)>0)=true:=by simp;omega
  have e2:(decide ((0:Int)<=((n-1:Nat):Int))&&decide (((n-1:Nat):Int)<((Wd l).length:Int)))=true:=by
   rw[AC];simp;omega
  simp only[e0,e1,e2,bb,cond_true,bi,ae,Cw,FD];cases hz:(l.getD (n-1) 0==0)with
  |true=>
   simp only[cond_true];refine hL _ ⟨n-1,by omega,?_,rfl⟩ (by simp only[ae];omega);rcases aq (n-1) (Ak l).length with h|h
   ·exfalso;have e:n=(Ak l).length:=by omega
    have:=W4 l (by omega);rw[←e]at this;exact this (by simpa using hz)
   ·exact h
  |false=>
   simp only[cond_false];have:(Ak l).length=n:=by
    rcases aq (n-1) (Ak l).length with h|h
    ·omega
    ·exfalso;have:=pY l (n-1) h;rw[this]at hz;simp at hz
   rw[this]
theorem D7(l:List Nat)(hl:l.length<=1000000):Td (Wd l,())=some (Wd (Ak l),()):=by
 show nM gN (Wd l)=_;unfold nM;have h:=aSp l hl l.length (bj _) (Dx l).1;rw[AC];rw[h];have e:(decide ((0:Int)<=((Ak l).length:Int))&&decide (((Ak l).length:Int)<=((Wd l).length:Int)))=true:=by
  rw[AC];have:=(Dx l).1;simp;omega
 show(bif(decide ((0:Int)<=((Ak l).length:Int))&&decide (((Ak l).length:Int)<=((Wd l).length:Int)))then some (qp (ai 0) (kc (ai ((Ak l).length:Int)) (Wd l)),())else none)=_;rw[e,cond_true,ae,bf,kv,Za];have:=(Dx l).2;rw[←this]
def An(n:Nat):Nat:=if n=0 then 0 else Nat.log2 n+1
theorem Ir(n:Nat):n<2^An n:=by
 unfold An;split
 ·subst_vars;decide
 ·exact Nat.lt_log2_self
theorem R7{n:Nat}(h:n≠0):2^(An n-1)<=n:=by
 unfold An;rw[if_neg h];exact Nat.log2_self_le h
theorem aUA{n k:Nat}(h1:2^k<=n)(h2:n<2^(k+1)):An n=k+1:=by
 have hp:=aj k;have hn:n≠0:=by omega
 have a1:=Ir n;have a2:=R7 hn;have b1:An n-1<k+1:=(cp (by decide)).1 (ao a2 h2);have b2:k<An n:=(cp (by decide)).1 (ao h1 a1);omega
theorem jG{n k:Nat}(h:2^k<=n):An n=k+An (n/2^k):=by
 have hp:=aj k;have hq:0<n/2^k:=Nat.div_pos h hp;have a1:=Ir (n/2^k);have a2:=R7 (n:=n/2^k) (by omega);have hb:0<An (n/2^k):=by unfold An;rw[if_neg (by omega)];omega
 have h1:2^(k+(An (n/2^k)-1))<=n:=by
  rw[az];calc 2^k*2^(An (n/2^k)-1)<=2^k*(n/2^k):=cq _ a2
   _<=n:=Nat.mul_div_le n _
 have h2:n<2^(k+(An (n/2^k)-1)+1):=by
  rw[show k+(An (n/2^k)-1)+1=k+An (n/2^k) by omega,az,ap];exact(bo hp).1 a1
 have:=aUA h1 h2;omega
theorem aJW:∀i:Nat,i<256->(ID.getD i 0).toNat=An i:=by
 have h:((gn 256).all fun i=>decide ((ID.getD i 0).toNat=An i))=true:=by decide +kernel
 intro i hi;have:=kw.1 h i (ku.2 hi);simpa using this
theorem aCp(n:Nat)(hn:n<2^64):X5 ((n:Int),())=some ((An n:Int),()):=by
 have hs:∀m k:Nat,k<=64->AE .u64 (m:Int) (k:Int)=((m/2^k:Nat):Int):=fun m k hk=>Dv m k hk;have Uc:∀m:Nat,AE .u64 (m:Int) 32=((m/2^32:Nat):Int):=fun m=>hs m 32 (by decide);have s16:∀m:Nat,AE .u64 (m:Int) 16=((m/2^16:Nat):Int):=fun m=>hs m 16 (by decide);have s8:∀m:Nat,AE .u64 (m:Int) 8=((m/2^8:Nat):Int):=fun m=>hs m 8 (by decide);have ge:∀m k:Nat,decide ((m:Int)>=(k:Int))=decide (k<=m):=fun m k=>by rw[ee];simp
 have g32:∀m:Nat,decide ((m:Int)>=4294967296)=decide (2^32<=m):=fun m=>ge m (2^32);have g16:∀m:Nat,decide ((m:Int)>=65536)=decide (2^16<=m):=fun m=>ge m (2^16);have g8:∀m:Nat,decide ((m:Int)>=256)=decide (2^8<=m):=fun m=>ge m (2^8);have tab:∀m:Nat,m<256->aa .u8 (m:Int)=(m:Int):=fun m hm=>IntWalk.u8_in _ (by omega);have look:∀(m:Nat) (c:Int) (d:Nat),m<256->c=(d:Int)->d<=56->(bif(decide ((0:Int)<=aa .u8 (m:Int))&&decide (aa .u8 (m:Int)<(256:Int)))then(some (aa .i64 (c+aa .i64 ((UInt8.toNat (ID.getD (ai (aa .u8 (m:Int))) 0):Nat):Int)),()):Option (DenS Fi))else none)=some (((d+An m:Nat):Int),()):=fun m c d hm hc hd=>by
  have e:(decide ((0:Int)<=(m:Int))&&decide ((m:Int)<(256:Int)))=true:=by simp;omega
  have hb:An m<=8:=by
   have:=aJW m hm;rcases bd m with rfl|hpos
   ·decide
   ·have:=R7 (n:=m) (by omega);have h8:An m-1<8:=(cp (a:=2) (by decide)).1 (ao this hm);omega
  rw[tab m hm,e,cond_true,ae,aJW m hm,hc,Au (n:=((An m:Nat):Int)) (by omega),Au (by omega)];rfl
 show nQ n=_;unfold nQ;have CN:∀(k:Nat),2^k<=n->k+An (n/2^k)=An n:=fun k h=>(jG h).symm;have dd:∀a b:Nat,n/2^a/2^b=n/2^(a+b):=fun a b=>by rw[dl,←az]
 have up:∀a b:Nat,2^b<=n/2^a->2^(a+b)<=n:=fun a b h=>by
  rw[az,ap];exact(Nat.le_div_iff_mul_le (aj a)).1 h
 have down:∀a b:Nat,n/2^a<2^b->n<2^(a+b):=fun a b h=>by
  rw[az,ap];exact(bo (aj a)).1 h
 have small:∀a:Nat,n<2^(a+8)->n/2^a<256:=fun a h=>by
  rw[bo (aj a),ap];rw[az]at h;exact h
 simp only[Uc,s16,s8,g32,g16,g8];by_cases h1:2^32<=n
 ·rw[decide_eq_true h1,cond_true];by_cases h2:2^16<=n/2^32
  ·rw[decide_eq_true h2,cond_true];by_cases h3:2^8<=n/2^32/2^16
   ·rw[decide_eq_true h3,cond_true];rw[dd 32 16]at h3;have hm:n/2^32/2^16/2^8=n/2^56:=by rw[dd 32 16,dd 48 8]
    refine(look (n/2^32/2^16/2^8) _ 56 (by rw[hm];exact small 56 hn) rfl (by decide)).trans ?_;rw[hm,CN 56 (up 48 8 h3)]
   ·rw[decide_eq_false h3,cond_false];rw[dd 32 16]at h3;refine(look (n/2^32/2^16) _ 48 (by rw[dd 32 16];exact small 48 (down 48 8 (by omega))) rfl (by decide)).trans ?_;rw[dd 32 16,CN 48 (up 32 16 h2)]
  ·rw[decide_eq_false h2,cond_false];by_cases h3:2^8<=n/2^32
   ·rw[decide_eq_true h3,cond_true];refine(look (n/2^32/2^8) _ 40 (by rw[dd 32 8];exact small 40 (down 32 16 (by omega))) rfl (by decide)).trans ?_;rw[dd 32 8,CN 40 (up 32 8 h3)]
   ·rw[decide_eq_false h3,cond_false];refine(look (n/2^32) _ 32 (small 32 (down 32 8 (by omega))) rfl (by decide)).trans ?_;rw[CN 32 h1]
 ·rw[decide_eq_false h1,cond_false];by_cases h2:2^16<=n
  ·rw[decide_eq_true h2,cond_true];by_cases h3:2^8<=n/2^16
   ·rw[decide_eq_true h3,cond_true];refine(look (n/2^16/2^8) _ 24 (by rw[dd 16 8];exact small 24 (by omega)) rfl (by decide)).trans ?_;rw[dd 16 8,CN 24 (up 16 8 h3)]
   ·rw[decide_eq_false h3,cond_false];refine(look (n/2^16) _ 16 (small 16 (down 16 8 (by omega))) rfl (by decide)).trans ?_;rw[CN 16 h2]
  ·rw[decide_eq_false h2,cond_false];by_cases h3:2^8<=n
   ·rw[decide_eq_true h3,cond_true];refine(look (n/2^8) _ 8 (small 8 (by omega)) rfl (by decide)).trans ?_;rw[CN 8 h3]
   ·rw[decide_eq_false h3,cond_false];refine(look n 0 0 (by omega) rfl (by decide)).trans ?_;rw[dm]
end VL
namespace VL
open Go Vx
theorem Sv(B:Nat):∀(l m:List Nat),nv B (l++m)=nv B l+B^l.length*nv B m
 | [],m=>by simp[nv]
 |x::r,m=>by
  simp only[List.cons_append,nv,fq]
  rw[Sv B r m,dr,bl,gh]
  congr 2
  rw[ap (B^r.length) B,av]
theorem Eb{B:Nat}(hB:2<=B):∀(l:List Nat),(∀x∈l,x<B)->nv B l<B^l.length
 | [],_=>by simp[nv]
 |x::r,h=>by
  have ih:=Eb hB r fun y hy=>h y (by simp[hy])
  have hx:=h x (by simp)
  simp only[nv,fq,dr]
  have:B*nv B r<=B*(B^r.length-1):=cq _ (by omega)
  have hp:0<B^r.length:=ij (by omega)
  rw[Nat.mul_sub]at this
  have h1:B*1<=B*B^r.length:=cq _ hp
  rw[ap (B^r.length) B]
  omega
theorem Sw(B:Nat)(l:List Nat)(i:Nat)(h:i<=l.length):nv B l=nv B (l.take i)+B^i*nv B (l.drop i):=by
 conv=>lhs;rw[←List.take_append_drop i l]
 rw[Sv];simp[h]
theorem KC{B:Nat}(hB:2<=B){l:List Nat}(h:∀x∈l,x<B):nv B (Ak l)=nv B l:=by
 rw[Gv hB l h,lC hB]
theorem Uh{l:List Nat}{x:Nat}(h:x∈Ak l):x∈l:=by
 rw[(Dx l).2]at h;exact fa h
theorem aNY{l:List Nat}{i:Nat}(h:i<(Ak l).length):(Ak l)[i]? = l[i]?:=by
 have:(Ak l)[i]? = (l.take (Ak l).length)[i]?:=congrArg (fun t:List Nat=>t[i]?) (Dx l).2;rw[this,List.getElem?_take_of_lt h]
theorem aUB{a b k:Nat}(ha:a<2^k)(hb:0<b):An (a+2^k*b)=k+An b:=by
 have hp:=aj k;have h1:2^k*1<=2^k*b:=cq _ hb;rw[jG (n:=a+2^k*b) (k:=k) (by omega),fg _ _ hp,co ha,dm]
theorem Du(i:Nat):(2^64)^i=2^(64*i):=by rw[←ky]
theorem aHR{l:List Nat}(h:∀x∈l,x<2^64)(hl:0<(Ak l).length):An (nv (2^64) l)=64*((Ak l).length-1)+An (l.getD ((Ak l).length-1) 0):=by
 have hlast:=W4 l hl;have hle:=(Dx l).1;rw[←KC (by decide) h];have hm:∀x∈Ak l,x<2^64:=fun x hx=>h x (Uh hx);rw[Sw _ (Ak l) ((Ak l).length-1) (by omega),Du];have hd:(Ak l).drop ((Ak l).length-1)=[l.getD ((Ak l).length-1) 0]:=by
  have hlt:(Ak l).length-1<(Ak l).length:=by omega
  rw[dv hlt];have e1:(Ak l).length-1+1=(Ak l).length:=by omega
  rw[e1,List.drop_length];congr 1;have:(Ak l)[(Ak l).length-1]? = l[(Ak l).length-1]?:=aNY hlt;rw[ay hlt]at this;rw[al,←this];rfl
 rw[hd];have hlow:=Eb (B:=2^64) (by decide) ((Ak l).take ((Ak l).length-1)) fun x hx=>hm x (fa hx);rw[gj,gz (by omega),Du]at hlow;have:nv (2^64) [l.getD ((Ak l).length-1) 0]=l.getD ((Ak l).length-1) 0:=by simp[nv]
 rw[this];exact aUB hlow (by omega)
theorem aNZ{l:List Nat}(h:∀x∈l,x<2^64)(h0:(Ak l).length=0):nv (2^64) l=0:=by
 have:Ak l=[]:=List.eq_nil_of_length_eq_zero h0;rw[←KC (by decide) h,this];rfl
theorem CG{l:List Nat}{B:Nat}(hB:0<B)(h:∀x∈l,x<B)(i:Nat):l.getD i 0<B:=by
 rw[al];cases e:l[i]? with
 |none=>exact hB
 |some x=>exact h x (List.mem_of_getElem? e)
theorem aRB(l:List Nat)(hl:Ws l):UK (Wd l,())=some ((An (nv (2^64) l):Int),()):=by
 obtain⟨h,hlen⟩:=hl;show nH Ag.pre Ag.F CE.pre CE.F (Wd l)=_;unfold nH;have p0:=D7 l hlen;have hle:=(Dx l).1;simp only[CU p0,CT p0,cond_true,AC];rcases bd (Ak l).length with h0|h0
 ·rw[h0,aNZ h h0];rfl
 ·have e0:(((Ak l).length:Int)==0)=false:=by rw[FD];exact beq_false_of_ne (by omega)
  have e1:aa .i64 (((Ak l).length:Int)-1)=(((Ak l).length-1:Nat):Int):=Ep (Ak l).length 1 (by omega) (by omega);have e2:(decide ((0:Int)<=(((Ak l).length-1:Nat):Int))&&decide ((((Ak l).length-1:Nat):Int)<((Ak l).length:Int)))=true:=by simp only[af,decide_eq_true_eq];omega
  have e3:(Wd (Ak l)).getD ((Ak l).length-1) 0=((l.getD ((Ak l).length-1) 0:Nat):Int):=by
   rw[Cw];congr 1;rw[al,al];rw[aNY (by omega)]
  have hd:=CG (by decide) h ((Ak l).length-1);have p1:=aCp _ hd;have hb:An (l.getD ((Ak l).length-1) 0)<=64:=by
   rcases bd (l.getD ((Ak l).length-1) 0)with z|z
   ·rw[z];decide
   ·have:=R7 (n:=l.getD ((Ak l).length-1) 0) (by omega);have:An (l.getD ((Ak l).length-1) 0)-1<64:=(cp (a:=2) (by decide)).1 (ao this hd);omega
  rw[e0,e1,e2,cond_false,cond_true,ae,e3];simp only[aLg p1,aJa p1,cond_true];rw[aHR h h0,Au (n:=64*(((Ak l).length-1:Nat):Int)) (by omega),Au (by omega)];congr 2
end VL
namespace VL
open Go Vx
theorem qE(x:Nat):aa .u64 (x:Int)=((x%2^64:Nat):Int):=by
 simp[aa,gy,im];try omega
theorem Gu(x n:Nat)(hn:n<=64):AQ .u64 (x:Int) (n:Int)=((x*2^n%2^64:Nat):Int):=by
 have hm:(min (n:Int).toNat IntKind.u64.bits)=n:=by simp[gy];omega
 unfold AQ;rw[hm];have e:(x:Int)*2^n=((x*2^n:Nat):Int):=by simp
 rw[e];exact qE _
theorem IJ{a b k:Nat}(ha:a<2^k)(h:a+b*2^k<2^64):Aq .u64 (a:Int) ((b*2^k:Nat):Int)=((a+b*2^k:Nat):Int):=by
 have key:(ce 64 (a:Int) ||| ce 64 ((b*2^k:Nat):Int)).toNat=a+b*2^k:=by
  rw[qb,KD (by omega),KD (by omega),ap b,qr,←Nat.two_pow_add_eq_or_of_lt ha];omega
 show IntKind.u64.wrap (((ce 64 (a:Int) ||| ce 64 ((b*2^k:Nat):Int)).toNat:Nat):Int)=_;rw[key];exact DL (by omega)
def Bn(s:Nat):List Nat->List Nat
 | []=>[]
 |x::r=>(x/2^s+(r.getD 0 0%2^s)*2^(64-s))::Bn s r
theorem Ny(s:Nat):∀l,(Bn s l).length=l.length
 | []=>rfl
 |_::r=>by simp[Bn,Ny s r]
theorem bQ(s:Nat):∀(l:List Nat) (i:Nat),i<l.length->(Bn s l)[i]? = some (l.getD i 0/2^s+(l.getD (i+1) 0%2^s)*2^(64-s))
 | [],i,h=>by simp at h
 |x::r,0,_=>by simp[Bn]
 |x::r,i+1,h=>by
  simp only[Bn,List.getElem?_cons_succ]
  rw[bQ s r i (by simpa using h)]
  simp
theorem WC{s:Nat}(hs:s<=64):2^64=2^s*2^(64-s):=by rw[←az];congr 1;omega
theorem mB{s:Nat}(hs:s<=64){x y:Nat}(hx:x<2^64):x/2^s<2^(64-s)/\x/2^s+(y%2^s)*2^(64-s)<2^64:=by
 have hp:=aj s;have h1:x/2^s<2^(64-s):=by
  rw[bo hp,ap,←WC hs];exact hx
 refine⟨h1,?_⟩;have h2:y%2^s+1<=2^s:=bp _ hp;have h3:=aw (2^(64-s)) h2;rw[←WC hs,bw,fb]at h3;omega
theorem aXq{B:Nat}{s:Nat}(hB:B%2^s=0):∀l:List Nat,nv B l%2^s=l.getD 0 0%2^s
 | []=>by simp[nv]
 |x::r=>by
  simp only[nv,og]
  obtain⟨c,hc⟩:=Nat.dvd_of_mod_eq_zero hB
  rw[hc,av,gw]
theorem xX{s:Nat}(hs:s<=64):∀l:List Nat,nv (2^64) (Bn s l)=nv (2^64) l/2^s
 | []=>by simp[Bn,nv]
 |x::r=>by
  have ih:=xX hs r
  simp only[Bn,nv]
  rw[ih]
  have hp:=aj s
  have hm:=aXq (B:=2^64) (s:=s) (by rw[WC hs];exact ko _ _) r
  rw[←hm]
  have hN:nv (2^64) r=2^s*(nv (2^64) r/2^s)+nv (2^64) r%2^s:=(ci _ _).symm
  generalize nv (2^64) r/2^s=q at *
  generalize nv (2^64) r%2^s=t at *
  rw[hN]
  have e:x+2^64*(2^s*q+t)=x+2^s*(2^64*q+2^(64-s)*t):=by
   rw[bl,bl]
   have e1:2^64*(2^s*q)=2^s*(2^64*q):=by rw[←av,←av,ap (2^64) (2^s)]
   have e2:2^64*t=2^s*(2^(64-s)*t):=by rw[←av,←WC hs]
   rw[e1,e2]
  rw[e,fg _ _ hp,ap t]
  omega
end VL
namespace VL
open Go Vx
theorem aMb{O:List Nat}{i v:Nat}(hi:i<O.length)(hv:O[i]? = some v):(O.take i++ar (O.length-i) 0).set i v=O.take (i+1)++ar (O.length-(i+1)) 0:=by
 have e:O.length-i=(O.length-(i+1))+1:=by omega
 have hl:(O.take i).length=i:=by simp;omega
 rw[e,jo,fy _ _ (by omega),hl,gq,jx];rw[qk,hv];simp
theorem aJz{l:List Nat}{i v:Nat}(hi:i<l.length):(l.set i v).getD i 0=v:=by
 rw[al,List.getElem?_set_self hi];rfl
theorem jY(l:List Nat)(w i:Nat):(l.drop w).getD i 0=l.getD (w+i) 0:=by
 rw[al,al,List.getElem?_drop]
theorem yW(n:Nat)(hn:n<=1000000000):BK .i64 (n:Int) 64=((n/64:Nat):Int):=by
 unfold BK;have e:(n:Int).tdiv 64=((n/64:Nat):Int):=rfl;rw[e,Au (by omega)]
theorem aSh(l:List Nat)(hl:l.length<=1000000)(n:Nat)(hn:n<=l.length)(ht:(Ak l).length<=n):
  gI (((),((n:Int),())),(Wd l,()))=some (.inl (((),(((Ak l).length:Int),())),(Wd l,()))):=by
 have key:=DU aJ5 (fun x=>x.1.2.1.toNat)
  (fun x=>∃n:Nat,n<=l.length/\(Ak l).length<=n/\x=(((),((n:Int),())),(Wd l,())))
  (fun _=>.inl (((),(((Ak l).length:Int),())),(Wd l,()))) ?_ (((),((n:Int),())),(Wd l,())) ⟨n,hn,ht,rfl⟩
 ·exact key
 intro L x hx hL;obtain⟨n,hn,ht,rfl⟩:=hx;unfold VR;rcases bd n with rfl|hpos
 ·have e1:decide (((0:Nat):Int)>0)=false:=rfl;simp only[e1,bh,bg,cond_true,ba,cond_false];have:(Ak l).length=0:=by omega
  rw[this]
 ·have e0:aa .i64 ((n:Int)-1)=((n-1:Nat):Int):=Ep n 1 (by omega) (by omega);have e1:decide ((n:Int)>0)=true:=by simp;omega
  have e2:(decide ((0:Int)<=((n-1:Nat):Int))&&decide (((n-1:Nat):Int)<((Wd l).length:Int)))=true:=by
   rw[AC];simp;omega
  simp only[e0,e1,e2,bb,cond_true,bi,ae,Cw,FD];cases hz:(l.getD (n-1) 0==0)with
  |true=>
   simp only[cond_true];refine hL _ ⟨n-1,by omega,?_,rfl⟩ (by simp only[ae];omega);rcases aq (n-1) (Ak l).length with h|h
   ·exfalso;have e:n=(Ak l).length:=by omega
    have:=W4 l (by omega);rw[←e]at this;exact this (by simpa using hz)
   ·exact h
  |false=>
   simp only[cond_false];have:(Ak l).length=n:=by
    rcases aq (n-1) (Ak l).length with h|h
    ·omega
    ·exfalso;have:=pY l (n-1) h;rw[this]at hz;simp at hz
   rw[this]
theorem aCe(l:List Nat)(hl:l.length<=1000000):XM (Wd l,())=some (Wd (Ak l),()):=by
 show mP gI (Wd l)=_;unfold mP;have h:=aSh l hl l.length (bj _) (Dx l).1;rw[AC];rw[h];have e:(decide ((0:Int)<=((Ak l).length:Int))&&decide (((Ak l).length:Int)<=((Wd l).length:Int)))=true:=by
  rw[AC];have:=(Dx l).1;simp;omega
 show(bif(decide ((0:Int)<=((Ak l).length:Int))&&decide (((Ak l).length:Int)<=((Wd l).length:Int)))then some (kc (ai ((Ak l).length:Int)) (Wd l),())else none)=_;rw[e,cond_true,ae,Za];have:=(Dx l).2;rw[←this]
theorem aSo(a:List Nat)(ha:∀x∈a,x<2^64)(hlen:a.length<=1000000)(w s:Nat)(hs:s<64)(hw:w<=a.length)(i:Nat)(hi:i<=(a.drop w).length):
  gM ((((a.drop w).length:Int),(Wd a,((w:Int),((s:Int),((i:Int),((),())))))),(Wd ((Bn s (a.drop w)).take i++ar ((Bn s (a.drop w)).length-i) 0),()))=some (.inl (((),()),(Wd (Bn s (a.drop w)),()))):=by
 have key:=DU (aKc Ag.pre Ag.F) (fun x=>(a.drop w).length-x.1.2.2.2.2.1.toNat)
  (fun x=>∃i:Nat,i<=(a.drop w).length/\x=((((a.drop w).length:Int),(Wd a,((w:Int),((s:Int),((i:Int),((),())))))),(Wd ((Bn s (a.drop w)).take i++ar ((Bn s (a.drop w)).length-i) 0),())))
  (fun _=>.inl (((),()),(Wd (Bn s (a.drop w)),()))) ?_ _ ⟨i,hi,rfl⟩
 ·exact key
 intro L x hx hL;obtain⟨i,hi,rfl⟩:=hx;unfold VZ;have hdl:(a.drop w).length=a.length-w:=by simp
 have hol:=Ny s (a.drop w);rcases aq i (a.drop w).length with hlt|hge
 ·have e1:decide ((i:Int)<((a.drop w).length:Int))=true:=by simp;omega
  have e2:aa .i64 ((w:Int)+(i:Int))=((w+i:Nat):Int):=by rw[Au (by omega)];omega
  have e3:(decide ((0:Int)<=((w+i:Nat):Int))&&decide (((w+i:Nat):Int)<((Wd a).length:Int)))=true:=by
   rw[AC];simp only[af,decide_eq_true_eq];omega
  have e4:decide ((0:Int)<=(s:Int))=true:=by simp
  have houtl:((Bn s (a.drop w)).take i++ar ((Bn s (a.drop w)).length-i) 0).length=(a.drop w).length:=by simp;omega
  generalize hout:(Bn s (a.drop w)).take i++ar ((Bn s (a.drop w)).length-i) 0=out at houtl⊢;have e5:(decide ((0:Int)<=(i:Int))&&decide ((i:Int)<((Wd out).length:Int)))=true:=by
   rw[AC];simp only[af,decide_eq_true_eq];omega
  have e6:aa .i64 (((w+i:Nat):Int)+1)=((w+i+1:Nat):Int):=by rw[Au (by omega)];omega
  have e7:aa .i64 ((i:Int)+1)=((i+1:Nat):Int):=by rw[Au (by omega)];omega
  have e8:aa .i64 (64-(s:Int))=((64-s:Nat):Int):=Ep 64 s (by omega) (by omega);have hx:=CG (by decide) ha (w+i);have hget:=bQ s (a.drop w) i hlt;rw[jY,jY,←gh]at hget;have hnext:=fun v (hv:(Bn s (a.drop w))[i]? = some v)=>aMb (by omega) hv;rw[hout]at hnext;have e9:∀v:Nat,(decide ((0:Int)<=(i:Int))&&decide ((i:Int)<((Wd (out.set i v)).length:Int)))=true:=fun v=>by
   rw[AC,jj];simp only[af,decide_eq_true_eq];omega
  simp only[e1,e2,e3,e4,e5,e6,e7,e8,cond_true,ae,Cw,Dv _ s (by omega),EJ,e9];rcases aq (w+i+1) a.length with h1|h1
  ·have f1:decide (((w+i+1:Nat):Int)<((Wd a).length:Int))=true:=by rw[AC];exact decide_eq_true (by omega)
   have f2:decide ((0:Int)<=((w+i+1:Nat):Int))=true:=decide_eq_true (by omega);have f3:decide ((0:Int)<=((64-s:Nat):Int))=true:=decide_eq_true (by omega);simp only[f1,f2,f3,bc,cond_true];have hw2:=mB (s:=s) (y:=a.getD (w+i+1) 0) (by omega) hx;have g1:a.getD (w+i+1) 0*2^(64-s)%2^64=(a.getD (w+i+1) 0%2^s)*2^(64-s):=by
    rw[WC (s:=s) (by omega),dw]
   rw[aJz (by omega),Gu _ _ (by omega),g1,IJ hw2.1 hw2.2,EJ,nn,hnext _ hget];exact hL _ ⟨i+1,by omega,rfl⟩ (by simp only[ae];omega)
  ·have f1:decide (((w+i+1:Nat):Int)<((Wd a).length:Int))=false:=by rw[AC];exact decide_eq_false (by omega)
   have hz:a.getD (w+i+1) 0=0:=by rw[al,du h1];rfl
   rw[hz,ln,fd,dc]at hget;simp only[f1,cond_false];rw[hnext _ hget];exact hL _ ⟨i+1,by omega,rfl⟩ (by simp only[ae];omega)
 ·have hie:i=(a.drop w).length:=by omega
  subst hie;have e1:decide (((a.drop w).length:Int)<((a.drop w).length:Int))=false:=by simp
  simp only[e1,cond_false];have:(Bn s (a.drop w)).take (a.drop w).length++ar ((Bn s (a.drop w)).length-(a.drop w).length) 0=Bn s (a.drop w):=by
   rw[←hol,dk,gq,jp,df]
  rw[this]
theorem rX(l:List Nat)(hl:Ws l)(n:Nat)(hn:n<=100000000):Tc (Wd l,(n:Int),())=some (Wd (dg (2^64) (nv (2^64) l/2^n)),()):=by
 obtain⟨h,hlen⟩:=hl;show nL Ag.pre Ag.F gM (Wd l) n=_;unfold nL;have p0:=D7 l hlen;have hB:2<=2^64:=by decide
 have hle:=(Dx l).1;have hm:∀x∈Ak l,x<2^64:=fun x hx=>h x (Uh hx);have hv:=KC hB h;have hsplit:2^n=(2^64)^(n/64)*2^(n%64):=by rw[Du,←az];congr 1;omega
 simp only[CU p0,CT p0,cond_true,AC,yW n (by omega)];rcases aq (n/64) (Ak l).length with h1|h1
 ·have e1:decide (((n/64:Nat):Int)>=((Ak l).length:Int))=false:=by simp;omega
  have e2:aa .i64 (((Ak l).length:Int)-((n/64:Nat):Int))=(((Ak l).drop (n/64)).length:Int):=by
   rw[Ep _ _ (by omega) (by omega)];simp
  have hdl:((Ak l).drop (n/64)).length<=1000000:=by simp;omega
  have e3:(decide ((0:Int)<=(((Ak l).drop (n/64)).length:Int))&&decide ((((Ak l).drop (n/64)).length:Int)*8<=140737488355328))=true:=by
   simp only[af,decide_eq_true_eq];omega
  have e4:iu (n:Int) 64=((n%64:Nat):Int):=rfl;have hw:=aSo (Ak l) hm (by omega) (n/64) (n%64) (bp _ (by decide)) (by omega) 0 (dt _);rw[ms,mi,mp,Ny]at hw;rw[e1,e2,e3,cond_false,cond_true,ae,e4,U4,AC,fj];rw[show((0:Nat):Int)=0 from rfl]at hw;rw[hw];have hos:∀x∈Bn (n%64) ((Ak l).drop (n/64)),x<2^64:=fun x hx=>by
   obtain⟨i,hi⟩:=md hx;have hil:i<((Ak l).drop (n/64)).length:=by rw[←Ny (n%64)];exact(au.1 hi).1
   rw[bQ _ _ i hil]at hi;cases hi;exact(mB (s:=n%64) (by omega) (CG (by decide) (fun y hy=>hm y (kt hy)) i)).2
  have p1:=D7 (Bn (n%64) ((Ak l).drop (n/64))) (by rw[Ny];exact hdl);show(bif Ag.pre (Wd (Bn (n%64) ((Ak l).drop (n/64))),())then some (Ag.F (Wd (Bn (n%64) ((Ak l).drop (n/64))),()))else none)=_;rw[CU p1,CT p1,cond_true,Gv hB _ hos,xX (by omega)];have hd:nv (2^64) ((Ak l).drop (n/64))=nv (2^64) l/(2^64)^(n/64):=by
   rw[←hv,Sw _ (Ak l) (n/64) (by omega)];have hlow:=Eb hB ((Ak l).take (n/64)) fun x hx=>hm x (fa hx);rw[gj,gz (by omega)]at hlow;rw[fg _ _ (ij (by decide)),co hlow,dm]
  rw[hd,dl,←hsplit];rfl
 ·have e1:decide (((n/64:Nat):Int)>=((Ak l).length:Int))=true:=by simp;omega
  rw[e1,cond_true];have hz:nv (2^64) l/2^n=0:=by
   rw[←hv];have:=Eb hB (Ak l) hm;apply co;refine ak this ?_;rw[Du];exact ag (by decide) (by omega)
  rw[hz,DP];rfl
theorem aSg(a:List Nat)(ha:∀x∈a,x<2^64)(hlen:a.length<=1000000)(w s:Nat)(hs:s<64)(hw:w<=a.length)(i:Nat)(hi:i<=(a.drop w).length):
  gH ((((a.drop w).length:Int),(Wd a,((w:Int),((s:Int),((i:Int),((),())))))),(Wd ((Bn s (a.drop w)).take i++ar ((Bn s (a.drop w)).length-i) 0),()))=some (.inl (((),()),(Wd (Bn s (a.drop w)),()))):=by
 have key:=DU (aJ4 B7.pre B7.F Ag.pre Ag.F) (fun x=>(a.drop w).length-x.1.2.2.2.2.1.toNat)
  (fun x=>∃i:Nat,i<=(a.drop w).length/\x=((((a.drop w).length:Int),(Wd a,((w:Int),((s:Int),((i:Int),((),())))))),(Wd ((Bn s (a.drop w)).take i++ar ((Bn s (a.drop w)).length-i) 0),())))
  (fun _=>.inl (((),()),(Wd (Bn s (a.drop w)),()))) ?_ _ ⟨i,hi,rfl⟩
 ·exact key
 intro L x hx hL;obtain⟨i,hi,rfl⟩:=hx;unfold VQ;have hdl:(a.drop w).length=a.length-w:=by simp
 have hol:=Ny s (a.drop w);rcases aq i (a.drop w).length with hlt|hge
 ·have e1:decide ((i:Int)<((a.drop w).length:Int))=true:=by simp;omega
  have e2:aa .i64 ((w:Int)+(i:Int))=((w+i:Nat):Int):=by rw[Au (by omega)];omega
  have e3:(decide ((0:Int)<=((w+i:Nat):Int))&&decide (((w+i:Nat):Int)<((Wd a).length:Int)))=true:=by
   rw[AC];simp only[af,decide_eq_true_eq];omega
  have e4:decide ((0:Int)<=(s:Int))=true:=by simp
  have houtl:((Bn s (a.drop w)).take i++ar ((Bn s (a.drop w)).length-i) 0).length=(a.drop w).length:=by simp;omega
  generalize hout:(Bn s (a.drop w)).take i++ar ((Bn s (a.drop w)).length-i) 0=out at houtl⊢;have e5:(decide ((0:Int)<=(i:Int))&&decide ((i:Int)<((Wd out).length:Int)))=true:=by
   rw[AC];simp only[af,decide_eq_true_eq];omega
  have e6:aa .i64 (((w+i:Nat):Int)+1)=((w+i+1:Nat):Int):=by rw[Au (by omega)];omega
  have e7:aa .i64 ((i:Int)+1)=((i+1:Nat):Int):=by rw[Au (by omega)];omega
  have e8:aa .i64 (64-(s:Int))=((64-s:Nat):Int):=Ep 64 s (by omega) (by omega);have hx:=CG (by decide) ha (w+i);have hget:=bQ s (a.drop w) i hlt;rw[jY,jY,←gh]at hget;have hnext:=fun v (hv:(Bn s (a.drop w))[i]? = some v)=>aMb (by omega) hv;rw[hout]at hnext;have e9:∀v:Nat,(decide ((0:Int)<=(i:Int))&&decide ((i:Int)<((Wd (out.set i v)).length:Int)))=true:=fun v=>by
   rw[AC,jj];simp only[af,decide_eq_true_eq];omega
  simp only[e1,e2,e3,e4,e5,e6,e7,e8,cond_true,ae,Cw,Dv _ s (by omega),EJ,e9];rcases aq (w+i+1) a.length with h1|h1
  ·have f1:decide (((w+i+1:Nat):Int)<((Wd a).length:Int))=true:=by rw[AC];exact decide_eq_true (by omega)
   have f2:decide ((0:Int)<=((w+i+1:Nat):Int))=true:=decide_eq_true (by omega);have f3:decide ((0:Int)<=((64-s:Nat):Int))=true:=decide_eq_true (by omega);simp only[f1,f2,f3,bc,cond_true];have hw2:=mB (s:=s) (y:=a.getD (w+i+1) 0) (by omega) hx;have g1:a.getD (w+i+1) 0*2^(64-s)%2^64=(a.getD (w+i+1) 0%2^s)*2^(64-s):=by
    rw[WC (s:=s) (by omega),dw]
   rw[aJz (by omega),Gu _ _ (by omega),g1,IJ hw2.1 hw2.2,EJ,nn,hnext _ hget];exact hL _ ⟨i+1,by omega,rfl⟩ (by simp only[ae];omega)
  ·have f1:decide (((w+i+1:Nat):Int)<((Wd a).length:Int))=false:=by rw[AC];exact decide_eq_false (by omega)
   have hz:a.getD (w+i+1) 0=0:=by rw[al,du h1];rfl
   rw[hz,ln,fd,dc]at hget;simp only[f1,cond_false];rw[hnext _ hget];exact hL _ ⟨i+1,by omega,rfl⟩ (by simp only[ae];omega)
 ·have hie:i=(a.drop w).length:=by omega
  subst hie;have e1:decide (((a.drop w).length:Int)<((a.drop w).length:Int))=false:=by simp
  simp only[e1,cond_false];have:(Bn s (a.drop w)).take (a.drop w).length++ar ((Bn s (a.drop w)).length-(a.drop w).length) 0=Bn s (a.drop w):=by
   rw[←hol,dk,gq,jp,df]
  rw[this]
theorem aRq(l:List Nat)(hl:Ws l)(n:Nat)(hn:n<=100000000):XL (Wd l,(n:Int),())=some (Wd (dg (2^64) (nv (2^64) l/2^n)),()):=by
 obtain⟨h,hlen⟩:=hl;show mO B7.pre B7.F Ag.pre Ag.F gH (Wd l) n=_;unfold mO;have p0:=D7 l hlen;have hB:2<=2^64:=by decide
 have hle:=(Dx l).1;have hm:∀x∈Ak l,x<2^64:=fun x hx=>h x (Uh hx);have hv:=KC hB h;have hsplit:2^n=(2^64)^(n/64)*2^(n%64):=by rw[Du,←az];congr 1;omega
 simp only[CU p0,CT p0,cond_true,AC,yW n (by omega)];rcases aq (n/64) (Ak l).length with h1|h1
 ·have e1:decide (((n/64:Nat):Int)>=((Ak l).length:Int))=false:=by simp;omega
  have e2:aa .i64 (((Ak l).length:Int)-((n/64:Nat):Int))=(((Ak l).drop (n/64)).length:Int):=by
   rw[Ep _ _ (by omega) (by omega)];simp
  have hdl:((Ak l).drop (n/64)).length<=1000000:=by simp;omega
  have e3:(decide ((0:Int)<=(((Ak l).drop (n/64)).length:Int))&&decide ((((Ak l).drop (n/64)).length:Int)*8<=140737488355328))=true:=by
   simp only[af,decide_eq_true_eq];omega
  have e4:iu (n:Int) 64=((n%64:Nat):Int):=rfl;have hw:=aSg (Ak l) hm (by omega) (n/64) (n%64) (bp _ (by decide)) (by omega) 0 (dt _);rw[ms,mi,mp,Ny]at hw;rw[e1,e2,e3,cond_false,cond_true,ae,e4,U4,AC,fj];rw[show((0:Nat):Int)=0 from rfl]at hw;rw[hw];have hos:∀x∈Bn (n%64) ((Ak l).drop (n/64)),x<2^64:=fun x hx=>by
   obtain⟨i,hi⟩:=md hx;have hil:i<((Ak l).drop (n/64)).length:=by rw[←Ny (n%64)];exact(au.1 hi).1
   rw[bQ _ _ i hil]at hi;cases hi;exact(mB (s:=n%64) (by omega) (CG (by decide) (fun y hy=>hm y (kt hy)) i)).2
  have p1:=aCe (Bn (n%64) ((Ak l).drop (n/64))) (by rw[Ny];exact hdl);show(bif B7.pre (Wd (Bn (n%64) ((Ak l).drop (n/64))),())then some (B7.F (Wd (Bn (n%64) ((Ak l).drop (n/64))),()))else none)=_;rw[aLb p1,aI5 p1,cond_true,Gv hB _ hos,xX (by omega)];have hd:nv (2^64) ((Ak l).drop (n/64))=nv (2^64) l/(2^64)^(n/64):=by
   rw[←hv,Sw _ (Ak l) (n/64) (by omega)];have hlow:=Eb hB ((Ak l).take (n/64)) fun x hx=>hm x (fa hx);rw[gj,gz (by omega)]at hlow;rw[fg _ _ (ij (by decide)),co hlow,dm]
  rw[hd,dl,←hsplit];rfl
 ·have e1:decide (((n/64:Nat):Int)>=((Ak l).length:Int))=true:=by simp;omega
  rw[e1,cond_true];have hz:nv (2^64) l/2^n=0:=by
   rw[←hv];have:=Eb hB (Ak l) hm;apply co;refine ak this ?_;rw[Du];exact ag (by decide) (by omega)
  rw[hz,DP];rfl
end VL
namespace VL
open Go Vx
theorem Cm(a b:Nat)(h:a+b<2^62):aa .i64 ((a:Int)+(b:Int))=((a+b:Nat):Int):=by rw[Au (by omega)];omega
theorem Cb(a:Nat)(h:a<2^62):aa .i64 ((a:Int)+1)=((a+1:Nat):Int):=by rw[Au (by omega)];omega
theorem Cn(a:Nat)(h:a<2^56):aa .i64 (64*(a:Int))=((64*a:Nat):Int):=by rw[Au (by omega)];omega
theorem Co(a:Nat)(h:a<2^56):aa .i64 ((a:Int)*64)=((64*a:Nat):Int):=by rw[Au (by omega)];omega
theorem BZ(m n:Nat)(h:n<=m/\m<2^62):aa .i64 ((m:Int)-(n:Int))=((m-n:Nat):Int):=by rw[Au (by omega)];omega
theorem Bt(m:Nat)(h:1<=m/\m<2^62):aa .i64 ((m:Int)-1)=((m-1:Nat):Int):=by rw[Au (by omega)];omega
theorem Ca(a b:Nat)(h:a<b):decide ((a:Int)<(b:Int))=true:=decide_eq_true (by omega)
theorem B9(a b:Nat)(h:b<=a):decide ((a:Int)<(b:Int))=false:=decide_eq_false (by omega)
theorem Ci(a b:Nat)(h:a<=b):decide ((a:Int)<=(b:Int))=true:=decide_eq_true (by omega)
theorem Ch(a b:Nat)(h:b<a):decide ((a:Int)<=(b:Int))=false:=decide_eq_false (by omega)
theorem Cg(a b:Nat)(h:b<a):decide ((a:Int)>(b:Int))=true:=decide_eq_true (by omega)
theorem B8(a b:Nat)(h:a<=b):decide ((a:Int)>(b:Int))=false:=decide_eq_false (by omega)
theorem Ce(a b:Nat)(h:b<=a):decide ((a:Int)>=(b:Int))=true:=decide_eq_true (by omega)
theorem Cd(a b:Nat)(h:a<b):decide ((a:Int)>=(b:Int))=false:=decide_eq_false (by omega)
theorem Ck(a:Nat)(h:0<a):decide ((0:Int)<(a:Int))=true:=decide_eq_true (by omega)
theorem Cj(a:Nat)(h:a=0):decide ((0:Int)<(a:Int))=false:=decide_eq_false (by omega)
theorem Cf(a:Nat)(h:0<a):decide ((a:Int)>0)=true:=decide_eq_true (by omega)
theorem B6(a:Nat)(h:a=0):decide ((a:Int)>0)=false:=decide_eq_false (by omega)
theorem w6(a:Nat):decide ((a:Int)<0)=false:=decide_eq_false (by omega)
theorem BW(a:Nat)(h:a=0):((a:Int)==0)=true:=by rw[FD];simp[h]
theorem Bg(a:Nat)(h:a≠0):((a:Int)==0)=false:=by rw[FD];simp[h]
theorem BB(a:Nat)(h:a≠0):((a:Int)!=0)=true:=by rw[TU];simp[h]
theorem B5(a:Nat)(h:a=0):((a:Int)!=0)=false:=by rw[TU];simp[h]
def pd(B:Nat):Nat->Nat->List Nat
 |0,_=>[]
 |k+1,v=>v%B::pd B k (v/B)
theorem FG(B:Nat):∀k v,(pd B k v).length=k
 |0,_=>rfl
 |k+1,v=>by simp[pd,FG B k]
theorem T4{B:Nat}(hB:0<B):∀k v,∀x∈pd B k v,x<B
 |0,_,x,hx=>by simp[pd]at hx
 |k+1,v,x,hx=>by
  simp only[pd,cn]at hx
  rcases hx with rfl|hx
  ·exact bp _ hB
  ·exact T4 hB k _ x hx
theorem aK3{B:Nat}(hB:0<B):∀(l:List Nat),(∀x∈l,x<B)->l=pd B l.length (nv B l)
 | [],_=>rfl
 |x::r,h=>by
  have hx:=h x (by simp)
  simp only[fq,pd,nv]
  rw[gw,be hx,fg _ _ hB,co hx,dm,←aK3 hB r fun y hy=>h y (by simp[hy])]
theorem lG{B:Nat}(hB:0<B){l:List Nat}{k v:Nat}(h:∀x∈l,x<B)(hl:l.length=k)(hv:nv B l=v):l=pd B k v:=by
 have:=aK3 hB l h;rw[hl,hv]at this;exact this
theorem T5{B:Nat}(hB:0<B):∀k v,v<B^k->nv B (pd B k v)=v
 |0,v,h=>by simp at h;subst h;rfl
 |k+1,v,h=>by
  simp only[pd,nv]
  rw[T5 hB k (v/B) (by rw[bo hB,←dr];exact h)]
  exact lj v B
theorem yA(B:Nat):∀k v i,i<k->(pd B k v).getD i 0=v/B^i%B
 |0,_,_,h=>by omega
 |k+1,v,0,_=>by simp[pd]
 |k+1,v,i+1,h=>by
  simp only[pd,oh]
  rw[yA B k (v/B) i (by omega),dl,←jb]
theorem aK5(B:Nat):∀k,pd B k 0=ar k 0
 |0=>rfl
 |k+1=>by simp[pd,aK5 B k,jo]
theorem aX(B:Nat):∀(l:List Nat) (i x:Nat),i<l.length->nv B (l.set i x)+B^i*l.getD i 0=nv B l+B^i*x
 | [],_,_,h=>by simp at h
 |y::r,0,x,_=>by simp[nv];omega
 |y::r,i+1,x,h=>by
  have:=aX B r i x (by simpa using h)
  simp only[List.set_cons_succ,nv,oh,jb]
  rw[av,av,gh,gh,←bl,←bl,this]
theorem aMa{B:Nat}{l:List Nat}(h:∀x∈l,x<B){i v:Nat}(hv:v<B):∀x∈l.set i v,x<B:=fun x hx=>by
 rcases List.mem_or_eq_of_mem_set hx with h1|h1
 ·exact h x h1
 ·rw[h1];exact hv
theorem Sa{B:Nat}(hB:2<=B)(n:Nat):Ak (dg B n)=dg B n:=by
 rw[Gv hB _ (Ks hB n),lC hB]
theorem xY(B:Nat)(l:List Nat)(i:Nat)(h:i<l.length):nv B (l.take (i+1))=nv B (l.take i)+B^i*l.getD i 0:=by
 have hs:=Sw B (l.take (i+1)) i (by simp;omega);rw[hs,List.take_take,gz (by omega)];congr 2;rw[List.drop_take,jq,al];rw[dv h,ay h];show l[i]+B*0=l[i];rw[ej,dc]
theorem aN2{x:Nat}(h:0<x):∃t k,x=2^t*(2*k+1):=by
 induction x using nt with
 |ind x ih=>
  rcases kq x with h0|h1
  ·obtain⟨t,k,e⟩:=ih (x/2) (by omega) (by omega);refine⟨t+1,k,?_⟩;rw[dr,ap (2^t) 2,av,←e];omega
  ·exact⟨0,x/2,by simp;omega⟩
theorem aXr{t k n:Nat}:(2^t*(2*k+1))%2^n=0↔n<=t:=by
 constructor
 ·intro h;rcases aq t n with hlt|hge
  ·exfalso;have e:n=t+(n-t-1)+1:=by omega
   rw[e,gh,az,Nat.mul_mod_mul_left,dr]at h;have hp:=aj t;have h2:(2*k+1)%(2^(n-t-1)*2)=0:=by
    rcases nq.1 h with h|h
    ·omega
    ·exact h
   have:(2*k+1)%2=0:=by
    have:=Nat.mod_mod_of_dvd (2*k+1) (show 2 ∣ 2^(n-t-1)*2 from⟨_,ap _ _⟩);rw[h2]at this;omega
   omega
  ·exact hge
 ·intro h;have e:t=n+(t-n):=by omega
  rw[e,az,av];exact ko _ _
theorem aUm{t k:Nat}(h:2^t*(2*k+1)<2^64):2^t*(2*k+1) &&& (2^64-2^t*(2*k+1))=2^t:=by
 have hp:=aj t;have ht:t<64:=by
  have:2^t*1<=2^t*(2*k+1):=cq _ (by omega);exact(cp (a:=2) (by decide)).1 (by omega)
 have hz:2^t*(2*k)+(2^t-1)+1=2^t*(2*k+1):=by rw[bl,gl];omega
 have hb:∀i,(2^64-2^t*(2*k+1)).testBit i=(decide (i<64)&&!(2^t*(2*k)+(2^t-1)).testBit i):=fun i=>by
  rw[←hz,Nat.testBit_two_pow_sub_succ (by omega)]
 apply mc;intro i;rw[Nat.testBit_and,hb,oe];have h1:(2^t*(2*k+1)).testBit i=(decide (t<=i)&&(2*k+1).testBit (i-t)):=by
  have:=ip (2*k+1) hp i;rw[dc]at this;rw[this];by_cases hi:i<t
  ·simp[hi];omega
  ·simp[hi];omega
 rw[h1,ip (2*k) (show 2^t-1<2^t by omega) i];rcases gk i t with hi|hi|hi
 ·simp[show ¬t<=i by omega,show ¬t=i by omega]
 ·subst hi;simp[ht]
 ·have e:i-t=(i-t-1)+1:=by omega
  simp only[show ¬i<t by omega,if_false,show ¬t=i by omega,decide_false];rw[e,kx,kx,show(2*k+1)/2=k by omega,show 2*k/2=k by omega];cases k.testBit (i-t-1)<;>simp
theorem aUl{a b:Nat}(ha:a<2^64)(hb:b<2^64):Bs .u64 (a:Int) (b:Int)=((a &&& b:Nat):Int):=by
 have key:(ce 64 (a:Int) &&& ce 64 (b:Int)).toNat=a &&& b:=by
  rw[pm,KD ha,KD hb]
 show IntKind.u64.wrap (((ce 64 (a:Int) &&& ce 64 (b:Int)).toNat:Nat):Int)=_;rw[key];have:=Nat.and_le_left (n:=a) (m:=b);exact DL (by omega)
theorem bB{a b:Nat}(ha:a<2^64)(hb:b<2^64):Aq .u64 (a:Int) (b:Int)=((a ||| b:Nat):Int):=by
 have key:(ce 64 (a:Int) ||| ce 64 (b:Int)).toNat=a ||| b:=by
  rw[qb,KD ha,KD hb]
 show IntKind.u64.wrap (((ce 64 (a:Int) ||| ce 64 (b:Int)).toNat:Nat):Int)=_;rw[key];have:=Nat.or_lt_two_pow ha hb;exact DL (by omega)
theorem deb:∀t:Nat,t<64->aa .i64 (k_deb.getD (2^t*285870213051353865%2^64/2^58) 0)=(t:Int):=by
 have h:((gn 64).all fun t=>decide (aa .i64 (k_deb.getD (2^t*285870213051353865%2^64/2^58) (0:Int))=(t:Int)))=true:=by decide +kernel
 intro t ht;have:=kw.1 h t (ku.2 ht);simpa using this
theorem sE{t k:Nat}(h:2^t*(2*k+1)<2^64):YY (((2^t*(2*k+1):Nat):Int),())=some ((t:Int),()):=by
 have hp:=aj t;have h1:2^t*1<=2^t*(2*k+1):=cq _ (by omega);have ht:t<64:=(cp (a:=2) (by decide)).1 (by omega);have han:=aUm h;show pS ((2^t*(2*k+1):Nat):Int)=_;generalize hx:2^t*(2*k+1)=x at *
 unfold pS;try dsimp only
 have e1:aa .u64 ((0:Int)-(x:Int))=((2^64-x:Nat):Int):=by
  have:∀y:Int,aa .u64 y=y%18446744073709551616:=fun y=>by
   simp[aa,gy,im]
  rw[this];omega
 have e2:aa .u64 (((2^t:Nat):Int)*285870213051353865)=((2^t*285870213051353865%2^64:Nat):Int):=qE (2^t*285870213051353865);have e3:AE .u64 ((2^t*285870213051353865%2^64:Nat):Int) 58=((2^t*285870213051353865%2^64/2^58:Nat):Int):=Dv _ 58 (by decide);have e4:2^t*285870213051353865%2^64/2^58<64:=by omega
 have e5:(decide ((0:Int)<=((2^t*285870213051353865%2^64/2^58:Nat):Int))&&decide (((2^t*285870213051353865%2^64/2^58:Nat):Int)<(64:Nat)))=true:=by
  rw[decide_eq_true (by omega),decide_eq_true (by omega)];rfl
 rw[e1,aUl h (by omega),han,e2,e3,e5,aL9,cond_true,Bg x (by omega),cond_false,ae,deb t ht]
end VL
namespace VL
open Go Vx
def Dw(n:Nat):List Int:=Wd (dg (2^64) n)
theorem aU2(n:Nat)(h:(dg (2^64) n).length<=1000000):Ws (dg (2^64) n):=⟨Ks (by decide) n,h⟩
theorem C8{B:Nat}(hB:2<=B):∀(k n:Nat),n<B^k->(dg B n).length<=k
 |0,n,h=>by simp at h;subst h;rw[DP];simp
 |k+1,n,h=>by
  rcases bd n with rfl|hn
  ·rw[DP];simp
  ·rw[EP hB hn]
   have:=C8 hB k (n/B) (by rw[bo (by omega),←dr];exact h)
   simp;omega
theorem ZT{B:Nat}(hB:2<=B)(n:Nat):n<B^(dg B n).length:=by
 have:=Eb hB _ (Ks hB n);rwa [lC hB]at this
theorem aVc{x i t k r n:Nat}(hx:x=2^t*(2*k+1))(ht:t<64):((2^64)^i*(x+2^64*r))%2^n=0↔n<=64*i+t:=by
 have e:(2^64)^i*(x+2^64*r)=2^(64*i+t)*(2*(k+2^(64-t-1)*r)+1):=by
  have h1:2^64=2^t*(2^(64-t-1)*2):=by rw[←dr,←az];congr 1;omega
  rw[Du,hx,az,av];congr 1;rw[h1,av,←bl];congr 1;rw[av,Nat.mul_left_comm];omega
 rw[e];exact aXr
theorem aSq(a:List Nat)(ha:∀x∈a,x<2^64)(hlen:a.length<=1000000)(n:Nat)(hn:n<=1000000000)(i:Nat)(hi:i<=a.length)(hz:nv (2^64) (a.take i)=0):
  gO (((a.length:Int),(Wd a,((n:Int),((i:Int),())))),())=some (if nv (2^64) a=0 then .inl ((),())else .inr ((decide (nv (2^64) a%2^n=0),()),())):=by
 have key:=DU (aKe Ag.pre Ag.F Cv.pre Cv.F) (fun x=>a.length-x.1.2.2.2.1.toNat)
  (fun x=>∃i:Nat,i<=a.length/\nv (2^64) (a.take i)=0/\x=(((a.length:Int),(Wd a,((n:Int),((i:Int),())))),()))
  (fun _=>if nv (2^64) a=0 then .inl ((),())else .inr ((decide (nv (2^64) a%2^n=0),()),())) ?_ _ ⟨i,hi,hz,rfl⟩
 ·exact key
 intro L x hx hL;obtain⟨i,hi,hz,rfl⟩:=hx;unfold V1;rcases aq i a.length with hlt|hge
 ·simp(disch:=omega) only[Cm,Cb,Cn,BZ,Bt,Co,Ca,B9,Ci,Ch,Cg,B8,Ce,Cd,Ck,Cj,Cf,B6,A6,BW,Bg,BB,B5,ae,bf,cond_true,cond_false,bc,bi,cm,ba,bm,bq,bh,br,bb,bg,bt,ca,AC,Cw];have hxl:=CG (by decide) ha i;rcases bd (a.getD i 0)with h0|h0
  ·simp(disch:=omega) only[Cm,Cb,Cn,BZ,Bt,Co,Ca,B9,Ci,Ch,Cg,B8,Ce,Cd,Ck,Cj,Cf,B6,A6,BW,Bg,BB,B5,ae,bf,cond_true,cond_false,bc,bi,cm,ba,bm,bq,bh,br,bb,bg,bt,ca];refine hL _ ⟨i+1,by omega,?_,rfl⟩ (by simp only[ae];omega);rw[xY _ _ _ hlt,hz,h0,ej]
  ·obtain⟨t,k,e⟩:=aN2 h0;have ht:t<64:=by
    have hp:=aj t;have h1:2^t*1<=2^t*(2*k+1):=cq _ (by omega);exact(cp (a:=2) (by decide)).1 (by omega)
   have p0:=sE (t:=t) (k:=k) (by omega);rw[←e]at p0;have hv:nv (2^64) a=(2^64)^i*(a.getD i 0+2^64*nv (2^64) (a.drop (i+1))):=by
    rw[Sw _ a i hi,hz,dm,dv hlt];simp only[nv];rw[al,ay hlt];rfl
   have hne:nv (2^64) a≠0:=by
    rw[hv];have:0<(2^64)^i:=ij (by decide);exact Nat.ne_of_gt (ii this (by omega))
   have hd:=aVc (i:=i) (r:=nv (2^64) (a.drop (i+1))) (n:=n) e ht;rw[←hv]at hd;simp(disch:=omega) only[Cm,Cb,Cn,BZ,Bt,Co,Ca,B9,Ci,Ch,Cg,B8,Ce,Cd,Ck,Cj,Cf,B6,A6,BW,Bg,BB,B5,ae,bf,cond_true,cond_false,bc,bi,cm,ba,bm,bq,bh,br,bb,bg,bt,ca,yN p0,wT p0,if_neg hne];have:decide (((64*i+t:Nat):Int)>=(n:Int))=decide (nv (2^64) a%2^n=0):=by
    rw[ee,decide_eq_true_eq,decide_eq_true_eq,hd];omega
   rw[this]
 ·have e:i=a.length:=by omega
  subst e;rw[dk]at hz;simp(disch:=omega) only[Cm,Cb,Cn,BZ,Bt,Co,Ca,B9,Ci,Ch,Cg,B8,Ce,Cd,Ck,Cj,Cf,B6,A6,BW,Bg,BB,B5,ae,bf,cond_true,cond_false,bc,bi,cm,ba,bm,bq,bh,br,bb,bg,bt,ca,if_pos hz]
theorem aRH(l:List Nat)(hl:Ws l)(n:Nat)(hn:n<=1000000000):X6 (Wd l,(n:Int),())=some (decide (nv (2^64) l%2^n=0),()):=by
 obtain⟨h,hlen⟩:=hl;show nR Ag.pre Ag.F Cv.pre Cv.F gO (Wd l) n=_;unfold nR;have p0:=D7 l hlen;have hm:∀x∈Ak l,x<2^64:=fun x hx=>h x (Uh hx);have hle:=(Dx l).1;have hw:=aSq (Ak l) hm (by omega) n hn 0 (dt _) rfl;rw[KC (by decide) h]at hw;simp only[CU p0,CT p0,cond_true,AC];rw[show((0:Nat):Int)=0 from rfl]at hw;rw[hw];by_cases h0:nv (2^64) l=0
 ·rw[if_pos h0,h0,ln];rfl
 ·rw[if_neg h0]
def Nn(v n:Nat):Nat:=if v%2^n=0 then v/2^n else v/2^n/2*2+1
theorem aKZ(w:Nat):w ||| 1=w/2*2+1:=by
 apply mc;intro i;rw[Nat.testBit_or];cases i with
 |zero=>simp[Nat.testBit_zero]
 |succ i=>
  rw[kx,kx,kx,show(w/2*2+1)/2=w/2 by omega,show 1/2=0 by rfl];simp
theorem aRG(l:List Nat)(hl:Ws l)(n:Nat)(hn:n<=100000000):UM (Wd l,(n:Int),())=some (Dw (Nn (nv (2^64) l) n),0,()):=by
 show nN Rb.pre Rb.F BI.pre BI.F Rf.pre Rf.F (Wd l) n=_;unfold nN;have p0:=aRq l hl n hn;have p1:=aRH l hl n (by omega);simp only[w6,cond_false,aYe p0,aVJ p0,aYr p1,aVW p1,cond_true,AC];unfold Nn;by_cases h0:nv (2^64) l%2^n=0
 ·rw[if_pos h0,decide_eq_true h0];rfl
 ·rw[if_neg h0,decide_eq_false h0];generalize nv (2^64) l/2^n=q;rcases bd q with rfl|hq
  ·have e:Dw (0/2*2+1)=[1]:=by
    show Wd (dg (2^64) 1)=[1]
    rw[EP (by decide) (by decide),DP];rfl
   rw[e,DP];rfl
  ·have hB:2<=2^64:=by decide
   have e:Dw (q/2*2+1)=Wd ((q%2^64/2*2+1)::dg (2^64) (q/2^64)):=by
    show Wd (dg (2^64) (q/2*2+1))=_;rw[EP hB (by omega)];have e1:(q/2*2+1)%2^64=q%2^64/2*2+1:=by omega
    have e2:(q/2*2+1)/2^64=q/2^64:=by omega
    rw[e1,e2]
   have e2:Aq .u64 ((q%2^64:Nat):Int) 1=((q%2^64/2*2+1:Nat):Int):=by
    have:=bB (a:=q%2^64) (b:=1) (by omega) (by decide);rw[aKZ]at this;exact this
   rw[e,EP hB hq];simp(disch:=omega) only[Cm,Cb,Cn,BZ,Bt,Co,Ca,B9,Ci,Ch,Cg,B8,Ce,Cd,Ck,Cj,Cf,B6,A6,BW,Bg,BB,B5,ae,bf,cond_true,cond_false,bc,bi,cm,ba,bm,bq,bh,br,bb,bg,bt,ca,fq,Cw,og,e2,EJ,jx]
theorem aCi(l:List Nat)(hl:Ws l)(n:Nat)(hn:n<=100000000):Ms (Wd l,(n:Int),())=some (Dw (nv (2^64) l/2^n),0,()):=by
 show m8 BI.pre BI.F (Wd l) n=_;unfold m8;have p0:=rX l hl n hn;simp only[w6,cond_false,yF p0,wL p0,cond_true];rfl
end VL
namespace VL
open Go Vx
theorem aWk{l:List Nat}{i j v:Nat}(h:i≠j):(l.set i v).getD j 0=l.getD j 0:=by
 rw[al,al,List.getElem?_set_ne h]
theorem aWH{out:List Nat}{K V k s x:Nat}(hs:s<64)(ho:out=pd (2^64) K V)(hk:k+1<K)(hV:V<2^(64*k+s))(hx:x<2^64):
  (out.getD k 0<2^s)/\(out.getD k 0+x%2^(64-s)*2^s<2^64)/\((out.set k (out.getD k 0+x%2^(64-s)*2^s)).set (k+1) (x/2^(64-s))=pd (2^64) K (V+2^(64*k+s)*x)):=by
 have hB:0<2^64:=by decide
 have hps:=aj s;have hpk:=aj (64*k);have hlen:out.length=K:=by rw[ho,FG]
 have hc:out.getD k 0=V/(2^64)^k%2^64:=by rw[ho,yA _ _ _ _ (by omega)]
 have hc2:V/(2^64)^k<2^s:=by
  rw[Du,bo hpk,ap,←az];exact hV
 have hc1:out.getD (k+1) 0=0:=by
  rw[ho,yA _ _ _ _ hk,Du];have:V<2^(64*(k+1)):=ak hV (ag (by decide) (by omega));rw[co this]
 have h64:2^64=2^(64-s)*2^s:=by rw[←az];congr 1;omega
 have hs64:2^s<=2^64:=ag (by decide) (by omega);have hce:V/(2^64)^k%2^64=V/(2^64)^k:=be (by omega);have hcl:out.getD k 0<2^s:=by rw[hc,hce];exact hc2
 have hp1:=aj (64-s);have hm:x%2^(64-s)+1<=2^(64-s):=bp _ hp1;have hm2:=aw (2^s) hm;rw[←h64,bw,fb]at hm2;have hsum:out.getD k 0+x%2^(64-s)*2^s<2^64:=by omega
 refine⟨hcl,hsum,?_⟩;have hall:∀y∈out,y<2^64:=by rw[ho];exact T4 hB _ _
 have hxd:x/2^(64-s)<2^64:=ao (dq _ _) hx;refine lG hB (aMa (aMa hall hsum) hxd) (by simp[hlen]) ?_;have g1:=aX (2^64) out k (out.getD k 0+x%2^(64-s)*2^s) (by omega);have g2:=aX (2^64) (out.set k (out.getD k 0+x%2^(64-s)*2^s)) (k+1) (x/2^(64-s)) (by rw[jj];omega);rw[aWk (by omega),hc1,ej,dc]at g2;have hVK:V<(2^64)^K:=by
  rw[Du];exact ak hV (ag (by decide) (by omega))
 have hnv:nv (2^64) out=V:=by rw[ho,T5 hB _ _ hVK]
 rw[hnv,bl]at g1;rw[g2];have hx2:2^(64*k+s)*x=(2^64)^k*(x%2^(64-s)*2^s)+(2^64)^(k+1)*(x/2^(64-s)):=by
  have hdm:=ci x (2^(64-s));generalize x/2^(64-s)=q at *
  generalize x%2^(64-s)=r at *
  rw[az 2 (64*k) s,←Du,show(2^64)^(k+1)=(2^64)^k*2^64 from dr _ _,av ((2^64)^k),av ((2^64)^k),←bl,←hdm];congr 1;rw[bl,ap r,io];congr 1;rw[←av,ap (2^s),←h64]
 omega
theorem aSs(a:List Nat)(ha:∀x∈a,x<2^64)(hlen:a.length<=1000000)(w s:Nat)(hs:s<64)(hw:w<=10000000)(i:Nat)(hi:i<=a.length):
  gQ (((a.length:Int),(Wd a,((w:Int),((s:Int),((i:Int),((),())))))),(Wd (pd (2^64) (w+a.length+1) (2^(64*w+s)*nv (2^64) (a.take i))),()))=some (.inl (((),()),(Wd (pd (2^64) (w+a.length+1) (2^(64*w+s)*nv (2^64) a)),()))):=by
 have key:=DU (aKg Ag.pre Ag.F) (fun x=>a.length-x.1.2.2.2.2.1.toNat)
  (fun x=>∃i:Nat,i<=a.length/\x=(((a.length:Int),(Wd a,((w:Int),((s:Int),((i:Int),((),())))))),(Wd (pd (2^64) (w+a.length+1) (2^(64*w+s)*nv (2^64) (a.take i))),())))
  (fun _=>.inl (((),()),(Wd (pd (2^64) (w+a.length+1) (2^(64*w+s)*nv (2^64) a)),()))) ?_ _ ⟨i,hi,rfl⟩
 ·exact key
 intro L x hx hL;obtain⟨i,hi,rfl⟩:=hx;unfold V3;rcases aq i a.length with hlt|hge
 ·have hxl:=CG (by decide) ha i;have ht:=Eb (B:=2^64) (by decide) (a.take i) fun x hx=>ha x (fa hx);rw[gj,gz (by omega),Du]at ht;have hV:2^(64*w+s)*nv (2^64) (a.take i)<2^(64*(w+i)+s):=by
   have e:64*(w+i)+s=(64*w+s)+64*i:=by omega
   rw[e,az _ (64*w+s)];exact mm ht (aj _)
  have hnext:=xY (2^64) a i hlt;have hgo:=hL (((a.length:Int),(Wd a,((w:Int),((s:Int),(((i+1:Nat):Int),((),())))))),(Wd (pd (2^64) (w+a.length+1) (2^(64*w+s)*nv (2^64) (a.take (i+1)))),())) ⟨i+1,by omega,rfl⟩ (by simp only[ae];omega);rw[hnext,bl,←av,show 2^(64*w+s)*(2^64)^i=2^(64*(w+i)+s) by rw[Du,←az];congr 1;omega]at hgo;generalize hout:pd (2^64) (w+a.length+1) (2^(64*w+s)*nv (2^64) (a.take i))=out at *
  obtain⟨q1,q2,q3⟩:=aWH (k:=w+i) hs hout.symm (by omega) hV hxl;have hol:out.length=w+a.length+1:=by rw[←hout,FG]
  have g1:a.getD i 0*2^s%2^64=(a.getD i 0%2^(64-s))*2^s:=by
   have:2^64=2^(64-s)*2^s:=by rw[←az];congr 1;omega
   rw[this,dw]
  have e8:aa .i64 (64-(s:Int))=((64-s:Nat):Int):=Ep 64 s (by omega) (by omega);simp(disch:=omega) only[Cm,Cb,Cn,BZ,Bt,Co,Ca,B9,Ci,Ch,Cg,B8,Ce,Cd,Ck,Cj,Cf,B6,A6,BW,Bg,BB,B5,ae,bf,cond_true,cond_false,bc,bi,cm,ba,bm,bq,bh,br,bb,bg,bt,ca,AC,Cw,e8,Gu _ s (by omega),Dv _ (64-s) (by omega),g1,IJ q1 q2,EJ,jj,q3];exact hgo
 ·have e:i=a.length:=by omega
  subst e;rw[dk];simp(disch:=omega) only[Cm,Cb,Cn,BZ,Bt,Co,Ca,B9,Ci,Ch,Cg,B8,Ce,Cd,Ck,Cj,Cf,B6,A6,BW,Bg,BB,B5,ae,bf,cond_true,cond_false,bc,bi,cm,ba,bm,bq,bh,br,bb,bg,bt,ca]
theorem gB(l:List Nat)(hl:Ws l)(n:Nat)(hn:n/64+(Ak l).length+1<=1000000):RS (Wd l,(n:Int),())=some (Dw (nv (2^64) l*2^n),()):=by
 obtain⟨h,hlen⟩:=hl;show nT Ag.pre Ag.F gQ (Wd l) n=_;unfold nT;have hB:2<=2^64:=by decide
 have p0:=D7 l hlen;have hm:∀x∈Ak l,x<2^64:=fun x hx=>h x (Uh hx);have hle:=(Dx l).1;have hv:=KC hB h;simp only[CU p0,CT p0,cond_true,AC];rcases bd (Ak l).length with h0|h0
 ·rw[h0,aNZ h h0,fd];unfold Dw;rw[DP];rfl
 ·have e4:iu (n:Int) 64=((n%64:Nat):Int):=rfl;have e3:decide (((n/64+(Ak l).length+1:Nat):Int)*8<=140737488355328)=true:=decide_eq_true (by omega);have hw:=aSs (Ak l) hm (by omega) (n/64) (n%64) (bp _ (by decide)) (by omega) 0 (dt _);rw[show nv (2^64) ((Ak l).take 0)=0 by rfl,ej,aK5,show 64*(n/64)+n%64=n by omega,show((0:Nat):Int)=0 from rfl]at hw;simp(disch:=omega) only[Cm,Cb,Cn,BZ,Bt,Co,Ca,B9,Ci,Ch,Cg,B8,Ce,Cd,Ck,Cj,Cf,B6,A6,BW,Bg,BB,B5,ae,bf,cond_true,cond_false,bc,bi,cm,ba,bm,bq,bh,br,bb,bg,bt,ca,yW n (by omega),e4,e3,U4,hw];have hV:2^n*nv (2^64) (Ak l)<(2^64)^(n/64+(Ak l).length+1):=by
   have:=Eb hB (Ak l) hm;rw[Du]at this⊢;have h1:2^n*nv (2^64) (Ak l)<2^n*2^(64*(Ak l).length):=mm this (aj _);rw[←az]at h1;exact ak h1 (ag (by decide) (by omega))
  have p1:=D7 (pd (2^64) (n/64+(Ak l).length+1) (2^n*nv (2^64) (Ak l))) (by rw[FG];omega);rw[Gv hB _ (T4 (by decide) _ _),T5 (by decide) _ _ hV,hv,ap (2^n)]at p1;rw[hv,ap (2^n)];generalize pd (2^64) (n/64+(Ak l).length+1) (nv (2^64) l*2^n)=out at *
  show(bif Ag.pre (Wd out,())then some (Ag.F (Wd out,()))else none)=_;rw[CU p1,CT p1];rfl
theorem aSr(ls:List (List Nat))(hls:∀l∈ls,l.length<=1000000)(hn:ls.length<=1000000)(i:Nat)(hi:i<=ls.length)(hz:∀l∈ls.take i,(Ak l).length<=1024):
  gP (((ls.length:Int),(ls.map Wd,((i:Int),()))),())=some (if(∀l∈ls,(Ak l).length<=1024)then .inl ((),())else .inr ((true,()),())):=by
 have key:=DU (aKf Ag.pre Ag.F) (fun x=>ls.length-x.1.2.2.1.toNat)
  (fun x=>∃i:Nat,i<=ls.length/\(∀l∈ls.take i,(Ak l).length<=1024)/\x=(((ls.length:Int),(ls.map Wd,((i:Int),()))),()))
  (fun _=>if(∀l∈ls,(Ak l).length<=1024)then .inl ((),())else .inr ((true,()),())) ?_ _ ⟨i,hi,hz,rfl⟩
 ·exact key
 intro L x hx hL;obtain⟨i,hi,hz,rfl⟩:=hx;unfold V2;rcases aq i ls.length with hlt|hge
 ·have eg:(ls.map Wd).getD i []=Wd (ls[i]):=by
   rw[al,kl,ay hlt];rfl
  have hil:ls[i]∈ls:=List.getElem_mem hlt;have p0:=D7 ls[i] (hls _ hil);simp(disch:=omega) only[Cm,Cb,Cn,BZ,Bt,Co,Ca,B9,Ci,Ch,Cg,B8,Ce,Cd,Ck,Cj,Cf,B6,A6,BW,Bg,BB,B5,ae,bf,cond_true,cond_false,bc,bi,cm,ba,bm,bq,bh,br,bb,bg,bt,ca,lc,eg,CU p0,CT p0,AC];rcases aq 1024 (Ak ls[i]).length with hg|hg
  ·have e:decide (((Ak ls[i]).length:Int)>1024)=true:=decide_eq_true (by omega);have hnot:¬∀l∈ls,(Ak l).length<=1024:=fun hh=>by have:=hh _ hil;omega
   rw[e,cond_true,if_neg hnot]
  ·have e:decide (((Ak ls[i]).length:Int)>1024)=false:=decide_eq_false (by omega);rw[e,cond_false];refine hL _ ⟨i+1,by omega,?_,rfl⟩ (by simp only[ae];omega);intro l hl;rw[qk,ay hlt]at hl;rcases cv.1 hl with hl|hl
   ·exact hz l hl
   ·have:l=ls[i]:=by simpa using hl
    rw[this];exact hg
 ·have e:i=ls.length:=by omega
  subst e;rw[dk]at hz;simp(disch:=omega) only[Cm,Cb,Cn,BZ,Bt,Co,Ca,B9,Ci,Ch,Cg,B8,Ce,Cd,Ck,Cj,Cf,B6,A6,BW,Bg,BB,B5,ae,bf,cond_true,cond_false,bc,bi,cm,ba,bm,bq,bh,br,bb,bg,bt,ca,if_pos hz]
theorem aCq(ls:List (List Nat))(hls:∀l∈ls,l.length<=1000000)(hn:ls.length<=1000000):
  Ig (ls.map Wd,())=some (!decide (∀l∈ls,(Ak l).length<=1024),()):=by
 show nS Ag.pre Ag.F gP (ls.map Wd)=_;unfold nS;have hw:=aSr ls hls hn 0 (dt _) (fun l hl=>by simp at hl);rw[show((0:Nat):Int)=0 from rfl]at hw;rw[lc,hw];by_cases h:∀l∈ls,(Ak l).length<=1024
 ·rw[if_pos h,decide_eq_true h];rfl
 ·rw[if_neg h,decide_eq_false h];rfl
theorem aCr(l:List Nat)(hl:l.length<=1000000):Ig ((Wd l::[]),())=some (!decide ((Ak l).length<=1024),()):=by
 have:=aCq [l] (by simp;exact hl) (by simp);rw[show[l].map Wd=Wd l::[]from rfl]at this;rw[this];simp
theorem X4(l:List Nat)(hl:Ws l)(n:Nat)(hn:n<=65536)(hv:nv (2^64) l*2^n<(2^64)^1024):JY (Wd l,(n:Int),())=some (Dw (nv (2^64) l*2^n),0,()):=by
 show nO B0.pre B0.F Cp.pre Cp.F (Wd l) n=_;unfold nO;have p0:=aCr l hl.2;have hB:2<=2^64:=by decide
 have h1:=C8 hB 1024 _ hv;have h0:(Ak l).length<=1024:=by
  rw[Gv hB _ hl.1];apply C8 hB;exact ao (Nat.le_mul_of_pos_right _ (aj _)) hv
 have p1:=gB l hl n (by omega);have p2:=aCr (dg (2^64) (nv (2^64) l*2^n)) (by omega);rw[Sa hB]at p2;rw[decide_eq_true h0]at p0;rw[decide_eq_true h1]at p2;have e2:decide ((n:Int)>65536)=false:=decide_eq_false (by omega);simp only[w6,e2,br,cond_false,WG p0,VK p0,cond_true,bq,lJ p1,kG p1];unfold Dw;simp only[WG p2,VK p2,cond_true,bq,cond_false]
end VL
namespace VL
open Go Vx
theorem Ec(B:Nat)(l:List Nat)(i:Nat):nv B (l.take (i+1))=nv B (l.take i)+B^i*l.getD i 0:=by
 rcases aq i l.length with h|h
 ·exact xY B l i h
 ·rw[cw (by omega),cw h,al,du h];simp
def Cs(a b:List Nat)(i:Nat):Nat:=nv (2^64) (a.take i)+nv (2^64) (b.take i)
def DV(a b:List Nat)(i:Nat):List Nat:=pd (2^64) i (Cs a b i%(2^64)^i)++(a++[0]).drop i
theorem aZ{l:List Nat}(h:∀x∈l,x<2^64)(i:Nat):nv (2^64) (l.take i)<(2^64)^i:=by
 have:=Eb (B:=2^64) (by decide) (l.take i) fun x hx=>h x (fa hx);refine ak this (ag (by decide) ?_);rw[gj];exact lf _ _
theorem aH7{a b:List Nat}(ha:∀x∈a,x<2^64)(hb:∀x∈b,x<2^64)(i:Nat):Cs a b i/(2^64)^i<=1:=by
 have h1:=aZ ha i;have h2:=aZ hb i;have hp:0<(2^64)^i:=ij (by decide);unfold Cs;have:(nv (2^64) (a.take i)+nv (2^64) (b.take i))/(2^64)^i<2:=by
  rw[bo hp];omega
 omega
theorem aMq(a b:List Nat)(i:Nat):Cs a b (i+1)=Cs a b i%(2^64)^i+(2^64)^i*(a.getD i 0+b.getD i 0+Cs a b i/(2^64)^i):=by
 have hdm:=ci (Cs a b i) ((2^64)^i);have h1:Cs a b (i+1)=Cs a b i+(2^64)^i*(a.getD i 0+b.getD i 0):=by
  unfold Cs;rw[Ec,Ec,bl];omega
 rw[h1,bl ((2^64)^i) (a.getD i 0+b.getD i 0)];omega
theorem bDD(a b:List Nat)(i:Nat):Cs a b (i+1)/(2^64)^(i+1)=(a.getD i 0+b.getD i 0+Cs a b i/(2^64)^i)/2^64:=by
 have hp:0<(2^64)^i:=ij (by decide);rw[aMq,dr (2^64) i,←dl,fg _ _ hp,co (bp _ hp),dm]
theorem bDE(a b:List Nat)(i:Nat):Cs a b (i+1)%(2^64)^(i+1)=Cs a b i%(2^64)^i+(2^64)^i*((a.getD i 0+b.getD i 0+Cs a b i/(2^64)^i)%2^64):=by
 have hp:0<(2^64)^i:=ij (by decide);rw[aMq a b i,dr (2^64) i,mj,gw,qt,fg _ _ hp,co (bp _ hp),dm]
theorem aK4{k r v:Nat}(hr:r<(2^64)^k)(hv:v<2^64):pd (2^64) k r++[v]=pd (2^64) (k+1) (r+(2^64)^k*v):=by
 refine lG (by decide) ?_ (by simp[FG]) ?_
 ·intro x hx;rcases cv.1 hx with hx|hx
  ·exact T4 (by decide) _ _ x hx
  ·have:x=v:=by simpa using hx
   rw[this];exact hv
 ·rw[Sv,FG,T5 (by decide) _ _ hr];simp[nv]
theorem aX5(a b:List Nat)(i:Nat)(hi:i<a.length):(DV a b i).set i ((a.getD i 0+b.getD i 0+Cs a b i/(2^64)^i)%2^64)=DV a b (i+1):=by
 have hp:0<(2^64)^i:=ij (by decide);unfold DV;rw[bDE,←aK4 (bp _ hp) (bp _ (by decide)),fy _ _ (by rw[FG];exact bj _),FG,gq,
  dv (l:=a++[0]) (i:=i) (by simp;omega),jx,List.append_assoc]
 rfl
theorem aK2(a b:List Nat)(i:Nat)(hi:i<=a.length):(DV a b i).length=a.length+1:=by
 unfold DV;rw[List.length_append,FG];simp;omega
theorem aSl(a b:List Nat)(ha:∀x∈a,x<2^64)(hb:∀x∈b,x<2^64)(hlen:a.length<=1000000)(i:Nat)(hi:i<=a.length):
  Y4 (((a.length:Int),(Wd b,((i:Int),(Wd a,(((Cs a b i/(2^64)^i:Nat):Int),((),())))))),(Wd (DV a b i),()))=some (.inl ((Wd a,(((Cs a b a.length/(2^64)^a.length:Nat):Int),((),()))),(Wd (DV a b a.length),()))):=by
 have key:=DU (aJ9 Az.pre Az.F Ag.pre Ag.F) (fun x=>a.length-x.1.2.2.1.toNat)
  (fun x=>∃i:Nat,i<=a.length/\x=(((a.length:Int),(Wd b,((i:Int),(Wd a,(((Cs a b i/(2^64)^i:Nat):Int),((),())))))),(Wd (DV a b i),())))
  (fun _=>.inl ((Wd a,(((Cs a b a.length/(2^64)^a.length:Nat):Int),((),()))),(Wd (DV a b a.length),()))) ?_ _ ⟨i,hi,rfl⟩
 ·exact key
 intro L x hx hL;obtain⟨i,hi,rfl⟩:=hx;unfold VW;rcases aq i a.length with hlt|hge
 ·have hc:=aH7 ha hb i;have hol:=aK2 a b i hi;have hset:=aX5 a b i hlt;have hgo:=hL (((a.length:Int),(Wd b,(((i+1:Nat):Int),(Wd a,(((Cs a b (i+1)/(2^64)^(i+1):Nat):Int),((),())))))),(Wd (DV a b (i+1)),())) ⟨i+1,by omega,rfl⟩ (by simp only[ae];omega);rw[bDD,←hset]at hgo;have hF:∀x y c:Nat,Az.F ((x:Int),((y:Int),((c:Int),())))=(((((x+y+c)%2^64:Nat):Int)),((((x+y+c)/2^64:Nat):Int)),()):=fun x y c=>rfl;have hP:∀(x y:Int) (c:Nat),c<=1->Az.pre (x,(y,((c:Int),())))=true:=fun x y c h=>by
   show(decide ((0:Int)<=(c:Int))&&decide ((c:Int)<=1))=true;rw[decide_eq_true (by omega),decide_eq_true (by omega)];rfl
  generalize Cs a b i/(2^64)^i=c at *
  generalize DV a b i=out at *
  rcases aq i b.length with hbl|hbl
  ·simp(disch:=omega) only[Cm,Cb,Cn,BZ,Bt,Co,Ca,B9,Ci,Ch,Cg,B8,Ce,Cd,Ck,Cj,Cf,B6,A6,BW,Bg,BB,B5,ae,bf,cond_true,cond_false,bc,bi,cm,ba,bm,bq,bh,br,bb,bg,bt,ca,AC,Cw,hP _ _ c hc,hF,EJ];exact hgo
  ·have hbz:b.getD i 0=0:=by rw[al,du hbl];rfl
   have hF0:Az.F (((a.getD i 0:Nat):Int),((0:Int),((c:Int),())))=((((a.getD i 0+b.getD i 0+c)%2^64:Nat):Int),(((a.getD i 0+b.getD i 0+c)/2^64:Nat):Int),()):=by rw[hbz];rfl
   simp(disch:=omega) only[Cm,Cb,Cn,BZ,Bt,Co,Ca,B9,Ci,Ch,Cg,B8,Ce,Cd,Ck,Cj,Cf,B6,A6,BW,Bg,BB,B5,ae,bf,cond_true,cond_false,bc,bi,cm,ba,bm,bq,bh,br,bb,bg,bt,ca,AC,Cw,hP _ _ c hc,hF0,EJ];exact hgo
 ·have e:i=a.length:=by omega
  subst e;simp(disch:=omega) only[Cm,Cb,Cn,BZ,Bt,Co,Ca,B9,Ci,Ch,Cg,B8,Ce,Cd,Ck,Cj,Cf,B6,A6,BW,Bg,BB,B5,ae,bf,cond_true,cond_false,bc,bi,cm,ba,bm,bq,bh,br,bb,bg,bt,ca]
theorem bDC(a b:List Nat)(ha:∀x∈a,x<2^64)(hb:∀x∈b,x<2^64)(hab:b.length<=a.length):
  (DV a b a.length).set a.length (Cs a b a.length/(2^64)^a.length)=pd (2^64) (a.length+1) (nv (2^64) a+nv (2^64) b)/\nv (2^64) a+nv (2^64) b<(2^64)^(a.length+1):=by
 have hp:0<(2^64)^a.length:=ij (by decide);have hc:=aH7 ha hb a.length;have hs:Cs a b a.length=nv (2^64) a+nv (2^64) b:=by
  unfold Cs;rw[dk,cw hab]
 have hdm:=ci (Cs a b a.length) ((2^64)^a.length);refine⟨?_,?_⟩
 ·have hd:(a++[0]).drop a.length=[0]:=by simp
  unfold DV;rw[hd,fy _ _ (by rw[FG];exact bj _),FG,gq,jx,aK4 (bp _ hp) (by omega),io (Cs a b a.length%(2^64)^a.length),hdm,hs]
 ·rw[←hs];have h1:=aZ ha a.length;have h2:=aZ hb a.length;unfold Cs;rw[dr (2^64) a.length];omega
theorem aUi{a:List Nat}:kc (ar (a.length+1) (0:Int)).length (Wd a)++qp a.length (ar (a.length+1) (0:Int))=Wd (DV a ([]:List Nat) 0):=by
 rw[fj,kz,jq,cw (by rw[AC];omega)];unfold DV;simp[Wd,pd]
theorem aX6(a b c:List Nat):DV a b 0=DV a c 0:=by unfold DV;simp[pd]
theorem aHA(a b:List Nat)(ha:∀x∈a,x<2^64)(hb:∀x∈b,x<2^64)(hlen:a.length+1<=1000000)(hab:b.length<=a.length):
  (bif decide (0<=aa .i64 ((a.length:Int)+1))&&decide (aa .i64 ((a.length:Int)+1)*8<=140737488355328)then
   A3 (Y4 (((a.length:Int),(Wd b,((0:Int),(Wd a,((0:Int),((),())))))),(kc (ar (ai (aa .i64 ((a.length:Int)+1))) (0:Int)).length (Wd a)++qp a.length (ar (ai (aa .i64 ((a.length:Int)+1))) (0:Int)),()))) fun y4=>
    A2 y4 (fun y5=>bif decide (0<=((y5.1.1.length:Nat):Int))&&decide (((y5.1.1.length:Nat):Int)<((y5.2.1.length:Nat):Int))then
     (bif Ag.pre ((y5.2.1.set (ai ((y5.1.1.length:Nat):Int)) y5.1.2.1),())then some (Ag.F ((y5.2.1.set (ai ((y5.1.1.length:Nat):Int)) y5.1.2.1),()))else none)else none) fun _=>none
  else none:Option (DenS E0))=some (Dw (nv (2^64) a+nv (2^64) b),()):=by
 have hw:=aSl a b ha hb (by omega) 0 (dt _)
 have h0:Cs a b 0/(2^64)^0=0:=by unfold Cs;simp[nv]
 rw[h0,show((0:Nat):Int)=0 from rfl,aX6 a b [],←aUi]at hw
 have e3:decide (((a.length+1:Nat):Int)*8<=140737488355328)=true:=decide_eq_true (by omega)
 rw[Cb _ (by omega),e3,A6,ae,hw]
 obtain⟨g1,g2⟩:=bDC a b ha hb hab
 have hol:=aK2 a b a.length (bj _)
 have p1:=D7 (pd (2^64) (a.length+1) (nv (2^64) a+nv (2^64) b)) (by rw[FG];exact hlen)
 rw[Gv (by decide) _ (T4 (by decide) _ _),T5 (by decide) _ _ g2,←g1,←EJ]at p1
 generalize Cs a b a.length/(2^64)^a.length=c at *
 generalize DV a b a.length=out at *
 show(bif decide (0<=(((Wd a).length:Nat):Int))&&decide ((((Wd a).length:Nat):Int)<(((Wd out).length:Nat):Int))then
     (bif Ag.pre ((Wd out).set (Wd a).length (c:Int),())then some (Ag.F ((Wd out).set (Wd a).length (c:Int),()))else none)else none)=_
 simp(disch:=omega) only[Cm,Cb,Cn,BZ,Bt,Co,Ca,B9,Ci,Ch,Cg,B8,Ce,Cd,Ck,Cj,Cf,B6,A6,BW,Bg,BB,B5,ae,bf,cond_true,cond_false,bc,bi,cm,ba,bm,bq,bh,br,bb,bg,bt,ca,AC,CU p1,CT p1]
 rfl
theorem aCk(l m:List Nat)(hl:Ws l)(hm:Ws m)(hl2:(Ak l).length<1000000)(hm2:(Ak m).length<1000000):RR (Wd l,Wd m,())=some (Dw (nv (2^64) l+nv (2^64) m),()):=by
 show m9 Az.pre Az.F Ag.pre Ag.F Y4 (Wd l) (Wd m)=_;unfold m9;have p0:=D7 l hl.2;have p1:=D7 m hm.2;have h1:∀x∈Ak l,x<2^64:=fun x hx=>hl.1 x (Uh hx);have h2:∀x∈Ak m,x<2^64:=fun x hx=>hm.1 x (Uh hx);simp only[CU p0,CT p0,CU p1,CT p1,cond_true];rcases aq (Ak l).length (Ak m).length with h|h
 ·rw[AC,AC,Ca _ _ h,cond_true];have:=aHA (Ak m) (Ak l) h2 h1 hm2 (by omega);rw[KC (by decide) hl.1,KC (by decide) hm.1,io]at this;exact this
 ·rw[AC,AC,B9 _ _ h,cond_false];have:=aHA (Ak l) (Ak m) h1 h2 hl2 (by omega);rw[KC (by decide) hl.1,KC (by decide) hm.1]at this;exact this
theorem aRx(l:List Nat)(hl:Ws l):XY (Wd l,())=some (Dw (nv (2^64) l),()):=by
 show nC Ag.pre Ag.F (Wd l)=_;unfold nC;have p0:=D7 l hl.2;have hle:=(Dx l).1;have h2:=hl.2;have e3:decide ((((Ak l).length:Nat):Int)*8<=140737488355328)=true:=decide_eq_true (by omega);simp(disch:=omega) only[Cm,Cb,Cn,BZ,Bt,Co,Ca,B9,Ci,Ch,Cg,B8,Ce,Cd,Ck,Cj,Cf,B6,A6,BW,Bg,BB,B5,ae,bf,cond_true,cond_false,bc,bi,cm,ba,bm,bq,bh,br,bb,bg,bt,ca,CU p0,CT p0,AC,e3,fj,kz,gq];rw[cw (by rw[AC];exact bj _),jp,df,Gv (by decide) l hl.1];rfl
theorem aB4(l:List Nat)(hl:Ws l):UF (Wd l,())=some (Dw (nv (2^64) l),()):=by
 show mK CQ.pre CQ.F (Wd l)=_;unfold mK;have p0:=aRx l hl;simp only[aYm p0,aVR p0,cond_true]
end VL
namespace VL
open Go Vx
def Wi(n:Nat):Ab (.pair (.int .u64) (.pair (.int .u64) .unit)):=(((n/2^64:Nat):Int),(((n%2^64:Nat):Int),()))
theorem aDW(k:Nat)(h:0<k):decide ((k:Int)<=0)=false:=decide_eq_false (by omega)
theorem aUp{A q R P:Nat}(g1:A%2^64=R)(g2:q<P)(g4:R+P<=2^64):(A+q)%2^64=q+R:=by omega
theorem aUq{X Y r:Nat}(h:X%2^64=Y)(hr:r<2^64):(2^64*X+r)%2^128=2^64*Y+r:=by omega
theorem aUr{X h q R P:Nat}(e:X=2^64*h+R+q)(g2:q<P)(g4:R+P<=2^64):X/2^64=h/\X%2^64=q+R:=by omega
theorem aCf(n k:Nat)(hn:n<2^128):Ta (Wi n,(k:Int),())=some (Wi (n*2^k%2^128),()):=by
 show mR (Wi n) k=_;unfold mR;rcases bd k with rfl|hk
 ·have e:n*2^0%2^128=n:=by rw[jm,gl,be hn]
  rw[e];rfl
 rw[aDW k hk,cond_false];rcases aq k 128 with h128|h128
 ·rw[show decide ((k:Int)>=128)=false from decide_eq_false (by omega),cond_false];have hlo:(n%2^64)<2^64:=bp _ (by decide);have hhi:n/2^64<2^64:=by omega
  have hsplit:n=2^64*(n/2^64)+n%2^64:=(ci n (2^64)).symm;rcases aq k 64 with h64|h64
  ·have e8:aa .i64 (64-(k:Int))=((64-k:Nat):Int):=Ep 64 k (by omega) (by omega);rw[show decide ((k:Int)>=64)=false from decide_eq_false (by omega),cond_false,A6,cond_true,e8,A6,cond_true,cond_true];show some ((Aq .u64 (AQ .u64 ((n/2^64:Nat):Int) k) (AE .u64 ((n%2^64:Nat):Int) ((64-k:Nat):Int)),(AQ .u64 ((n%2^64:Nat):Int) k,())),())=_;rw[Gu _ k (by omega),Gu _ k (by omega),Dv _ (64-k) (by omega)];have hp:=aj k;have hp2:=aj (64-k);have h2:2^64=2^(64-k)*2^k:=by rw[←az];congr 1;omega
   generalize n/2^64=hi at *
   generalize n%2^64=lo at *
   have g1:hi*2^k%2^64=(hi%2^(64-k))*2^k:=by rw[h2,dw]
   have g2:lo/2^(64-k)<2^k:=by rw[bo hp2,ap,←h2];exact hlo
   have g3:hi%2^(64-k)+1<=2^(64-k):=bp _ hp2;have g4:=aw (2^k) g3;rw[←h2,bw,fb]at g4;have hor:Aq .u64 ((hi*2^k%2^64:Nat):Int) ((lo/2^(64-k):Nat):Int)=((lo/2^(64-k)+(hi%2^(64-k))*2^k:Nat):Int):=by
    have:=IJ g2 (b:=hi%2^(64-k)) (by omega);rw[g1];have hc:∀a b:Nat,a<2^64->b<2^64->Aq .u64 (a:Int) (b:Int)=Aq .u64 (b:Int) (a:Int):=fun a b ha hb=>by
     rw[bB ha hb,bB hb ha,qr]
    rw[hc _ _ (by omega) (by omega)];exact this
   rw[hor];have hdm:=ci lo (2^(64-k));have v1:n*2^k=2^64*(hi*2^k+lo/2^(64-k))+lo*2^k%2^64:=by
    have g5:lo*2^k%2^64=(lo%2^(64-k))*2^k:=by rw[h2,dw]
    have g6:2^64*(lo/2^(64-k))=2^(64-k)*(lo/2^(64-k))*2^k:=by
     rw[jd,←h2]
    rw[hsplit,bw,bl,av,gh,g6,g5,←bw,hdm]
   have v2:n*2^k%2^128=2^64*(lo/2^(64-k)+(hi%2^(64-k))*2^k)+lo*2^k%2^64:=by
    rw[v1];have hlo2:lo*2^k%2^64<2^64:=bp _ (by decide);exact aUq (aUp g1 g2 g4) hlo2
   have hlo2:lo*2^k%2^64<2^64:=bp _ (by decide);have e1:n*2^k%2^128/2^64=lo/2^(64-k)+(hi%2^(64-k))*2^k:=by rw[v2];omega
   have e2:n*2^k%2^128%2^64=lo*2^k%2^64:=by rw[v2];omega
   unfold Wi;rw[e1,e2]
  ·have e8:aa .i64 ((k:Int)-64)=((k-64:Nat):Int):=Ep k 64 (by omega) (by omega);rw[show decide ((k:Int)>=64)=true from decide_eq_true (by omega),cond_true,e8,A6,cond_true];show some ((AQ .u64 ((n%2^64:Nat):Int) ((k-64:Nat):Int),((0:Int),())),())=_;rw[Gu _ (k-64) (by omega)];have v1:n*2^k%2^128=2^64*(n%2^64*2^(k-64)%2^64):=by
    have h2:2^k=2^(k-64)*2^64:=by rw[←az];congr 1;omega
    rw[h2,←av,show 2^128=2^64*2^64 by decide,dw,ap _ (2^64),qc n (2^(k-64)),qc (n%2^64) (2^(k-64)),qt]
   have e1:n*2^k%2^128/2^64=n%2^64*2^(k-64)%2^64:=by rw[v1];omega
   have e2:n*2^k%2^128%2^64=0:=by rw[v1];omega
   unfold Wi;rw[e1,e2];rfl
 ·rw[show decide ((k:Int)>=128)=true from decide_eq_true (by omega),cond_true];have e:n*2^k%2^128=0:=by
   rw[show k=(k-128)+128 by omega,az,←av];exact nh _ _
  rw[e];rfl
theorem aRr(n k:Nat)(hn:n<2^128):UG (Wi n,(k:Int),())=some (Wi (n/2^k),()):=by
 show mS (Wi n) k=_;unfold mS;rcases bd k with rfl|hk
 ·have e:n/2^0=n:=by rw[jm,Nat.div_one]
  rw[e];rfl
 rw[aDW k hk,cond_false];rcases aq k 128 with h128|h128
 ·rw[show decide ((k:Int)>=128)=false from decide_eq_false (by omega),cond_false];have hlo:(n%2^64)<2^64:=bp _ (by decide);have hhi:n/2^64<2^64:=by omega
  rcases aq k 64 with h64|h64
  ·have e8:aa .i64 (64-(k:Int))=((64-k:Nat):Int):=Ep 64 k (by omega) (by omega);rw[show decide ((k:Int)>=64)=false from decide_eq_false (by omega),cond_false,A6,cond_true,e8,A6,cond_true,cond_true];show some ((AE .u64 ((n/2^64:Nat):Int) k,(Aq .u64 (AE .u64 ((n%2^64:Nat):Int) k) (AQ .u64 ((n/2^64:Nat):Int) ((64-k:Nat):Int)),())),())=_;rw[Gu _ (64-k) (by omega),Dv _ k (by omega),Dv _ k (by omega)];have hp:=aj k;have hp2:=aj (64-k);have h2:2^64=2^k*2^(64-k):=by rw[←az];congr 1;omega
   have hsplit:n=2^64*(n/2^64)+n%2^64:=(ci n (2^64)).symm;generalize n/2^64=hi at *
   generalize n%2^64=lo at *
   have g1:hi*2^(64-k)%2^64=(hi%2^k)*2^(64-k):=by rw[h2,dw]
   have g2:lo/2^k<2^(64-k):=by rw[bo hp,ap,←h2];exact hlo
   have g3:hi%2^k+1<=2^k:=bp _ hp;have g4:=aw (2^(64-k)) g3;rw[←h2,bw,fb]at g4;rw[g1,IJ g2 (by omega)];have v1:n/2^k=hi*2^(64-k)+lo/2^k:=by
    have:n=lo+2^k*(hi*2^(64-k)):=by rw[hsplit,h2,av,ap hi];omega
    rw[this,fg _ _ hp,io]
   have hdm:=ci hi (2^k);have v2:hi*2^(64-k)=2^64*(hi/2^k)+(hi%2^k)*2^(64-k):=by
    rw[h2,jd,←bw,hdm]
   rw[v2]at v1;obtain⟨e1,e2⟩:=aUr v1 g2 g4;unfold Wi;rw[e1,e2]
  ·have e8:aa .i64 ((k:Int)-64)=((k-64:Nat):Int):=Ep k 64 (by omega) (by omega);rw[show decide ((k:Int)>=64)=true from decide_eq_true (by omega),cond_true,e8,A6,cond_true];show some (((0:Int),(AE .u64 ((n/2^64:Nat):Int) ((k-64:Nat):Int),())),())=_;rw[Dv _ (k-64) (by omega)];have v1:n/2^k=n/2^64/2^(k-64):=by
    rw[dl,←az];congr 2;omega
   have hs:n/2^k<2^64:=by
    rw[v1];exact ao (dq _ _) hhi
   have e1:n/2^k/2^64=0:=co hs;have e2:n/2^k%2^64=n/2^64/2^(k-64):=by rw[←v1];exact be hs
   unfold Wi;rw[e1,e2];rfl
 ·rw[show decide ((k:Int)>=128)=true from decide_eq_true (by omega),cond_true];have e:n/2^k=0:=co (ak hn (ag (by decide) h128));rw[e];rfl
theorem R2(x y c:Nat):Az.F ((x:Int),((y:Int),((c:Int),())))=(((((x+y+c)%2^64:Nat):Int)),((((x+y+c)/2^64:Nat):Int)),()):=rfl
theorem R3(x y:Int)(c:Nat)(h:c<=1):Az.pre (x,(y,((c:Int),())))=true:=by
 show(decide ((0:Int)<=(c:Int))&&decide ((c:Int)<=1))=true;rw[decide_eq_true (by omega),decide_eq_true (by omega)];rfl
theorem bY(x y c:Nat)(h:c<=1)(hx:x<2^64)(hy:y<2^64):A9.F ((x:Int),((y:Int),((c:Int),())))=(((((x+2^64-y-c)%2^64:Nat):Int)),((if x<y+c then 1 else 0:Nat):Int),()):=by
 show((((x:Int)-y-c)%18446744073709551616:Int),((if(x:Int)<y+c then 1 else 0:Int)),())=_;have e1:((x:Int)-y-c)%18446744073709551616=((x+2^64-y-c)%2^64:Nat):=by omega
 rw[e1];by_cases h:x<y+c
 ·rw[if_pos h,if_pos (by omega)];rfl
 ·rw[if_neg h,if_neg (by omega)];rfl
theorem bZ(x y:Int)(c:Nat)(h:c<=1):A9.pre (x,(y,((c:Int),())))=true:=by
 show(decide ((0:Int)<=(c:Int))&&decide ((c:Int)<=1))=true;rw[decide_eq_true (by omega),decide_eq_true (by omega)];rfl
theorem aRs(n m:Nat)(h:n+m<2^128):XP (Wi n,Wi m,())=some (Wi (n+m),0,()):=by
 show mT Az.pre Az.F (Wi n) (Wi m)=_;unfold mT;have c1:(n%2^64+m%2^64+0)/2^64<=1:=by omega
 have p1:Az.pre ((Wi n).2.1,((Wi m).2.1,((0:Int),())))=true:=R3 _ _ 0 (by decide);have q1:Az.F ((Wi n).2.1,((Wi m).2.1,((0:Int),())))=_:=R2 (n%2^64) (m%2^64) 0;rw[p1,q1,cond_true];have p2:Az.pre ((Wi n).1,((Wi m).1,((((n%2^64+m%2^64+0)/2^64:Nat):Int),())))=true:=R3 _ _ _ c1;have q2:Az.F ((Wi n).1,((Wi m).1,((((n%2^64+m%2^64+0)/2^64:Nat):Int),())))=_:=R2 (n/2^64) (m/2^64) ((n%2^64+m%2^64+0)/2^64);dsimp only;rw[p2,q2,cond_true];have e1:(n/2^64+m/2^64+(n%2^64+m%2^64+0)/2^64)%2^64=(n+m)/2^64:=by omega
 have e2:(n%2^64+m%2^64+0)%2^64=(n+m)%2^64:=by omega
 have e3:(n/2^64+m/2^64+(n%2^64+m%2^64+0)/2^64)/2^64=0:=by omega
 rw[e1,e2,e3];rfl
theorem rW(n m:Nat)(hn:n<2^128)(h:m<=n):XS (Wi n,Wi m,())=some (Wi (n-m),0,()):=by
 show mW A9.pre A9.F (Wi n) (Wi m)=_;unfold mW;have p1:A9.pre ((Wi n).2.1,((Wi m).2.1,((0:Int),())))=true:=bZ _ _ 0 (by decide);have q1:A9.F ((Wi n).2.1,((Wi m).2.1,((0:Int),())))=_:=bY (n%2^64) (m%2^64) 0 (by decide) (by omega) (by omega);rw[p1,q1,cond_true];have c1:(if n%2^64<m%2^64+0 then 1 else 0)<=1:=by split<;>omega
 have p2:A9.pre ((Wi n).1,((Wi m).1,(((if n%2^64<m%2^64+0 then 1 else 0:Nat):Int),())))=true:=bZ _ _ _ c1;have q2:A9.F ((Wi n).1,((Wi m).1,(((if n%2^64<m%2^64+0 then 1 else 0:Nat):Int),())))=_:=bY (n/2^64) (m/2^64) _ c1 (by omega) (by omega);dsimp only;rw[p2,q2,cond_true];have e2:(n%2^64+2^64-m%2^64-0)%2^64=(n-m)%2^64:=by omega
 rw[e2];by_cases hb:n%2^64<m%2^64+0
 ·rw[if_pos hb,if_neg (by omega)];have e1:(n/2^64+2^64-m/2^64-1)%2^64=(n-m)/2^64:=by omega
  rw[e1];rfl
 ·rw[if_neg hb,if_neg (by omega)];have e1:(n/2^64+2^64-m/2^64-0)%2^64=(n-m)/2^64:=by omega
  rw[e1];rfl
theorem aRt(n m:Nat):XR (Wi n,Wi m,())=some (if n=m then 0 else if n<m then -1 else 1,()):=by
 show mV (Wi n) (Wi m)=_;unfold mV;show(bif(((n/2^64:Nat):Int)==((m/2^64:Nat):Int)&&((n%2^64:Nat):Int)==((m%2^64:Nat):Int))then some ((0:Int),())
  else bif(decide (((n/2^64:Nat):Int)<((m/2^64:Nat):Int))||(((n/2^64:Nat):Int)==((m/2^64:Nat):Int)&&decide (((n%2^64:Nat):Int)<((m%2^64:Nat):Int))))then some ((-1:Int),())else some ((1:Int),()):Option (Int×Unit))=_
 rw[IG,IG,xS,xS];rcases gk n m with h|h|h
 ·have e1:(n/2^64==m/2^64&&n%2^64==m%2^64)=false:=by
   rw[lu,beq_eq_false_iff_ne,beq_eq_false_iff_ne];omega
  have e2:(decide (n/2^64<m/2^64)||(n/2^64==m/2^64&&decide (n%2^64<m%2^64)))=true:=by
   rw[dz,af,decide_eq_true_eq,decide_eq_true_eq,beq_iff_eq];omega
  rw[e1,e2,if_neg (by omega),if_pos h];rfl
 ·subst h;rw[if_pos rfl];simp
 ·have e1:(n/2^64==m/2^64&&n%2^64==m%2^64)=false:=by
   rw[lu,beq_eq_false_iff_ne,beq_eq_false_iff_ne];omega
  have e2:(decide (n/2^64<m/2^64)||(n/2^64==m/2^64&&decide (n%2^64<m%2^64)))=false:=by
   rw[Bool.or_eq_false_iff,lu,decide_eq_false_iff_not,decide_eq_false_iff_not,beq_eq_false_iff_ne];omega
  rw[e1,e2,if_neg (by omega),if_neg (by omega)];rfl
end VL
namespace VL
open Go Vx
def Ej(m:Int)(neg odd:Bool)(rest:Nat):Bool:=if m=4 then neg else if m=3 then !neg else if m=0 then(if rest=2 then odd else decide (2<=rest))else if m=1 then decide (2<=rest)else if m=5 then !odd else false
theorem Wn(a b:Int)(h:a≠b):(a==b)=false:=by simp[h]
theorem UN(m:Int)(neg odd:Bool)(rest:Nat):Te (m,neg,odd,(rest:Int),())=some (Ej m neg odd rest,()):=by
 show nP m neg odd (rest:Int)=_;have e2:decide ((rest:Int)>=2)=decide (2<=rest):=by rw[ee,decide_eq_true_eq,decide_eq_true_eq];omega
 have e3:((rest:Int)==2)=decide (rest=2):=by rw[ee,decide_eq_true_eq,beq_iff_eq];omega
 unfold nP Ej;rw[e2,e3];by_cases h4:m=4
 ·subst h4;cases neg<;>rfl
 rw[Wn m 4 h4,cond_false,if_neg h4];by_cases h3:m=3
 ·subst h3;rfl
 rw[Wn m 3 h3,cond_false,if_neg h3];by_cases h0:m=0
 ·subst h0;by_cases hr:rest=2
  ·subst hr;rfl
  ·rw[decide_eq_false hr,if_pos rfl,if_neg hr];rfl
 rw[Wn m 0 h0,cond_false,if_neg h0];by_cases h1:m=1
 ·subst h1;rfl
 rw[Wn m 1 h1,cond_false,if_neg h1];by_cases h5:m=5
 ·subst h5;rfl
 rw[Wn m 5 h5,cond_false,if_neg h5]
def IL(n:Nat)(e q:Int):Nat:=if q<=e then n*2^(e-q).toNat else n/2^(q-e).toNat
def Kp(r s:Nat):Nat:=if r=0 then 0 else if r<2^(s-1)then 1 else if r=2^(s-1)then 2 else 3
def SJ(n:Nat)(e q:Int):Nat:=if q<=e then 0 else Kp (n%2^(q-e).toNat) (q-e).toNat
def j4(n:Nat)(e q:Int):Nat:=if 2<=q-e then Nn n (q-e-2).toNat else n*2^(2-(q-e)).toNat
theorem aWD(n:Nat)(e q:Int):j4 n e q/4=IL n e q/\j4 n e q%4=SJ n e q:=by
 unfold j4 IL SJ;by_cases h2:2<=q-e
 ·rw[if_pos h2,if_neg (by omega),if_neg (by omega)];have es:(q-e).toNat=(q-e-2).toNat+2:=by omega
  rw[es];generalize(q-e-2).toNat=s;have hp:=aj s;have e1:2^(s+2)=2^s*4:=by rw[az]
  have e2:2^(s+2-1)=2^s*2:=by rw[show s+2-1=s+1 by omega,dr]
  unfold Nn Kp;rw[e2,e1,←dl,mj];have hr:=bp n hp;generalize n%2^s=r at *
  generalize n/2^s=u at *
  have h4:u%4=0∨u%4=1∨u%4=2∨u%4=3:=by omega
  constructor
  ·split<;>omega
  ·rcases h4 with h|h|h|h<;>rw[h]<;>by_cases hz:r=0
   ·rw[if_pos hz,if_pos (by omega)];exact h
   ·rw[if_neg hz,if_neg (by omega),if_pos (by omega)];omega
   ·rw[if_pos hz,if_neg (by omega),if_pos (by omega)];exact h
   ·rw[if_neg hz,if_neg (by omega),if_pos (by omega)];omega
   ·rw[if_pos hz,if_neg (by omega),if_neg (by omega),if_pos (by omega)];exact h
   ·rw[if_neg hz,if_neg (by omega),if_neg (by omega),if_neg (by omega)];omega
   ·rw[if_pos hz,if_neg (by omega),if_neg (by omega),if_neg (by omega)];exact h
   ·rw[if_neg hz,if_neg (by omega),if_neg (by omega),if_neg (by omega)];omega
 ·rw[if_neg h2];by_cases h1:q<=e
  ·rw[if_pos h1,if_pos h1,show(2-(q-e)).toNat=(e-q).toNat+2 by omega,az,←av];generalize n*2^(e-q).toNat=x;omega
  ·rw[if_neg h1,if_neg h1,show(2-(q-e)).toNat=1 by omega,show(q-e).toNat=1 by omega];unfold Kp;rcases kq n with h|h
   ·rw[show n%2^1=0 from h,if_pos rfl];omega
   ·rw[show n%2^1=1 from h,if_neg (by omega),if_neg (by decide),if_pos (by decide)];omega
def EO(n:Nat)(e q:Int)(more:Bool):Nat:=if more then SJ n e q/2*2+1 else SJ n e q
def Cx(m:Int)(neg:Bool)(n:Nat)(e q:Int)(more:Bool):Nat:=if EO n e q more≠0/\Ej m neg (decide (IL n e q%2=1)) (EO n e q more)=true then IL n e q+1 else IL n e q
theorem DZ:Dw 0=[]:=by unfold Dw;rw[DP];rfl
theorem dQ{n:Nat}(h:n≠0):0<(Dw n).length:=by
 unfold Dw;rw[AC,EP (by decide) (by omega)];simp
theorem NG{n:Nat}(h:n≠0):decide ((((Dw n).length:Nat):Int)>0)=true:=decide_eq_true (by have:=dQ h;omega)
theorem Xh{n:Nat}(h:n≠0):decide ((0:Int)<(((Dw n).length:Nat):Int))=true:=decide_eq_true (by have:=dQ h;omega)
theorem SR(n:Nat):(Dw n).getD 0 0=((n%2^64:Nat):Int):=by
 unfold Dw;rw[Cw];rcases bd n with rfl|h
 ·rw[DP];rfl
 ·rw[EP (by decide) h];rfl
theorem aOe:Dw 1=(1:Int)::[]:=by
 unfold Dw;rw[EP (by decide) (by decide),DP];rfl
theorem NF(n:Nat):(decide ((0:Int)<(((Dw n).length:Nat):Int))||!decide ((((Dw n).length:Nat):Int)>0))=true:=by
 by_cases h:0<(Dw n).length
 ·rw[decide_eq_true (by omega)];rfl
 ·rw[decide_eq_false (p:=(((Dw n).length:Nat):Int)>0) (by omega)];simp
theorem jD(n:Nat):Bs .u64 ((n%2^64:Nat):Int) 3=((n%4:Nat):Int):=by
 have:=R4 (m:=n%2^64) (n:=2) (bp _ (by decide)) (by decide);rw[show n%2^64%2^2=n%4 by omega]at this;exact this
theorem aUk(n:Nat):Bs .u64 ((n%2^64:Nat):Int) 1=((n%2:Nat):Int):=by
 have:=R4 (m:=n%2^64) (n:=1) (bp _ (by decide)) (by decide);rw[show n%2^64%2^1=n%2 by omega]at this;exact this
theorem or1(n:Nat)(h:n<2^64):Aq .u64 (n:Int) 1=((n/2*2+1:Nat):Int):=by
 have:=bB (a:=n) (b:=1) h (by decide);rw[aKZ]at this;exact this
theorem aKX:Aq .u64 0 1=1:=by decide
theorem Wy(u:Nat):(decide ((((Dw u).length:Nat):Int)>0)&&(Bs .u64 ((Dw u).getD 0 0) 1==1))=decide (u%2=1):=by
 rw[SR,aUk];rcases bd u with rfl|h
 ·rw[DZ];rfl
 ·rw[NG (by omega),bi,ee,decide_eq_true_eq,beq_iff_eq];omega
theorem CY{n:Nat}(h:n<(2^64)^5000):Ws (dg (2^64) n):=by
 have:=C8 (B:=2^64) (by decide) 5000 n h;exact aU2 n (by omega)
theorem BQ(n:Nat):nv (2^64) (dg (2^64) n)=n:=lC (by decide) n
theorem aMf{j:Nat}(hj:Ws (dg (2^64) j)):Ms (Dw j,(2:Int),())=some (Dw (j/4),0,()):=by
 have:=aCi (dg (2^64) j) hj 2 (by decide);rw[BQ]at this;exact this
theorem aHv{u:Nat}(hu:Ws (dg (2^64) u))(hl:(dg (2^64) u).length<1000000):RR (Dw u,((1:Int)::[]),())=some (Dw (u+1),()):=by
 have:=aCk (dg (2^64) u) [1] hu ⟨by simp,by simp⟩ (by rw[Sa (by decide)];exact hl) (by simp[Ak]);rw[BQ,show nv (2^64) [1]=1 by rfl]at this;exact this
end VL
namespace VL
open Go Vx
theorem kU:decide ((0:Int)>0)=false:=rfl
theorem aRA(m:Int)(neg:Bool)(n:Nat)(e q:Int)(more:Bool)(hn:n<(2^64)^2000)(hq:q-e<=10000000)(he:-1000000000<=e/\e<=1000000000)(hqb:-1000000000<=q/\q<=1000000000)
  (hs:q-e<2->2-(q-e)<=65536/\n*2^(2-(q-e)).toNat<(2^64)^1024) :
  UJ ((neg,Dw n,e,more,()),m,q,())=some (Dw (Cx m neg n e q more),decide (EO n e q more≠0),()):=by
 show nG _ _ _ _ _ _ _ _ _ _ (neg,Dw n,e,more,()) m q=_;unfold nG;have hnw:Ws (dg (2^64) n):=CY (je hn (ff (by decide) (by decide)));have e0:aa .i64 (q-e)=q-e:=Au (by omega);have hj4:=aWD n e q;dsimp only;rw[e0];by_cases h2:2<=q-e
 ·rw[show decide (q-e>=2)=true from decide_eq_true h2,cond_true];obtain⟨s,hs⟩:=cy (show 0<=q-e-2 by omega);have e1:aa .i64 (q-e-2)=(s:Int):=by rw[Au (by omega)];exact hs
  have hj:j4 n e q=Nn n s:=by unfold j4;rw[if_pos h2];congr 1;omega
  rw[hj]at hj4;have hjn:Nn n s<=n+1:=by
   unfold Nn;have:=dq n (2^s);split<;>omega
  have p0:=aRG (dg (2^64) n) hnw s (by omega);rw[BQ]at p0;have hjl:Nn n s<(2^64)^5000:=by
   have h1:(2^64)^2000<(2^64)^5000:=ff (by decide) (by decide);generalize(2^64)^2000=A at *
   generalize(2^64)^5000=B at *
   omega
  clear hj;generalize Nn n s=j at *
  have hj:Ws (dg (2^64) j):=CY hjl;rw[e1];have p0:UM (Dw n,(s:Int),())=some (Dw j,0,()):=p0;have p1:=aMf hj;have hu:Ws (dg (2^64) (j/4)):=CY (ao (dq _ _) hjl);have hul:=C8 (B:=2^64) (by decide) 5000 (j/4) (ao (dq _ _) hjl);have p3:=aHv hu (by omega);have h4:j%4<4:=bp _ (by decide);unfold Cx EO;rw[←hj4.1,←hj4.2];rcases bd j with hj0|hj0
  ·subst hj0;have pz:Ms ([],(2:Int),())=some (Dw (0/4),0,()):=by rw[←DZ];exact p1
   cases more with
   |true=>
    have p2:Te (m,neg,decide (0/4%2=1),(1:Int),())=some (Ej m neg (decide (0/4%2=1)) 1,()):=UN m neg _ 1;simp only[lI p0,kF p0,cond_true,DZ,ib,B6,gr,cond_false,bf,kU,aKX,Nt pz,Ni pz,NF,Wy,WF p2,VJ p2,bb,bg,bi];cases hf:Ej m neg (decide (0/4%2=1)) 1 with
    |true=>simp only[cond_true,Gt p3,Gr p3];have hf:Ej m neg false 1=true:=hf;simp[hf]
    |false=>simp only[cond_false];have hf:Ej m neg false 1=false:=hf;simp[hf]
   |false=>
    simp only[lI p0,kF p0,cond_true,DZ,ib,gr,cond_false,bf,kU,Nt pz,Ni pz,NF,bg];simp
  ·have hjn:j≠0:=by omega
   cases more with
   |true=>
    have p2:=UN m neg (decide (j/4%2=1)) (j%4/2*2+1);have hr:j%4/2*2+1≠0:=by omega
    simp only[lI p0,kF p0,cond_true,NG hjn,Xh hjn,bf,SR j,jD,or1 (j%4) (by omega),Nt p1,Ni p1,NF,Wy,WF p2,VJ p2,bb,bg,BB _ hr,bi];cases hf:Ej m neg (decide (j/4%2=1)) (j%4/2*2+1)with
    |true=>simp only[cond_true,Gt p3,Gr p3];simp[hf]
    |false=>simp only[cond_false];simp[hf]
   |false=>
    have p2:=UN m neg (decide (j/4%2=1)) (j%4);simp only[lI p0,kF p0,cond_true,cond_false,NG hjn,Xh hjn,bf,SR j,jD,Nt p1,Ni p1,NF,Wy,WF p2,VJ p2,bb,bg];rcases bd (j%4)with hz|hz
    ·rw[B5 _ hz,ba,cond_false];simp[hz]
    ·have hr:j%4≠0:=by omega
     rw[BB _ hr,bi];cases hf:Ej m neg (decide (j/4%2=1)) (j%4)with
     |true=>simp only[cond_true,Gt p3,Gr p3];simp[hf,hr]
     |false=>simp only[cond_false];simp[hf,hr]
 ·rw[show decide (q-e>=2)=false from decide_eq_false h2,cond_false];obtain⟨s,hse⟩:=cy (show 0<=2-(q-e) by omega);have e1:aa .i64 (2-(q-e))=(s:Int):=by rw[Au (by omega)];exact hse
  have hj:j4 n e q=n*2^s:=by unfold j4;rw[if_neg h2];congr 2;omega
  rw[hj]at hj4;obtain⟨hs1,hs2⟩:=hs (by omega);rw[show(2-(q-e)).toNat=s by omega]at hs2;have p0:=X4 (dg (2^64) n) hnw s (by omega) (by rw[BQ];exact hs2);rw[BQ]at p0;have hjl:n*2^s<(2^64)^5000:=je hs2 (ff (by decide) (by decide));clear hj;generalize n*2^s=j at *
  have hj:Ws (dg (2^64) j):=CY hjl;rw[e1];have p0:JY (Dw n,(s:Int),())=some (Dw j,0,()):=p0;have p1:=aMf hj;have hu:Ws (dg (2^64) (j/4)):=CY (ao (dq _ _) hjl);have hul:=C8 (B:=2^64) (by decide) 5000 (j/4) (ao (dq _ _) hjl);have p3:=aHv hu (by omega);have h4:j%4<4:=bp _ (by decide);unfold Cx EO;rw[←hj4.1,←hj4.2];rcases bd j with hj0|hj0
  ·subst hj0;have pz:Ms ([],(2:Int),())=some (Dw (0/4),0,()):=by rw[←DZ];exact p1
   cases more with
   |true=>
    have p2:Te (m,neg,decide (0/4%2=1),(1:Int),())=some (Ej m neg (decide (0/4%2=1)) 1,()):=UN m neg _ 1;simp only[KH p0,Ky p0,cond_true,DZ,ib,B6,gr,cond_false,bf,kU,aKX,Nt pz,Ni pz,NF,Wy,WF p2,VJ p2,bb,bg,bi];cases hf:Ej m neg (decide (0/4%2=1)) 1 with
    |true=>simp only[cond_true,Gt p3,Gr p3];have hf:Ej m neg false 1=true:=hf;simp[hf]
    |false=>simp only[cond_false];have hf:Ej m neg false 1=false:=hf;simp[hf]
   |false=>
    simp only[KH p0,Ky p0,cond_true,DZ,ib,gr,cond_false,bf,kU,Nt pz,Ni pz,NF,bg];simp
  ·have hjn:j≠0:=by omega
   cases more with
   |true=>
    have p2:=UN m neg (decide (j/4%2=1)) (j%4/2*2+1);have hr:j%4/2*2+1≠0:=by omega
    simp only[KH p0,Ky p0,cond_true,NG hjn,Xh hjn,bf,SR j,jD,or1 (j%4) (by omega),Nt p1,Ni p1,NF,Wy,WF p2,VJ p2,bb,bg,BB _ hr,bi];cases hf:Ej m neg (decide (j/4%2=1)) (j%4/2*2+1)with
    |true=>simp only[cond_true,Gt p3,Gr p3];simp[hf]
    |false=>simp only[cond_false];simp[hf]
   |false=>
    have p2:=UN m neg (decide (j/4%2=1)) (j%4);simp only[KH p0,Ky p0,cond_true,cond_false,NG hjn,Xh hjn,bf,SR j,jD,Nt p1,Ni p1,NF,Wy,WF p2,VJ p2,bb,bg];rcases bd (j%4)with hz|hz
    ·rw[B5 _ hz,ba,cond_false];simp[hz]
    ·have hr:j%4≠0:=by omega
     rw[BB _ hr,bi];cases hf:Ej m neg (decide (j/4%2=1)) (j%4)with
     |true=>simp only[cond_true,Gt p3,Gr p3];simp[hf,hr]
     |false=>simp only[cond_false];simp[hf,hr]
end VL
namespace VL
open Go Vx
def Bp(f:Int)(neg:Bool):Nat:=if neg then 2^(fW f-1)else 0
def C3(f:Int)(neg:Bool):Nat:=(2^(fW f-fP f)-1)*2^(fP f-1)+Bp f neg
def SO(m:Int)(neg:Bool):Bool:=((m==0||m==1)||(m==3&&!neg))||(m==4&&neg)
def Vr(f m:Int)(neg:Bool):Nat:=if SO m neg then C3 f neg else C3 f neg-1
theorem Y0{f:Int}(h:Fm f)(neg:Bool):YZ (f,neg,())=some ((C3 f neg:Int),0,()):=by
 rcases Ct h with rfl|rfl|rfl|rfl<;>cases neg<;>kernel_rfl
theorem aR7{f:Int}(h:Fm f)(neg:Bool):Yx (f,neg,())=some (((C3 f neg-1:Nat):Int),0,()):=by
 rcases Ct h with rfl|rfl|rfl|rfl<;>cases neg<;>kernel_rfl
theorem S9{f:Int}(h:Fm f)(neg:Bool):XO (f,neg,())=some ((Bp f neg:Int),0,()):=by
 rcases Ct h with rfl|rfl|rfl|rfl<;>cases neg<;>kernel_rfl
theorem aRz{f:Int}(h:Fm f)(m:Int)(neg:Bool):X1 (f,m,neg,())=some ((Vr f m neg:Int),()):=by
 show nF Cq.pre Cq.F JT.pre JT.F f m neg=_;have p0:=Y0 h neg;have p1:=aR7 h neg;unfold nF Vr;show(bif SO m neg then(bif Cq.pre (f,neg,())then some ((Cq.F (f,neg,())).1,())else none)else(bif JT.pre (f,neg,())then some ((JT.F (f,neg,())).1,())else none))=_;rw[lR p0,kP p0,aYF p1,aWa p1];cases SO m neg<;>rfl
def AL(n:Nat)(e:Int):Int:=e+(An n:Int)-1
theorem Fx{n k:Nat}(h:n<2^k):An n<=k:=by
 rcases bd n with rfl|hn
 ·exact dt _
 ·have:=R7 (n:=n) (by omega);have:An n-1<k:=(cp (a:=2) (by decide)).1 (ao this h);omega
theorem aHQ{n:Nat}(h:n≠0):1<=An n:=by unfold An;rw[if_neg h];omega
theorem jF{n:Nat}(h:n<(2^64)^2000):An n<=128000:=by
 apply Fx;rw[Du]at h;exact h
theorem Mt{n:Nat}(h:n<(2^64)^5000):UK (Dw n,())=some ((An n:Int),()):=by
 have:=aRB _ (CY h);rw[BQ]at this;exact this
theorem aJ3{n:Nat}(h:n<(2^64)^2000):n<(2^64)^5000:=je h (ff (by decide) (by decide))
theorem aRy(neg:Bool)(n:Nat)(e:Int)(more:Bool)(hn:n<(2^64)^2000)(he:-1000000<=e/\e<=1000000):X0 ((neg,Dw n,e,more,()),())=some (AL n e,()):=by
 show nE A8.pre A8.F (neg,Dw n,e,more,())=_;unfold nE;have p0:=Mt (aJ3 hn);have hb:=jF hn;simp only[Nu p0,Nj p0,cond_true];rw[Au (n:=e+(An n:Int)) (by omega),Au (by omega)];rfl
theorem aYY{n:Nat}{e q:Int}{p:Nat}(h:AL n e-p+1<=q):IL n e q<2^p:=by
 unfold AL at h;unfold IL;have hb:=Ir n;by_cases hq:q<=e
 ·rw[if_pos hq];have h1:n*2^(e-q).toNat<2^An n*2^(e-q).toNat:=cr hb (aj _);rw[←az]at h1;exact ak h1 (ag (by decide) (by omega))
 ·rw[if_neg hq,bo (aj _),←az];exact ak hb (ag (by decide) (by omega))
theorem vO{m:Int}{neg:Bool}{n:Nat}{e q:Int}{more:Bool}{p:Nat}(h:AL n e-p+1<=q):Cx m neg n e q more<=2^p:=by
 have:=aYY h;unfold Cx;split<;>omega
theorem aCl(m:Int)(neg:Bool)(n:Nat)(e q:Int)(more:Bool)(hn:n<(2^64)^2000)(he:-1000000<=e/\e<=1000000){p:Nat}(hp:p<=60)(h1:AL n e-p+1<=q)(h2:q<=AL n e∨q<=1000):
  UJ ((neg,Dw n,e,more,()),m,q,())=some (Dw (Cx m neg n e q more),decide (EO n e q more≠0),()):=by
 have hb:=jF hn;unfold AL at h1 h2;refine aRA m neg n e q more hn (by omega) (by omega) (by omega) fun hs=>?_;refine⟨by omega,?_⟩;have hl:=Ir n;have h3:n*2^(2-(q-e)).toNat<2^An n*2^(2-(q-e)).toNat:=cr hl (aj _);rw[←az]at h3;rw[Du];exact ak h3 (ag (by decide) (by omega))
theorem aRC(neg:Bool)(n:Nat)(e:Int)(more:Bool)(f m:Int)(hf:Fm f)(hn:n<(2^64)^2000)(he:-1000000<=e/\e<=1000000):
  X2 ((neg,Dw n,e,more,()),BH f,m,AL n e,())=some (decide (AL n e<1-(fX f:Int)/\AL n e-fP f+An (Cx m neg n e (AL n e-fP f+1) more)<1-(fX f:Int)),()):=by
 show nI Ib.pre Ib.F A8.pre A8.F (neg,Dw n,e,more,()) ((fW f:Int),((fP f:Int),((1-(fX f:Int)),((fX f:Int),())))) m (AL n e)=_;unfold nI;have hb:=jF hn;have hp:=Eh hf;have hw:=Ea hf;have hx:=Ix hf;have hp8:=C0 hf;have ht:AL n e=e+(An n:Int)-1:=rfl;have p0:=aCl m neg n e (AL n e-fP f+1) more hn he (p:=fP f) (by omega) (by omega) (by omega);have hc:=vO (m:=m) (neg:=neg) (more:=more) (n:=n) (e:=e) (q:=AL n e-fP f+1) (p:=fP f) (by omega);generalize Cx m neg n e (AL n e-fP f+1) more=u at *
 have hu:u<(2^64)^5000:=by
  rw[Du];exact ao hc (ff (by decide) (by omega))
 have hub:An u<=fP f+1:=Fx (ao hc (ff (by decide) (by omega)));have p1:=Mt hu;have e1:aa .i64 (AL n e-(fP f:Int))=AL n e-(fP f:Int):=Au (by omega);have e2:aa .i64 (AL n e-(fP f:Int)+1)=AL n e-(fP f:Int)+1:=Au (by omega);have e3:aa .i64 (AL n e-(fP f:Int)+(An u:Int))=AL n e-(fP f:Int)+(An u:Int):=Au (by omega);dsimp only;rw[e1,e2];by_cases h:AL n e>=1-(fX f:Int)
 ·rw[decide_eq_true h,cond_true,decide_eq_false (by omega)]
 ·rw[decide_eq_false h,cond_false];simp only[aLe p0,aI8 p0,cond_true,Nu p1,Nj p1,e3];have:(AL n e<1-(fX f:Int)):=by omega
  simp only[this,true_and]
end VL
namespace VL
open Go Vx
def Dc(f:Int)(t:Int):Int:=(if 1-(fX f:Int)>t then 1-(fX f:Int)else t)-fP f+1
def Ek(f m:Int)(neg:Bool)(n:Nat)(e:Int)(more:Bool):Prop:=AL n e<1-(fX f:Int)/\AL n e-fP f+An (Cx m neg n e (AL n e-fP f+1) more)<1-(fX f:Int)
instance (f m:Int) (neg:Bool) (n:Nat) (e:Int) (more:Bool):Decidable (Ek f m neg n e more):=by unfold Ek;infer_instance
def AT(f m:Int)(neg:Bool)(n:Nat)(e:Int)(more:Bool):Nat×Nat:=
 if AL n e>fX f then(Vr f m neg,20)
 else
  let q:=Dc f (AL n e)
  let u:=Cx m neg n e q more
  if q+An u-1>fX f then(Vr f m neg,20)
  else((q-(1-(fX f:Int)-fP f+1)).toNat*2^(fP f-1)+u+Bp f neg,
   if EO n e q more=0 then 0 else if Ek f m neg n e more then 24 else 16)
theorem aWq{f:Int}(hf:Fm f):(2*fX f-1)*2^(fP f-1)+2^fP f+2^(fP f-1)=2^(fW f-1):=by
 rcases Ct hf with rfl|rfl|rfl|rfl<;>decide
theorem Ku{f:Int}(hf:Fm f):15<=fX f:=by
 rcases Ct hf with rfl|rfl|rfl|rfl<;>decide
theorem aB9(neg:Bool)(n:Nat)(e:Int)(more:Bool)(f m:Int)(hf:Fm f)(hn:n<(2^64)^2000)(he:-1000000<=e/\e<=1000000):
  XJ ((neg,Dw n,e,more,()),f,BH f,m,())=some (((AT f m neg n e more).1:Int),((AT f m neg n e more).2:Int),()):=by
 show mM _ _ _ _ _ _ _ _ _ _ (neg,Dw n,e,more,()) f ((fW f:Int),((fP f:Int),((1-(fX f:Int)),((fX f:Int),())))) m=_;unfold mM AT;have hb:=jF hn;have hp:=Eh hf;have hp8:=C0 hf;have hw:=Ea hf;have hx:=Ix hf;have hx15:=Ku hf;have ht:AL n e=e+(An n:Int)-1:=rfl;have pt:=aRy neg n e more hn he;have pb:=aRz hf m neg;have py:=aRC neg n e more f m hf hn he;have hrow:BH f=((fW f:Int),((fP f:Int),((1-(fX f:Int)),((fX f:Int),())))):=rfl;rw[hrow]at py;simp only[aYo pt,aVT pt,cond_true];by_cases h1:AL n e>(fX f:Int)
 ·rw[if_pos h1,decide_eq_true h1,cond_true];simp only[yE pb,wK pb,cond_true];rfl
 rw[if_neg h1,decide_eq_false h1,cond_false];have hM:∃M:Int,(if 1-(fX f:Int)>AL n e then 1-(fX f:Int)else AL n e)=M/\AL n e<=M/\1-(fX f:Int)<=M/\M<=fX f/\(M=AL n e∨M=1-(fX f:Int)):=by
  refine⟨_,rfl,?_⟩;split<;>omega
 obtain⟨M,hMe,m1,m2,m3,m4⟩:=hM;have hq:Dc f (AL n e)=M-fP f+1:=by unfold Dc;rw[hMe]
 simp only[hMe,hq];have e1:aa .i64 (M-(fP f:Int))=M-(fP f:Int):=Au (by omega);have e2:aa .i64 (M-(fP f:Int)+1)=M-(fP f:Int)+1:=Au (by omega);simp only[e1,e2];have p0:=aCl m neg n e (M-(fP f:Int)+1) more hn he (p:=fP f) (by omega) (by omega) (by omega);have hc:=vO (m:=m) (neg:=neg) (more:=more) (n:=n) (e:=e) (q:=M-(fP f:Int)+1) (p:=fP f) (by omega);generalize Cx m neg n e (M-(fP f:Int)+1) more=u at *
 generalize EO n e (M-(fP f:Int)+1) more=r at *
 have hP60:2^fP f<=2^60:=ag (by decide) (by omega);have hu:u<(2^64)^5000:=by
  rw[Du];exact ao hc (ff (by decide) (by omega))
 have hub:An u<=fP f+1:=Fx (ao hc (ff (by decide) (by omega)));have p1:=Mt hu;have e3:aa .i64 ((fP f:Int)-1)=((fP f-1:Nat):Int):=Bt _ (by omega);have e4:aa .i64 ((fW f:Int)-1)=((fW f-1:Nat):Int):=Bt _ (by omega);have e5:aa .i64 (M-(fP f:Int)+1+(An u:Int))=M-(fP f:Int)+1+(An u:Int):=Au (by omega);have e6:aa .i64 (M-(fP f:Int)+1+(An u:Int)-1)=M-(fP f:Int)+1+(An u:Int)-1:=Au (by omega);have e7:aa .i64 (1-(fX f:Int)-(fP f:Int))=1-(fX f:Int)-(fP f:Int):=Au (by omega);have e8:aa .i64 (1-(fX f:Int)-(fP f:Int)+1)=1-(fX f:Int)-(fP f:Int)+1:=Au (by omega);obtain⟨k,hk⟩:=cy (show 0<=M-(fP f:Int)+1-(1-(fX f:Int)-(fP f:Int)+1) by omega);have e9:aa .i64 (M-(fP f:Int)+1-(1-(fX f:Int)-(fP f:Int)+1))=(k:Int):=by rw[Au (by omega)];exact hk
 have e10:aa .u64 (k:Int)=(k:Int):=DL (by omega);have hkn:(M-(fP f:Int)+1-(1-(fX f:Int)-(fP f:Int)+1)).toNat=k:=by omega
 have hhalf:=aWq hf;have hk2:k<=2*fX f-1:=by omega
 have hk3:=aw (2^(fP f-1)) hk2;have hW64:2^(fW f-1)<=2^63:=ag (by decide) (by omega);have hpp:=aj (fP f-1);have e11:AQ .u64 (k:Int) ((fP f-1:Nat):Int)=((k*2^(fP f-1):Nat):Int):=by
  rw[Gu _ _ (by omega),be (by omega)]
 have e12:AQ .u64 1 ((fW f-1:Nat):Int)=((1*2^(fW f-1):Nat):Int):=by rw[SL (by omega),fb]
 generalize hA:k*2^(fP f-1)=A at *
 have hbits:A+u<2^(fW f-1):=by omega
 have e13:aa .u64 ((A:Int)+((u%2^64:Nat):Int))=((A+u:Nat):Int):=by
  rw[be (by omega),DL (by omega)];omega
 have hor:∀b:Nat,b<2^(fW f-1)->Aq .u64 (b:Int) ((1*2^(fW f-1):Nat):Int)=((b+2^(fW f-1):Nat):Int):=fun b hb=>by
  have:=IJ (a:=b) (b:=1) (k:=fW f-1) hb (by omega);rw[fb]at this⊢;exact this
 have hsg:Bp f neg=if neg then 2^(fW f-1)else 0:=rfl;have htd:decide (AL n e<1-(fX f:Int)/\AL n e-fP f+An (Cx m neg n e (AL n e-fP f+1) more)<1-(fX f:Int))=decide (Ek f m neg n e more):=by
  unfold Ek;rfl
 rw[htd]at py;simp only[aLe p0,aI8 p0,cond_true,e3,A6,Nu p1,Nj p1,e5,e6,e7,e8,e9,e10,e11,e4,e12,hkn,hA];rcases bd u with hu0|hu0
 ·subst hu0;have hl0:decide ((((Dw 0).length:Nat):Int)>0)=false:=by rw[DZ];rfl
  rw[hl0,cond_false];by_cases h2:M-(fP f:Int)+1+(An 0:Int)-1>(fX f:Int)
  ·rw[decide_eq_true h2,cond_true,if_pos h2];simp only[yE pb,wK pb,cond_true];rfl
  ·rw[decide_eq_false h2,cond_false,if_neg h2];have hbi:=hor (A) (by omega);rw[hbi];by_cases hr:r=0
   ·rw[if_pos hr,decide_eq_false (p:=r≠0) (by omega)];simp only[bh,cond_true];cases neg<;>rfl
   ·rw[if_neg hr,decide_eq_true (p:=r≠0) hr];simp only[bq,cond_false,aLf py,aI9 py,cond_true];by_cases hti:Ek f m neg n e more
    ·rw[if_pos hti,decide_eq_true hti];cases neg<;>rfl
    ·rw[if_neg hti,decide_eq_false hti];cases neg<;>rfl
 ·have hun:u≠0:=by omega
  simp only[NG hun,Xh hun,cond_true,bf,SR,e13];by_cases h2:M-(fP f:Int)+1+(An u:Int)-1>(fX f:Int)
  ·rw[decide_eq_true h2,cond_true,if_pos h2];simp only[yE pb,wK pb,cond_true];rfl
  ·rw[decide_eq_false h2,cond_false,if_neg h2];have hbi:=hor (A+u) (by omega);rw[hbi];by_cases hr:r=0
   ·rw[if_pos hr,decide_eq_false (p:=r≠0) (by omega)];simp only[bh,cond_true];cases neg<;>rfl
   ·rw[if_neg hr,decide_eq_true (p:=r≠0) hr];simp only[bq,cond_false,aLf py,aI9 py,cond_true];by_cases hti:Ek f m neg n e more
    ·rw[if_pos hti,decide_eq_true hti];cases neg<;>rfl
    ·rw[if_neg hti,decide_eq_false hti];cases neg<;>rfl
theorem aB7{f m:Int}(hf:Fm f)(hm:0<=m/\m<=5):XH (f,m,())=some (BH f,0,()):=by
 show mL Ao.pre Ao.F Re.pre Re.F f m=_;unfold mL;have p0:=Ge hf;have p1:XZ (m,())=some (0,()):=by
  show nD m=_;unfold nD;rw[decide_eq_false (show ¬m<0 by omega),decide_eq_false (show ¬m>5 by omega)];rfl
 simp only[CJ p0,CF p0,cond_true,aYn p1,aVS p1];rfl
theorem aRD{f:Int}(h:Fm f)(neg:Bool):X3 (f,neg,())=some ((Bp f neg:Int),0,0,()):=by
 show nJ Bu.pre Bu.F f neg=_;unfold nJ;have p0:=S9 h neg;simp only[WD p0,VH p0,cond_true]
theorem bDQ(s:Nat)(hs:s<2^128):(Wi s).2.1::(Wi s).1::[]=Wd [s%2^64,s/2^64]/\Ws [s%2^64,s/2^64]/\nv (2^64) [s%2^64,s/2^64]=s:=by
 refine⟨rfl,⟨?_,by simp⟩,?_⟩
 ·intro x hx;have:x=s%2^64∨x=s/2^64:=by simpa using hx
  omega
 ·simp only[nv];omega
theorem Tb{f m:Int}(hf:Fm f)(hm:0<=m/\m<=5)(neg:Bool)(s:Nat)(hs:s<2^128)(e:Int)(he:-40000<=e/\e<=40000)(more:Bool)(hmore:more=true->fP f+2<=An s):
  XQ (f,m,neg,Wi s,e,more,())=some (if s=0 then((Bp f neg:Int),0,0,())else(((AT f m neg s e more).1:Int),((AT f m neg s e more).2:Int),0,())):=by
 show mU _ _ _ _ _ _ _ _ _ _ f m neg (Wi s) e more=_;unfold mU;obtain⟨w1,w2,w3⟩:=bDQ s hs;have hP:=Eh hf;have hW:=Ea hf;have p0:=aB7 hf hm;have p1:=aB4 _ w2;rw[←w1,w3]at p1;have hs2:s<(2^64)^2000:=by
  rw[Du];exact ak hs (ag (by decide) (by decide))
 have p2:=Mt (aJ3 hs2);have p3:=aRD hf neg;have p4:=aB9 neg s e more f m hf hs2 (by omega);have e1:decide (e < -40000)=false:=decide_eq_false (by omega);have e2:decide (e>40000)=false:=decide_eq_false (by omega);have e3:aa .i64 ((BH f).2.1+2)=((fP f+2:Nat):Int):=by
  show aa .i64 ((fP f:Int)+2)=_;rw[Au (by omega)];rfl
 have e4:(more&&decide ((An s:Int)<((fP f+2:Nat):Int)))=false:=by
  cases more with
  |false=>rfl
  |true=>rw[decide_eq_false (by have:=hmore rfl;omega)];rfl
 have z0:((0:Int)!=0)=false:=rfl;simp only[aK9 p0,aI3 p0,cond_true,z0,cond_false,yB p1,wH p1,e1,e2,br,Nu p2,Nj p2,bb,e3,e4];by_cases h0:s=0
 ·rw[if_pos h0];subst h0;rw[show((((Dw 0).length:Nat):Int)==0)=true by rw[DZ];rfl,cond_true];simp only[aYp p3,aVU p3,cond_true]
 ·rw[if_neg h0,Bg _ (by have:=dQ h0;omega),cond_false];simp only[aLa p4,aI4 p4,cond_true]
end VL
namespace VL
open Go Vx
theorem aUO{r k s ρ:Nat}(hρ:0<ρ)(hρ2:ρ<2^k)(hs:1<=s):Kp (ρ+2^k*r) (k+s)=Kp r s/2*2+1:=by
 unfold Kp;have hp:2^(k+s-1)=2^k*2^(s-1):=by rw[←az];congr 1;omega
 rw[hp];have hh:=aj (s-1);generalize 2^(s-1)=h at *
 generalize 2^k=K at *
 rw[if_neg (by omega)];rcases gk r h with h1|h1|h1
 ·have:K*(r+1)<=K*h:=cq _ h1;rw[bl,gl]at this;rw[if_pos (by omega)];by_cases hr:r=0
  ·rw[if_pos hr]
  ·rw[if_neg hr,if_pos h1]
 ·subst h1;rw[if_neg (by omega),if_neg (by omega),if_neg (by omega),if_neg (by omega),if_pos rfl]
 ·have:K*(h+1)<=K*r:=cq _ h1;rw[bl,gl]at this;rw[if_neg (by omega),if_neg (by omega),if_neg (by omega),if_neg (by omega),if_neg (by omega)]
theorem aUP{r k s:Nat}(hs:1<=s):Kp (2^k*r) (k+s)=Kp r s:=by
 unfold Kp;have hp:2^(k+s-1)=2^k*2^(s-1):=by rw[←az];congr 1;omega
 rw[hp];have hk:=aj k;generalize 2^(s-1)=h at *
 generalize 2^k=K at *
 have h1:K*r=0↔r=0:=by
  constructor
  ·intro h;rcases nq.1 h with h|h<;>omega
  ·intro h;rw[h,ej]
 have h2:K*r<K*h↔r<h:=Nat.mul_lt_mul_left hk;have h3:K*r=K*h↔r=h:=Nat.mul_right_inj (by omega);simp only[h1,h2,h3]
theorem aW3(N k s:Nat):N%2^(k+s)=N%2^k+2^k*(N/2^k%2^s):=by
 rw[az,mj]
theorem yS{n:Nat}{e q:Int}(h:q<=e):IL n e q=n*2^(e-q).toNat:=if_pos h
theorem yR{n:Nat}{e q:Int}(h:e<q):IL n e q=n/2^(q-e).toNat:=if_neg (by omega)
theorem zG{n:Nat}{e q:Int}(h:q<=e):SJ n e q=0:=if_pos h
theorem zF{n:Nat}{e q:Int}(h:e<q):SJ n e q=Kp (n%2^(q-e).toNat) (q-e).toNat:=if_neg (by omega)
theorem ZR(n:Nat)(e q:Int):EO n e q false=SJ n e q:=rfl
theorem aUS(n:Nat)(e q:Int):EO n e q true=SJ n e q/2*2+1:=rfl
theorem vP{N k:Nat}{E q:Int}(hq:N%2^k≠0->E+k<q):
  IL (N/2^k) (E+k) q=IL N E q/\EO (N/2^k) (E+k) q (decide (N%2^k≠0))=EO N E q false:=by
 have hk:=aj k;have hdm:=ci N (2^k);by_cases h1:E+k<q
 ·have es:(q-E).toNat=k+(q-(E+k)).toNat:=by omega
  have hs:1<=(q-(E+k)).toNat:=by omega
  rw[yR h1,yR (by omega),ZR,zF (e:=E) (by omega),es];have hrs:=zF (n:=N/2^k) h1;generalize(q-(E+k)).toNat=s at *
  refine⟨by rw[dl,←az],?_⟩;rw[aW3];by_cases hr:N%2^k=0
  ·rw[hr,dm,aUP hs,show decide ((0:Nat)≠0)=false by decide,ZR,hrs]
  ·have hρ:0<N%2^k:=by omega
   rw[aUO hρ (bp _ hk) hs,decide_eq_true hr,aUS,hrs]
 ·have hr:N%2^k=0:=by
   by_cases h:N%2^k=0
   ·exact h
   ·exact absurd (hq h) h1
  rw[hr,dc]at hdm;rw[hr];clear hq hr;generalize N/2^k=n at *
  subst hdm;have hz:decide ((0:Nat)≠0)=false:=by decide
  rw[hz,yS (by omega),ZR,ZR,zG (by omega)];by_cases h2:q<=E
  ·rw[yS h2,zG h2,show(E+k-q).toNat=k+(E-q).toNat by omega,az,ap (2^k) n,av];exact⟨rfl,rfl⟩
  ·rw[yR (by omega),zF (by omega)];have ek:k=(q-E).toNat+(E+k-q).toNat:=by omega
   generalize(q-E).toNat=s at *
   generalize(E+k-q).toNat=t at *
   have:2^k*n=2^s*(2^t*n):=by rw[ek,az,av]
   rw[this,gd _ (aj s),ko];exact⟨ap _ _,rfl⟩
theorem jT{m:Int}{neg:Bool}{N k:Nat}{E q:Int}(hq:N%2^k≠0->E+k<q):Cx m neg (N/2^k) (E+k) q (decide (N%2^k≠0))=Cx m neg N E q false:=by
 obtain⟨h1,h2⟩:=vP hq;unfold Cx;rw[h1,h2]
theorem aNX{N k:Nat}{E:Int}(hn:N/2^k≠0):AL (N/2^k) (E+k)=AL N E:=by
 have hk:=aj k;have h1:2^k<=N:=by
  rcases aq N (2^k)with h|h
  ·exact absurd (co h) hn
  ·exact h
 have:=jG h1;unfold AL;omega
theorem WP{f m:Int}{neg:Bool}{N k:Nat}{E:Int}(hf:Fm f)(hn:N/2^k≠0)(hm:N%2^k≠0->fP f+2<=An (N/2^k)):AT f m neg (N/2^k) (E+k) (decide (N%2^k≠0))=AT f m neg N E false:=by
 have ht:=aNX (E:=E) hn;have htd:AL (N/2^k) (E+k)=E+k+(An (N/2^k):Int)-1:=rfl;have hq1:N%2^k≠0->E+k<Dc f (AL N E):=fun h=>by
  have:=hm h;unfold Dc;split<;>omega
 have hq2:N%2^k≠0->E+k<AL N E-fP f+1:=fun h=>by
  have:=hm h;omega
 have hti:Ek f m neg (N/2^k) (E+k) (decide (N%2^k≠0))=Ek f m neg N E false:=by
  unfold Ek;rw[ht,jT hq2]
 unfold AT;simp only[ht,jT hq1,(vP hq1).2,hti]
theorem WO{f m:Int}{neg:Bool}(hf:Fm f){n:Nat}(hn:n≠0)(k:Nat)(e:Int):AT f m neg (n*2^k) e false=AT f m neg n (e+k) false:=by
 have hk:=aj k;have:=WP (f:=f) (m:=m) (neg:=neg) (N:=n*2^k) (k:=k) (E:=e) hf (by rw[jf _ hk];exact hn) (by rw[nh];omega);rw[jf _ hk,nh]at this;exact this.symm
end VL
namespace VL
open Go Vx
def W2(f m:Int)(nx:Bool)(X ex:Int)(ny:Bool)(Y ey:Int):Option (DenS JD):=bif(AJ.pre (((0:Int),(X,())),((if((70:Int)<(aa .i64 (ex-ey)))then(70:Int)else(aa .i64 (ex-ey))),())))then(bif(AK.pre (((0:Int),(Y,())),((aa .i64 ((aa .i64 (ex-(if((70:Int)<(aa .i64 (ex-ey)))then(70:Int)else(aa .i64 (ex-ey)))))-ey)),())))then(bif(AJ.pre ((AK.F (((0:Int),(Y,())),((aa .i64 ((aa .i64 (ex-(if((70:Int)<(aa .i64 (ex-ey)))then(70:Int)else(aa .i64 (ex-ey)))))-ey)),()))).1,((aa .i64 ((aa .i64 (ex-(if((70:Int)<(aa .i64 (ex-ey)))then(70:Int)else(aa .i64 (ex-ey)))))-ey)),())))then(bif(AK.pre (((0:Int),(Y,())),((aa .i64 ((aa .i64 (ex-(if((70:Int)<(aa .i64 (ex-ey)))then(70:Int)else(aa .i64 (ex-ey)))))-ey)),())))then(bif(nx==ny)then(bif(Mn.pre ((AJ.F (((0:Int),(X,())),((if((70:Int)<(aa .i64 (ex-ey)))then(70:Int)else(aa .i64 (ex-ey))),()))).1,(AK.F (((0:Int),(Y,())),((aa .i64 ((aa .i64 (ex-(if((70:Int)<(aa .i64 (ex-ey)))then(70:Int)else(aa .i64 (ex-ey)))))-ey)),())))))then(bif(Bv.pre (f,(m,(nx,((Mn.F ((AJ.F (((0:Int),(X,())),((if((70:Int)<(aa .i64 (ex-ey)))then(70:Int)else(aa .i64 (ex-ey))),()))).1,(AK.F (((0:Int),(Y,())),((aa .i64 ((aa .i64 (ex-(if((70:Int)<(aa .i64 (ex-ey)))then(70:Int)else(aa .i64 (ex-ey)))))-ey)),()))))).1,((aa .i64 (ex-(if((70:Int)<(aa .i64 (ex-ey)))then(70:Int)else(aa .i64 (ex-ey))))),(((!(((AJ.F ((AK.F (((0:Int),(Y,())),((aa .i64 ((aa .i64 (ex-(if((70:Int)<(aa .i64 (ex-ey)))then(70:Int)else(aa .i64 (ex-ey)))))-ey)),()))).1,((aa .i64 ((aa .i64 (ex-(if((70:Int)<(aa .i64 (ex-ey)))then(70:Int)else(aa .i64 (ex-ey)))))-ey)),()))).1.1==(0:Int))&&((AJ.F ((AK.F (((0:Int),(Y,())),((aa .i64 ((aa .i64 (ex-(if((70:Int)<(aa .i64 (ex-ey)))then(70:Int)else(aa .i64 (ex-ey)))))-ey)),()))).1,((aa .i64 ((aa .i64 (ex-(if((70:Int)<(aa .i64 (ex-ey)))then(70:Int)else(aa .i64 (ex-ey)))))-ey)),()))).1.2.1==Y)))||((decide ((aa .i64 ((aa .i64 (ex-(if((70:Int)<(aa .i64 (ex-ey)))then(70:Int)else(aa .i64 (ex-ey)))))-ey))>(63:Int)))&&(Y !=(0:Int)))),())))))))then(some (Bv.F (f,(m,(nx,((Mn.F ((AJ.F (((0:Int),(X,())),((if((70:Int)<(aa .i64 (ex-ey)))then(70:Int)else(aa .i64 (ex-ey))),()))).1,(AK.F (((0:Int),(Y,())),((aa .i64 ((aa .i64 (ex-(if((70:Int)<(aa .i64 (ex-ey)))then(70:Int)else(aa .i64 (ex-ey)))))-ey)),()))))).1,((aa .i64 (ex-(if((70:Int)<(aa .i64 (ex-ey)))then(70:Int)else(aa .i64 (ex-ey))))),(((!(((AJ.F ((AK.F (((0:Int),(Y,())),((aa .i64 ((aa .i64 (ex-(if((70:Int)<(aa .i64 (ex-ey)))then(70:Int)else(aa .i64 (ex-ey)))))-ey)),()))).1,((aa .i64 ((aa .i64 (ex-(if((70:Int)<(aa .i64 (ex-ey)))then(70:Int)else(aa .i64 (ex-ey)))))-ey)),()))).1.1==(0:Int))&&((AJ.F ((AK.F (((0:Int),(Y,())),((aa .i64 ((aa .i64 (ex-(if((70:Int)<(aa .i64 (ex-ey)))then(70:Int)else(aa .i64 (ex-ey)))))-ey)),()))).1,((aa .i64 ((aa .i64 (ex-(if((70:Int)<(aa .i64 (ex-ey)))then(70:Int)else(aa .i64 (ex-ey)))))-ey)),()))).1.2.1==Y)))||((decide ((aa .i64 ((aa .i64 (ex-(if((70:Int)<(aa .i64 (ex-ey)))then(70:Int)else(aa .i64 (ex-ey)))))-ey))>(63:Int)))&&(Y !=(0:Int)))),()))))))))else none)else none)else bif(Ef.pre ((AJ.F (((0:Int),(X,())),((if((70:Int)<(aa .i64 (ex-ey)))then(70:Int)else(aa .i64 (ex-ey))),()))).1,(AK.F (((0:Int),(Y,())),((aa .i64 ((aa .i64 (ex-(if((70:Int)<(aa .i64 (ex-ey)))then(70:Int)else(aa .i64 (ex-ey)))))-ey)),())))))then(bif(decide ((Ef.F ((AJ.F (((0:Int),(X,())),((if((70:Int)<(aa .i64 (ex-ey)))then(70:Int)else(aa .i64 (ex-ey))),()))).1,(AK.F (((0:Int),(Y,())),((aa .i64 ((aa .i64 (ex-(if((70:Int)<(aa .i64 (ex-ey)))then(70:Int)else(aa .i64 (ex-ey)))))-ey)),()))))).1<(0:Int)))then(bif(BR.pre ((AK.F (((0:Int),(Y,())),((aa .i64 ((aa .i64 (ex-(if((70:Int)<(aa .i64 (ex-ey)))then(70:Int)else(aa .i64 (ex-ey)))))-ey)),()))).1,(AJ.F (((0:Int),(X,())),((if((70:Int)<(aa .i64 (ex-ey)))then(70:Int)else(aa .i64 (ex-ey))),())))))then(bif((!(((AJ.F ((AK.F (((0:Int),(Y,())),((aa .i64 ((aa .i64 (ex-(if((70:Int)<(aa .i64 (ex-ey)))then(70:Int)else(aa .i64 (ex-ey)))))-ey)),()))).1,((aa .i64 ((aa .i64 (ex-(if((70:Int)<(aa .i64 (ex-ey)))then(70:Int)else(aa .i64 (ex-ey)))))-ey)),()))).1.1==(0:Int))&&((AJ.F ((AK.F (((0:Int),(Y,())),((aa .i64 ((aa .i64 (ex-(if((70:Int)<(aa .i64 (ex-ey)))then(70:Int)else(aa .i64 (ex-ey)))))-ey)),()))).1,((aa .i64 ((aa .i64 (ex-(if((70:Int)<(aa .i64 (ex-ey)))then(70:Int)else(aa .i64 (ex-ey)))))-ey)),()))).1.2.1==Y)))||((decide ((aa .i64 ((aa .i64 (ex-(if((70:Int)<(aa .i64 (ex-ey)))then(70:Int)else(aa .i64 (ex-ey)))))-ey))>(63:Int)))&&(Y !=(0:Int))))then(bif(BR.pre ((BR.F ((AK.F (((0:Int),(Y,())),((aa .i64 ((aa .i64 (ex-(if((70:Int)<(aa .i64 (ex-ey)))then(70:Int)else(aa .i64 (ex-ey)))))-ey)),()))).1,(AJ.F (((0:Int),(X,())),((if((70:Int)<(aa .i64 (ex-ey)))then(70:Int)else(aa .i64 (ex-ey))),()))))).1,(((0:Int),((1:Int),())),())))then(bif((((BR.F ((BR.F ((AK.F (((0:Int),(Y,())),((aa .i64 ((aa .i64 (ex-(if((70:Int)<(aa .i64 (ex-ey)))then(70:Int)else(aa .i64 (ex-ey)))))-ey)),()))).1,(AJ.F (((0:Int),(X,())),((if((70:Int)<(aa .i64 (ex-ey)))then(70:Int)else(aa .i64 (ex-ey))),()))))).1,(((0:Int),((1:Int),())),()))).1.1==(0:Int))&&((BR.F ((BR.F ((AK.F (((0:Int),(Y,())),((aa .i64 ((aa .i64 (ex-(if((70:Int)<(aa .i64 (ex-ey)))then(70:Int)else(aa .i64 (ex-ey)))))-ey)),()))).1,(AJ.F (((0:Int),(X,())),((if((70:Int)<(aa .i64 (ex-ey)))then(70:Int)else(aa .i64 (ex-ey))),()))))).1,(((0:Int),((1:Int),())),()))).1.2.1==(0:Int)))&&(!((!(((AJ.F ((AK.F (((0:Int),(Y,())),((aa .i64 ((aa .i64 (ex-(if((70:Int)<(aa .i64 (ex-ey)))then(70:Int)else(aa .i64 (ex-ey)))))-ey)),()))).1,((aa .i64 ((aa .i64 (ex-(if((70:Int)<(aa .i64 (ex-ey)))then(70:Int)else(aa .i64 (ex-ey)))))-ey)),()))).1.1==(0:Int))&&((AJ.F ((AK.F (((0:Int),(Y,())),((aa .i64 ((aa .i64 (ex-(if((70:Int)<(aa .i64 (ex-ey)))then(70:Int)else(aa .i64 (ex-ey)))))-ey)),()))).1,((aa .i64 ((aa .i64 (ex-(if((70:Int)<(aa .i64 (ex-ey)))then(70:Int)else(aa .i64 (ex-ey)))))-ey)),()))).1.2.1==Y)))||((decide ((aa .i64 ((aa .i64 (ex-(if((70:Int)<(aa .i64 (ex-ey)))then(70:Int)else(aa .i64 (ex-ey)))))-ey))>(63:Int)))&&(Y !=(0:Int))))))then(bif(Bu.pre (f,((m==(4:Int)),())))then(some ((Bu.F (f,((m==(4:Int)),()))).1,((0:Int),((0:Int),()))))else none)else bif(Bv.pre (f,(m,(ny,((BR.F ((BR.F ((AK.F (((0:Int),(Y,())),((aa .i64 ((aa .i64 (ex-(if((70:Int)<(aa .i64 (ex-ey)))then(70:Int)else(aa .i64 (ex-ey)))))-ey)),()))).1,(AJ.F (((0:Int),(X,())),((if((70:Int)<(aa .i64 (ex-ey)))then(70:Int)else(aa .i64 (ex-ey))),()))))).1,(((0:Int),((1:Int),())),()))).1,((aa .i64 (ex-(if((70:Int)<(aa .i64 (ex-ey)))then(70:Int)else(aa .i64 (ex-ey))))),(((!(((AJ.F ((AK.F (((0:Int),(Y,())),((aa .i64 ((aa .i64 (ex-(if((70:Int)<(aa .i64 (ex-ey)))then(70:Int)else(aa .i64 (ex-ey)))))-ey)),()))).1,((aa .i64 ((aa .i64 (ex-(if((70:Int)<(aa .i64 (ex-ey)))then(70:Int)else(aa .i64 (ex-ey)))))-ey)),()))).1.1==(0:Int))&&((AJ.F ((AK.F (((0:Int),(Y,())),((aa .i64 ((aa .i64 (ex-(if((70:Int)<(aa .i64 (ex-ey)))then(70:Int)else(aa .i64 (ex-ey)))))-ey)),()))).1,((aa .i64 ((aa .i64 (ex-(if((70:Int)<(aa .i64 (ex-ey)))then(70:Int)else(aa .i64 (ex-ey)))))-ey)),()))).1.2.1==Y)))||((decide ((aa .i64 ((aa .i64 (ex-(if((70:Int)<(aa .i64 (ex-ey)))then(70:Int)else(aa .i64 (ex-ey)))))-ey))>(63:Int)))&&(Y !=(0:Int)))),())))))))then(some (Bv.F (f,(m,(ny,((BR.F ((BR.F ((AK.F (((0:Int),(Y,())),((aa .i64 ((aa .i64 (ex-(if((70:Int)<(aa .i64 (ex-ey)))then(70:Int)else(aa .i64 (ex-ey)))))-ey)),()))).1,(AJ.F (((0:Int),(X,())),((if((70:Int)<(aa .i64 (ex-ey)))then(70:Int)else(aa .i64 (ex-ey))),()))))).1,(((0:Int),((1:Int),())),()))).1,((aa .i64 (ex-(if((70:Int)<(aa .i64 (ex-ey)))then(70:Int)else(aa .i64 (ex-ey))))),(((!(((AJ.F ((AK.F (((0:Int),(Y,())),((aa .i64 ((aa .i64 (ex-(if((70:Int)<(aa .i64 (ex-ey)))then(70:Int)else(aa .i64 (ex-ey)))))-ey)),()))).1,((aa .i64 ((aa .i64 (ex-(if((70:Int)<(aa .i64 (ex-ey)))then(70:Int)else(aa .i64 (ex-ey)))))-ey)),()))).1.1==(0:Int))&&((AJ.F ((AK.F (((0:Int),(Y,())),((aa .i64 ((aa .i64 (ex-(if((70:Int)<(aa .i64 (ex-ey)))then(70:Int)else(aa .i64 (ex-ey)))))-ey)),()))).1,((aa .i64 ((aa .i64 (ex-(if((70:Int)<(aa .i64 (ex-ey)))then(70:Int)else(aa .i64 (ex-ey)))))-ey)),()))).1.2.1==Y)))||((decide ((aa .i64 ((aa .i64 (ex-(if((70:Int)<(aa .i64 (ex-ey)))then(70:Int)else(aa .i64 (ex-ey)))))-ey))>(63:Int)))&&(Y !=(0:Int)))),()))))))))else none)else none)else bif((((BR.F ((AK.F (((0:Int),(Y,())),((aa .i64 ((aa .i64 (ex-(if((70:Int)<(aa .i64 (ex-ey)))then(70:Int)else(aa .i64 (ex-ey)))))-ey)),()))).1,(AJ.F (((0:Int),(X,())),((if((70:Int)<(aa .i64 (ex-ey)))then(70:Int)else(aa .i64 (ex-ey))),()))))).1.1==(0:Int))&&((BR.F ((AK.F (((0:Int),(Y,())),((aa .i64 ((aa .i64 (ex-(if((70:Int)<(aa .i64 (ex-ey)))then(70:Int)else(aa .i64 (ex-ey)))))-ey)),()))).1,(AJ.F (((0:Int),(X,())),((if((70:Int)<(aa .i64 (ex-ey)))then(70:Int)else(aa .i64 (ex-ey))),()))))).1.2.1==(0:Int)))&&(!((!(((AJ.F ((AK.F (((0:Int),(Y,())),((aa .i64 ((aa .i64 (ex-(if((70:Int)<(aa .i64 (ex-ey)))then(70:Int)else(aa .i64 (ex-ey)))))-ey)),()))).1,((aa .i64 ((aa .i64 (ex-(if((70:Int)<(aa .i64 (ex-ey)))then(70:Int)else(aa .i64 (ex-ey)))))-ey)),()))).1.1==(0:Int))&&((AJ.F ((AK.F (((0:Int),(Y,())),((aa .i64 ((aa .i64 (ex-(if((70:Int)<(aa .i64 (ex-ey)))then(70:Int)else(aa .i64 (ex-ey)))))-ey)),()))).1,((aa .i64 ((aa .i64 (ex-(if((70:Int)<(aa .i64 (ex-ey)))then(70:Int)else(aa .i64 (ex-ey)))))-ey)),()))).1.2.1==Y)))||((decide ((aa .i64 ((aa .i64 (ex-(if((70:Int)<(aa .i64 (ex-ey)))then(70:Int)else(aa .i64 (ex-ey)))))-ey))>(63:Int)))&&(Y !=(0:Int))))))then(bif(Bu.pre (f,((m==(4:Int)),())))then(some ((Bu.F (f,((m==(4:Int)),()))).1,((0:Int),((0:Int),()))))else none)else bif(Bv.pre (f,(m,(ny,((BR.F ((AK.F (((0:Int),(Y,())),((aa .i64 ((aa .i64 (ex-(if((70:Int)<(aa .i64 (ex-ey)))then(70:Int)else(aa .i64 (ex-ey)))))-ey)),()))).1,(AJ.F (((0:Int),(X,())),((if((70:Int)<(aa .i64 (ex-ey)))then(70:Int)else(aa .i64 (ex-ey))),()))))).1,((aa .i64 (ex-(if((70:Int)<(aa .i64 (ex-ey)))then(70:Int)else(aa .i64 (ex-ey))))),(((!(((AJ.F ((AK.F (((0:Int),(Y,())),((aa .i64 ((aa .i64 (ex-(if((70:Int)<(aa .i64 (ex-ey)))then(70:Int)else(aa .i64 (ex-ey)))))-ey)),()))).1,((aa .i64 ((aa .i64 (ex-(if((70:Int)<(aa .i64 (ex-ey)))then(70:Int)else(aa .i64 (ex-ey)))))-ey)),()))).1.1==(0:Int))&&((AJ.F ((AK.F (((0:Int),(Y,())),((aa .i64 ((aa .i64 (ex-(if((70:Int)<(aa .i64 (ex-ey)))then(70:Int)else(aa .i64 (ex-ey)))))-ey)),()))).1,((aa .i64 ((aa .i64 (ex-(if((70:Int)<(aa .i64 (ex-ey)))then(70:Int)else(aa .i64 (ex-ey)))))-ey)),()))).1.2.1==Y)))||((decide ((aa .i64 ((aa .i64 (ex-(if((70:Int)<(aa .i64 (ex-ey)))then(70:Int)else(aa .i64 (ex-ey)))))-ey))>(63:Int)))&&(Y !=(0:Int)))),())))))))then(some (Bv.F (f,(m,(ny,((BR.F ((AK.F (((0:Int),(Y,())),((aa .i64 ((aa .i64 (ex-(if((70:Int)<(aa .i64 (ex-ey)))then(70:Int)else(aa .i64 (ex-ey)))))-ey)),()))).1,(AJ.F (((0:Int),(X,())),((if((70:Int)<(aa .i64 (ex-ey)))then(70:Int)else(aa .i64 (ex-ey))),()))))).1,((aa .i64 (ex-(if((70:Int)<(aa .i64 (ex-ey)))then(70:Int)else(aa .i64 (ex-ey))))),(((!(((AJ.F ((AK.F (((0:Int),(Y,())),((aa .i64 ((aa .i64 (ex-(if((70:Int)<(aa .i64 (ex-ey)))then(70:Int)else(aa .i64 (ex-ey)))))-ey)),()))).1,((aa .i64 ((aa .i64 (ex-(if((70:Int)<(aa .i64 (ex-ey)))then(70:Int)else(aa .i64 (ex-ey)))))-ey)),()))).1.1==(0:Int))&&((AJ.F ((AK.F (((0:Int),(Y,())),((aa .i64 ((aa .i64 (ex-(if((70:Int)<(aa .i64 (ex-ey)))then(70:Int)else(aa .i64 (ex-ey)))))-ey)),()))).1,((aa .i64 ((aa .i64 (ex-(if((70:Int)<(aa .i64 (ex-ey)))then(70:Int)else(aa .i64 (ex-ey)))))-ey)),()))).1.2.1==Y)))||((decide ((aa .i64 ((aa .i64 (ex-(if((70:Int)<(aa .i64 (ex-ey)))then(70:Int)else(aa .i64 (ex-ey)))))-ey))>(63:Int)))&&(Y !=(0:Int)))),()))))))))else none)else none)else bif(BR.pre ((AJ.F (((0:Int),(X,())),((if((70:Int)<(aa .i64 (ex-ey)))then(70:Int)else(aa .i64 (ex-ey))),()))).1,(AK.F (((0:Int),(Y,())),((aa .i64 ((aa .i64 (ex-(if((70:Int)<(aa .i64 (ex-ey)))then(70:Int)else(aa .i64 (ex-ey)))))-ey)),())))))then(bif((!(((AJ.F ((AK.F (((0:Int),(Y,())),((aa .i64 ((aa .i64 (ex-(if((70:Int)<(aa .i64 (ex-ey)))then(70:Int)else(aa .i64 (ex-ey)))))-ey)),()))).1,((aa .i64 ((aa .i64 (ex-(if((70:Int)<(aa .i64 (ex-ey)))then(70:Int)else(aa .i64 (ex-ey)))))-ey)),()))).1.1==(0:Int))&&((AJ.F ((AK.F (((0:Int),(Y,())),((aa .i64 ((aa .i64 (ex-(if((70:Int)<(aa .i64 (ex-ey)))then(70:Int)else(aa .i64 (ex-ey)))))-ey)),()))).1,((aa .i64 ((aa .i64 (ex-(if((70:Int)<(aa .i64 (ex-ey)))then(70:Int)else(aa .i64 (ex-ey)))))-ey)),()))).1.2.1==Y)))||((decide ((aa .i64 ((aa .i64 (ex-(if((70:Int)<(aa .i64 (ex-ey)))then(70:Int)else(aa .i64 (ex-ey)))))-ey))>(63:Int)))&&(Y !=(0:Int))))then(bif(BR.pre ((BR.F ((AJ.F (((0:Int),(X,())),((if((70:Int)<(aa .i64 (ex-ey)))then(70:Int)else(aa .i64 (ex-ey))),()))).1,(AK.F (((0:Int),(Y,())),((aa .i64 ((aa .i64 (ex-(if((70:Int)<(aa .i64 (ex-ey)))then(70:Int)else(aa .i64 (ex-ey)))))-ey)),()))))).1,(((0:Int),((1:Int),())),())))then(bif((((BR.F ((BR.F ((AJ.F (((0:Int),(X,())),((if((70:Int)<(aa .i64 (ex-ey)))then(70:Int)else(aa .i64 (ex-ey))),()))).1,(AK.F (((0:Int),(Y,())),((aa .i64 ((aa .i64 (ex-(if((70:Int)<(aa .i64 (ex-ey)))then(70:Int)else(aa .i64 (ex-ey)))))-ey)),()))))).1,(((0:Int),((1:Int),())),()))).1.1==(0:Int))&&((BR.F ((BR.F ((AJ.F (((0:Int),(X,())),((if((70:Int)<(aa .i64 (ex-ey)))then(70:Int)else(aa .i64 (ex-ey))),()))).1,(AK.F (((0:Int),(Y,())),((aa .i64 ((aa .i64 (ex-(if((70:Int)<(aa .i64 (ex-ey)))then(70:Int)else(aa .i64 (ex-ey)))))-ey)),()))))).1,(((0:Int),((1:Int),())),()))).1.2.1==(0:Int)))&&(!((!(((AJ.F ((AK.F (((0:Int),(Y,())),((aa .i64 ((aa .i64 (ex-(if((70:Int)<(aa .i64 (ex-ey)))then(70:Int)else(aa .i64 (ex-ey)))))-ey)),()))).1,((aa .i64 ((aa .i64 (ex-(if((70:Int)<(aa .i64 (ex-ey)))then(70:Int)else(aa .i64 (ex-ey)))))-ey)),()))).1.1==(0:Int))&&((AJ.F ((AK.F (((0:Int),(Y,())),((aa .i64 ((aa .i64 (ex-(if((70:Int)<(aa .i64 (ex-ey)))then(70:Int)else(aa .i64 (ex-ey)))))-ey)),()))).1,((aa .i64 ((aa .i64 (ex-(if((70:Int)<(aa .i64 (ex-ey)))then(70:Int)else(aa .i64 (ex-ey)))))-ey)),()))).1.2.1==Y)))||((decide ((aa .i64 ((aa .i64 (ex-(if((70:Int)<(aa .i64 (ex-ey)))then(70:Int)else(aa .i64 (ex-ey)))))-ey))>(63:Int)))&&(Y !=(0:Int))))))then(bif(Bu.pre (f,((m==(4:Int)),())))then(some ((Bu.F (f,((m==(4:Int)),()))).1,((0:Int),((0:Int),()))))else none)else bif(Bv.pre (f,(m,(nx,((BR.F ((BR.F ((AJ.F (((0:Int),(X,())),((if((70:Int)<(aa .i64 (ex-ey)))then(70:Int)else(aa .i64 (ex-ey))),()))).1,(AK.F (((0:Int),(Y,())),((aa .i64 ((aa .i64 (ex-(if((70:Int)<(aa .i64 (ex-ey)))then(70:Int)else(aa .i64 (ex-ey)))))-ey)),()))))).1,(((0:Int),((1:Int),())),()))).1,((aa .i64 (ex-(if((70:Int)<(aa .i64 (ex-ey)))then(70:Int)else(aa .i64 (ex-ey))))),(((!(((AJ.F ((AK.F (((0:Int),(Y,())),((aa .i64 ((aa .i64 (ex-(if((70:Int)<(aa .i64 (ex-ey)))then(70:Int)else(aa .i64 (ex-ey)))))-ey)),()))).1,((aa .i64 ((aa .i64 (ex-(if((70:Int)<(aa .i64 (ex-ey)))then(70:Int)else(aa .i64 (ex-ey)))))-ey)),()))).1.1==(0:Int))&&((AJ.F ((AK.F (((0:Int),(Y,())),((aa .i64 ((aa .i64 (ex-(if((70:Int)<(aa .i64 (ex-ey)))then(70:Int)else(aa .i64 (ex-ey)))))-ey)),()))).1,((aa .i64 ((aa .i64 (ex-(if((70:Int)<(aa .i64 (ex-ey)))then(70:Int)else(aa .i64 (ex-ey)))))-ey)),()))).1.2.1==Y)))||((decide ((aa .i64 ((aa .i64 (ex-(if((70:Int)<(aa .i64 (ex-ey)))then(70:Int)else(aa .i64 (ex-ey)))))-ey))>(63:Int)))&&(Y !=(0:Int)))),())))))))then(some (Bv.F (f,(m,(nx,((BR.F ((BR.F ((AJ.F (((0:Int),(X,())),((if((70:Int)<(aa .i64 (ex-ey)))then(70:Int)else(aa .i64 (ex-ey))),()))).1,(AK.F (((0:Int),(Y,())),((aa .i64 ((aa .i64 (ex-(if((70:Int)<(aa .i64 (ex-ey)))then(70:Int)else(aa .i64 (ex-ey)))))-ey)),()))))).1,(((0:Int),((1:Int),())),()))).1,((aa .i64 (ex-(if((70:Int)<(aa .i64 (ex-ey)))then(70:Int)else(aa .i64 (ex-ey))))),(((!(((AJ.F ((AK.F (((0:Int),(Y,())),((aa .i64 ((aa .i64 (ex-(if((70:Int)<(aa .i64 (ex-ey)))then(70:Int)else(aa .i64 (ex-ey)))))-ey)),()))).1,((aa .i64 ((aa .i64 (ex-(if((70:Int)<(aa .i64 (ex-ey)))then(70:Int)else(aa .i64 (ex-ey)))))-ey)),()))).1.1==(0:Int))&&((AJ.F ((AK.F (((0:Int),(Y,())),((aa .i64 ((aa .i64 (ex-(if((70:Int)<(aa .i64 (ex-ey)))then(70:Int)else(aa .i64 (ex-ey)))))-ey)),()))).1,((aa .i64 ((aa .i64 (ex-(if((70:Int)<(aa .i64 (ex-ey)))then(70:Int)else(aa .i64 (ex-ey)))))-ey)),()))).1.2.1==Y)))||((decide ((aa .i64 ((aa .i64 (ex-(if((70:Int)<(aa .i64 (ex-ey)))then(70:Int)else(aa .i64 (ex-ey)))))-ey))>(63:Int)))&&(Y !=(0:Int)))),()))))))))else none)else none)else bif((((BR.F ((AJ.F (((0:Int),(X,())),((if((70:Int)<(aa .i64 (ex-ey)))then(70:Int)else(aa .i64 (ex-ey))),()))).1,(AK.F (((0:Int),(Y,())),((aa .i64 ((aa .i64 (ex-(if((70:Int)<(aa .i64 (ex-ey)))then(70:Int)else(aa .i64 (ex-ey)))))-ey)),()))))).1.1==(0:Int))&&((BR.F ((AJ.F (((0:Int),(X,())),((if((70:Int)<(aa .i64 (ex-ey)))then(70:Int)else(aa .i64 (ex-ey))),()))).1,(AK.F (((0:Int),(Y,())),((aa .i64 ((aa .i64 (ex-(if((70:Int)<(aa .i64 (ex-ey)))then(70:Int)else(aa .i64 (ex-ey)))))-ey)),()))))).1.2.1==(0:Int)))&&(!((!(((AJ.F ((AK.F (((0:Int),(Y,())),((aa .i64 ((aa .i64 (ex-(if((70:Int)<(aa .i64 (ex-ey)))then(70:Int)else(aa .i64 (ex-ey)))))-ey)),()))).1,((aa .i64 ((aa .i64 (ex-(if((70:Int)<(aa .i64 (ex-ey)))then(70:Int)else(aa .i64 (ex-ey)))))-ey)),()))).1.1==(0:Int))&&((AJ.F ((AK.F (((0:Int),(Y,())),((aa .i64 ((aa .i64 (ex-(if((70:Int)<(aa .i64 (ex-ey)))then(70:Int)else(aa .i64 (ex-ey)))))-ey)),()))).1,((aa .i64 ((aa .i64 (ex-(if((70:Int)<(aa .i64 (ex-ey)))then(70:Int)else(aa .i64 (ex-ey)))))-ey)),()))).1.2.1==Y)))||((decide ((aa .i64 ((aa .i64 (ex-(if((70:Int)<(aa .i64 (ex-ey)))then(70:Int)else(aa .i64 (ex-ey)))))-ey))>(63:Int)))&&(Y !=(0:Int))))))then(bif(Bu.pre (f,((m==(4:Int)),())))then(some ((Bu.F (f,((m==(4:Int)),()))).1,((0:Int),((0:Int),()))))else none)else bif(Bv.pre (f,(m,(nx,((BR.F ((AJ.F (((0:Int),(X,())),((if((70:Int)<(aa .i64 (ex-ey)))then(70:Int)else(aa .i64 (ex-ey))),()))).1,(AK.F (((0:Int),(Y,())),((aa .i64 ((aa .i64 (ex-(if((70:Int)<(aa .i64 (ex-ey)))then(70:Int)else(aa .i64 (ex-ey)))))-ey)),()))))).1,((aa .i64 (ex-(if((70:Int)<(aa .i64 (ex-ey)))then(70:Int)else(aa .i64 (ex-ey))))),(((!(((AJ.F ((AK.F (((0:Int),(Y,())),((aa .i64 ((aa .i64 (ex-(if((70:Int)<(aa .i64 (ex-ey)))then(70:Int)else(aa .i64 (ex-ey)))))-ey)),()))).1,((aa .i64 ((aa .i64 (ex-(if((70:Int)<(aa .i64 (ex-ey)))then(70:Int)else(aa .i64 (ex-ey)))))-ey)),()))).1.1==(0:Int))&&((AJ.F ((AK.F (((0:Int),(Y,())),((aa .i64 ((aa .i64 (ex-(if((70:Int)<(aa .i64 (ex-ey)))then(70:Int)else(aa .i64 (ex-ey)))))-ey)),()))).1,((aa .i64 ((aa .i64 (ex-(if((70:Int)<(aa .i64 (ex-ey)))then(70:Int)else(aa .i64 (ex-ey)))))-ey)),()))).1.2.1==Y)))||((decide ((aa .i64 ((aa .i64 (ex-(if((70:Int)<(aa .i64 (ex-ey)))then(70:Int)else(aa .i64 (ex-ey)))))-ey))>(63:Int)))&&(Y !=(0:Int)))),())))))))then(some (Bv.F (f,(m,(nx,((BR.F ((AJ.F (((0:Int),(X,())),((if((70:Int)<(aa .i64 (ex-ey)))then(70:Int)else(aa .i64 (ex-ey))),()))).1,(AK.F (((0:Int),(Y,())),((aa .i64 ((aa .i64 (ex-(if((70:Int)<(aa .i64 (ex-ey)))then(70:Int)else(aa .i64 (ex-ey)))))-ey)),()))))).1,((aa .i64 (ex-(if((70:Int)<(aa .i64 (ex-ey)))then(70:Int)else(aa .i64 (ex-ey))))),(((!(((AJ.F ((AK.F (((0:Int),(Y,())),((aa .i64 ((aa .i64 (ex-(if((70:Int)<(aa .i64 (ex-ey)))then(70:Int)else(aa .i64 (ex-ey)))))-ey)),()))).1,((aa .i64 ((aa .i64 (ex-(if((70:Int)<(aa .i64 (ex-ey)))then(70:Int)else(aa .i64 (ex-ey)))))-ey)),()))).1.1==(0:Int))&&((AJ.F ((AK.F (((0:Int),(Y,())),((aa .i64 ((aa .i64 (ex-(if((70:Int)<(aa .i64 (ex-ey)))then(70:Int)else(aa .i64 (ex-ey)))))-ey)),()))).1,((aa .i64 ((aa .i64 (ex-(if((70:Int)<(aa .i64 (ex-ey)))then(70:Int)else(aa .i64 (ex-ey)))))-ey)),()))).1.2.1==Y)))||((decide ((aa .i64 ((aa .i64 (ex-(if((70:Int)<(aa .i64 (ex-ey)))then(70:Int)else(aa .i64 (ex-ey)))))-ey))>(63:Int)))&&(Y !=(0:Int)))),()))))))))else none)else none)else none)else none)else none)else none)else none
theorem bDF(f m:Int)(nx:Bool)(X ex:Int)(ny:Bool)(Y ey:Int):U0 (f,m,(nx,X,ex,()),(ny,Y,ey,()),()) =
 (bif((X==0)&&(Y==0))&&(nx==ny)then(bif Bu.pre (f,nx,())then some ((Bu.F (f,nx,())).1,0,0,())else none)
 else bif(X==0)||((Y !=0)&&decide (ex<ey))then(bif X==0 then W2 f m ny Y ey nx X ey else W2 f m ny Y ey nx X ex)
 else bif Y==0 then W2 f m nx X ex ny Y ex else W2 f m nx X ex ny Y ey):=by kernel_rfl
theorem aDZ{n:Nat}(h:n<2^64):((0:Int),((n:Int),()))=Wi n:=by
 unfold Wi;rw[co h,be h];rfl
theorem aSH:((0:Int),((1:Int),()))=Wi 1:=rfl
theorem aD0{n:Nat}(h:n<2^128):(((Wi n).1==0)&&((Wi n).2.1==0))=decide (n=0):=by
 show(((n/2^64:Nat):Int)==0&&((n%2^64:Nat):Int)==0)=_;rw[FD,FD,ee,af,beq_iff_eq,beq_iff_eq,decide_eq_true_eq];omega
theorem aW4{Y dn:Nat}(hY:Y<2^64):((!(((Wi (Y/2^dn*2^dn)).1==0)&&((Wi (Y/2^dn*2^dn)).2.1==(Y:Int))))||(decide ((dn:Int)>63)&&((Y:Int)!=0)))=decide (Y%2^dn≠0):=by
 have hdm:=ci Y (2^dn);rw[ap]at hdm;generalize hL:Y/2^dn*2^dn=L at *
 show((!(((L/2^64:Nat):Int)==0&&((L%2^64:Nat):Int)==(Y:Int)))||(decide ((dn:Int)>63)&&((Y:Int)!=0)))=_;rw[FD,IG,TU];by_cases h:Y%2^dn=0
 ·rw[decide_eq_false (p:=Y%2^dn≠0) (by omega)];rw[show(L/2^64==0)=true by rw[beq_iff_eq];omega,show(L%2^64==Y)=true by rw[beq_iff_eq];omega];by_cases hy:Y=0
  ·rw[hy];simp
  ·have:¬(dn:Int)>63:=fun hd=>by
    have h1:Y<2^dn:=ak hY (ag (by decide) (by omega));rw[be h1]at h;exact hy h
   rw[decide_eq_false this];rfl
 ·rw[decide_eq_true (p:=Y%2^dn≠0) h];rw[show(L%2^64==Y)=false by rw[beq_eq_false_iff_ne];omega];simp
theorem Vs{n k:Nat}(h:2^k<=n):k+1<=An n:=by
 have h1:=Ir n;have:k<An n:=(cp (a:=2) (by decide)).1 (ao h h1);omega
def En(f m:Int)(nx:Bool)(X:Nat)(ex:Int)(ny:Bool)(Y:Nat)(ey:Int):Nat×Nat:=let e:=if ex<=ey then ex else ey;let a:=X*2^(ex-e).toNat;let b:=Y*2^(ey-e).toNat;if nx=ny then(if a+b=0 then(Bp f nx,0)else AT f m nx (a+b) e false)else if a=b then(Bp f (m==4),0)else if b<a then AT f m nx (a-b) e false else AT f m ny (b-a) e false
theorem zV{f m:Int}{nx:Bool}{X:Nat}{ey:Int}{ny:Bool}{Y:Nat}(D:Nat):
  En f m nx X (ey+D) ny Y ey=if nx=ny then(if X*2^D+Y=0 then(Bp f nx,0)else AT f m nx (X*2^D+Y) ey false)
   else if X*2^D=Y then(Bp f (m==4),0)else if Y<X*2^D then AT f m nx (X*2^D-Y) ey false else AT f m ny (Y-X*2^D) ey false:=by
 unfold En;have he:(if ey+(D:Int)<=ey then ey+(D:Int)else ey)=ey:=by split<;>omega
 simp only[he];rw[show(ey+(D:Int)-ey).toNat=D by omega,show(ey-ey).toNat=0 by omega,jm,gl]
theorem mI(f m:Int)(nx:Bool)(X:Nat)(ex:Int)(ny:Bool)(Y:Nat)(ey:Int):En f m nx X ex ny Y ey=En f m ny Y ey nx X ex:=by
 unfold En;have he:(if ex<=ey then ex else ey)=(if ey<=ex then ey else ex):=by split<;>split<;>omega
 simp only[he];generalize(if ey<=ex then ey else ex)=e;generalize X*2^(ex-e).toNat=a;generalize Y*2^(ey-e).toNat=b;by_cases hn:nx=ny
 ·subst hn;rw[if_pos rfl,if_pos rfl,io]
 ·rw[if_neg hn,if_neg (Ne.symm hn)];rcases gk a b with h|h|h
  ·rw[if_neg (by omega),if_neg (by omega),if_neg (by omega),if_pos h]
  ·rw[if_pos h,if_pos h.symm]
  ·rw[if_neg (by omega),if_pos h,if_neg (by omega),if_neg (by omega)]
theorem Ug{f m:Int}(hf:Fm f)(nx:Bool)(X:Nat)(ex:Int)(ny:Bool)(ey:Int):En f m nx X ex ny 0 ey=if X=0 then(if nx=ny then(Bp f nx,0)else(Bp f (m==4),0))else AT f m nx X ex false:=by
 rcases Int.le_total ex ey with h|h
 ·obtain⟨D,hD⟩:=cy (show 0<=ey-ex by omega);have:ey=ex+D:=by omega
  subst this;rw[mI,zV,fd,dm];by_cases hn:nx=ny
  ·subst hn;simp only[↓reduceIte]
  ·rw[if_neg (Ne.symm hn),if_neg hn];by_cases hx:X=0
   ·subst hx;simp only[↓reduceIte]
   ·rw[if_neg (by omega),if_neg (by omega),if_neg hx,mp]
 ·obtain⟨D,hD⟩:=cy (show 0<=ex-ey by omega);have:ex=ey+D:=by omega
  subst this;rw[zV,dc];by_cases hx:X=0
  ·subst hx;rw[if_pos rfl,fd,if_pos rfl,if_pos rfl]
  ·have hp:=aj D;have hpos:0<X*2^D:=ii (by omega) hp;rw[if_neg hx];by_cases hn:nx=ny
   ·rw[if_pos hn,if_neg (by omega),WO hf hx]
   ·rw[if_neg hn,if_neg (by omega),if_pos hpos,mp,WO hf hx]
theorem pV{f m:Int}(hf:Fm f)(hm:0<=m/\m<=5)(nx:Bool)(X D:Nat)(ny:Bool)(Y:Nat)(ey:Int)(hX:X<2^53)(hY:Y<2^53)(he:-2000<=ey/\ey+D<=2000)(h0:X≠0∨(Y=0/\nx≠ny)):
  W2 f m nx X (ey+D) ny Y ey=some (((En f m nx X (ey+D) ny Y ey).1:Int),((En f m nx X (ey+D) ny Y ey).2:Int),0,()):=by
 rw[zV];have hW:=Ea hf;have hP:=Eh hf;have hU:∃U dn:Nat,(if(70:Int)<(D:Int)then(70:Int)else(D:Int))=(U:Int)/\D=U+dn/\U<=70/\(dn≠0->U=70):=by
  by_cases h:70<D
  ·exact⟨70,D-70,by rw[if_pos (by omega)];rfl,by omega,by omega,fun _=>rfl⟩
  ·exact⟨D,0,by rw[if_neg (by omega)],by omega,by omega,fun h=>absurd rfl h⟩
 obtain⟨U,dn,hU1,hU2,hU3,hU4⟩:=hU;have e1:aa .i64 (ey+(D:Int)-ey)=(D:Int):=by rw[Au (by omega)];omega
 have e2:aa .i64 (ey+(D:Int)-(U:Int))=ey+(dn:Int):=by rw[Au (by omega)];omega
 have e3:aa .i64 (ey+(dn:Int)-ey)=(dn:Int):=by rw[Au (by omega)];omega
 have hpU:=aj U;have hpd:=aj dn;have hU70:2^U<=2^70:=ag (by decide) hU3;have hH:X*2^U<2^123:=by
  have h1:X*2^U<=X*2^70:=cq _ hU70;have h2:X*2^70<2^53*2^70:=cr hX (by decide);omega
 have hXD:X*2^D=X*2^U*2^dn:=by rw[hU2,az,av]
 have hbig:Y%2^dn≠0->2^70<=X*2^U/\X≠0:=fun h=>by
  have hd:dn≠0:=fun h1=>by rw[h1,jm,Nat.mod_one]at h;exact h rfl
  have hy:Y≠0:=fun h1=>by rw[h1,ln]at h;exact h rfl
  have hx:X≠0:=by
   rcases h0 with h|h
   ·exact h
   ·exact absurd h.1 hy
  refine⟨?_,hx⟩;rw[hU4 hd];exact ju _ (by omega)
 have hYL:Y/2^dn<=Y:=dq _ _;have hLd:Y/2^dn*2^dn<=Y:=Nat.div_mul_le_self _ _;have p1:Ta (((0:Int),((X:Int),())),((U:Int),()))=some (Wi (X*2^U),()):=by
  rw[aDZ (by omega),aCf _ _ (by omega),be (by omega)]
 have p2:UG (((0:Int),((Y:Int),())),((dn:Int),()))=some (Wi (Y/2^dn),()):=by
  rw[aDZ (by omega),aRr _ _ (by omega)]
 have p3:Ta (Wi (Y/2^dn),((dn:Int),()))=some (Wi (Y/2^dn*2^dn),()):=by
  rw[aCf _ _ (by omega),be (by omega)]
 have p4:=aRs (X*2^U) (Y/2^dn) (by omega);have p5:=aRt (X*2^U) (Y/2^dn);have pz:=S9 hf (m==4);unfold W2;simp only[e1,hU1,e2,e3,aLc p1,aI6 p1,aYg p2,aVL p2,aLc p3,aI6 p3,cond_true,aYh p4,aVM p4,aYi p5,aVN p5,aW4 (show Y<2^64 by omega)];have hdm:=ci Y (2^dn);have hml:=bp Y hpd;have hX0H:X=0->X*2^U=0:=fun h=>by rw[h,fd]
 have hXb:X≠0->dn≠0->2^70<=X*2^U:=fun h1 h2=>by rw[hU4 h2];exact ju _ (by omega)
 have hHp:X≠0->0<X*2^U:=fun h=>ii (by omega) hpU;clear e1 e2 e3 p1 p2 p3;rw[ap]at hdm;generalize hHe:X*2^U=H at *
 generalize hLe:Y/2^dn=L at *
 generalize hRe:Y%2^dn=R at *
 by_cases hn:nx=ny
 ·subst hn;rw[if_pos rfl,show(nx==nx)=true by cases nx<;>rfl,cond_true];have hX0:X≠0:=by
   rcases h0 with h|h
   ·exact h
   ·exact absurd rfl h.2
  have hHp:=hHp hX0;have hN:X*2^D+Y=Y+H*2^dn:=by rw[hXD,io]
  have hNd:(X*2^D+Y)/2^dn=H+L:=by rw[hN,nu _ _ hpd,hLe,io]
  have hNm:(X*2^D+Y)%2^dn=R:=by rw[hN,kp,hRe]
  have hbl:R≠0->fP f+2<=An (H+L):=fun h=>by
   have h1:=(hbig h).1;have:=Vs (n:=H+L) (k:=70) (by omega);omega
  have p6:=Tb hf hm nx (H+L) (by omega) (ey+(dn:Int)) (by omega) (decide (R≠0)) (fun h=>hbl (by simpa using h));rw[if_neg (by omega)]at p6;simp only[T6 p6,TL p6,cond_true];have htr:=WP (f:=f) (m:=m) (neg:=nx) (N:=X*2^D+Y) (k:=dn) (E:=ey) hf (by rw[hNd];omega) (by rw[hNd,hNm];exact hbl);rw[hNd,hNm]at htr;have hpp:0<H*2^dn:=ii hHp hpd;rw[htr,if_neg (by rw[hXD];omega)]
 ·rw[if_neg hn,show(nx==ny)=false by cases nx<;>cases ny<;>first|rfl|exact absurd rfl hn,cond_false];by_cases hlt:H<L
  ·have hm0:R=0:=by
    by_cases h:R=0
    ·exact h
    ·have:=(hbig h).1;omega
   have hdn:dn=0:=by
    by_cases h:dn=0
    ·exact h
    ·exfalso;rcases h0 with h1|h1
     ·have h2:=hXb h1 h;omega
     ·have:=h1.1;omega
   subst hdn;have hY1:Y=L:=by rw[←hLe];simp
   subst hY1;have hXD1:X*2^D=H:=by rw[hXD];simp
   rw[hm0,hXD1];have p7:=rW Y H (by omega) (by omega);have p6:=Tb hf hm ny (Y-H) (by omega) (ey+((0:Nat):Int)) (by omega) false (fun h=>by cases h);rw[if_neg (by omega)]at p6;have z1:decide ((if H=Y then(0:Int)else if H<Y then -1 else 1)<0)=true:=by
    rw[if_neg (by omega),if_pos hlt];rfl
   have z2:decide ((0:Nat)≠0)=false:=by decide
   have z3:=aD0 (n:=Y-H) (by omega);rw[decide_eq_false (p:=Y-H=0) (by omega)]at z3;simp only[z1,z2,cond_true,cond_false,yD p7,wJ p7,z3,ba,T6 p6,TL p6];rw[if_neg (by omega),if_neg (by omega),gr,lb]
  ·have hge:L<=H:=by omega
   have p7:=rW H L (by omega) hge;have z1:decide ((if H=L then(0:Int)else if H<L then -1 else 1)<0)=false:=by
    by_cases h:H=L
    ·rw[if_pos h];rfl
    ·rw[if_neg h,if_neg hlt];rfl
   simp only[z1,cond_false,yD p7,wJ p7,cond_true];by_cases hm0:R=0
   ·rw[hm0,show decide ((0:Nat)≠0)=false by decide,cond_false];have hYe:Y=L*2^dn:=by omega
    have z3:=aD0 (n:=H-L) (by omega);rw[z3];by_cases hz:H-L=0
    ·have heq:X*2^D=Y:=by rw[hXD,hYe,show H=L by omega]
     rw[decide_eq_true hz,if_pos heq];simp only[bh,bc,cond_true,WD pz,VH pz];rfl
    ·rw[decide_eq_false hz];have p6:=Tb hf hm nx (H-L) (by omega) (ey+(dn:Int)) (by omega) false (fun h=>by cases h);rw[if_neg hz]at p6;simp only[ba,cond_false,T6 p6,TL p6,cond_true];have hN:X*2^D-Y=(H-L)*2^dn:=by rw[hXD,Nat.sub_mul,←hYe]
     have hpp:0<(H-L)*2^dn:=ii (by omega) hpd;have hlt2:Y<X*2^D:=by omega
     rw[if_neg (by omega),if_pos hlt2,hN,WO hf hz]
   ·rw[decide_eq_true (p:=R≠0) hm0,cond_true];obtain⟨hb1,hX0⟩:=hbig hm0;have p8:=rW (H-L) 1 (by omega) (by omega);rw[←aSH]at p8;have hbl:fP f+2<=An (H-L-1):=by
     have:=Vs (n:=H-L-1) (k:=69) (by omega);omega
    have p6:=Tb hf hm nx (H-L-1) (by omega) (ey+(dn:Int)) (by omega) true (fun _=>hbl);rw[if_neg (by omega)]at p6;simp only[yD p8,wJ p8,cond_true,bq,bm,cond_false,T6 p6,TL p6];have h2:(L+1+(H-L-1))*2^dn=H*2^dn:=by rw[show L+1+(H-L-1)=H by omega]
    rw[bw,bw,fb]at h2;have hN:X*2^D-Y=(2^dn-R)+(H-L-1)*2^dn:=by rw[hXD];omega
    have hlt2:Y<X*2^D:=by omega
    have hNd:(X*2^D-Y)/2^dn=H-L-1:=by
     rw[hN,nu _ _ hpd,co (by omega),dm]
    have hNm:(X*2^D-Y)%2^dn=2^dn-R:=by
     rw[hN,kp,be (by omega)]
    have htr:=WP (f:=f) (m:=m) (neg:=nx) (N:=X*2^D-Y) (k:=dn) (E:=ey) hf (by rw[hNd];omega) (fun _=>by rw[hNd];exact hbl);rw[hNd,hNm,decide_eq_true (p:=2^dn-R≠0) (by omega)]at htr;rw[htr,if_neg (by omega),if_pos hlt2]
theorem aSd{f m:Int}(hf:Fm f)(hm:0<=m/\m<=5)(nx:Bool)(X:Nat)(ex:Int)(ny:Bool)(Y:Nat)(ey:Int)(hX:X<2^53)(hY:Y<2^53)(hex:-2000<=ex/\ex<=2000)(hey:-2000<=ey/\ey<=2000):
  U0 (f,m,(nx,(X:Int),ex,()),(ny,(Y:Int),ey,()),())=some (((En f m nx X ex ny Y ey).1:Int),((En f m nx X ex ny Y ey).2:Int),0,()):=by
 rw[bDF];by_cases hX0:X=0
 ·subst hX0;by_cases hYn:Y=0/\nx=ny
  ·obtain⟨rfl,rfl⟩:=hYn;have p0:=S9 hf nx;rw[show((((0:Nat):Int)==0)&&(((0:Nat):Int)==0)&&(nx==nx))=true by cases nx<;>rfl,cond_true];simp only[WD p0,VH p0,cond_true];rw[Ug hf,if_pos rfl,if_pos rfl];rfl
  ·have hg:((((0:Nat):Int)==0)&&(((Y:Nat):Int)==0)&&(nx==ny))=false:=by
    by_cases hy:Y=0
    ·have:nx≠ny:=fun h=>hYn ⟨hy,h⟩;subst hy;cases nx<;>cases ny<;>first|rfl|exact absurd rfl this
    ·rw[Bg Y hy,bm,ba]
   have h1:(((0:Nat):Int)==0)=true:=rfl;rw[hg,cond_false,h1,bb,cond_true,cond_true];have ht:=pV hf hm ny Y 0 nx 0 ey hY hX (by omega) (by
    by_cases hy:Y=0
    ·exact .inr ⟨rfl,fun h=>hYn ⟨hy,h.symm⟩⟩
    ·exact .inl hy)
   rw[gr,lb]at ht;rw[gr,ht,mI f m nx 0 ex,Ug hf,Ug hf]
 ·have hx0:((X:Int)==0)=false:=Bg _ hX0;rw[hx0,ba,ba,cond_false,bt,cond_false];by_cases hY0:Y=0
  ·subst hY0;have ht:=pV hf hm nx X 0 ny 0 ex hX hY (by omega) (.inl hX0);rw[gr,lb]at ht;rw[show(((0:Nat):Int)!=0)=false by rfl,ba,cond_false,show(((0:Nat):Int)==0)=true by rfl,cond_true,gr,ht,Ug hf,Ug hf]
  ·rw[BB _ hY0,bi,Bg _ hY0,cond_false];by_cases hlt:ex<ey
   ·rw[decide_eq_true hlt,cond_true];obtain⟨D,hD⟩:=cy (show 0<=ey-ex by omega);have hee:ey=ex+D:=by omega
    subst hee;rw[pV hf hm ny Y D nx X ex hY hX (by omega) (.inl hY0),mI f m ny Y]
   ·rw[decide_eq_false hlt,cond_false];obtain⟨D,hD⟩:=cy (show 0<=ex-ey by omega);have hee:ex=ey+D:=by omega
    subst hee;rw[pV hf hm nx X D ny Y ey hX hY (by omega) (.inl hX0)]
end VL
namespace VL
open Go Vx
def Dh(n:Nat):List Int:=Wd (dg (2^32) n)
def Hs(l:List Nat):Prop:=(∀x∈l,x<2^32)/\l.length<=1000000
theorem Hs.dg{n:Nat}(h:n<2^100000):Hs (dg (2^32) n):=by
 refine⟨Ks (by decide) n,?_⟩;have:n<(2^32)^3125:=by rw[←ky];exact h
 have:=C8 (B:=2^32) (by decide) 3125 n this;omega
theorem aOd(n:Nat):(((Dh n).length:Int)==0)=decide (n=0):=by
 unfold Dh;rw[AC];by_cases h:n=0
 ·subst h;rw[DP];rfl
 ·rw[EP (by decide) (by omega),decide_eq_false h];exact Bg _ (by simp)
theorem bCl(n:Nat)(h:n<=100000000):WQ n 8=true:=by
 unfold WQ;rw[Nat.ble_eq];omega
theorem bDM(x:Nat):iu (x:Int) 4294967296=((x%2^32:Nat):Int):=rfl
theorem aYV(x:Nat)(h:x<2^64):BK .u64 (x:Int) 4294967296=((x/2^32:Nat):Int):=by
 unfold BK;have e:(x:Int).tdiv 4294967296=((x/2^32:Nat):Int):=rfl;rw[e,DL (by omega)]
theorem W6(n:Nat)(h:n<2^64):aa .u64 (n:Int)=(n:Int):=DL (by omega)
theorem aAg(a b:Nat)(h:a*b<2^64):aa .u64 ((a:Int)*(b:Int))=((a*b:Nat):Int):=by
 rw[←Int.natCast_mul,W6 _ h]
theorem Uj(a b:Nat)(h:a+b<2^64):aa .u64 ((a:Int)+(b:Int))=((a+b:Nat):Int):=by
 rw[←Int.natCast_add,W6 _ h]
theorem bDT(l:List Nat)(u v:Nat):Wd l++((u:Int)::((v:Int)::[]))=Wd (l++[u,v]):=by simp[Wd]
theorem aSn(l:List Nat)(hl:l.length<=1000000)(n:Nat)(hn:n<=l.length)(ht:(Ak l).length<=n):
  gL ((Wd l,((n:Int),())),())=some (.inl ((Wd l,(((Ak l).length:Int),())),())):=by
 have key:=DU aKb (fun x=>x.1.2.1.toNat)
  (fun x=>∃n:Nat,n<=l.length/\(Ak l).length<=n/\x=((Wd l,((n:Int),())),()))
  (fun _=>.inl ((Wd l,(((Ak l).length:Int),())),())) ?_ ((Wd l,((n:Int),())),()) ⟨n,hn,ht,rfl⟩
 ·exact key
 intro L x hx hL;obtain⟨n,hn,ht,rfl⟩:=hx;unfold VY;rcases bd n with rfl|hpos
 ·have e1:decide (((0:Nat):Int)>0)=false:=rfl;simp only[e1,bh,bg,cond_true,ba,cond_false];have:(Ak l).length=0:=by omega
  rw[this]
 ·simp(disch:=omega) only[Cm,Cb,Cn,BZ,Bt,Co,Ca,B9,Ci,Ch,Cg,B8,Ce,Cd,Ck,Cj,Cf,B6,A6,BW,Bg,BB,B5,ae,bf,cond_true,cond_false,bc,bi,cm,ba,bm,bq,bh,br,bb,bg,bt,ca,AC,Cw,FD];cases hz:(l.getD (n-1) 0==0)with
  |true=>
   simp only[cond_true];refine hL _ ⟨n-1,by omega,?_,rfl⟩ (by simp only[ae];omega);rcases aq (n-1) (Ak l).length with h|h
   ·exfalso;have e:n=(Ak l).length:=by omega
    have:=W4 l (by omega);rw[←e]at this;exact this (by simpa using hz)
   ·exact h
  |false=>
   simp only[cond_false];have:(Ak l).length=n:=by
    rcases aq (n-1) (Ak l).length with h|h
    ·omega
    ·exfalso;have:=pY l (n-1) h;rw[this]at hz;simp at hz
   rw[this]
theorem aRE(l:List Nat)(hl:l.length<=1000000):UL (Wd l,())=some (Wd (Ak l),()):=by
 show nK gL (Wd l)=_;unfold nK;have h:=aSn l hl l.length (bj _) (Dx l).1;have e:=(Dx l).1;rw[AC,h];show(bif(decide ((0:Int)<=((Ak l).length:Int))&&decide (((Ak l).length:Int)<=((Wd l).length:Int)))then some (((Wd l).take (ai ((Ak l).length:Int))).drop (ai 0),())else none)=_;simp(disch:=omega) only[Cm,Cb,Cn,BZ,Bt,Co,Ca,B9,Ci,Ch,Cg,B8,Ce,Cd,Ck,Cj,Cf,B6,A6,BW,Bg,BB,B5,ae,bf,cond_true,cond_false,bc,bi,cm,ba,bm,bq,bh,br,bb,bg,bt,ca,AC,kv,Za];rw[←(Dx l).2]
theorem aRF{l:List Nat}(hl:Hs l){v:Nat}(hv:nv (2^32) l=v):UL (Wd l,())=some (Dh v,()):=by
 rw[aRE l hl.2,Gv (by decide) _ hl.1,hv];rfl
theorem ZK{B:Nat}{l:List Nat}{v:Nat}(h:∀x∈l,x<B)(hv:v<B):∀x∈l++[v],x<B:=fun x hx=>by
 rcases cv.1 hx with hx|hx
 ·exact h x hx
 ·have:x=v:=by simpa using hx
  rw[this];exact hv
theorem aY(B:Nat)(l:List Nat)(v:Nat):nv B (l++[v])=nv B l+B^l.length*v:=by
 rw[Sv];simp[nv]
theorem aSj(a:List Nat)(ha:∀x∈a,x<2^64)(hlen:a.length<=1000000):
  gJ ((Wd a,((0:Int),((),()))),([],()))=some (.inl (((),()),(Wd (pd (2^32) (2*a.length) (nv (2^64) a)),()))):=by
 have key:=DU (aJ7 D3.pre D3.F) (fun x=>a.length-x.1.2.1.toNat)
  (fun x=>∃(i:Nat) (out:List Nat),i<=a.length/\out.length=2*i/\(∀x∈out,x<2^32)/\nv (2^32) out=nv (2^64) (a.take i)/\x=((Wd a,((i:Int),((),()))),(Wd out,())))
  (fun _=>.inl (((),()),(Wd (pd (2^32) (2*a.length) (nv (2^64) a)),()))) ?_ ((Wd a,((0:Int),((),()))),([],())) ⟨0,[],dt _,rfl,(fun x hx=>by simp at hx),by simp[nv],rfl⟩
 ·exact key
 intro L x hx hL;obtain⟨i,out,hi,hol,hod,hov,rfl⟩:=hx;unfold VT;rcases aq i a.length with hlt|hge
 ·have hx:=CG (by decide) ha i;have hn:=Ec (2^64) a i;generalize hd:a.getD i 0=d at *
  simp(disch:=omega) only[Cm,Cb,Cn,BZ,Bt,Co,Ca,B9,Ci,Ch,Cg,B8,Ce,Cd,Ck,Cj,Cf,B6,A6,BW,Bg,BB,B5,ae,bf,cond_true,cond_false,bc,bi,cm,ba,bm,bq,bh,br,bb,bg,bt,ca,AC,Cw,hd,bDM,aYV,bDT,fq,ib,bCl];refine hL _ ⟨i+1,out++[d%2^32,d/2^32],by omega,by simp;omega,?_,?_,rfl⟩ (by simp only[ae];omega)
  ·intro x hx;rcases cv.1 hx with hx|hx
   ·exact hod x hx
   ·have:x=d%2^32∨x=d/2^32:=by simpa using hx
    omega
  ·rw[Sv,hov,hol,hn,ky];show nv (2^64) (a.take i)+(2^64)^i*(d%2^32+2^32*(d/2^32+2^32*0))=_;congr 2;omega
 ·have e:i=a.length:=by omega
  subst e;rw[dk]at hov;have ho:=lG (B:=2^32) (by decide) hod hol hov;subst ho;simp(disch:=omega) only[Cm,Cb,Cn,BZ,Bt,Co,Ca,B9,Ci,Ch,Cg,B8,Ce,Cd,Ck,Cj,Cf,B6,A6,BW,Bg,BB,B5,ae,bf,cond_true,cond_false,bc,bi,cm,ba,bm,bq,bh,br,bb,bg,bt,ca,AC]
theorem aRu(a:List Nat)(ha:∀x∈a,x<2^64)(hlen:a.length<=400000):UH (Wd a,())=some (Dh (nv (2^64) a),()):=by
 show mX D3.pre D3.F gJ (Wd a)=_;unfold mX;have hw:=aSj a ha (by omega);have hlt:=Eb (B:=2^64) (by decide) a ha;have p0:=aRF (l:=pd (2^32) (2*a.length) (nv (2^64) a)) ⟨T4 (by decide) _ _,by rw[FG];omega⟩ (T5 (by decide) _ _ (by rw[ky];exact hlt));have e1:aa .i64 (2*((Wd a).length:Int))=((2*a.length:Nat):Int):=by rw[AC,Au (by omega)];omega
 have e2:decide (((2*a.length:Nat):Int)*8<=140737488355328)=true:=decide_eq_true (by omega);simp(disch:=omega) only[Cm,Cb,Cn,BZ,Bt,Co,Ca,B9,Ci,Ch,Cg,B8,Ce,Cd,Ck,Cj,Cf,B6,A6,BW,Bg,BB,B5,ae,bf,cond_true,cond_false,bc,bi,cm,ba,bm,bq,bh,br,bb,bg,bt,ca,e1,e2,jp,hw];show(bif D3.pre (Wd (pd (2^32) (2*a.length) (nv (2^64) a)),())then some (D3.F (Wd (pd (2^32) (2*a.length) (nv (2^64) a)),()))else none)=_;simp only[aYq p0,aVV p0,cond_true];rfl
theorem aCg{x:Nat}(h:x<2^64):UH (((x:Int)::[]),())=some (Dh x,()):=by
 have:=aRu [x] (fun y hy=>by rw[List.mem_singleton.1 hy];exact h) (by simp);simpa[nv,Wd]using this
theorem aKO(B n:Nat):nv B (ar n 0)=0:=by
 induction n with
 |zero=>rfl
 |succ n ih=>rw[jo];simp[nv,ih]
end VL
namespace VL
open Go Vx
theorem aW(B:Nat)(l:List Nat)(i:Nat)(h:i<l.length):nv B (l.drop i)=l.getD i 0+B*nv B (l.drop (i+1)):=by
 rw[dv h,al,ay h];rfl
theorem bDJ{B:Nat}(hB:2<=B){l:List Nat}(h:∀x∈l,x<B)(i:Nat):nv B (l.take i)<B^i:=by
 have:=Eb hB (l.take i) fun x hx=>h x (fa hx);refine ak this (ag (by omega) ?_);rw[gj];exact lf _ _
theorem bDk{P A A' X Y:Nat}(h:A<P)(hxy:X<Y):A+P*X<A'+P*Y:=by
 have:P*(X+1)<=P*Y:=cq _ hxy;rw[bl,gl]at this;omega
theorem SH{B:Nat}(hB:2<=B){a b:List Nat}(ha:∀x∈a,x<B){i:Nat}(hia:i<a.length)(hib:i<b.length)(hd:nv B (a.drop (i+1))=nv B (b.drop (i+1)))(h:a.getD i 0<b.getD i 0):nv B a<nv B b:=by
 rw[Sw B a i (by omega),Sw B b i (by omega),aW B a i hia,aW B b i hib,hd];exact bDk (bDJ hB ha i) (by omega)
theorem vQ{B:Nat}(hB:2<=B){x y:Nat}(h:(dg B x).length<(dg B y).length):x<y:=by
 have h1:=ZT hB x;rcases aq x y with h2|h2
 ·exact h2
 ·have:=C8 hB (dg B x).length y (by omega);omega
theorem aN8(a b:Nat)(h:b<=a/\a<2^64):aa .u64 ((a:Int)-(b:Int))=((a-b:Nat):Int):=by
 rw[DL (by omega)];omega
theorem aW2{P B A A' O a b c c' v:Nat}(h:A+P*c=A'+O)(h2:a+B*c'=b+c+v):A+P*a+P*B*c'=A'+P*b+(O+P*v):=by
 have h3:P*(a+B*c')=P*(b+c+v):=by rw[h2]
 rw[bl,bl,bl,←av]at h3;omega
theorem aIk{B:Nat}(hB:2<=B){x y:Nat}(h:y<=x):(dg B y).length<=(dg B x).length:=by
 rcases aq (dg B x).length (dg B y).length with h1|h1
 ·have:=vQ hB h1;omega
 ·exact h1
theorem Hs.len{n:Nat}(h:n<2^100000):(VL.dg (2^32) n).length<=3125:=by
 have:n<(2^32)^3125:=by rw[←ky];exact h
 exact C8 (B:=2^32) (by decide) 3125 n this
theorem aYU(x:Nat)(h:x<2^60):BK .i64 (x:Int) 2=((x/2:Nat):Int):=by
 unfold BK;have e:(x:Int).tdiv 2=((x/2:Nat):Int):=rfl;rw[e,Au (by omega)]
theorem yV(x m:Nat)(h:x<2^64)(hm:0<m):BK .u64 (x:Int) (m:Int)=((x/m:Nat):Int):=by
 unfold BK;have e:(x:Int).tdiv (m:Int)=((x/m:Nat):Int):=rfl;have:=dq x m;generalize x/m=q at *
 rw[e,DL (by omega)]
end VL
namespace VL
open Go Vx
theorem sB{f:Int}(h:Fm f):YR (f,())=some ((fW f:Int),(fP f:Int),(1-(fX f:Int)),()):=by
 rcases Ct h with rfl|rfl|rfl|rfl<;>kernel_rfl
theorem aSf{f:Int}(h:Fm f)(neg:Bool):YV (f,neg,())=some ((Bp f neg:Int),()):=by
 rcases Ct h with rfl|rfl|rfl|rfl<;>cases neg<;>kernel_rfl
theorem ER{f:Int}(hf:Fm f):fP f<=53:=by
 rcases Ct hf with rfl|rfl|rfl|rfl<;>decide
theorem aKE{m:Int}(hm:0<=m/\m<=5):m=0∨m=1∨m=2∨m=3∨m=4∨m=5:=by omega
theorem aUT{f m:Int}(hf:Fm f){neg:Bool}{n:Nat}{e q:Int}(h:AL n e-fP f+1<=q):Cx m neg n e q false<=2^fP f:=vO h
end VL
namespace VL
open Go Vx
def Am(f:Int)(a:Nat):Nat:=if eF f a=0 then mF f a else mF f a+2^(fP f-1)
def Al(f:Int)(a:Nat):Int:=1-(fX f:Int)-(fP f:Int)+1+(if eF f a=0 then 0 else(eF f a:Int)-1)
theorem TT(f:Int)(a:Nat):mF f a<2^(fP f-1):=bp _ (aj _)
theorem Sr{f:Int}(hf:Fm f)(a:Nat):Am f a<2^53:=by
 have h1:=TT f a;have h2:=C0 hf;have h3:=Eh hf;have h4:=Ea hf;have h5:2^(fP f-1)<=2^52:=ag (by decide) (by rcases Ct hf with rfl|rfl|rfl|rfl<;>decide);unfold Am;split<;>omega
theorem VA{f:Int}(hf:Fm f)(a:Nat):eF f a<2048:=by
 have:2^(fW f-fP f)<=2^11:=ag (by decide) (by rcases Ct hf with rfl|rfl|rfl|rfl<;>decide);have h:eF f a<2^(fW f-fP f):=bp _ (aj _);omega
theorem W7{f:Int}(hf:Fm f)(a:Nat):-2000<=Al f a/\Al f a<=2000:=by
 have h1:=VA hf a;have h2:=Ix hf;have h3:=ER hf;have h4:=Ku hf;have h5:=C0 hf;have h6:(eF f a:Int)<=2*fX f+1:=by
  have:eF f a<2^(fW f-fP f):=bp _ (aj _);have:=TG hf;omega
 unfold Al;split<;>omega
theorem sC{f:Int}(hf:Fm f){a:Nat}(h:Af f a=0):U1 (f,(a:Int),()) =
  some (if eF f a=A4 f then(mF f a !=0,(mF f a !=0)&&(mF f a/2^(fP f-2)==0),mF f a==0,sF f a,(false,[],0,()),())
   else(false,false,false,sF f a,(sF f a,Dh (Am f a),Al f a,()),()),()):=by
 have ha:=T3 h;have haW:=(E4 h).2;show pP Dn.pre Dn.F Rd.pre Rd.F f a=_;unfold pP;have h1:=C0 hf;have h2:=Eh hf;have h3:=Ea hf;have h4:=Ix hf;have h5:=ER hf;have h6:=Ku hf;have hE:=VA hf a;have hM:=TT f a;have hPp:2^(fP f-1)<=2^52:=ag (by decide) (by omega);have hpp:=aj (fP f-1);have hWp:=aj (fW f-fP f);have hWq:2^(fW f-fP f)<=2^11:=ag (by decide) (by rcases Ct hf with rfl|rfl|rfl|rfl<;>decide);have p0:=sB hf;have e1:aa .u64 (aa .i64 ((fP f:Int)-1))=((fP f-1:Nat):Int):=by rw[Bt _ (by omega),W6 _ (by omega)]
 have e2:aa .u64 (aa .i64 ((fW f:Int)-(fP f:Int)))=((fW f-fP f:Nat):Int):=by rw[BZ _ _ (by omega),W6 _ (by omega)]
 have e3:aa .u64 (aa .i64 ((fW f:Int)-1))=((fW f-1:Nat):Int):=by rw[Bt _ (by omega),W6 _ (by omega)]
 have e4:aa .u64 (aa .i64 ((fP f:Int)-2))=((fP f-2:Nat):Int):=by rw[Au (by omega),DL (by omega)];omega
 have e5:aa .u64 (((2^(fW f-fP f):Nat):Int)-1)=((2^(fW f-fP f)-1:Nat):Int):=aN8 _ 1 (by omega);have e6:aa .u64 (((2^(fP f-1):Nat):Int)-1)=((2^(fP f-1)-1:Nat):Int):=aN8 _ 1 (by omega);have e7:AQ .i64 1 ((fW f-fP f:Nat):Int)=((2^(fW f-fP f):Nat):Int):=by
  rcases Ct hf with rfl|rfl|rfl|rfl<;>decide
 have e8:aa .i64 (((2^(fW f-fP f):Nat):Int)-1)=((A4 f:Nat):Int):=Bt _ (by omega);have e9:Bs .u64 ((a/2^(fP f-1):Nat):Int) ((2^(fW f-fP f)-1:Nat):Int)=((eF f a:Nat):Int):=R4 (ao (dq _ _) ha) (by omega);have e10:aa .i64 ((eF f a:Nat):Int)=((eF f a:Nat):Int):=Au (by omega);have e11:Bs .u64 (a:Int) ((2^(fP f-1)-1:Nat):Int)=((mF f a:Nat):Int):=R4 ha (by omega);have e12:Bs .u64 ((a/2^(fW f-1):Nat):Int) 1=((a/2^(fW f-1)%2^1:Nat):Int):=R4 (n:=1) (ao (dq _ _) ha) (by omega);have e13:(((a/2^(fW f-1)%2^1:Nat):Int)==1)=sF f a:=by
  have hq:a/2^(fW f-1)<2:=by
   rw[bo (aj _),←jb,ml,jw (by omega)];exact haW
  unfold sF;rw[show((1:Int))=((1:Nat):Int)from rfl,IG];rcases(show ∀q:Nat,q<2->q=0∨q=1 from fun q h=>by omega) _ hq with hh|hh<;>rw[hh]<;>rfl
 have e14:aa .i64 (aa .i64 ((1-(fX f:Int))-(fP f:Int))+1)=1-(fX f:Int)-(fP f:Int)+1:=by
  rw[Au (n:=_-(fP f:Int)) (by omega),Au (by omega)]
 have e15:aa .u64 (((mF f a:Nat):Int)+((2^(fP f-1):Nat):Int))=((mF f a+2^(fP f-1):Nat):Int):=Uj _ _ (by omega);have s1:AQ .u64 1 ((fP f-1:Nat):Int)=((2^(fP f-1):Nat):Int):=SL (by omega);have s2:AQ .u64 1 ((fW f-fP f:Nat):Int)=((2^(fW f-fP f):Nat):Int):=SL (by omega);have r1:AE .u64 (a:Int) ((fP f-1:Nat):Int)=((a/2^(fP f-1):Nat):Int):=Dv _ _ (by omega);have r2:AE .u64 (a:Int) ((fW f-1:Nat):Int)=((a/2^(fW f-1):Nat):Int):=Dv _ _ (by omega);have r3:AE .u64 ((mF f a:Nat):Int) ((fP f-2:Nat):Int)=((mF f a/2^(fP f-2):Nat):Int):=Dv _ _ (by omega);simp only[lP p0,kN p0,cond_true,e1,e2,e3,e4,s1,s2,r1,r2,e5,e6,e7,e8,e9,e10,e11,e12,e13,e14,e15,r3];by_cases hfull:eF f a=A4 f
 ·rw[IG,show(eF f a==A4 f)=true by simp[hfull],cond_true,if_pos hfull,TU,FD,FD]
 ·rw[IG,show(eF f a==A4 f)=false by simp[hfull],cond_false,if_neg hfull];by_cases h0:eF f a=0
  ·have p1:=aCg (x:=mF f a) (by omega);have hg:decide (((eF f a:Nat):Int)>0)=false:=decide_eq_false (by omega);have hm:Am f a=mF f a:=by unfold Am;rw[if_pos h0]
   have hx:Al f a=1-(fX f:Int)-(fP f:Int)+1:=by unfold Al;rw[if_pos h0,lb]
   simp only[hg,cond_false,aLd p1,aI7 p1,cond_true,hm,hx]
  ·have p1:=aCg (x:=mF f a+2^(fP f-1)) (by omega);have hg:decide (((eF f a:Nat):Int)>0)=true:=decide_eq_true (by omega);have hm:Am f a=mF f a+2^(fP f-1):=by unfold Am;rw[if_neg h0]
   have hx:aa .i64 ((1-(fX f:Int)-(fP f:Int)+1)+aa .i64 (((eF f a:Nat):Int)-1))=Al f a:=by
    unfold Al;rw[if_neg h0,Au (n:=((eF f a:Nat):Int)-1) (by omega),Au (by omega)]
   simp only[hg,cond_true,aLd p1,aI7 p1,hm,hx]
def Ap(f:Int)(a:Nat):Bool:=eF f a==A4 f&&mF f a==0
def Tv(f m:Int)(a b:Nat):Int×Int×Int×Unit:=bif AI f a||AI f b then((BD f:Int),1,0,())else bif nan f a||nan f b then((BD f:Int),0,0,())else bif(Ap f a&&Ap f b)&&!(sF f a==sF f b)then((BD f:Int),1,0,())else bif Ap f a then((a:Int),0,0,())else bif Ap f b then((b:Int),0,0,())else(((En f m (sF f a) (Am f a) (Al f a) (sF f b) (Am f b) (Al f b)).1:Int),((En f m (sF f a) (Am f a) (Al f a) (sF f b) (Am f b) (Al f b)).2:Int),0,())
def In(f m:Int)(a b:Nat):Int×Int×Int×Unit:=if Fm f then(if 0<=m/\m<=5 then(if Af f a=0/\Af f b=0 then Tv f m a b else(0,0,4,()))else(0,0,3,()))else(0,0,2,())
theorem aSe(s s':Bool)(X:Nat)(e:Int):U2 ((false,false,false,s,(s',Dh X,e,()),()),())=some (decide (X=0),()):=by
 show W1 (false,false,false,s,(s',Dh X,e,()),())=_;unfold W1;dsimp only;rw[aOd];rfl
theorem aVH{f:Int}{a:Nat}(h:eF f a=A4 f):nan f a=(!(mF f a==0))/\AI f a=(!(mF f a==0)&&(mF f a/2^(fP f-2)==0))/\Ap f a=(mF f a==0):=by
 unfold AI nan Ap;rw[h];simp[bne]
theorem x9{f:Int}{a:Nat}(h:eF f a≠A4 f):nan f a=false/\AI f a=false/\Ap f a=false:=by
 unfold AI nan Ap;simp[h]
theorem rZ{f:Int}{a:Nat}(h:Af f a=0):Tf (f,(a:Int),())=some ((AP f a:Int),()):=by
 obtain⟨hf,h0⟩:=E4 h;show nZ RQ.pre RQ.F f a=_;unfold nZ;have h2:=Eh hf;have h3:=Ea hf;have p0:=aSf hf true;have e0:Bp f true=2^(fW f-1):=rfl;simp only[aYN p0,aWi p0,cond_true,e0];rw[aN9 (by omega) (by rw[jw (by omega)];exact h0)];have e:(if a<2^(fW f-1)then a+2^(fW f-1)else a-2^(fW f-1))=AP f a:=by
  have hp:=Sx h;have hl:=Tu (f:=f) a;unfold AP;unfold Cy at hp⊢;cases hs:sF f a<;>rw[hs]at hp<;>simp only[cond_true,cond_false,bq,bh]at hp⊢
  ·rw[if_pos (by omega)];omega
  ·rw[if_neg (by omega)];omega
 rw[e]
def NA(f m:Int)(a b:Nat):Int×Int×Int×Unit:=In f m a (if Af f b=0 then AP f b else b)
theorem aXl{f:Int}{b:Nat}(h:Af f b=0):AP f b<2^64:=T3 (IH (E4 h).1 b)
end VL
namespace VL
open Go Vx
theorem gG{f:Int}{a:Nat}(h:Af f a=0):Y1 (f,(a:Int),())=some (sF f a,(eF f a:Int),(mF f a:Int),0,()):=by
 obtain⟨hf,h0⟩:=E4 h;have ha:=T3 h;show pT Ar.pre Ar.F DD.pre DD.F f a=_;unfold pT;have p0:=Ih f a ha;have p2:=sD hf a ha;have hr1:decide (0<=f)=true:=decide_eq_true hf.1;have hr2:decide (f<((4:Nat):Int))=true:=decide_eq_true hf.2;simp only[zD hf,hr1,hr2,Hl p0,Hf p0,yM p2,wS p2,h,cond_true,bne_self_eq_false,cond_false]
theorem aDF{f:Int}{a:Nat}(h:Af f a=0):YU (f,BH f,(a:Int),())=some ((sF f a,(Am f a:Int),Al f a,()),()):=by
 obtain⟨hf,h0⟩:=E4 h;show pO B1.pre B1.F f (BH f) a=_;unfold pO;have h1:=C0 hf;have h3:=ER hf;have h4:=Ix hf;have hE:=VA hf a;have hM:=TT f a;have hPp:2^(fP f-1)<=2^52:=ag (by decide) (by omega);have p0:=gG h;have r1:(BH f).2.1=(fP f:Int):=rfl;have r2:(BH f).2.2.1=1-(fX f:Int):=rfl;have e0:aa .i64 ((fP f:Int)-1)=((fP f-1:Nat):Int):=Bt _ (by omega);have e1:aa .i64 (aa .i64 ((1-(fX f:Int))-(fP f:Int))+1)=1-(fX f:Int)-(fP f:Int)+1:=by
  rw[Au (n:=_-(fP f:Int)) (by omega),Au (by omega)]
 have e2:aa .i64 (eF f a:Int)=(eF f a:Int):=Au (by omega);have e3:AQ .u64 1 ((fP f-1:Nat):Int)=((2^(fP f-1):Nat):Int):=SL (by omega);have e4:Aq .u64 (mF f a:Int) ((2^(fP f-1):Nat):Int)=((mF f a+2^(fP f-1):Nat):Int):=by
  have:=IJ (a:=mF f a) (b:=1) (k:=fP f-1) hM (by omega);rwa [fb]at this
 simp only[lS p0,kQ p0,cond_true,r1,r2,e0,e1,e2,e3,e4,A6];by_cases hz:eF f a=0
 ·have hg:decide ((eF f a:Int)>0)=false:=decide_eq_false (by omega);have hm:Am f a=mF f a:=by unfold Am;rw[if_pos hz]
  have hx:Al f a=1-(fX f:Int)-(fP f:Int)+1:=by unfold Al;rw[if_pos hz,lb]
  rw[hg,cond_false,hm,hx]
 ·have hg:decide ((eF f a:Int)>0)=true:=decide_eq_true (by omega);have hm:Am f a=mF f a+2^(fP f-1):=by unfold Am;rw[if_neg hz]
  have hx:aa .i64 ((1-(fX f:Int)-(fP f:Int)+1)+aa .i64 ((eF f a:Int)-1))=Al f a:=by
   unfold Al;rw[if_neg hz,Au (n:=(eF f a:Int)-1) (by omega),Au (by omega)]
  rw[hg,cond_true,hm,hx]
theorem jP(f:Int)(a:Nat):(BT f a==2||BT f a==9)=Ap f a:=by
 unfold BT Ap;cases eF f a==A4 f<;>cases eF f a==0<;>cases mF f a==0<;>cases sF f a<;>cases mF f a/2^(fP f-2)!=0<;>rfl
theorem aUQ(f:Int)(a b:Nat):((Ap f a&&Ap f b)&&(BT f a !=BT f b))=((Ap f a&&Ap f b)&&!(sF f a==sF f b)):=by
 unfold BT Ap;cases eF f a==A4 f<;>cases mF f a==0<;>cases eF f b==A4 f<;>cases mF f b==0<;>first|rfl|(cases sF f a<;>cases sF f b<;>rfl)
theorem rY(f m:Int){a b:Nat}(ha:a<2^64)(hb:b<2^64):X8 (f,m,(a:Int),(b:Int),())=some (In f m a b):=by
 show nV Ao.pre Ao.F AW.pre AW.F AS.pre AS.F RO.pre RO.F RN.pre RN.F f m a b=_;unfold nV In;by_cases hf:Fm f
 ·rw[if_pos hf];have p0:=Ge hf;simp only[CJ p0,CF p0,cond_true,bne_self_eq_false,cond_false];by_cases hm:0<=m/\m<=5
  ·have hmm:(decide (m<0)||decide (m>5))=false:=by
    rw[decide_eq_false (p:=m<0) (by omega),decide_eq_false (p:=m>5) (by omega)];rfl
   rw[if_pos hm,hmm,cond_false];have c4:∀x:Nat,Af f x≠0->Af f x=4:=fun x h=>by
    unfold Af at h⊢;rw[if_pos hf]at h⊢;split at h
    ·exact absurd rfl h
    ·rename_i h1;rw[if_neg h1]
   by_cases hca:Af f a=0
   ·have p1:=UY ha hca;by_cases hcb:Af f b=0
    ·have p2:=UY hb hcb;rw[if_pos ⟨hca,hcb⟩];have p3:=YT hf;have p4:=aDF hca;have p5:=aDF hcb;have p6:=aSd hf hm (sF f a) (Am f a) (Al f a) (sF f b) (Am f b) (Al f b) (Sr hf a) (Sr hf b) (W7 hf a) (W7 hf b);simp only[KJ p1,KA p1,KJ p2,KA p2,cond_true,bne_self_eq_false,cond_false,lQ p3,kO p3,aLD p4,aJw p4,aLD p5,aJw p5,aYM p6,aWh p6,jP,aUQ];unfold Tv;rw[←Tz,←Tz,←Vw,←Vw];generalize((Ap f a&&Ap f b)&&!(sF f a==sF f b))=w1;generalize Ap f a=w2;generalize Ap f b=w3;generalize(BT f a==0)=x1;generalize(BT f b==0)=x2;generalize(BT f a==1)=x3;generalize(BT f b==1)=x4;cases x1<;>cases x2<;>cases x3<;>cases x4<;>cases w1<;>cases w2<;>cases w3<;>rfl
    ·have p2:=sA hb hcb;rw[if_neg (fun h=>hcb h.2)];have hne:(Af f b !=0)=true:=by simpa using hcb
     simp only[KJ p1,KA p1,KJ p2,KA p2,cond_true,bne_self_eq_false,cond_false,hne];rw[c4 b hcb]
   ·have p1:=sA ha hca;rw[if_neg (fun h=>hca h.1)];have hne:(Af f a !=0)=true:=by simpa using hca
    simp only[KJ p1,KA p1,cond_true,hne];rw[c4 a hca]
  ·rw[if_neg hm];have:(decide (m<0)||decide (m>5))=true:=by
    by_cases h:m<0
    ·rw[decide_eq_true h];rfl
    ·rw[decide_eq_true (p:=m>5) (by omega),bg]
   rw[this];rfl
 ·rw[if_neg hf];have p0:=Ii hf;simp only[CJ p0,CF p0];rfl
theorem aRI(f m:Int){a b:Nat}(ha:a<2^64)(hb:b<2^64):X7 (f,m,(a:Int),(b:Int),())=some (NA f m a b):=by
 show nU Ar.pre Ar.F E1.pre E1.F Fs.pre Fs.F f m a b=_;unfold nU NA;have p0:=Ih f b hb;by_cases h:Af f b=0
 ·have p1:=aSc h;have p2:=rY f m ha (aXl h);rw[if_pos h];simp only[Hl p0,Hf p0,h,beq_self_eq_true,cond_true,aYL p1,aWg p1,yG p2,wM p2]
 ·have p2:=rY f m ha hb;have hne:(Af f b==0)=false:=by simpa using h
  rw[if_neg h];simp only[Hl p0,Hf p0,cond_true,hne,cond_false,yG p2,wM p2]
end VL
namespace VL
open Go Vx
theorem aWt(f:Int)(neg:Bool):C3 f neg=CO f+Bp f neg:=by
 unfold C3 CO A4;rw[ap]
theorem uU(f:Int)(s:Bool)(x:Nat):x+Bp f s=Cy f s x:=by
 unfold Cy Bp;cases s<;>rfl
theorem aJJ{f:Int}(hf:Fm f):CO f=(2*fX f+1)*2^(fP f-1):=by
 unfold CO A4;rw[←TG hf,ap]
theorem aXg{f:Int}(hf:Fm f){a:Nat}(h:Bj f a<=CO f):nan f a=false:=by
 unfold nan;rw[TD hf,Np hf];by_cases he:Bj f a/2^(fP f-1)=A4 f
 ·have hdm:=ci (Bj f a) (2^(fP f-1));rw[he]at hdm;unfold CO at h;have:Bj f a%2^(fP f-1)=0:=by omega
  rw[this];simp
 ·simp[he]
def Hp(f m:Int)(neg:Bool)(n:Nat)(e:Int):Nat×Nat:=
 if AL n e>fX f then((if SO m neg then CO f else CO f-1),20)
 else
  let q:=Dc f (AL n e)
  let u:=Cx m neg n e q false
  if q+An u-1>fX f then((if SO m neg then CO f else CO f-1),20)
  else((q-(1-(fX f:Int)-fP f+1)).toNat*2^(fP f-1)+u,
   if EO n e q false=0 then 0 else if Ek f m neg n e false then 24 else 16)
theorem aWu{f:Int}(hf:Fm f):1<=CO f:=by
 rw[aJJ hf];exact ii (by omega) (aj _)
theorem aHO{f m:Int}(hf:Fm f)(neg:Bool):Vr f m neg=Cy f neg (if SO m neg then CO f else CO f-1):=by
 have:=aWu hf;unfold Vr;rw[aWt,←uU];split<;>omega
theorem SG{f:Int}(hf:Fm f)(m:Int)(neg:Bool)(n:Nat)(e:Int):AT f m neg n e false=(Cy f neg (Hp f m neg n e).1,(Hp f m neg n e).2):=by
 unfold AT Hp;by_cases h:AL n e>fX f
 ·rw[if_pos h,if_pos h,aHO hf]
 ·rw[if_neg h,if_neg h];dsimp only;by_cases h2:Dc f (AL n e)+(An (Cx m neg n e (Dc f (AL n e)) false):Int)-1>fX f
  ·rw[if_pos h2,if_pos h2,aHO hf]
  ·rw[if_neg h2,if_neg h2];dsimp only;rw[uU]
theorem aWQ(f:Int)(hf:Fm f)(t:Int)(ht:¬t>fX f):t-(fP f:Int)+1<=Dc f t/\1-(fX f:Int)-(fP f:Int)+1<=Dc f t/\Dc f t<=(fX f:Int)-(fP f:Int)+1:=by
 have:=Ku hf;unfold Dc;split<;>refine⟨?_,?_,?_⟩<;>omega
theorem bCi{f m:Int}(hf:Fm f){neg:Bool}{n:Nat}{e:Int}(h1:¬AL n e>fX f)(h2:¬Dc f (AL n e)+(An (Cx m neg n e (Dc f (AL n e)) false):Int)-1>fX f):
  (Dc f (AL n e)-(1-(fX f:Int)-fP f+1)).toNat*2^(fP f-1)+Cx m neg n e (Dc f (AL n e)) false<CO f:=by
 obtain⟨g1,g2,g3⟩:=aWQ f hf _ h1;have hu:=aUT (m:=m) (neg:=neg) hf g1;generalize Dc f (AL n e)=q at *
 generalize Cx m neg n e q false=u at *
 have hP:=C0 hf;have hX:=Ku hf;have hpp:=aj (fP f-1);have h2p:2^fP f=2*2^(fP f-1):=by rw[←jb,ml,jw (by omega)]
 rw[aJJ hf];obtain⟨k,hk⟩:=cy (show 0<=q-(1-(fX f:Int)-(fP f:Int)+1) by omega);rw[hk,ae];rcases aq u (2^fP f)with h|h
 ·have hk2:k+2<=2*fX f+1:=by omega
  have:=aw (2^(fP f-1)) hk2;rw[bw]at this;omega
 ·have hb:fP f+1<=An u:=Vs h;have hk2:k+3<=2*fX f+1:=by omega
  have:=aw (2^(fP f-1)) hk2;rw[bw]at this;omega
theorem bL{f:Int}(hf:Fm f)(m:Int)(neg:Bool)(n:Nat)(e:Int):(Hp f m neg n e).1<=CO f:=by
 unfold Hp;by_cases h:AL n e>fX f
 ·rw[if_pos h];dsimp only;split<;>omega
 ·rw[if_neg h];dsimp only;by_cases h2:Dc f (AL n e)+(An (Cx m neg n e (Dc f (AL n e)) false):Int)-1>fX f
  ·rw[if_pos h2];dsimp only;split<;>omega
  ·rw[if_neg h2];exact Nat.le_of_lt (bCi hf h h2)
def Hh(m:Int):Int:=if m=3 then 4 else if m=4 then 3 else m
theorem aWj{m:Int}(hm:0<=m/\m<=5)(neg odd:Bool)(r:Nat):Ej (Hh m) (!neg) odd r=Ej m neg odd r:=by
 rcases aKE hm with rfl|rfl|rfl|rfl|rfl|rfl<;>cases neg<;>rfl
theorem bDS{m:Int}(hm:0<=m/\m<=5)(neg:Bool):SO (Hh m) (!neg)=SO m neg:=by
 rcases aKE hm with rfl|rfl|rfl|rfl|rfl|rfl<;>cases neg<;>rfl
theorem aIg{m:Int}(hm:0<=m/\m<=5)(neg:Bool)(n:Nat)(e q:Int)(more:Bool):Cx (Hh m) (!neg) n e q more=Cx m neg n e q more:=by
 unfold Cx;rw[aWj hm]
theorem bDL{f m:Int}(hm:0<=m/\m<=5)(neg:Bool)(n:Nat)(e:Int)(more:Bool):Ek f (Hh m) (!neg) n e more↔Ek f m neg n e more:=by
 unfold Ek;rw[aIg hm]
theorem aLP{f m:Int}(hm:0<=m/\m<=5)(neg:Bool)(n:Nat)(e:Int):Hp f (Hh m) (!neg) n e=Hp f m neg n e:=by
 unfold Hp;simp only[bDS hm,aIg hm,bDL hm]
theorem WS(f:Int)(s:Bool):Bp f s=Cy f s 0:=by
 rw[←uU,dm]
theorem aMp{f m:Int}(hf:Fm f)(hm:0<=m/\m<=5)(nx:Bool)(X:Nat)(ex:Int)(ny:Bool)(Y:Nat)(ey:Int):
  ∃s s' x g,En f m nx X ex ny Y ey=(Cy f s x,g)/\En f (Hh m) (!nx) X ex (!ny) Y ey=(Cy f s' x,g)/\x<=CO f/\(s'=!s∨x=0):=by
 unfold En;dsimp only;generalize(if ex<=ey then ex else ey)=e;generalize X*2^(ex-e).toNat=a;generalize Y*2^(ey-e).toNat=b;have hr:∀neg n,AT f (Hh m) (!neg) n e false=(Cy f (!neg) (Hp f m neg n e).1,(Hp f m neg n e).2):=fun neg n=>by
  rw[SG hf,aLP hm]
 by_cases hn:nx=ny
 ·subst hn;rw[if_pos rfl,if_pos rfl];by_cases h0:a+b=0
  ·rw[if_pos h0,if_pos h0];exact⟨nx,!nx,0,0,by rw[WS],by rw[WS],dt _,.inr rfl⟩
  ·rw[if_neg h0,if_neg h0];exact⟨nx,!nx,_,_,SG hf _ _ _ _,hr _ _,bL hf _ _ _ _,.inl rfl⟩
 ·have hn2:¬((!nx)=(!ny)):=fun h=>hn (by cases nx<;>cases ny<;>first|rfl|cases h);rw[if_neg hn,if_neg hn2];by_cases h1:a=b
  ·rw[if_pos h1,if_pos h1];exact⟨_,_,0,0,by rw[WS],by rw[WS],dt _,.inr rfl⟩
  ·rw[if_neg h1,if_neg h1];by_cases h2:b<a
   ·rw[if_pos h2,if_pos h2];exact⟨nx,!nx,_,_,SG hf _ _ _ _,hr _ _,bL hf _ _ _ _,.inl rfl⟩
   ·rw[if_neg h2,if_neg h2];exact⟨ny,!ny,_,_,SG hf _ _ _ _,hr _ _,bL hf _ _ _ _,.inl rfl⟩
theorem aL{f:Int}(hf:Fm f):CO f<2^(fW f-1):=by have:=aJM hf;omega
theorem aKD{f:Int}(s:Bool){x:Nat}(hx:x<2^(fW f-1)):AY f (Cy f s x)=bif s then -(x:Int)else x:=by
 unfold AY;rw[Wu s hx,aT s hx]
theorem kZ{f:Int}(hf:Fm f)(s:Bool){x:Nat}(hx:x<=CO f):nan f (Cy f s x)=false:=
 aXg hf (by rw[Wu s (ao hx (aL hf))];exact hx)
theorem aLU{f m:Int}(hf:Fm f){a:Nat}(h:Af f a=0)(hfin:eF f a≠A4 f)(h0:Am f a≠0):AT f m (sF f a) (Am f a) (Al f a) false=(a,0):=by
 have hP:=C0 hf;have hX:=Ku hf;have hpp:=aj (fP f-1);have h2p:2^fP f=2*2^(fP f-1):=by rw[←jb,ml,jw (by omega)]
 have hM:=TT f a;have hEl:eF f a<A4 f:=Nat.lt_of_le_of_ne (vU a) hfin;have hfull:A4 f=2*fX f+1:=by unfold A4;rw[←TG hf]
 have habs:=ZC hf a;have hpat:=Sx h;rw[SG hf];have key:Hp f m (sF f a) (Am f a) (Al f a)=(Bj f a,0):=by
  have hbits:∃t,AL (Am f a) (Al f a)=t/\t<=fX f/\Dc f t=Al f a/\Al f a+(An (Am f a):Int)-1=t:=by
   refine⟨_,rfl,?_,?_,rfl⟩
   ·unfold AL Al;by_cases he:eF f a=0
    ·have hm:Am f a=mF f a:=by unfold Am;rw[if_pos he]
     have:=Fx (n:=Am f a) (k:=fP f-1) (by rw[hm];exact hM);rw[if_pos he];omega
    ·have hm:Am f a=mF f a+2^(fP f-1):=by unfold Am;rw[if_neg he]
     have:=Fx (n:=Am f a) (k:=fP f) (by rw[hm];omega);rw[if_neg he];omega
   ·unfold Dc AL Al;by_cases he:eF f a=0
    ·have hm:Am f a=mF f a:=by unfold Am;rw[if_pos he]
     have hb:=Fx (n:=Am f a) (k:=fP f-1) (by rw[hm];exact hM);rw[if_pos he,if_pos (by omega)];omega
    ·have hm:Am f a=mF f a+2^(fP f-1):=by unfold Am;rw[if_neg he]
     have hb:=Fx (n:=Am f a) (k:=fP f) (by rw[hm];omega);have hb2:=Vs (n:=Am f a) (k:=fP f-1) (by rw[hm];omega);rw[if_neg he];by_cases h1:eF f a=1
     ·rw[h1];split<;>omega
     ·rw[if_neg (by omega)];omega
  obtain⟨t,ht,ht2,hlow,htb⟩:=hbits;have hcut:EO (Am f a) (Al f a) (Al f a) false=0:=by rw[ZR,zG (ob _)]
  have hcn:Cx m (sF f a) (Am f a) (Al f a) (Al f a) false=Am f a:=by
   unfold Cx;rw[if_neg (fun hh=>hh.1 hcut),yS (ob _),nw];simp
  unfold Hp;rw[ht,if_neg (by omega),hlow];dsimp only;rw[hcn,if_neg (by omega),hcut,if_pos rfl];congr 1;rw[habs];unfold Al Am;by_cases he:eF f a=0
  ·rw[if_pos he,if_pos he,he,ej,lb,nw];simp
  ·rw[if_neg he,if_neg he];rw[show(1-(fX f:Int)-(fP f:Int)+1+((eF f a:Int)-1)-(1-(fX f:Int)-(fP f:Int)+1)).toNat=eF f a-1 by omega];obtain⟨k,hk⟩:∃k,eF f a=k+1:=⟨eF f a-1,by omega⟩
   rw[hk,Nat.add_sub_cancel,bl,gl,ap k];omega
 rw[key];dsimp only;rw[←hpat]
theorem aWv{f:Int}(hf:Fm f){a b:Nat}(ha:Af f a=0)(hb:Af f b=0)(h1:Ap f a=true)(h2:Ap f b=true)(hs:sF f a=sF f b):a=b:=by
 have e1:Bj f a=CO f:=(aJK hf a).2 (by unfold Ap at h1;simpa using h1);have e2:Bj f b=CO f:=(aJK hf b).2 (by unfold Ap at h2;simpa using h2);rw[Sx ha,Sx hb,e1,e2,hs]
theorem aUh{f m:Int}(hf:Fm f){a b:Nat}(ha:Af f a=0)(hb:Af f b=0):Tv f m a b=Tv f m b a:=by
 unfold Tv;rw[mI f m (sF f a),jn (AI f a),jn (nan f a),Bool.and_comm (Ap f a),show(sF f a==sF f b)=(sF f b==sF f a) by cases sF f a<;>cases sF f b<;>rfl];cases h1:Ap f a with
 |false=>cases Ap f b<;>rfl
 |true=>
  cases h2:Ap f b with
  |false=>rfl
  |true=>
   cases hs:(sF f b==sF f a)with
   |false=>rfl
   |true=>
    have:=aWv hf ha hb h1 h2 (beq_iff_eq.1 hs).symm;subst this;rfl
end VL
namespace VL
open Go Vx
def qm(f:Int):Int:=1-(fX f:Int)-(fP f:Int)+1
end VL
end
