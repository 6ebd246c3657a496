/- Part 6 of the proof. What is proved: symbolic execution of the functions, proved sound; what each function of the program computes, and that every run ends with it; what these functions compute, in plain numbers. Conditions: each theorem bears its own. -/
import Derived.Test.YthajbkcpnbiobaaGreatDoorVxG5
import Derived.IntWalk
set_option linter.all false
set_option exponentiation.threshold 1000000
noncomputable section
open BitVec renaming ofInt->dh,toNat_and->qq,toNat_or->qy
open Bool renaming and_eq_false_iff->mp,and_eq_true->ar,and_false->be,and_self->ba,and_true->bq,eq_iff_iff->gj,false_and->ay,false_or->bm,not_false->bf,not_true->bi,or_eq_true->fh,or_false->br,or_self->bj,or_true->bo,true_and->bl,true_or->bg
open Go.BinOp renaming add->qn
open Go.FloatKind renaming f64->je
open Go.IntKind renaming bits->ji,signed->jr,wrap->al
open Int renaming add_zero->lf,eq_ofNat_of_zero_le->cv,natCast_nonneg->qc,natCast_zero->jf,tmod->ii,toNat->aq,toNat_natCast->ao,toNat_zero->bb
open List renaming all_eq_true->ku,append_nil->du,drop->rf,drop_eq_getElem_cons->dr,drop_replicate->lw,drop_zero->jh,getD_cons_succ->po,getD_cons_zero->pn,getD_eq_getElem?_getD->aw,getElem?_eq_getElem->bw,getElem?_eq_none->dz,getElem?_eq_some_iff->bp,getElem?_map->lj,getElem?_of_mem->mw,length_append->fc,length_cons->cy,length_map->cp,length_nil->ee,length_replicate->gr,length_set->jj,length_take->gz,mem_append->dt,mem_cons->dq,mem_of_mem_drop->ln,mem_of_mem_take->gc,mem_range->lq,nil_append->ld,range->ja,replicate->bd,replicate_succ->jw,replicate_zero->jg,set_append_right->gh,set_cons_zero->kf,set_set->ot,take->lb,take_length->dw,take_of_length_le->de,take_succ->nr,take_zero->ml
open Nat renaming add_assoc->io,add_comm->jc,add_mul->cu,add_mul_div_left->fj,add_mul_div_right->ph,add_mul_mod_self_left->gm,add_mul_mod_self_right->lk,add_sub_cancel_left->jq,add_zero->dp,div_add_mod->df,div_div_eq_div_mul->fd,div_eq_of_lt->dc,div_le_self->ga,div_lt_iff_lt_mul->cj,div_lt_self->pf,eq_of_testBit_eq->mv,eq_zero_or_pos->cg,le_mul_of_pos_left->mh,le_refl->ci,lt_of_le_of_lt->bv,lt_of_lt_of_le->az,lt_or_ge->bc,lt_trans->gl,lt_trichotomy->gd,min_eq_left->ij,mod_add_div->jk,mod_eq_of_lt->ce,mod_lt->cn,mod_mod->rm,mod_mul->nj,mod_two_eq_zero_or_one->ka,mul_add->ck,mul_assoc->bu,mul_comm->bt,mul_div_cancel->jn,mul_eq_zero->pe,mul_le_mul_left->cq,mul_le_mul_right->bh,mul_left_comm->ic,mul_lt_mul_left->pp,mul_lt_mul_of_pos_left->nk,mul_lt_mul_of_pos_right->dl,mul_mod->rn,mul_mod_left->mu,mul_mod_mul_right->gk,mul_mod_right->mj,mul_one->gx,mul_pos->ir,mul_right_comm->kg,mul_zero->fu,one_mul->go,or_comm->rk,pow_add->ca,pow_le_pow_right->ax,pow_lt_pow_iff_right->dk,pow_lt_pow_right->ct,pow_mul->gn,pow_pos->iq,pow_succ->fm,pow_succ'->iw,pow_zero->iv,strongRecOn->pg,sub_self->gu,sub_zero->nm,testBit_lt_two_pow->oh,testBit_succ->lv,testBit_two_pow->pm,testBit_two_pow_mul_add->jy,two_pow_pos->au,zero_add->dj,zero_le->dv,zero_mod->mn,zero_mul->fq
namespace Vx
open Go Go.Proofs
variable (p69:BS)(f69:BT)(p91:HM)(f91:HP)(p65:D3)(f65:D4)(p140:XU)(f140:X4)(p70:DA)(f70:DB)(p118:GX)(f118:GY)(p173:BD)(f173:BE)(p151:Lr)(f151:Lv)(p171:UO)(f171:UT)(p186:VT)(f186:V4)(p185:VS)(f185:V3)(p176:VR)(f176:V2)(p141:VP)(f141:V0)(p143:OZ)(f143:O7)(p97:O5)(f97:Pd)(p122:F4)(f122:F5)(p144:Jv)(f144:Jy)(p333:aBA)(f333:aCe)(p311:rM)(f311:sE)(p313:rN)(f313:sG)(p324:aBy)(f324:aCc)(p325:aBz)(f325:aCd)(p468:XZ)(f468:X9)(p469:VU)(f469:V5)(p470:rT)(f470:sM)(p473:rU)(f473:sN)(p474:Ls)(f474:Lw)(p475:dR)(f475:eK)(p476:aBV)(f476:aCz)(p67:Jx)(f67:JA)(p74:X1)(f74:Yb)(p76:dY)(f76:eU)(p32:Y32)(f32:Z32)(p487:O1)(f487:O9)(p492:O2)(f492:Pa)(p301:aBt)(f301:aB7)(p494:dT)(f494:eN)(p306:aBu)(f306:aB8)(p496:dU)(f496:eO)(p497:aKi)(f497:aLQ)(p498:dV)(f498:eP)(p499:aKj)(f499:aLR)(p500:aKk)(f500:aLS)(p505:O3)(f505:Pb)(p506:dW)(f506:eQ)
abbrev Io:Aa:=[(false,Za),(false,Za),(false,Zm),(true,Zj)]
abbrev ID:Aa:=[(true,Zj),(false,Za),(false,Za)]
abbrev Jj:Pat:=⟨77,[(51,.one (.v .i64)),(50,.one (.sl Zj)),(7,.one (.ptr 0 0)),(52,.one (.v .i64)),(13,.one (.ptr 4 0)),(11,.one (.ptr 3 0)),(8,.one (.ptr 1 0))],[.raw [.v .u64,.v .u64],.raw [.v .u64,.v .u64],.gone,.raw [.v .i64,.v .i64,.v .i64],.raw [.v .u64,.v .u64]]⟩
abbrev kL:List (Nat×Shape):=[]
abbrev OW:List (Nat×Pat):=[(0,⟨77,[(13,.one (.ptr 4 0)),(11,.one (.ptr 3 0)),(8,.one (.ptr 1 0))],[.gone,.raw [.v .u64,.v .u64],.gone,.raw [.v .i64,.v .i64,.v .i64],.raw [.v .u64,.v .u64]]⟩)]
abbrev N5:Option Pat:=none
variable (w507_12:Pat.D Jj->Option (Ad OW N5))
def Y8(p69:BS)(f69:BT)(p469:VU)(f469:V5)(p468:XZ)(f468:X9)(p475:dR)(f475:eK)(p506:dW)(f506:eQ){R:Type}(L:Pat.D Jj->Option R)(e:Ad OW N5->Option R)(x:Pat.D Jj):Option R:=let e1_:=((x.1.2.1.getD (aq x.1.2.2.2.1) ((0:Int),(0:Int),())),());let c1_:=(f468 (x.2.2.2.2.1,x.2.2.2.2.2.1,x.2.1,()));let c2_:=(f475 (c1_.1,c1_.2.1,e1_));let c3_:=(L ((x.1.1,x.1.2.1,(),(al .i64 (x.1.2.2.2.1+(1:Int))),(),(),(),()),x.2.1,x.2.2.1,(),c2_));let c4_:=(e (.inl (((),(),(),()),(),x.2.2.1,(),x.2.2.2.2)));bif(decide (x.1.2.2.2.1<x.1.1))then(bif((decide ((0:Int)<=x.1.2.2.2.1))&&(decide (x.1.2.2.2.1<(x.1.2.1.length:Int))))then(bif(p468 (x.2.2.2.2.1,x.2.2.2.2.2.1,x.2.1,()))then(bif(p475 (c1_.1,c1_.2.1,e1_))then((c3_))else none)else none)else none)else c4_
theorem bH1(d:Nat)(R:Type)(L:Pat.D Jj->Option R)(e:Ad OW N5->Option R)(x:Pat.D Jj):
  Bq ({cf [(71,⟨B6,B7,p69,f69⟩),(54,⟨MI,Nn,p506,f506⟩)] [(23,12,LoopSpec.of Jj kL OW N5 w507_12)]with bor:=true,lsums:=[(53,⟨Fr,Ij,Iy,p469,f469⟩),(42,⟨FL,Ko,KR,p468,f468⟩),(38,⟨Gs,Mz,Nd,p475,f475⟩)] }) (d+2) 23 (Bp Tryz.f23 12) Jj kL OW N5 (R:=R) L e x=Y8 p69 f69 p469 f469 p468 f468 p475 f475 p506 f506 L e x:=by kernel_rfl
theorem aPB(p69:BS)(f69:BT)(p469:VU)(f469:V5)(p468:XZ)(f468:X9)(p475:dR)(f475:eK)(p506:dW)(f506:eQ):Bn fun L e x=>Y8 p69 f69 p469 f469 p468 f468 p475 f475 p506 f506 L e x:=by intro _ _ _ _ _ _ _ h0 hL he _;unfold Y8;repeat' (first|exact h0|exact hL _|exact he _|apply By|(apply Bz h0;intro _)|(apply BA<;>intro _))
def zI(p69:BS)(f69:BT)(p469:VU)(f469:V5)(p468:XZ)(f468:X9)(p475:dR)(f475:eK)(p506:dW)(f506:eQ)(w507_12:Pat.D Jj->Option (Ad OW N5))(a0 a1:Ab Za)(a2:Ab Zm)(a3:Ab Zj):Option (DenS ID):=
 let e8_:=((a2.take (aq (a2.length:Int))).drop (aq (1:Int)))
 let e1_:=((e8_.length:Int),e8_,(),(0:Int),(),(),(),())
 let e2_:=((decide ((1:Int)<=(a2.length:Int)))&&(decide ((a2.length:Int)<=(a2.length:Int))))
 let e3_:=((a2.getD (aq (0:Int)) ((0:Int),(0:Int),())),())
 let e4_:=(((0:Int),(0:Int),()),(0:Int),(5:Int),())
 let e5_:=(((0:Int),(0:Int),()),(0:Int),(4:Int),())
 let e6_:=(((0:Int),(0:Int),()),(0:Int),(0:Int),())
 let e7_:=((a0,a1,(0:Int),()),((a3.1,a3.2)::[]),())
 let c1_:=(f69 (a0,()))
 let c2_:=(f469 e7_)
 let c3_:=(f469 (c2_.1,a2,()))
 let c4_:=(w507_12 (e1_,(a3.1,a3.2),((0:Int),(0:Int),()),(),c3_.1,e3_))
 let c5_:=(w507_12 (e1_,(a3.1,a3.2),((0:Int),(0:Int),()),(),c2_.1,e3_))
 bif(p69 (a0,()))then(bif(c1_.2.1 !=(0:Int))then(bif(c1_.2.1 !=(0:Int))then(some (((0:Int),(0:Int),()),(0:Int),c1_.2))
 else bif(decide ((a2.length:Int)>(4096:Int)))then(some e4_)
 else none)
 else bif((decide (a1<(0:Int)))||(decide (a1>(5:Int))))then(some (((0:Int),(0:Int),()),(0:Int),(3:Int),()))
 else bif(decide ((a2.length:Int)>(4096:Int)))then(some e4_)
 else bif(p469 e7_)then(bif(bif(c2_.2.1 !=(0:Int))then false else true)then(bif(p469 (c2_.1,a2,()))then(bif((c2_.2.1 !=(0:Int))||(c3_.2.1 !=(0:Int)))then(some e5_)
 else bif((a2.length:Int)==(0:Int))then(some e6_)
 else bif(decide ((0:Int)<(a2.length:Int)))then(bif e2_ then(Vx.AQ c4_ fun y11=>
 Vx.AP y11 (fun y12=>
 bif(p506 (y12.2.2.2.2.1,y12.2.2.2.2.2.1.1,()))then(bif(p506 (y12.2.2.2.2.1,y12.2.2.2.2.2.1.2))then(some (((f506 (y12.2.2.2.2.1,y12.2.2.2.2.2.1.1,())).1,(f506 (y12.2.2.2.2.1,y12.2.2.2.2.2.1.2))),y12.2.2.2.2.1.2.2.1,(0:Int),()))
 else none)
 else none) (fun z12=>
 none))
 else none)
 else none)
 else none)
 else bif((c2_.2.1 !=(0:Int))||false)then(some e5_)
 else bif((a2.length:Int)==(0:Int))then(some e6_)
 else bif(decide ((0:Int)<(a2.length:Int)))then(bif e2_ then(Vx.AQ c5_ fun y10=>
 Vx.AP y10 (fun y11=>
 bif(p506 (y11.2.2.2.2.1,y11.2.2.2.2.2.1.1,()))then(bif(p506 (y11.2.2.2.2.1,y11.2.2.2.2.2.1.2))then(some (((f506 (y11.2.2.2.2.1,y11.2.2.2.2.2.1.1,())).1,(f506 (y11.2.2.2.2.1,y11.2.2.2.2.2.1.2))),y11.2.2.2.2.1.2.2.1,(0:Int),()))
 else none)
 else none) (fun z11=>
 none))
 else none)
 else none)
 else none)
 else none
theorem bGe(x:DenS Io):run ({cf [(71,⟨B6,B7,p69,f69⟩),(54,⟨MI,Nn,p506,f506⟩)] [(23,12,LoopSpec.of Jj kL OW N5 w507_12)]with bor:=true,lsums:=[(53,⟨Fr,Ij,Iy,p469,f469⟩),(42,⟨FL,Ko,KR,p468,f468⟩),(38,⟨Gs,Mz,Nd,p475,f475⟩)] }) 9 23 Tryz.f23 Io ID x=zI p69 f69 p469 f469 p468 f468 p475 f475 p506 f506 w507_12 x.1 x.2.1 x.2.2.1 x.2.2.2.1:=by kernel_rfl
def qY:Jj.D->Option (Ad OW N5):=Bi fun L=>Y8 Ap.pre Ap.F CV.pre CV.F DO.pre DO.F E1.pre E1.F D0.pre D0.F L some
def pF(x:DenS Io):Option (DenS ID):=zI Ap.pre Ap.F CV.pre CV.F DO.pre DO.F E1.pre E1.F D0.pre D0.F qY x.1 x.2.1 x.2.2.1 x.2.2.2.1
def Cp:Sum:=Aj Io ID pF (DenS.dflt ID)
theorem aVB:Sound Tryz.prog G1 23 Cp:=sd ({cf [(71,Ap),(54,D0)] [(23,12,LoopSpec.of Jj kL OW N5 qY)]with bor:=true,lsums:=[(53,CV),(42,DO),(38,E1)] }) 23 Tryz.f23 ⟨D1,aVA,ak⟩ ⟨rfl,fun d=>Bw (fun L e x=>Y8 Ap.pre Ap.F CV.pre CV.F DO.pre DO.F E1.pre E1.F D0.pre D0.F L e x) (aPB Ap.pre Ap.F CV.pre CV.F DO.pre DO.F E1.pre E1.F D0.pre D0.F) (fun _ _ _ _=>bH1 ..),ak⟩ Io ID pF _ (fun _=>bGe ..) (hls:=⟨aAS,aGv,aVj,ak⟩)
abbrev UQ:=Ah Io
abbrev UV:=Ag Io ID
variable (p507:UQ)(f507:UV)
abbrev Ip:Aa:=[(false,Zm),(true,Zj)]
abbrev IE:Aa:=[(true,Zj),(false,Za)]
abbrev Jk:Pat:=⟨40,[(26,.one (.v .i64)),(25,.one (.sl Zj)),(7,.one (.cx .f64)),(27,.one (.v .i64)),(6,.one (.cx .f64)),(4,.one (.ptr 1 0))],[.gone,.raw [.v .u64,.v .u64]]⟩
abbrev kM:List (Nat×Shape):=[]
abbrev OX:List (Nat×Pat):=[(0,⟨40,[(6,.one (.cx .f64)),(4,.one (.ptr 1 0))],[.gone,.raw [.v .u64,.v .u64]]⟩)]
abbrev N6:Option Pat:=none
variable (w508_7:Pat.D Jk->Option (Ad OX N6))
def Y9(p498:dV)(f498:eP)(p494:dT)(f494:eN)(p496:dU)(f496:eO){R:Type}(L:Pat.D Jk->Option R)(e:Ad OX N6->Option R)(x:Pat.D Jk):Option R:=let e2_:=((x.1.2.1.getD (aq x.1.2.2.2.1) ((0:Int),(0:Int),())),());let e1_:=(f494 e2_);bif(decide (x.1.2.2.2.1<x.1.1))then(bif((decide ((0:Int)<=x.1.2.2.2.1))&&(decide (x.1.2.2.2.1<(x.1.2.1.length:Int))))then(bif(p498 (x.1.2.2.2.2.1,x.1.2.2.1,()))then(bif(p494 e2_)then(((L ((x.1.1,x.1.2.1,x.1.2.2.1,(al .i64 (x.1.2.2.2.1+(1:Int))),((Vx.Ca qn je (f498 (x.1.2.2.2.2.1,x.1.2.2.1,())).1.1 e1_.1.1),(Vx.Ca qn je (f498 (x.1.2.2.2.2.1,x.1.2.2.1,())).1.2 e1_.1.2)),(),()),(),x.2.2))))else none)else none)else none)else(e (.inl ((x.1.2.2.2.2.1,(),()),(),x.2.2)))
theorem bH2(d:Nat)(R:Type)(L:Pat.D Jk->Option R)(e:Ad OX N6->Option R)(x:Pat.D Jk):
  Bq (cf [(50,⟨MG,Nl,p498,f498⟩),(48,⟨ME,Nj,p494,f494⟩),(47,⟨MF,Nk,p496,f496⟩)] [(25,7,LoopSpec.of Jk kM OX N6 w508_7)]) (d+2) 25 (Bp Tryz.f25 7) Jk kM OX N6 (R:=R) L e x=Y9 p498 f498 p494 f494 p496 f496 L e x:=by kernel_rfl
theorem aPC(p498:dV)(f498:eP)(p494:dT)(f494:eN)(p496:dU)(f496:eO):Bn fun L e x=>Y9 p498 f498 p494 f494 p496 f496 L e x:=by intro _ _ _ _ _ _ _ h0 hL he _;unfold Y9;repeat' (first|exact h0|exact hL _|exact he _|apply By|(apply Bz h0;intro _)|(apply BA<;>intro _))
def zJ(p498:dV)(f498:eP)(p494:dT)(f494:eN)(p496:dU)(f496:eO)(w508_7:Pat.D Jk->Option (Ad OX N6))(a0:Ab Zm)(a1:Ab Zj):Option (DenS IE):=
 let e1_:=((a0.take (aq (a0.length:Int))).drop (aq (1:Int)))
 let e2_:=((a0.getD (aq (0:Int)) ((0:Int),(0:Int),())),())
 bif(decide ((a0.length:Int)>(4096:Int)))then(some (((0:Int),(0:Int),()),(5:Int),()))
 else bif((a0.length:Int)==(0:Int))then(some (((0:Int),(0:Int),()),(0:Int),()))
 else bif(decide ((0:Int)<(a0.length:Int)))then(bif(p494 e2_)then(bif(p494 ((a1.1,a1.2),()))then(bif((decide ((1:Int)<=(a0.length:Int)))&&(decide ((a0.length:Int)<=(a0.length:Int))))then(Vx.AQ (w508_7 (((e1_.length:Int),e1_,(f494 ((a1.1,a1.2),())).1,(0:Int),(f494 e2_).1,(),()),(),((0:Int),(0:Int),()),())) fun y6=>
 Vx.AP y6 (fun y7=>
 bif(p496 (y7.1.1,()))then(some ((f496 (y7.1.1,())).1,(0:Int),()))
 else none) (fun z7=>
 none))
 else none)
 else none)
 else none)
 else none
theorem bGf(x:DenS Ip):run (cf [(50,⟨MG,Nl,p498,f498⟩),(48,⟨ME,Nj,p494,f494⟩),(47,⟨MF,Nk,p496,f496⟩)] [(25,7,LoopSpec.of Jk kM OX N6 w508_7)]) 9 25 Tryz.f25 Ip IE x=zJ p498 f498 p494 f494 p496 f496 w508_7 x.1 x.2.1:=by kernel_rfl
def qZ:Jk.D->Option (Ad OX N6):=Bi fun L=>Y9 E6.pre E6.F E5.pre E5.F Et.pre Et.F L some
def pG(x:DenS Ip):Option (DenS IE):=zJ E6.pre E6.F E5.pre E5.F Et.pre Et.F qZ x.1 x.2.1
def Cq:Sum:=Aj Ip IE pG (DenS.dflt IE)
theorem aVC:Sound Tryz.prog G1 25 Cq:=sd (cf [(50,E6),(48,E5),(47,Et)] [(25,7,LoopSpec.of Jk kM OX N6 qZ)]) 25 Tryz.f25 ⟨aVw,aVt,aVv,ak⟩ ⟨rfl,fun d=>Bw (fun L e x=>Y9 E6.pre E6.F E5.pre E5.F Et.pre Et.F L e x) (aPC E6.pre E6.F E5.pre E5.F Et.pre Et.F) (fun _ _ _ _=>bH2 ..),ak⟩ Ip IE pG _ (fun _=>bGf ..)
abbrev UR:=Ah Ip
abbrev UW:=Ag Ip IE
variable (p508:UR)(f508:UW)
abbrev I509:Aa:=[(false,Za),(false,Za),(false,Zm),(true,Zj)]
abbrev Vu:Aa:=[(false,.bool)]
abbrev GF:Pat:=⟨224,[(13,.one (.v .i64)),(12,.one (.own 8)),(11,.one (.own 7)),(2,.one (.sl Zj)),(10,.one (.ptr 4 0)),(0,.one (.v .i64)),(1,.one (.v .i64)),(9,.one (.sub 7)),(7,.one (.ptr 0 0))],[.raw [.v .u64,.v .u64],.gone,.gone,.gone,.raw [.v .u64,.v .u64],.gone,.gone,.arr Zj,.acc Zj]⟩
abbrev Xa:List (Nat×Shape):=[(12,Zj)]
abbrev Js:List (Nat×Pat):=[(0,⟨224,[(12,.one (.own 8)),(11,.one (.own 7)),(2,.one (.sl Zj)),(10,.one (.ptr 4 0)),(0,.one (.v .i64)),(1,.one (.v .i64)),(9,.one (.sub 7)),(7,.one (.ptr 0 0))],[.raw [.v .u64,.v .u64],.gone,.gone,.gone,.raw [.v .u64,.v .u64],.gone,.gone,.arr Zj,.acc Zj]⟩)]
abbrev Jl:Option Pat:=none
abbrev GG:Pat:=⟨224,[(20,.one (.v .i64)),(11,.one (.own 7)),(2,.one (.sl Zj)),(10,.one (.ptr 4 0)),(0,.one (.v .i64)),(1,.one (.v .i64)),(9,.one (.sub 7)),(7,.one (.ptr 0 0)),(14,.one (.ptr 9 0))],[.raw [.v .u64,.v .u64],.gone,.gone,.gone,.raw [.v .u64,.v .u64],.gone,.gone,.arr Zj,.gone,.raw [.v .u64,.v .u64]]⟩
abbrev Xb:List (Nat×Shape):=[]
abbrev Jt:List (Nat×Pat):=[(2,⟨224,[(11,.one (.own 7)),(2,.one (.sl Zj)),(10,.one (.ptr 4 0)),(0,.one (.v .i64)),(1,.one (.v .i64)),(9,.one (.sub 7)),(7,.one (.ptr 0 0)),(14,.one (.ptr 9 0))],[.raw [.v .u64,.v .u64],.gone,.gone,.gone,.raw [.v .u64,.v .u64],.gone,.gone,.arr Zj,.gone,.raw [.v .u64,.v .u64]]⟩)]
abbrev Jm:Option Pat:=(some ⟨224,[(8,.one (.bool))],[]⟩)
abbrev GH:Pat:=⟨224,[(21,.one (.v .i64)),(0,.one (.v .i64)),(1,.one (.v .i64)),(9,.one (.sub 7)),(7,.one (.ptr 0 0)),(14,.one (.ptr 9 0))],[.raw [.v .u64,.v .u64],.gone,.gone,.gone,.gone,.gone,.gone,.arr Zj,.gone,.raw [.v .u64,.v .u64]]⟩
abbrev Xc:List (Nat×Shape):=[]
abbrev Ju:List (Nat×Pat):=[(4,⟨224,[(0,.one (.v .i64)),(1,.one (.v .i64)),(9,.one (.sub 7)),(7,.one (.ptr 0 0)),(14,.one (.ptr 9 0))],[.raw [.v .u64,.v .u64],.gone,.gone,.gone,.gone,.gone,.gone,.arr Zj,.gone,.raw [.v .u64,.v .u64]]⟩)]
abbrev Jn:Option Pat:=none
variable (w509_10:Pat.D GF->Option (Ad Js Jl))(w509_22:Pat.D GG->Option (Ad Jt Jm))(w509_29:Pat.D GH->Option (Ad Ju Jn))
def ZJ(p474:Ls)(f474:Lw)(p487:O1)(f487:O9)(p505:O3)(f505:Pb)(p492:O2)(f492:Pa)(p507:UQ)(f507:UV)(p508:UR)(f508:UW){R:Type}(L:Pat.D GH->Option R)(e:Ad Ju Jn->Option R)(x:Pat.D GH):Option R:=let e1_:=(x.2.2.2.2.2.2.2.2.1.getD (x.1.2.2.2.1.1+(aq x.1.1)) ((0:Int),(0:Int),()));let e2_:=((decide ((0:Int)<=x.1.1))&&(decide (x.1.1<(x.1.2.2.2.1.2:Int))));let e3_:=(x.1.2.1,x.1.2.2.1,x.1.2.2.2.1,(),(),());bif(decide (x.1.1<(x.1.2.2.2.1.2:Int)))then(bif e2_ then(bif e2_ then(bif e2_ then(((L (((al .i64 (x.1.1+(1:Int))),e3_),x.2.1,(),(),(),(),(),(),(x.2.2.2.2.2.2.2.2.1.set (x.1.2.2.2.1.1+(aq x.1.1)) (e1_.2.1,e1_.1,())),(),x.2.2.2.2.2.2.2.2.2.2))))else none)else none)else none)else(e (.inl (e3_,x.2.1,(),(),(),(),(),(),x.2.2.2.2.2.2.2.2.1,(),x.2.2.2.2.2.2.2.2.2.2)))
theorem bH5(d:Nat)(R:Type)(L:Pat.D GH->Option R)(e:Ad Ju Jn->Option R)(x:Pat.D GH):
  Bq ({cf [(9,⟨Ik,Iz,p474,f474⟩),(12,⟨Il,IA,p487,f487⟩),(24,⟨In,IC,p505,f505⟩),(17,⟨Im,IB,p492,f492⟩),(23,⟨Io,ID,p507,f507⟩),(25,⟨Ip,IE,p508,f508⟩)] [(6,10,LoopSpec.of GF Xa Js Jl w509_10),(6,22,LoopSpec.of GG Xb Jt Jm w509_22),(6,29,LoopSpec.of GH Xc Ju Jn w509_29)]with cut:=true,bor:=true,arrs:=[47] }) (d+2) 6 (Bp Tryz.f6 29) GH Xc Ju Jn (R:=R) L e x=ZJ p474 f474 p487 f487 p505 f505 p492 f492 p507 f507 p508 f508 L e x:=by kernel_rfl
theorem aPF(p474:Ls)(f474:Lw)(p487:O1)(f487:O9)(p505:O3)(f505:Pb)(p492:O2)(f492:Pa)(p507:UQ)(f507:UV)(p508:UR)(f508:UW):Bn fun L e x=>ZJ p474 f474 p487 f487 p505 f505 p492 f492 p507 f507 p508 f508 L e x:=by intro _ _ _ _ _ _ _ h0 hL he _;unfold ZJ;repeat' (first|exact h0|exact hL _|exact he _|apply By|(apply Bz h0;intro _)|(apply BA<;>intro _))
def ZI(p474:Ls)(f474:Lw)(p487:O1)(f487:O9)(p505:O3)(f505:Pb)(p492:O2)(f492:Pa)(p507:UQ)(f507:UV)(p508:UR)(f508:UW){R:Type}(L:Pat.D GG->Option R)(e:Ad Jt Jm->Option R)(x:Pat.D GG):Option R:=let e1_:=(x.2.1,(),(),(),x.2.2.2.2.2.1,(),(),x.2.2.2.2.2.2.2.2.1,(),x.2.2.2.2.2.2.2.2.2.2);let e2_:=(x.2.2.2.2.2.2.2.2.1.getD (x.1.2.2.2.2.2.2.1.1+(aq x.1.1)) ((0:Int),(0:Int),()));let e3_:=((),x.1.2.2.1,(),x.1.2.2.2.2.1,x.1.2.2.2.2.2.1,x.1.2.2.2.2.2.2.1,(),(),());let e4_:=(x.1.2.2.1.getD (aq x.1.1) ((0:Int),(0:Int),()));let e5_:=(decide (x.1.1<(x.1.2.2.2.2.2.2.1.2:Int)));bif e5_ then(bif((decide ((0:Int)<=x.1.1))&&e5_)then(bif((decide ((0:Int)<=x.1.1))&&(decide (x.1.1<(x.1.2.2.1.length:Int))))then(bif(!((e2_.1==e4_.1)&&(e2_.2.1==e4_.2.1)))then(((e (.inr ((false,()),())))))else(L (((al .i64 (x.1.1+(1:Int))),e3_),e1_)))else none)else none)else(e (.inl (e3_,e1_)))
theorem bH4(d:Nat)(R:Type)(L:Pat.D GG->Option R)(e:Ad Jt Jm->Option R)(x:Pat.D GG):
  Bq ({cf [(9,⟨Ik,Iz,p474,f474⟩),(12,⟨Il,IA,p487,f487⟩),(24,⟨In,IC,p505,f505⟩),(17,⟨Im,IB,p492,f492⟩),(23,⟨Io,ID,p507,f507⟩),(25,⟨Ip,IE,p508,f508⟩)] [(6,10,LoopSpec.of GF Xa Js Jl w509_10),(6,22,LoopSpec.of GG Xb Jt Jm w509_22),(6,29,LoopSpec.of GH Xc Ju Jn w509_29)]with cut:=true,bor:=true,arrs:=[47] }) (d+2) 6 (Bp Tryz.f6 22) GG Xb Jt Jm (R:=R) L e x=ZI p474 f474 p487 f487 p505 f505 p492 f492 p507 f507 p508 f508 L e x:=by kernel_rfl
theorem aPE(p474:Ls)(f474:Lw)(p487:O1)(f487:O9)(p505:O3)(f505:Pb)(p492:O2)(f492:Pa)(p507:UQ)(f507:UV)(p508:UR)(f508:UW):Bn fun L e x=>ZI p474 f474 p487 f487 p505 f505 p492 f492 p507 f507 p508 f508 L e x:=by intro _ _ _ _ _ _ _ h0 hL he _;unfold ZI;repeat' (first|exact h0|exact hL _|exact he _|apply By|(apply Bz h0;intro _)|(apply BA<;>intro _))
def ZH(p474:Ls)(f474:Lw)(p487:O1)(f487:O9)(p505:O3)(f505:Pb)(p492:O2)(f492:Pa)(p507:UQ)(f507:UV)(p508:UR)(f508:UW){R:Type}(L:Pat.D GF->Option R)(e:Ad Js Jl->Option R)(x:Pat.D GF):Option R:=let e1_:=((),(),x.1.2.2.2.1,(),x.1.2.2.2.2.2.1,x.1.2.2.2.2.2.2.1,x.1.2.2.2.2.2.2.2.1,(),());let e3_:=((x.1.2.2.2.1.getD (aq x.1.1) ((0:Int),(0:Int),())),());let e2_:=((f487 e3_).1::[]);bif(decide (x.1.1<(x.1.2.2.2.1.length:Int)))then(bif((decide ((0:Int)<=x.1.1))&&(decide (x.1.1<(x.1.2.2.2.1.length:Int))))then(bif(p487 e3_)then(bif(((Vx.CK (x.2.2.2.2.2.2.2.2.2.1.length+e2_.length) 16)&&true)&&true)then(((L (((al .i64 (x.1.1+(1:Int))),e1_),x.2.1,(),(),(),x.2.2.2.2.2.1,(),(),x.2.2.2.2.2.2.2.2.1,(x.2.2.2.2.2.2.2.2.2.1++e2_),()))))else none)else none)else none)else(e (.inl (e1_,x.2.1,(),(),(),x.2.2.2.2.2.1,(),(),x.2.2.2.2.2.2.2.2)))
theorem bH3(d:Nat)(R:Type)(L:Pat.D GF->Option R)(e:Ad Js Jl->Option R)(x:Pat.D GF):
  Bq ({cf [(9,⟨Ik,Iz,p474,f474⟩),(12,⟨Il,IA,p487,f487⟩),(24,⟨In,IC,p505,f505⟩),(17,⟨Im,IB,p492,f492⟩),(23,⟨Io,ID,p507,f507⟩),(25,⟨Ip,IE,p508,f508⟩)] [(6,10,LoopSpec.of GF Xa Js Jl w509_10),(6,22,LoopSpec.of GG Xb Jt Jm w509_22),(6,29,LoopSpec.of GH Xc Ju Jn w509_29)]with cut:=true,bor:=true,arrs:=[47] }) (d+2) 6 (Bp Tryz.f6 10) GF Xa Js Jl (R:=R) L e x=ZH p474 f474 p487 f487 p505 f505 p492 f492 p507 f507 p508 f508 L e x:=by kernel_rfl
theorem aPD(p474:Ls)(f474:Lw)(p487:O1)(f487:O9)(p505:O3)(f505:Pb)(p492:O2)(f492:Pa)(p507:UQ)(f507:UV)(p508:UR)(f508:UW):Bn fun L e x=>ZH p474 f474 p487 f487 p505 f505 p492 f492 p507 f507 p508 f508 L e x:=by intro _ _ _ _ _ _ _ h0 hL he _;unfold ZH;repeat' (first|exact h0|exact hL _|exact he _|apply By|(apply Bz h0;intro _)|(apply BA<;>intro _))
def zK(p474:Ls)(f474:Lw)(p487:O1)(f487:O9)(p505:O3)(f505:Pb)(p492:O2)(f492:Pa)(p507:UQ)(f507:UV)(p508:UR)(f508:UW)(w509_10:Pat.D GF->Option (Ad Js Jl))(w509_22:Pat.D GG->Option (Ad Jt Jm))(w509_29:Pat.D GH->Option (Ad Ju Jn))(a0 a1:Ab Za)(a2:Ab Zm)(a3:Ab Zj):Option (DenS Vu):=
 let e2_:=(((71:Int),(72:Int),())::(((71:Int),(72:Int),())::[]))
 let e1_:=(([]++a2)++e2_)
 bif(p474 ())then(bif(!(f474 ()).1)then(some (false,()))
 else bif(((Vx.CK (([]:List Int).length+a2.length) 16)&&true)&&true)then(bif(((Vx.CK (([]++a2).length+e2_.length) 16)&&true)&&true)then(bif((decide ((0:Int)<=(a2.length:Int)))&&(decide ((a2.length:Int)<=(e1_.length:Int))))then(Vx.AQ (w509_10 (((0:Int),(),(),a2,(),a0,a1,((aq (0:Int)),((aq (a2.length:Int))-(aq (0:Int)))),(),()),(a3.1,a3.2),(),(),(),((71:Int),(72:Int),()),(),(),e1_,[],())) fun y5=>
 Vx.AP y5 (fun y6=>
 bif(p507 (y6.1.2.2.2.2.1,y6.1.2.2.2.2.2.1,((y6.2.2.2.2.2.2.2.2.1.drop y6.1.2.2.2.2.2.2.1.1).take y6.1.2.2.2.2.2.2.1.2),y6.2.1,()))then(bif(p487 (y6.2.1,()))then(bif(p505 (y6.1.2.2.2.2.1,y6.1.2.2.2.2.2.1,y6.2.2.2.2.2.2.2.2.2.1,(f487 (y6.2.1,()))))then(bif(p492 ((f507 (y6.1.2.2.2.2.1,y6.1.2.2.2.2.2.1,((y6.2.2.2.2.2.2.2.2.1.drop y6.1.2.2.2.2.2.2.1.1).take y6.1.2.2.2.2.2.2.1.2),y6.2.1,())).1,(f505 (y6.1.2.2.2.2.1,y6.1.2.2.2.2.2.1,y6.2.2.2.2.2.2.2.2.2.1,(f487 (y6.2.1,())))).1,()))then(bif(((!(f492 ((f507 (y6.1.2.2.2.2.1,y6.1.2.2.2.2.2.1,((y6.2.2.2.2.2.2.2.2.1.drop y6.1.2.2.2.2.2.2.1.1).take y6.1.2.2.2.2.2.2.1.2),y6.2.1,())).1,(f505 (y6.1.2.2.2.2.1,y6.1.2.2.2.2.2.1,y6.2.2.2.2.2.2.2.2.2.1,(f487 (y6.2.1,())))).1,())).1)||((f507 (y6.1.2.2.2.2.1,y6.1.2.2.2.2.2.1,((y6.2.2.2.2.2.2.2.2.1.drop y6.1.2.2.2.2.2.2.1.1).take y6.1.2.2.2.2.2.2.1.2),y6.2.1,())).2.1 !=(f505 (y6.1.2.2.2.2.1,y6.1.2.2.2.2.2.1,y6.2.2.2.2.2.2.2.2.2.1,(f487 (y6.2.1,())))).2.1))||((f507 (y6.1.2.2.2.2.1,y6.1.2.2.2.2.2.1,((y6.2.2.2.2.2.2.2.2.1.drop y6.1.2.2.2.2.2.2.1.1).take y6.1.2.2.2.2.2.2.1.2),y6.2.1,())).2.2.1 !=(f505 (y6.1.2.2.2.2.1,y6.1.2.2.2.2.2.1,y6.2.2.2.2.2.2.2.2.2.1,(f487 (y6.2.1,())))).2.2.1))then(some (false,()))
 else bif(p508 (((y6.2.2.2.2.2.2.2.2.1.drop y6.1.2.2.2.2.2.2.1.1).take y6.1.2.2.2.2.2.2.1.2),y6.2.1,()))then(bif(p487 (y6.2.1,()))then(bif(p505 ((3:Int),(0:Int),y6.2.2.2.2.2.2.2.2.2.1,(f487 (y6.2.1,()))))then(bif(p492 ((f508 (((y6.2.2.2.2.2.2.2.2.1.drop y6.1.2.2.2.2.2.2.1.1).take y6.1.2.2.2.2.2.2.1.2),y6.2.1,())).1,(f505 ((3:Int),(0:Int),y6.2.2.2.2.2.2.2.2.2.1,(f487 (y6.2.1,())))).1,()))then(bif((!(f492 ((f508 (((y6.2.2.2.2.2.2.2.2.1.drop y6.1.2.2.2.2.2.2.1.1).take y6.1.2.2.2.2.2.2.1.2),y6.2.1,())).1,(f505 ((3:Int),(0:Int),y6.2.2.2.2.2.2.2.2.2.1,(f487 (y6.2.1,())))).1,())).1)||((f508 (((y6.2.2.2.2.2.2.2.2.1.drop y6.1.2.2.2.2.2.2.1.1).take y6.1.2.2.2.2.2.2.1.2),y6.2.1,())).2.1 !=(f505 ((3:Int),(0:Int),y6.2.2.2.2.2.2.2.2.2.1,(f487 (y6.2.1,())))).2.2.1))then(some (false,()))
 else Vx.AQ (w509_22 (((0:Int),(),y6.1.2.2.1,(),y6.1.2.2.2.2.1,y6.1.2.2.2.2.2.1,y6.1.2.2.2.2.2.2.1,(),(),()),y6.2.1,(),(),(),y6.2.2.2.2.2.1,(),(),y6.2.2.2.2.2.2.2.2.1,(),(f508 (((y6.2.2.2.2.2.2.2.2.1.drop y6.1.2.2.2.2.2.2.1.1).take y6.1.2.2.2.2.2.2.1.2),y6.2.1,())).1,())) fun y17=>
 Vx.AP y17 (fun y18=>
 bif((decide ((0:Int)<=(y18.1.2.1.length:Int)))&&(decide ((y18.1.2.1.length:Int)<(y18.2.2.2.2.2.2.2.2.1.length:Int))))then(bif(((decide ((0:Int)<=(al .i64 ((y18.1.2.1.length:Int)+(1:Int)))))&&(decide ((al .i64 ((y18.1.2.1.length:Int)+(1:Int)))<(y18.2.2.2.2.2.2.2.2.1.length:Int))))||(!(bif(!(((y18.2.2.2.2.2.2.2.2.1.getD (aq (y18.1.2.1.length:Int)) ((0:Int),(0:Int),())).1==y18.2.2.2.2.2.1.1)&&((y18.2.2.2.2.2.2.2.2.1.getD (aq (y18.1.2.1.length:Int)) ((0:Int),(0:Int),())).2.1==y18.2.2.2.2.2.1.2.1)))then false else true)))then(bif((!(((y18.2.2.2.2.2.2.2.2.1.getD (aq (y18.1.2.1.length:Int)) ((0:Int),(0:Int),())).1==y18.2.2.2.2.2.1.1)&&((y18.2.2.2.2.2.2.2.2.1.getD (aq (y18.1.2.1.length:Int)) ((0:Int),(0:Int),())).2.1==y18.2.2.2.2.2.1.2.1)))||(!(((y18.2.2.2.2.2.2.2.2.1.getD (aq (al .i64 ((y18.1.2.1.length:Int)+(1:Int)))) ((0:Int),(0:Int),())).1==y18.2.2.2.2.2.1.1)&&((y18.2.2.2.2.2.2.2.2.1.getD (aq (al .i64 ((y18.1.2.1.length:Int)+(1:Int)))) ((0:Int),(0:Int),())).2.1==y18.2.2.2.2.2.1.2.1))))then(some (false,()))
 else Vx.AQ (w509_29 (((0:Int),y18.1.2.2.2.1,y18.1.2.2.2.2.1,y18.1.2.2.2.2.2.1,(),(),()),y18.2.1,(),(),(),(),(),(),y18.2.2.2.2.2.2.2.2.1,(),y18.2.2.2.2.2.2.2.2.2.2)) fun y22=>
 Vx.AP y22 (fun y23=>
 bif(((Vx.CK (([]:List Int).length+((y23.2.2.2.2.2.2.2.2.1.drop y23.1.2.2.1.1).take y23.1.2.2.1.2).length) 16)&&true)&&true)then(bif(p507 (y23.1.1,y23.1.2.1,((y23.2.2.2.2.2.2.2.2.1.drop y23.1.2.2.1.1).take y23.1.2.2.1.2),y23.2.1,()))then(bif(p507 (y23.1.1,y23.1.2.1,([]++((y23.2.2.2.2.2.2.2.2.1.drop y23.1.2.2.1.1).take y23.1.2.2.1.2)),y23.2.1,()))then(bif(p508 (((y23.2.2.2.2.2.2.2.2.1.drop y23.1.2.2.1.1).take y23.1.2.2.1.2),y23.2.1,()))then(bif(p508 (([]++((y23.2.2.2.2.2.2.2.2.1.drop y23.1.2.2.1.1).take y23.1.2.2.1.2)),y23.2.1,()))then(some ((((((((f507 (y23.1.1,y23.1.2.1,((y23.2.2.2.2.2.2.2.2.1.drop y23.1.2.2.1.1).take y23.1.2.2.1.2),y23.2.1,())).1.1==(f507 (y23.1.1,y23.1.2.1,([]++((y23.2.2.2.2.2.2.2.2.1.drop y23.1.2.2.1.1).take y23.1.2.2.1.2)),y23.2.1,())).1.1)&&((f507 (y23.1.1,y23.1.2.1,((y23.2.2.2.2.2.2.2.2.1.drop y23.1.2.2.1.1).take y23.1.2.2.1.2),y23.2.1,())).1.2.1==(f507 (y23.1.1,y23.1.2.1,([]++((y23.2.2.2.2.2.2.2.2.1.drop y23.1.2.2.1.1).take y23.1.2.2.1.2)),y23.2.1,())).1.2.1))&&((f507 (y23.1.1,y23.1.2.1,((y23.2.2.2.2.2.2.2.2.1.drop y23.1.2.2.1.1).take y23.1.2.2.1.2),y23.2.1,())).2.1==(f507 (y23.1.1,y23.1.2.1,([]++((y23.2.2.2.2.2.2.2.2.1.drop y23.1.2.2.1.1).take y23.1.2.2.1.2)),y23.2.1,())).2.1))&&((f507 (y23.1.1,y23.1.2.1,((y23.2.2.2.2.2.2.2.2.1.drop y23.1.2.2.1.1).take y23.1.2.2.1.2),y23.2.1,())).2.2.1==(f507 (y23.1.1,y23.1.2.1,([]++((y23.2.2.2.2.2.2.2.2.1.drop y23.1.2.2.1.1).take y23.1.2.2.1.2)),y23.2.1,())).2.2.1))&&(((f508 (((y23.2.2.2.2.2.2.2.2.1.drop y23.1.2.2.1.1).take y23.1.2.2.1.2),y23.2.1,())).1.1==(f508 (([]++((y23.2.2.2.2.2.2.2.2.1.drop y23.1.2.2.1.1).take y23.1.2.2.1.2)),y23.2.1,())).1.1)&&((f508 (((y23.2.2.2.2.2.2.2.2.1.drop y23.1.2.2.1.1).take y23.1.2.2.1.2),y23.2.1,())).1.2.1==(f508 (([]++((y23.2.2.2.2.2.2.2.2.1.drop y23.1.2.2.1.1).take y23.1.2.2.1.2)),y23.2.1,())).1.2.1)))&&((f508 (((y23.2.2.2.2.2.2.2.2.1.drop y23.1.2.2.1.1).take y23.1.2.2.1.2),y23.2.1,())).2.1==(f508 (([]++((y23.2.2.2.2.2.2.2.2.1.drop y23.1.2.2.1.1).take y23.1.2.2.1.2)),y23.2.1,())).2.1)),()))
 else none)
 else none)
 else none)
 else none)
 else none) (fun z23=>
 none))
 else none)
 else none) (fun z18=>
 some z18.1))
 else none)
 else none)
 else none)
 else none)
 else none)
 else none)
 else none)
 else none) (fun z6=>
 none))
 else none)
 else none)
 else none)
 else none
theorem bGg(x:DenS I509):run ({cf [(9,⟨Ik,Iz,p474,f474⟩),(12,⟨Il,IA,p487,f487⟩),(24,⟨In,IC,p505,f505⟩),(17,⟨Im,IB,p492,f492⟩),(23,⟨Io,ID,p507,f507⟩),(25,⟨Ip,IE,p508,f508⟩)] [(6,10,LoopSpec.of GF Xa Js Jl w509_10),(6,22,LoopSpec.of GG Xb Jt Jm w509_22),(6,29,LoopSpec.of GH Xc Ju Jn w509_29)]with cut:=true,bor:=true,arrs:=[47] }) 9 6 Tryz.f6 I509 Vu x=zK p474 f474 p487 f487 p505 f505 p492 f492 p507 f507 p508 f508 w509_10 w509_22 w509_29 x.1 x.2.1 x.2.2.1 x.2.2.2.1:=by kernel_rfl
def rC:GH.D->Option (Ad Ju Jn):=Bi fun L=>ZJ Cl.pre Cl.F Cm.pre Cm.F Co.pre Co.F Cn.pre Cn.F Cp.pre Cp.F Cq.pre Cq.F L some
def rB:GG.D->Option (Ad Jt Jm):=Bi fun L=>ZI Cl.pre Cl.F Cm.pre Cm.F Co.pre Co.F Cn.pre Cn.F Cp.pre Cp.F Cq.pre Cq.F L some
def rA:GF.D->Option (Ad Js Jl):=Bi fun L=>ZH Cl.pre Cl.F Cm.pre Cm.F Co.pre Co.F Cn.pre Cn.F Cp.pre Cp.F Cq.pre Cq.F L some
def T509(x:DenS I509):Option (DenS Vu):=zK Cl.pre Cl.F Cm.pre Cm.F Co.pre Co.F Cn.pre Cn.F Cp.pre Cp.F Cq.pre Cq.F rA rB rC x.1 x.2.1 x.2.2.1 x.2.2.2.1
def aVD:Sum:=Aj I509 Vu T509 (DenS.dflt Vu)
theorem S509_sound:Sound Tryz.prog G1 6 aVD:=sd ({cf [(9,Cl),(12,Cm),(24,Co),(17,Cn),(23,Cp),(25,Cq)] [(6,10,LoopSpec.of GF Xa Js Jl rA),(6,22,LoopSpec.of GG Xb Jt Jm rB),(6,29,LoopSpec.of GH Xc Ju Jn rC)]with cut:=true,bor:=true,arrs:=[47] }) 6 Tryz.f6 ⟨aVi,aVr,aVz,aVs,aVB,aVC,ak⟩ ⟨rfl,fun d=>Bw (fun L e x=>ZH Cl.pre Cl.F Cm.pre Cm.F Co.pre Co.F Cn.pre Cn.F Cp.pre Cp.F Cq.pre Cq.F L e x) (aPD Cl.pre Cl.F Cm.pre Cm.F Co.pre Co.F Cn.pre Cn.F Cp.pre Cp.F Cq.pre Cq.F) (fun _ _ _ _=>bH3 ..),⟨rfl,fun d=>Bw (fun L e x=>ZI Cl.pre Cl.F Cm.pre Cm.F Co.pre Co.F Cn.pre Cn.F Cp.pre Cp.F Cq.pre Cq.F L e x) (aPE Cl.pre Cl.F Cm.pre Cm.F Co.pre Co.F Cn.pre Cn.F Cp.pre Cp.F Cq.pre Cq.F) (fun _ _ _ _=>bH4 ..),⟨rfl,fun d=>Bw (fun L e x=>ZJ Cl.pre Cl.F Cm.pre Cm.F Co.pre Co.F Cn.pre Cn.F Cp.pre Cp.F Cq.pre Cq.F L e x) (aPF Cl.pre Cl.F Cm.pre Cm.F Co.pre Co.F Cn.pre Cn.F Cp.pre Cp.F Cq.pre Cq.F) (fun _ _ _ _=>bH5 ..),ak⟩⟩⟩ I509 Vu T509 _ (fun _=>bGg ..)
abbrev aXH:=Ah I509
abbrev aX6:=Ag I509 Vu
variable (p509:aXH)(f509:aX6)
abbrev aFF:Aa:=[(false,Za),(false,Za)]
abbrev aTy:Aa:=[(false,Za)]
abbrev aXI:=Ah aFF
abbrev aX7:=Ag aFF aTy
variable (p510:aXI)(f510:aX7)
abbrev aFG:Aa:=[(true,ZG)]
abbrev aTz:Aa:=[(true,ZG)]
abbrev aXJ:=Ah aFG
abbrev aX8:=Ag aFG aTz
variable (p511:aXJ)(f511:aX8)
abbrev aFl:Aa:=[(false,Za)]
abbrev aTe:Aa:=[(false,.bool)]
abbrev aXr:=Ah aFl
abbrev aXQ:=Ag aFl aTe
variable (p323:aXr)(f323:aXQ)
abbrev aFm:Aa:=[(false,Zb),(false,Za)]
abbrev aTf:Aa:=[(false,Ze)]
abbrev aXs:=Ah aFm
abbrev aXR:=Ag aFm aTf
variable (p326:aXs)(f326:aXR)
abbrev aFn:Aa:=[(false,Ze)]
abbrev aTg:Aa:=[(false,Ze),(false,.bool),(false,Za)]
abbrev aTG:Pat:=⟨45,[(5,.one (.sl Zb)),(0,.one (.sl Zb))],[]⟩
abbrev aXo:List (Nat×Pat):=[(0,⟨45,[(5,.one (.sl Zb)),(0,.one (.sl Zb))],[]⟩)]
abbrev aTJ:Option Pat:=none
variable (w334_7:Pat.D aTG->Option (Ad aXo aTJ))
abbrev aXt:=Ah aFn
abbrev aXS:=Ag aFn aTg
variable (p334:aXt)(f334:aXS)
abbrev aFo:Aa:=[(false,Za),(false,Za),(false,Ze),(false,Za),(false,.bool)]
abbrev aTh:Aa:=[(false,Zb),(false,Za),(false,Za)]
abbrev aXu:=Ah aFo
abbrev aXT:=Ag aFo aTh
variable (p335:aXu)(f335:aXT)
abbrev aFp:Aa:=[(false,Za),(false,Za),(false,Zb),(false,Zb)]
abbrev aTi:Aa:=[(false,Zb),(false,Za),(false,Za)]
abbrev aXv:=Ah aFp
abbrev aXU:=Ag aFp aTi
variable (p336:aXv)(f336:aXU)
abbrev aFH:Aa:=[(false,Za),(false,Za),(true,Zj)]
abbrev aTA:Aa:=[(false,Zb),(false,Za),(false,Za)]
abbrev aXK:=Ah aFH
abbrev aX9:=Ag aFH aTA
variable (p512:aXK)(f512:aX9)
abbrev aFI:Aa:=[(false,Za),(false,Zb),(false,Zb)]
abbrev aTB:Aa:=[(false,.bool)]
abbrev aXL:=Ah aFI
abbrev aYa:=Ag aFI aTB
variable (p513:aXL)(f513:aYa)
abbrev aFJ:Aa:=[(false,Za),(true,Zj),(true,Zj)]
abbrev aTC:Aa:=[(false,.bool)]
abbrev aXM:=Ah aFJ
abbrev aYb:=Ag aFJ aTC
variable (p514:aXM)(f514:aYb)
abbrev aFq:Aa:=[(false,Za),(false,.bool),(false,Zb),(false,Zb)]
abbrev aTj:Aa:=[(false,Zb),(false,Za)]
abbrev aXw:=Ah aFq
abbrev aXV:=Ag aFq aTj
variable (p349:aXw)(f349:aXV)
abbrev aFK:Aa:=[(true,ZG)]
abbrev aTD:Aa:=[(false,.bool)]
abbrev aXN:=Ah aFK
abbrev aYc:=Ag aFK aTD
variable (p515:aXN)(f515:aYc)
abbrev aFL:Aa:=[(false,.flt .f64)]
abbrev aTE:Aa:=[(false,Zb)]
abbrev aXO:=Ah aFL
abbrev aYd:=Ag aFL aTE
variable (p516:aXO)(f516:aYd)
abbrev aFM:Aa:=[(true,.pair Zb Zq)]
abbrev aTF:Aa:=[(false,.bool)]
abbrev aXP:=Ah aFM
abbrev aYe:=Ag aFM aTF
variable (p517:aXP)(f517:aYe)
end Vx
namespace Vx
open Go
theorem As{I O:Aa}{T:DenS I->Option (DenS O)}{d:DenS O}{x:DenS I}{y:DenS O}(h:T x=some y):(Aj I O T d).pre x=true:=by
 show(T x).isSome=true;rw[h];rfl
theorem Ar{I O:Aa}{T:DenS I->Option (DenS O)}{d:DenS O}{x:DenS I}{y:DenS O}(h:T x=some y):(Aj I O T d).F x=y:=by
 show(T x).getD d=y;rw[h];rfl
theorem EM{k:LK}{I O:Aa}{T:k.D×DenS I->Option (k.B×DenS O)}{d:k.B×DenS O}{x:k.D×DenS I}{y:k.B×DenS O}(h:T x=some y):(DK k I O T d).pre x=true:=by
 show(T x).isSome=true;rw[h];rfl
theorem EL{k:LK}{I O:Aa}{T:k.D×DenS I->Option (k.B×DenS O)}{d:k.B×DenS O}{x:k.D×DenS I}{y:k.B×DenS O}(h:T x=some y):(DK k I O T d).F x=y:=by
 show(T x).getD d=y;rw[h];rfl
theorem vE{x y}(h:VM x=some y):Ap.pre x=true:=As h
theorem uH{x y}(h:VM x=some y):Ap.F x=y:=Ar h
theorem Dc{x y}(h:VM x=some y):Ap.pre x=true/\Ap.F x=y:=⟨As h,Ar h⟩
theorem JF{x y}(h:pI x=some y):Av.pre x=true/\Av.F x=y:=⟨As h,Ar h⟩
theorem aQn{x y}(h:XP x=some y):BV.pre x=true:=As h
theorem aOt{x y}(h:XP x=some y):BV.F x=y:=Ar h
theorem aM0{x y}(h:XP x=some y):BV.pre x=true/\BV.F x=y:=⟨As h,Ar h⟩
theorem aC6{x y}(h:pR x=some y):D2.pre x=true/\D2.F x=y:=⟨As h,Ar h⟩
theorem Pi{x y}(h:cV x=some y):Bs.pre x=true/\Bs.F x=y:=⟨As h,Ar h⟩
theorem bC1{x y}(h:VN x=some y):Bh.pre x=true:=As h
theorem bAL{x y}(h:VN x=some y):Bh.F x=y:=Ar h
theorem tH{x y}(h:VN x=some y):Bh.pre x=true/\Bh.F x=y:=⟨As h,Ar h⟩
theorem aC7{x y}(h:pU x=some y):Cs.pre x=true/\Cs.F x=y:=⟨As h,Ar h⟩
theorem aMY{x y}(h:pK x=some y):UJ.pre x=true/\UJ.F x=y:=⟨As h,Ar h⟩
theorem aMv{x y}(h:XA x=some y):Jo.pre x=true/\Jo.F x=y:=⟨As h,Ar h⟩
theorem aYP{x y}(h:bQ x=some y):TX.pre x=true/\TX.F x=y:=⟨As h,Ar h⟩
theorem aYQ{x y}(h:nC x=some y):TY.pre x=true/\TY.F x=y:=⟨As h,Ar h⟩
theorem aYR{x y}(h:nE x=some y):EB.pre x=true/\EB.F x=y:=⟨As h,Ar h⟩
theorem aCV{x y}(h:nF x=some y):TZ.pre x=true/\TZ.F x=y:=⟨As h,Ar h⟩
theorem fO{x y}(h:nB x=some y):Cw.pre x=true/\Cw.F x=y:=⟨As h,Ar h⟩
theorem aYW{x y}(h:nM x=some y):T5.pre x=true/\T5.F x=y:=⟨As h,Ar h⟩
theorem aMt{x y}(h:mY x=some y):FU.pre x=true/\FU.F x=y:=⟨As h,Ar h⟩
theorem ZW{x y}(h:UL x=some y):Ak.pre x=true:=As h
theorem Yv{x y}(h:UL x=some y):Ak.F x=y:=Ar h
theorem Fe{x y}(h:UL x=some y):Ak.pre x=true/\Ak.F x=y:=⟨As h,Ar h⟩
theorem aYV{x y}(h:nL x=some y):CT.pre x=true/\CT.F x=y:=⟨As h,Ar h⟩
theorem aCT{x y}(h:bO x=some y):Cj.pre x=true/\Cj.F x=y:=⟨As h,Ar h⟩
theorem aMD{x y}(h:nU x=some y):CL.pre x=true/\CL.F x=y:=⟨As h,Ar h⟩
theorem Wf{x y}(h:bY x=some y):Ck.pre x=true/\Ck.F x=y:=⟨As h,Ar h⟩
theorem aYY{x y}(h:nQ x=some y):Jq.pre x=true/\Jq.F x=y:=⟨As h,Ar h⟩
theorem aYX{x y}(h:nN x=some y):Xr.pre x=true/\Xr.F x=y:=⟨As h,Ar h⟩
theorem bCQ{x y}(h:Xz x=some y):B8.pre x=true:=As h
theorem bAA{x y}(h:Xz x=some y):B8.F x=y:=Ar h
theorem aYN{x y}(h:Xz x=some y):B8.pre x=true/\B8.F x=y:=⟨As h,Ar h⟩
theorem aYM{x y}(h:m9 x=some y):TU.pre x=true/\TU.F x=y:=⟨As h,Ar h⟩
theorem aMC{x y}(h:cA x=some y):CU.pre x=true/\CU.F x=y:=⟨As h,Ar h⟩
theorem bC2{x y}(h:XQ x=some y):Cr.pre x=true:=As h
theorem bAM{x y}(h:XQ x=some y):Cr.F x=y:=Ar h
theorem aM1{x y}(h:XQ x=some y):Cr.pre x=true/\Cr.F x=y:=⟨As h,Ar h⟩
theorem aY2{x y}(h:nW x=some y):Uc.pre x=true/\Uc.F x=y:=⟨As h,Ar h⟩
theorem tC{x y}(h:cB x=some y):Xw.pre x=true/\Xw.F x=y:=⟨As h,Ar h⟩
theorem aC1{x y}(h:XG x=some y):DN.pre x=true/\DN.F x=y:=⟨As h,Ar h⟩
theorem aC0{x y}(h:VJ x=some y):EX.pre x=true/\EX.F x=y:=⟨As h,Ar h⟩
theorem fS{x y}(h:XD x=some y):Ee.pre x=true/\Ee.F x=y:=⟨As h,Ar h⟩
theorem U1{x y}(h:VF x=some y):Fu.pre x=true/\Fu.F x=y:=⟨As h,Ar h⟩
theorem Yk{x y}(h:XE x=some y):Xx.pre x=true/\Xx.F x=y:=⟨As h,Ar h⟩
theorem Ph{x y}(h:XB x=some y):Dx.pre x=true/\Dx.F x=y:=⟨As h,Ar h⟩
theorem aMz{x y}(h:bX x=some y):Jp.pre x=true/\Jp.F x=y:=⟨As h,Ar h⟩
theorem bC3{x y}(h:XR x=some y):CM.pre x=true:=As h
theorem bAN{x y}(h:XR x=some y):CM.F x=y:=Ar h
theorem aM2{x y}(h:XR x=some y):CM.pre x=true/\CM.F x=y:=⟨As h,Ar h⟩
theorem bCZ{x y}(h:cP x=some y):Lc.pre x=true:=As h
theorem bAJ{x y}(h:cP x=some y):Lc.F x=y:=Ar h
theorem aCY{x y}(h:nO x=some y):Xs.pre x=true/\Xs.F x=y:=⟨As h,Ar h⟩
theorem aMA{x y}(h:nP x=some y):Xt.pre x=true/\Xt.F x=y:=⟨As h,Ar h⟩
theorem aMu{x y}(h:mZ x=some y):FV.pre x=true/\FV.F x=y:=⟨As h,Ar h⟩
theorem fQ{x y}(h:nD x=some y):C1.pre x=true/\C1.F x=y:=⟨As h,Ar h⟩
theorem aZq{x y}(h:dA x=some y):UI.pre x=true/\UI.F x=y:=⟨As h,Ar h⟩
theorem bCS{x y}(h:XH x=some y):EY.pre x=true:=As h
theorem bAC{x y}(h:XH x=some y):EY.F x=y:=Ar h
theorem aMF{x y}(h:XH x=some y):EY.pre x=true/\EY.F x=y:=⟨As h,Ar h⟩
theorem aYL{x y}(h:m8 x=some y):FW.pre x=true/\FW.F x=y:=⟨As h,Ar h⟩
theorem aZp{x y}(h:pH x=some y):Fv.pre x=true/\Fv.F x=y:=⟨As h,Ar h⟩
theorem bCR{x y}(h:cD x=some y):N8.pre x=true:=As h
theorem bAB{x y}(h:cD x=some y):N8.F x=y:=Ar h
theorem tE{x y}(h:cK x=some y):Ug.pre x=true/\Ug.F x=y:=⟨As h,Ar h⟩
theorem aMI{x y}(h:n7 x=some y):Uh.pre x=true/\Uh.F x=y:=⟨As h,Ar h⟩
theorem aMJ{x y}(h:n8 x=some y):Ui.pre x=true/\Ui.F x=y:=⟨As h,Ar h⟩
theorem aMK{x y}(h:n9 x=some y):Uj.pre x=true/\Uj.F x=y:=⟨As h,Ar h⟩
theorem aC2{x y}(h:nX x=some y):Bo.pre x=true/\Bo.F x=y:=⟨As h,Ar h⟩
theorem aY4{x y}(h:nY x=some y):EC.pre x=true/\EC.F x=y:=⟨As h,Ar h⟩
theorem bCW{x y}(h:cL x=some y):N9.pre x=true:=As h
theorem bAG{x y}(h:cL x=some y):N9.F x=y:=Ar h
theorem aY9{x y}(h:cM x=some y):Ul.pre x=true/\Ul.F x=y:=⟨As h,Ar h⟩
theorem aML{x y}(h:oB x=some y):Um.pre x=true/\Um.F x=y:=⟨As h,Ar h⟩
theorem aMM{x y}(h:oC x=some y):Un.pre x=true/\Un.F x=y:=⟨As h,Ar h⟩
theorem aMN{x y}(h:oG x=some y):DY.pre x=true/\DY.F x=y:=⟨As h,Ar h⟩
theorem aCU{x y}(h:Xy x=some y):DM.pre x=true/\DM.F x=y:=⟨As h,Ar h⟩
theorem aMG{x y}(h:n0 x=some y):B2.pre x=true/\B2.F x=y:=⟨As h,Ar h⟩
theorem aMH{x y}(h:n4 x=some y):Br.pre x=true/\Br.F x=y:=⟨As h,Ar h⟩
theorem aYT{x y}(h:nI x=some y):EW.pre x=true/\EW.F x=y:=⟨As h,Ar h⟩
theorem aCX{x y}(h:nJ x=some y):B1.pre x=true/\B1.F x=y:=⟨As h,Ar h⟩
theorem bCT{x y}(h:cG x=some y):CC.pre x=true:=EM h
theorem bAD{x y}(h:cG x=some y):CC.F x=y:=EL h
theorem bCU{x y}(h:cH x=some y):Da.pre x=true:=EM h
theorem bAE{x y}(h:cH x=some y):Da.F x=y:=EL h
theorem bCV{x y}(h:cJ x=some y):EZ.pre x=true:=EM h
theorem bAF{x y}(h:cJ x=some y):EZ.F x=y:=EL h
theorem aY6{x y}(h:n5 x=some y):Uf.pre x=true/\Uf.F x=y:=⟨As h,Ar h⟩
theorem aY7{x y}(h:n6 x=some y):E0.pre x=true/\E0.F x=y:=⟨As h,Ar h⟩
theorem aYO{x y}(h:nA x=some y):TW.pre x=true/\TW.F x=y:=⟨As h,Ar h⟩
theorem aYU{x y}(h:nK x=some y):Ed.pre x=true/\Ed.F x=y:=⟨As h,Ar h⟩
theorem aZa{x y}(h:oD x=some y):Uo.pre x=true/\Uo.F x=y:=⟨As h,Ar h⟩
theorem aZb{x y}(h:oF x=some y):Up.pre x=true/\Up.F x=y:=⟨As h,Ar h⟩
theorem bCX{x y}(h:cN x=some y):Oa.pre x=true:=As h
theorem bAH{x y}(h:cN x=some y):Oa.F x=y:=Ar h
theorem vD{x y}(h:cO x=some y):Dy.pre x=true:=As h
theorem uF{x y}(h:cO x=some y):Dy.F x=y:=Ar h
theorem aQk{x y}(h:XJ x=some y):Uu.pre x=true:=As h
theorem aOr{x y}(h:XJ x=some y):Uu.F x=y:=Ar h
theorem bCY{x y}(h:XK x=some y):Uv.pre x=true:=As h
theorem bAI{x y}(h:XK x=some y):Uv.F x=y:=Ar h
theorem aQl{x y}(h:Od x=some y):Ob.pre x=true:=As h
theorem uG{x y}(h:Od x=some y):Ob.F x=y:=Ar h
theorem bC0{x y}(h:cQ x=some y):Uw.pre x=true:=As h
theorem bAK{x y}(h:cQ x=some y):Uw.F x=y:=Ar h
theorem aZc{x y}(h:VK x=some y):Ux.pre x=true/\Ux.F x=y:=⟨As h,Ar h⟩
theorem tF{x y}(h:oH x=some y):Dj.pre x=true/\Dj.F x=y:=⟨EM h,EL h⟩
theorem LC{x y}(h:oJ x=some y):GS.pre x=true/\GS.F x=y:=⟨EM h,EL h⟩
theorem aMO{x y}(h:oK x=some y):GT.pre x=true/\GT.F x=y:=⟨EM h,EL h⟩
theorem fU{x y}(h:oL x=some y):Es.pre x=true/\Es.F x=y:=⟨EM h,EL h⟩
theorem aMP{x y}(h:oM x=some y):DO.pre x=true/\DO.F x=y:=⟨EM h,EL h⟩
theorem JE{x y}(h:Jr x=some y):CV.pre x=true/\CV.F x=y:=⟨EM h,EL h⟩
theorem aZd{x y}(h:XL x=some y):Uy.pre x=true/\Uy.F x=y:=⟨As h,Ar h⟩
theorem aMQ{x y}(h:oP x=some y):Uz.pre x=true/\Uz.F x=y:=⟨EM h,EL h⟩
theorem aZe{x y}(h:oQ x=some y):UA.pre x=true/\UA.F x=y:=⟨EM h,EL h⟩
theorem aZf{x y}(h:XM x=some y):UB.pre x=true/\UB.F x=y:=⟨As h,Ar h⟩
theorem aZg{x y}(h:oR x=some y):Cl.pre x=true/\Cl.F x=y:=⟨As h,Ar h⟩
theorem aZh{x y}(h:oS x=some y):E1.pre x=true/\E1.F x=y:=⟨EM h,EL h⟩
theorem Wg{x y}(h:cX x=some y):B3.pre x=true/\B3.F x=y:=⟨As h,Ar h⟩
theorem HW{x y}(h:pL x=some y):Cc.pre x=true/\Cc.F x=y:=⟨As h,Ar h⟩
theorem fY{x y}(h:pJ x=some y):CW.pre x=true/\CW.F x=y:=⟨As h,Ar h⟩
theorem fV{x y}(h:cS x=some y):E2.pre x=true/\E2.F x=y:=⟨As h,Ar h⟩
theorem aQj{x y}(h:VH x=some y):Aq.pre x=true:=As h
theorem aOq{x y}(h:VH x=some y):Aq.F x=y:=Ar h
theorem Yj{x y}(h:VH x=some y):Aq.pre x=true/\Aq.F x=y:=⟨As h,Ar h⟩
theorem aMw{x y}(h:bS x=some y):T3.pre x=true/\T3.F x=y:=⟨As h,Ar h⟩
theorem JG{x y}(h:dB x=some y):Eu.pre x=true/\Eu.F x=y:=⟨As h,Ar h⟩
theorem Wh{x y}(h:pM x=some y):Ew.pre x=true/\Ew.F x=y:=⟨As h,Ar h⟩
theorem tI{x y}(h:XO x=some y):GV.pre x=true/\GV.F x=y:=⟨As h,Ar h⟩
theorem fR{x y}(h:bT x=some y):GK.pre x=true/\GK.F x=y:=⟨As h,Ar h⟩
theorem aMx{x y}(h:bV x=some y):GL.pre x=true/\GL.F x=y:=⟨As h,Ar h⟩
theorem aMy{x y}(h:nH x=some y):GM.pre x=true/\GM.F x=y:=⟨As h,Ar h⟩
theorem aCW{x y}(h:bW x=some y):GN.pre x=true/\GN.F x=y:=⟨As h,Ar h⟩
theorem aZr{x y}(h:pO x=some y):UK.pre x=true/\UK.F x=y:=⟨As h,Ar h⟩
theorem aMZ{x y}(h:pQ x=some y):Ef.pre x=true/\Ef.F x=y:=⟨As h,Ar h⟩
theorem aY8{x y}(h:oA x=some y):Uk.pre x=true/\Uk.F x=y:=⟨As h,Ar h⟩
theorem aME{x y}(h:nV x=some y):GP.pre x=true/\GP.F x=y:=⟨As h,Ar h⟩
theorem aYZ{x y}(h:nS x=some y):T8.pre x=true/\T8.F x=y:=⟨As h,Ar h⟩
theorem aY0{x y}(h:bZ x=some y):Ua.pre x=true/\Ua.F x=y:=⟨As h,Ar h⟩
theorem aY1{x y}(h:cC x=some y):Ub.pre x=true/\Ub.F x=y:=⟨As h,Ar h⟩
theorem aMB{x y}(h:nT x=some y):T9.pre x=true/\T9.F x=y:=⟨As h,Ar h⟩
theorem aCZ{x y}(h:nR x=some y):T7.pre x=true/\T7.F x=y:=⟨As h,Ar h⟩
theorem aYS{x y}(h:nG x=some y):T4.pre x=true/\T4.F x=y:=⟨As h,Ar h⟩
theorem aC5{x y}(h:pN x=some y):GW.pre x=true/\GW.F x=y:=⟨As h,Ar h⟩
theorem tD{x y}(h:cF x=some y):GQ.pre x=true/\GQ.F x=y:=⟨As h,Ar h⟩
theorem aC3{x y}(h:oT x=some y):GU.pre x=true/\GU.F x=y:=⟨EM h,EL h⟩
theorem aZi{x y}(h:oU x=some y):E3.pre x=true/\E3.F x=y:=⟨EM h,EL h⟩
theorem aZj{x y}(h:oV x=some y):UC.pre x=true/\UC.F x=y:=⟨As h,Ar h⟩
theorem aZk{x y}(h:oW x=some y):UD.pre x=true/\UD.F x=y:=⟨As h,Ar h⟩
theorem tG{x y}(h:oX x=some y):UE.pre x=true/\UE.F x=y:=⟨EM h,EL h⟩
theorem aY5{x y}(h:nZ x=some y):Ue.pre x=true/\Ue.F x=y:=⟨As h,Ar h⟩
theorem aY3{x y}(h:cE x=some y):Ud.pre x=true/\Ud.F x=y:=⟨As h,Ar h⟩
theorem aZl{x y}(h:oZ x=some y):UF.pre x=true/\UF.F x=y:=⟨EM h,EL h⟩
theorem aZm{x y}(h:o0 x=some y):E4.pre x=true/\E4.F x=y:=⟨EM h,EL h⟩
theorem aMR{x y}(h:cT x=some y):Cm.pre x=true/\Cm.F x=y:=⟨As h,Ar h⟩
theorem aMS{x y}(h:o7 x=some y):Cn.pre x=true/\Cn.F x=y:=⟨As h,Ar h⟩
theorem aC4{x y}(h:XN x=some y):E5.pre x=true/\E5.F x=y:=⟨As h,Ar h⟩
theorem aQm{x y}(h:cU x=some y):UG.pre x=true:=As h
theorem aOs{x y}(h:cU x=some y):UG.F x=y:=Ar h
theorem aZn{x y}(h:o8 x=some y):Et.pre x=true/\Et.F x=y:=⟨As h,Ar h⟩
theorem aZo{x y}(h:o9 x=some y):E6.pre x=true/\E6.F x=y:=⟨As h,Ar h⟩
theorem aMT{x y}(h:pC x=some y):DZ.pre x=true/\DZ.F x=y:=⟨As h,Ar h⟩
theorem aMU{x y}(h:pD x=some y):Co.pre x=true/\Co.F x=y:=⟨As h,Ar h⟩
theorem aMV{x y}(h:pE x=some y):D0.pre x=true/\D0.F x=y:=⟨As h,Ar h⟩
theorem aMW{x y}(h:pF x=some y):Cp.pre x=true/\Cp.F x=y:=⟨As h,Ar h⟩
theorem aMX{x y}(h:pG x=some y):Cq.pre x=true/\Cq.F x=y:=⟨As h,Ar h⟩
end Vx
namespace Vx
open Go
theorem aQ1{a:Int}(n:Nat)(hn:n<=64):AR .u64 a (n:Int)=a/2^n:=by
 unfold AR;rw[Int.fdiv_eq_ediv_of_nonneg]
 ·congr 2;simp[ji];omega
 ·exact Int.pow_nonneg (by omega)
theorem LV{m:Nat}(h:m<2^64):(dh 64 (m:Int)).toNat=m:=by
 rw[BitVec.toNat_ofInt];omega
theorem UX{m n:Nat}(h:m<2^64)(hn:n<=64):BR .u64 (m:Int) ((2^n-1:Nat):Int)=((m%2^n:Nat):Int):=by
 have h2:2^n<=2^64:=ax (by omega) hn;have h3:0<2^n:=au n;have hlt:m%2^n<2^n:=cn _ h3;have key:(dh 64 (m:Int) &&& dh 64 ((2^n-1:Nat):Int)).toNat=m%2^n:=by
  rw[qq,LV h,LV (by omega),Nat.and_two_pow_sub_one_eq_mod]
 show IntKind.u64.wrap (((dh 64 (m:Int) &&& dh 64 ((2^n-1:Nat):Int)).toNat:Nat):Int)=_;rw[key];exact IntWalk.u64_in _ (by omega)
theorem PR{n:Nat}(hn:n<=63):Bk .u64 1 (n:Int)=((2^n:Nat):Int):=by
 have h2:2^n<=2^63:=ax (by omega) hn;have:(min (n:Int).toNat IntKind.u64.bits)=n:=by simp[ji];omega
 unfold Bk;rw[this,Int.one_mul];have e:(2:Int)^n=((2^n:Nat):Int):=by simp
 rw[e];refine IntWalk.u64_in _ ⟨qc _,?_⟩;have:((2^n:Nat):Int)<=((2^63:Nat):Int):=Int.ofNat_le.2 h2;exact Int.le_trans this (by decide)
end Vx
namespace VL
open Go Vx
def Fm(f:Int):Prop:=0<=f/\f<4
instance (f:Int):Decidable (Fm f):=by unfold Fm;infer_instance
def fW(f:Int):Nat:=if f=0 then 16 else if f=1 then 16 else if f=2 then 32 else 64
def fP(f:Int):Nat:=if f=0 then 11 else if f=1 then 8 else if f=2 then 24 else 53
def fX(f:Int):Nat:=if f=0 then 15 else if f=1 then 127 else if f=2 then 127 else 1023
def Cy(f:Int):Ab rowsSh:=((fW f:Int),((fP f:Int),((1-(fX f:Int)),((fX f:Int),()))))
theorem CB{f:Int}(h:Fm f):f=0∨f=1∨f=2∨f=3:=by
 obtain⟨h1,h2⟩:=h;omega
theorem aEP{f:Int}(h:Fm f)(d:Ab rowsSh):k_rows.getD (aq f) d=Cy f:=by
 rcases CB h with rfl|rfl|rfl|rfl<;>rfl
theorem CZ{f:Int}(h:Fm f):8<=fP f:=by
 rcases CB h with rfl|rfl|rfl|rfl<;>decide
theorem D7{f:Int}(h:Fm f):fP f+5<=fW f:=by
 rcases CB h with rfl|rfl|rfl|rfl<;>decide
theorem EG{f:Int}(h:Fm f):fW f<=64:=by
 rcases CB h with rfl|rfl|rfl|rfl<;>decide
theorem LJ{f:Int}(h:Fm f):fX f<=1023:=by
 rcases CB h with rfl|rfl|rfl|rfl<;>decide
theorem t9{f:Int}(h:Fm f):2*fX f+1=2^(fW f-fP f)-1:=by
 rcases CB h with rfl|rfl|rfl|rfl<;>decide
theorem Au{n:Int}(h:-9223372036854775808<=n/\n<9223372036854775808):al .i64 n=n:=IntWalk.i64_in n ⟨h.1,by omega⟩
theorem DV{n:Int}(h:0<=n/\n<18446744073709551616):al .u64 n=n:=IntWalk.u64_in n ⟨h.1,by omega⟩
theorem DT(a n:Nat)(hn:n<=64):AR .u64 (a:Int) (n:Int)=((a/2^n:Nat):Int):=by
 rw[aQ1 n hn];simp
theorem EN(m n:Nat)(h:n<=m)(hm:m<=4611686018427387904):al .i64 ((m:Int)-(n:Int))=((m-n:Nat):Int):=by
 rw[Au (by omega)];omega
theorem LP(m n:Nat):((m:Int)==(n:Int))=(m==n):=by
 rw[gj];simp only[beq_iff_eq];omega
theorem Ge(m:Nat):((m:Int)==0)=(m==0):=LP m 0
theorem uV(m n:Nat):((m:Int)!=(n:Int))=(m !=n):=by
 show(!((m:Int)==(n:Int)))=!(m==n);rw[LP]
theorem WI(m:Nat):((m:Int)!=0)=(m !=0):=uV m 0
theorem nlt(m n:Nat):(decide ((m:Int)<(n:Int)))=decide (m<n):=by
 rw[gj];simp
theorem AF(m:Nat):(decide (0<=(m:Int)))=true:=by simp
def Ai(f:Int)(a:Nat):Int:=if Fm f then(if a<2^fW f then 0 else 4)else 2
def eF(f:Int)(a:Nat):Nat:=a/2^(fP f-1)%2^(fW f-fP f)
def mF(f:Int)(a:Nat):Nat:=a%2^(fP f-1)
def sF(f:Int)(a:Nat):Bool:=a/2^(fW f-1)!=0
def AH(f:Int):Nat:=2^(fW f-fP f)-1
def Ct(f:Int)(a:Nat):Nat:=a%2^(fW f-1)
theorem Li{f:Int}(h:Fm f):VM (f,())=some (Cy f,0,()):=by
 rcases CB h with rfl|rfl|rfl|rfl<;>kernel_rfl
theorem Oe{f:Int}(h:¬Fm f):VM (f,())=some ((0,0,0,0,()),2,()):=by
 show zP f=_;unfold zP;have:(decide (f<(0:Int))||decide (f>=(4:Int)))=true:=by
  simp only[Fm]at h;simp only[fh,ai];omega
 rw[this];rfl
theorem aNl{f:Int}(h:¬Fm f)(a:Nat):Ai f a=2:=by unfold Ai;rw[ag h]
theorem aDk{f:Int}(h:Fm f){a:Nat}(ha:a<2^fW f):Ai f a=0:=by unfold Ai;rw[ah h,ah ha]
theorem aZA{f:Int}(h:Fm f){a:Nat}(ha:¬a<2^fW f):Ai f a=4:=by unfold Ai;rw[ah h,ag ha]
theorem Fz{f:Int}{a:Nat}(h:Ai f a=0):Fm f/\a<2^fW f:=by
 unfold Ai at h;split at h
 ·split at h
  ·exact⟨by assumption,by assumption⟩
  ·cases h
 ·cases h
theorem aDw{a n:Nat}:(a/2^n !=0)=decide (2^n<=a):=by
 rw[gj];simp[Nat.div_eq_zero_iff,au]
theorem Lh(f:Int)(a:Nat)(ha:a<2^64):pI (f,(a:Int),())=some (Ai f a,()):=by
 show zM Ap.pre Ap.F f a=_;unfold zM;by_cases hf:Fm f
 ·simp only[Dc (Li hf),aa,Cy,AF,bg];rw[DT _ _ (EG hf),WI,aDw];show(bif decide ((fW f:Int)<((64:Nat):Int))&&_ then _ else _)=_;rw[nlt];have hw:=EG hf;by_cases h:a<2^fW f
  ·have:(decide (fW f<64)&&decide (2^fW f<=a))=false:=by simp;intro _;exact h
   rw[this,aDk hf h];rfl
  ·have:(decide (fW f<64)&&decide (2^fW f<=a))=true:=by
    simp only[ar,ai];refine⟨?_,by omega⟩;rcases bc (fW f) 64 with h1|h1
    ·exact h1
    ·have:fW f=64:=by omega
     rw[this]at h;omega
   rw[this,aZA hf h];rfl
 ·simp only[Dc (Oe hf),aa,aNl hf];rfl
theorem pT(n:Nat)(hn:n<=63):XP ((n:Int),())=some (((2^n-1:Nat):Int),()):=by
 show zW n=_;unfold zW;have h2:2^n<=2^63:=ax (by omega) hn;have h1:0<2^n:=au n;rw[AF,aa,PR hn];generalize 2^n=c at *
 rw[DV (by omega)];have:(c:Int)-1=((c-1:Nat):Int):=by omega
 rw[this]
theorem aBj{f:Int}(hf:Fm f)(a:Nat)(ha:a<2^64):pR (Cy f,(a:Int),())=some (sF f a,(eF f a:Int),(mF f a:Int),()):=by
 show zV BV.pre BV.F (Cy f) a=_;unfold zV;have h1:=CZ hf;have h2:=D7 hf;have h3:=EG hf;have e1:al .i64 ((Cy f).1-1)=((fW f-1:Nat):Int):=EN (fW f) 1 (by omega) (by omega);have e2:al .i64 ((Cy f).2.1-1)=((fP f-1:Nat):Int):=EN (fP f) 1 (by omega) (by omega);have e3:al .i64 ((Cy f).1-(Cy f).2.1)=((fW f-fP f:Nat):Int):=EN (fW f) (fP f) (by omega) (by omega);have p1:=pT (fW f-fP f) (by omega);have p2:=pT (fP f-1) (by omega);rw[e1,e2,e3];simp only[AF,aa,aQn p1,aQn p2,aOt p1,aOt p2];rw[DT _ _ (by omega),DT _ _ (by omega),UX (bv (ga _ _) ha) (by omega),UX ha (by omega),WI];rfl
def BZ(f:Int)(a:Nat):Int:=bif eF f a==AH f&&mF f a==0 then(bif sF f a then 2 else 9)else bif eF f a==AH f&&mF f a/2^(fP f-2)!=0 then 1 else bif eF f a==AH f then 0 else bif eF f a==0&&mF f a==0 then(bif sF f a then 5 else 6)else bif eF f a==0 then(bif sF f a then 4 else 7)else(bif sF f a then 3 else 8)
theorem cW{f:Int}{a:Nat}(ha:a<2^64)(h:Ai f a=0):cV (f,(a:Int),())=some (BZ f a,0,()):=by
 obtain⟨hf,h0⟩:=Fz h;show aA Av.pre Av.F D2.pre D2.F BV.pre BV.F f a=_;unfold aA;have h1:=CZ hf;have h2:=D7 hf;have h3:=EG hf;have e3:al .i64 ((Cy f).1-(Cy f).2.1)=((fW f-fP f:Nat):Int):=EN (fW f) (fP f) (by omega) (by omega);have e4:al .i64 ((Cy f).2.1-2)=((fP f-2:Nat):Int):=EN (fP f) 2 (by omega) (by omega);have p0:=Lh f a ha;have p1:=pT (fW f-fP f) (by omega);have p2:=aBj hf a ha;have hr:(decide (0<=f)&&decide (f<((4:Nat):Int)))=true:=by
  simp only[ar,ai];exact hf
 simp only[aEP hf,e3,e4,hr,JF p0,aM0 p1,aC6 p2,h,aa,AF,bg,aj,ab];rw[DT _ _ (by omega),LP,Ge,Ge,WI];unfold BZ AH;generalize(eF f a==2^(fW f-fP f)-1)=b1;generalize(mF f a==0)=b2;generalize(mF f a/2^(fP f-2)!=0)=b3;generalize(eF f a==0)=b4;generalize sF f a=b5;cases b1<;>cases b2<;>cases b3<;>cases b4<;>cases b5<;>rfl
theorem aBd{f:Int}{a:Nat}(ha:a<2^64)(h:Ai f a≠0):cV (f,(a:Int),())=some (0,Ai f a,()):=by
 show aA Av.pre Av.F D2.pre D2.F BV.pre BV.F f a=_;unfold aA;have p0:=Lh f a ha;have:(Ai f a !=0)=true:=by simpa using h
 simp only[JF p0,this,aa]
theorem aVM{f:Int}(hf:Fm f):m8 (f,())=some (((2^(fW f-1):Nat):Int),()):=by
 rcases CB hf with rfl|rfl|rfl|rfl<;>kernel_rfl
def AB(f:Int)(a:Nat):Int:=bif sF f a then -(Ct f a:Int)else Ct f a
def tN(f:Int)(a b:Nat):Int:=if Ai f a=0 then Ai f b else Ai f a
def nan(f:Int)(a:Nat):Bool:=eF f a==AH f&&mF f a !=0
def Bm(f:Int)(a:Nat):Bool:=nan f a&&mF f a/2^(fP f-2)==0
theorem f0(f:Int)(a:Nat):(BZ f a==1||BZ f a==0)=nan f a:=by
 unfold BZ nan;simp only[bne];cases eF f a==AH f<;>cases mF f a==0<;>cases sF f a<;>cases eF f a==0<;>cases mF f a/2^(fP f-2)==0<;>rfl
theorem tO(f:Int)(a:Nat):(BZ f a==0)=Bm f a:=by
 unfold BZ Bm nan;simp only[bne];cases eF f a==AH f<;>cases hm:mF f a==0<;>cases sF f a<;>cases eF f a==0<;>cases mF f a/2^(fP f-2)==0<;>rfl
def tP(f:Int)(a b:Nat)(signal:Bool):Int×Int×Int×Unit:=if tN f a b≠0 then(0,0,tN f a b,())else bif nan f a||nan f b then(3,(bif signal then 1 else bif Bm f a||Bm f b then 1 else 0),0,())else if AB f a<AB f b then(0,0,0,())else if AB f a>AB f b then(2,0,0,())else(1,0,0,())
end VL
namespace VL
open Go Vx
def sgn(f:Int)(a:Nat):Nat:=a/2^(fW f-1)%2
theorem PT{f:Int}{a:Nat}(h:nan f a=false):Bm f a=false:=by
 unfold Bm;rw[h];rfl
theorem bIc{f:Int}{a:Nat}(h:Ai f a=0):(sgn f a==1)=sF f a:=by
 obtain⟨hf,h0⟩:=Fz h;have h2:=D7 hf;unfold sgn sF;have:a/2^(fW f-1)<2:=by
  rw[cj (au _)];have:2^fW f=2*2^(fW f-1):=by rw[←iw];congr 1;omega
  omega
 rw[ce this];generalize a/2^(fW f-1)=q at this⊢;match q,this with
 |0,_=>rfl
 |1,_=>rfl
end VL
namespace VL
open Go Vx
theorem bCO{f:Int}(hf:Fm f):2^(fW f-1)=2^(fP f-1)*2^(fW f-fP f):=by
 have h1:=CZ hf;have h2:=D7 hf;rw[←ca];congr 1;omega
theorem Pe{f:Int}(hf:Fm f)(a:Nat):Ct f a=mF f a+2^(fP f-1)*eF f a:=by
 unfold Ct mF eF;rw[bCO hf,nj]
theorem aQb{f:Int}{a:Nat}(h:Ai f a=0):a=Ct f a+(bif sF f a then 2^(fW f-1)else 0):=by
 obtain⟨hf,h0⟩:=Fz h;have h2:=D7 hf;have e:2^fW f=2*2^(fW f-1):=by rw[←iw];congr 1;omega
 unfold Ct sF;rw[aDw];by_cases hc:2^(fW f-1)<=a
 ·rw[ae hc];simp only[aa];have:a%2^(fW f-1)=a-2^(fW f-1):=by
   rw[Nat.mod_eq_sub_mod hc,ce (by omega)]
  omega
 ·rw[af hc];simp only[ab];rw[ce (by omega)];rfl
theorem eZ{f:Int}(a:Nat):Ct f a<2^(fW f-1):=cn _ (au _)
theorem Wx{f:Int}(hf:Fm f):0<AH f:=by
 rcases CB hf with rfl|rfl|rfl|rfl<;>decide
theorem aS4{f:Int}(hf:Fm f)(a:Nat):Ct f a=0↔eF f a=0/\mF f a=0:=by
 rw[Pe hf];have:=au (fP f-1);constructor
 ·intro h;have h1:2^(fP f-1)*eF f a=0:=by omega
  rcases pe.1 h1 with h2|h2
  ·omega
  ·exact⟨h2,by omega⟩
 ·rintro ⟨h1,h2⟩;rw[h1,h2];rfl
def Cu(f:Int):Nat:=2^(fW f-1)-2^(fP f-2)
def bI8(f:Int)(neg:Bool):Nat:=bif neg then 2^(fW f-1)else 0
theorem cZ{f:Int}(hf:Fm f):VN (f,())=some ((Cu f:Int),0,()):=by
 rcases CB hf with rfl|rfl|rfl|rfl<;>kernel_rfl
def bCH(f:Int)(a b:Nat)(g:Bool):Nat:=if AB f a=AB f b/\a≠b then bI8 f (!g)else if(AB f b<AB f a/\g=false)∨(AB f a<AB f b/\g=true)then b else a
def aDM(f:Int)(a b:Nat):Int:=bif Bm f a||Bm f b then 1 else 0
def aQf(f:Int)(a b:Nat)(g:Bool):Int×Int×Int×Unit:=if tN f a b≠0 then(0,0,tN f a b,())else bif nan f a&&nan f b then((Cu f:Int),aDM f a b,0,())else bif nan f a then((b:Int),aDM f a b,0,())else bif nan f b then((a:Int),aDM f a b,0,())else((bCH f a b g:Int),0,0,())
end VL
namespace VL
open Go Vx
theorem aP0(k:Nat):Nat.testBit 1 k=decide (k=0):=by
 rw[gj];simp[Nat.testBit_one_eq_true_iff_self_eq_zero]
theorem bI5{m n:Nat}(h:m<2^(n+1)):m ^^^ 2^n=if m<2^n then m+2^n else m-2^n:=by
 apply mv;intro i;rw[Nat.testBit_xor,pm];have h2:2^(n+1)=2*2^n:=iw;split
 ·rename_i hm;have:m+2^n=2^n*1+m:=by omega
  rw[this,jy _ hm];by_cases hi:i<n
  ·have:¬n=i:=by omega
   simp[hi,this]
  ·rw[ag hi,oh (az hm (ax (by omega) (by omega)))];rw[aP0];by_cases hn:n=i
   ·subst hn;simp
   ·have:¬i-n=0:=by omega
    simp[hn,this]
 ·rename_i hm;have e:m=2^n*1+(m-2^n):=by omega
  have hr:m-2^n<2^n:=by omega
  rw[e,jy _ hr];have e2:2^n*1+(m-2^n)-2^n=m-2^n:=by omega
  rw[e2];by_cases hi:i<n
  ·have:¬n=i:=by omega
   simp[hi,this]
  ·rw[ag hi,oh (x:=m-2^n) (az hr (ax (by omega) (by omega))),aP0];by_cases hn:n=i
   ·subst hn;simp
   ·have:¬i-n=0:=by omega
    simp[hn,this]
theorem aS3{m n:Nat}(hn:n<=63)(h:m<2^(n+1)):jE .u64 (m:Int) ((2^n:Nat):Int)=((if m<2^n then m+2^n else m-2^n:Nat):Int):=by
 have h1:2^(n+1)<=2^64:=ax (by omega) (by omega);have h2:2^n<2^64:=ct (by omega) (by omega);have h3:2^(n+1)=2*2^n:=iw;have key:(dh 64 (m:Int) ^^^ dh 64 ((2^n:Nat):Int)).toNat=if m<2^n then m+2^n else m-2^n:=by
  rw[BitVec.toNat_xor,LV (by omega),LV h2,bI5 h]
 show IntKind.u64.wrap (((dh 64 (m:Int) ^^^ dh 64 ((2^n:Nat):Int)).toNat:Nat):Int)=_;rw[key];refine DV ⟨qc _,?_⟩;split<;>omega
def CJ(f:Int)(s:Bool)(n:Nat):Nat:=n+(bif s then 2^(fW f-1)else 0)
theorem bIR{f:Int}(hf:Fm f):2^fW f=2*2^(fW f-1):=by
 have h2:=D7 hf;rw[←iw];congr 1;omega
theorem uP{f:Int}(hf:Fm f)(s:Bool){n:Nat}(hn:n<2^(fW f-1)):Ai f (CJ f s n)=0:=by
 apply aDk hf;rw[bIR hf];unfold CJ;cases s<;>simp<;>omega
theorem aEj{f:Int}(s:Bool){n:Nat}(hn:n<2^(fW f-1)):Ct f (CJ f s n)=n:=by
 unfold Ct CJ;cases s
 ·simp only[ab,dp];exact ce hn
 ·simp only[aa,Nat.add_mod_right];exact ce hn
theorem aPN{f:Int}(s:Bool){n:Nat}(hn:n<2^(fW f-1)):sF f (CJ f s n)=s:=by
 unfold sF CJ;rw[aDw];cases s
 ·simp only[ab,dp,decide_eq_false_iff_not];omega
 ·simp
theorem aEy{f:Int}{a:Nat}(h:Ai f a=0):a=CJ f (sF f a) (Ct f a):=aQb h
theorem WO{f:Int}{a:Nat}(h:Ai f a=0):a<2^64:=by
 obtain⟨hf,h0⟩:=Fz h;exact az h0 (ax (by omega) (EG hf))
theorem aDy{f:Int}(hf:Fm f)(a:Nat):eF f a=Ct f a/2^(fP f-1):=by
 rw[Pe hf,fj _ _ (au _)];have:mF f a/2^(fP f-1)=0:=dc (cn _ (au _));omega
theorem aEf{f:Int}(hf:Fm f)(a:Nat):mF f a=Ct f a%2^(fP f-1):=by
 rw[Pe hf,gm];exact(ce (cn _ (au _))).symm
def BG(f:Int):Nat:=2^(fP f-1)*AH f
theorem aOL{f:Int}(hf:Fm f):BG f+128<=2^(fW f-1):=by
 rcases CB hf with rfl|rfl|rfl|rfl<;>decide
theorem aNQ{f:Int}(a:Nat):eF f a<=AH f:=by
 have:eF f a<2^(fW f-fP f):=cn _ (au _);unfold AH;omega
def DR(f:Int)(a:Nat):Nat:=CJ f (!sF f a) (Ct f a)
theorem uX{f:Int}(hf:Fm f)(a:Nat):Ai f (DR f a)=0:=uP hf _ (eZ a)
theorem bBN{f:Int}(a:Nat):Ct f (DR f a)=Ct f a:=aEj _ (eZ a)
theorem bBP{f:Int}(a:Nat):sF f (DR f a)=!sF f a:=aPN _ (eZ a)
theorem aWG{f:Int}{a:Nat}(h:Ai f a=0):pH (f,(a:Int),())=some ((DR f a:Int),0,()):=by
 obtain⟨hf,h0⟩:=Fz h;show zL Av.pre Av.F FW.pre FW.F f a=_;unfold zL;have h2:=D7 hf;have h3:=EG hf;have p0:=Lh f a (WO h);have p1:=aVM hf;simp only[JF p0,aYL p1,h,aa,aj,ab];rw[aS3 (by omega) (by rw[Nat.sub_add_cancel (by omega)];exact h0)];have e:(if a<2^(fW f-1)then a+2^(fW f-1)else a-2^(fW f-1))=DR f a:=by
  have hp:=aEy h;have hl:=eZ (f:=f) a;unfold DR;unfold CJ at hp⊢;cases hs:sF f a<;>rw[hs]at hp<;>simp only[aa,ab,bi,bf]at hp⊢
  ·rw[ah (by omega)];omega
  ·rw[ag (by omega)];omega
 rw[e]
def bBQ(f:Int)(a:Nat)(w:Int):Nat:=bif(BZ f a==9&&decide (w>0))||(BZ f a==2&&decide (w<0))then a else if AB f a+w>0∨(AB f a+w=0/\w<0)then(AB f a+w).toNat else DR f (-(AB f a+w)).toNat
def bIq(f:Int)(a:Nat)(w:Int):Nat:=bif nan f a then Cu f else bBQ f a w
def bIp(f:Int)(a:Nat)(w:Int):Int×Int×Int×Unit:=if Ai f a≠0 then(0,0,Ai f a,())else((bIq f a w:Int),(bif Bm f a then 1 else 0),0,())
theorem iK{f:Int}(hf:Fm f):nan f (Cu f)=true/\Ai f (Cu f)=0:=by
 rcases CB hf with rfl|rfl|rfl|rfl<;>decide
end VL
namespace VL
open Go Vx
def nv(B:Nat):List Nat->Nat
 | []=>0
 |x::r=>x+B*nv B r
def Am:List Nat->List Nat
 | []=>[]
 |x::r=>match Am r with
  | []=>if x=0 then[]else[x]
  |y::t=>x::y::t
def dg(B:Nat)(n:Nat):List Nat:=if h:n=0∨B<2 then[]else n%B::dg B (n/B)
termination_by n
decreasing_by exact pf (by omega) (by omega)
theorem D5(B:Nat):dg B 0=[]:=by rw[dg];simp
theorem Ez{B n:Nat}(hB:2<=B)(hn:0<n):dg B n=n%B::dg B (n/B):=by
 rw[dg];rw[dif_neg (by omega)]
theorem LI{B:Nat}(hB:2<=B):∀(n:Nat),∀x∈dg B n,x<B:=by
 intro n;induction n using pg with
 |ind n ih=>
  intro x hx;rcases cg n with rfl|hn
  ·rw[D5]at hx;simp at hx
  ·rw[Ez hB hn]at hx;rcases dq.1 hx with rfl|hx
   ·exact cn _ (by omega)
   ·exact ih (n/B) (pf hn (by omega)) x hx
theorem iM{B:Nat}(hB:2<=B):∀(n:Nat),nv B (dg B n)=n:=by
 intro n;induction n using pg with
 |ind n ih=>
  rcases cg n with rfl|hn
  ·rw[D5];rfl
  ·rw[Ez hB hn];simp only[nv];rw[ih (n/B) (pf hn (by omega))];exact jk n B
theorem aNA{B x v:Nat}(hB:2<=B)(hx:x<B)(h:0<x+B*v):dg B (x+B*v)=x::dg B v:=by
 rw[Ez hB h,gm,ce hx,fj _ _ (by omega),dc hx,dj]
theorem Gh{B:Nat}(hB:2<=B):∀(l:List Nat),(∀x∈l,x<B)->Am l=dg B (nv B l)
 | [],_=>by simp only[nv];rw[D5];rfl
 |x::r,h=>by
  have ih:=Gh hB r fun y hy=>h y (by simp[hy])
  simp only[Am,nv]
  rcases cg (nv B r)with h0|h0
  ·rw[ih,h0,D5,fu,dp]
   simp only
   rcases cg x with rfl|hx
   ·rw[D5];rfl
   ·rw[ag (by omega)]
    have:=aNA (v:=0) hB (h x (by simp)) (by omega)
    rw[fu,dp,D5]at this
    exact this.symm
  ·have hp:0<B*nv B r:=ir (by omega) h0
   rw[aNA hB (h x (by simp)) (by omega),ih]
   rw[Ez hB h0]
theorem DU:∀(l:List Nat),(Am l).length<=l.length/\Am l=l.take (Am l).length
 | []=>⟨ci _,rfl⟩
 |x::r=>by
  obtain⟨h1,h2⟩:=DU r
  simp only[Am]
  cases e:Am r with
  |nil=>
   simp only
   split
   ·exact⟨by simp,rfl⟩
   ·exact⟨by simp,rfl⟩
  |cons y t=>
   rw[e]at h1 h2
   simp only
   refine⟨by simp at h1⊢;omega,?_⟩
   simp only[cy,List.take_succ_cons]
   congr 1
theorem aAb:∀(l:List Nat) (i:Nat),(Am l).length<=i->l.getD i 0=0
 | [],i,_=>by simp
 |x::r,i,h=>by
  have ih:=aAb r
  simp only[Am]at h
  cases e:Am r with
  |nil=>
   rw[e]at h ih
   simp only at h
   cases i with
   |zero=>
    split at h
    ·rename_i hx;simp[hx]
    ·simp at h
   |succ i=>simpa using ih i (by simp)
  |cons y t=>
   rw[e]at h ih
   simp only at h
   cases i with
   |zero=>simp at h
   |succ i=>simpa using ih i (by simpa using h)
theorem W3:∀(l:List Nat),0<(Am l).length->l.getD ((Am l).length-1) 0≠0
 | [],h=>by simp[Am]at h
 |x::r,h=>by
  have ih:=W3 r
  simp only[Am]at h⊢
  cases e:Am r with
  |nil=>
   rw[e]at h
   simp only at h⊢
   split at h
   ·simp at h
   ·rename_i hx;rw[ag hx];simpa using hx
  |cons y t=>
   rw[e]at ih
   simp only[cy]at ih⊢
   have:=ih (by simp)
   simpa using this
def Wd(l:List Nat):List Int:=l.map fun n:Nat=>(n:Int)
theorem Ay(l:List Nat):(Wd l).length=l.length:=by simp[Wd]
theorem BM(l:List Nat)(i:Nat):(Wd l).getD i 0=((l.getD i 0:Nat):Int):=by
 unfold Wd;rw[aw,aw,lj];cases l[i]?<;>simp
theorem dJ(l:List Nat)(n:Nat):(Wd l).take n=Wd (l.take n):=by simp[Wd,List.map_take]
theorem aXm(l:List Nat)(n:Nat):(Wd l).drop n=Wd (l.drop n):=by simp[Wd,List.map_drop]
theorem Dz(l:List Nat)(i n:Nat):(Wd l).set i (n:Int)=Wd (l.set i n):=by simp[Wd,List.map_set]
theorem Of(n:Nat):bd n (0:Int)=Wd (bd n 0):=by simp[Wd]
end VL
namespace VL
open Go Vx
def Ws(l:List Nat):Prop:=(∀x∈l,x<2^64)/\l.length<=1000000
theorem aWZ(l:List Nat)(hl:l.length<=1000000)(n:Nat)(hn:n<=l.length)(ht:(Am l).length<=n):
  qI ((Wd l,((n:Int),())),())=some (.inl ((Wd l,(((Am l).length:Int),())),())):=by
 have key:=Cx aPh (fun x=>x.1.2.1.toNat)
  (fun x=>∃n:Nat,n<=l.length/\(Am l).length<=n/\x=((Wd l,((n:Int),())),()))
  (fun _=>.inl ((Wd l,(((Am l).length:Int),())),())) ?_ ((Wd l,((n:Int),())),()) ⟨n,hn,ht,rfl⟩
 ·exact key
 intro L x hx hL;obtain⟨n,hn,ht,rfl⟩:=hx;unfold YO;rcases cg n with rfl|hpos
 ·have e1:decide (((0:Nat):Int)>0)=false:=rfl;simp only[e1,bf,bo,aa,ay,ab];have:(Am l).length=0:=by omega
  rw[this]
 ·have e0:al .i64 ((n:Int)-1)=((n-1:Nat):Int):=EN n 1 (by omega) (by omega);have e1:decide ((n:Int)>0)=true:=by simp;omega
  have e2:(decide ((0:Int)<=((n-1:Nat):Int))&&decide (((n-1:Nat):Int)<((Wd l).length:Int)))=true:=by
   rw[Ay];simp;omega
  simp only[e0,e1,e2,bg,aa,bl,ao,BM,Ge];cases hz:(l.getD (n-1) 0==0)with
  |true=>
   simp only[aa];refine hL _ ⟨n-1,by omega,?_,rfl⟩ (by simp only[ao];omega);rcases bc (n-1) (Am l).length with h|h
   ·exfalso;have e:n=(Am l).length:=by omega
    have:=W3 l (by omega);rw[←e]at this;exact this (by simpa using hz)
   ·exact h
  |false=>
   simp only[ab];have:(Am l).length=n:=by
    rcases bc (n-1) (Am l).length with h|h
    ·omega
    ·exfalso;have:=aAb l (n-1) h;rw[this]at hz;simp at hz
   rw[this]
theorem ED(l:List Nat)(hl:l.length<=1000000):UL (Wd l,())=some (Wd (Am l),()):=by
 show xE qI (Wd l)=_;unfold xE;have h:=aWZ l hl l.length (ci _) (DU l).1;rw[Ay];rw[h];have e:(decide ((0:Int)<=((Am l).length:Int))&&decide (((Am l).length:Int)<=((Wd l).length:Int)))=true:=by
  rw[Ay];have:=(DU l).1;simp;omega
 show(bif(decide ((0:Int)<=((Am l).length:Int))&&decide (((Am l).length:Int)<=((Wd l).length:Int)))then some (rf (aq 0) (lb (aq ((Am l).length:Int)) (Wd l)),())else none)=_;rw[e,aa,ao,bb,jh,dJ];have:=(DU l).2;rw[←this]
def Af(n:Nat):Nat:=if n=0 then 0 else Nat.log2 n+1
theorem G2(n:Nat):n<2^Af n:=by
 unfold Af;split
 ·subst_vars;decide
 ·exact Nat.lt_log2_self
theorem Pg{n:Nat}(h:n≠0):2^(Af n-1)<=n:=by
 unfold Af;rw[ag h];exact Nat.log2_self_le h
theorem aYF{n k:Nat}(h1:2^k<=n)(h2:n<2^(k+1)):Af n=k+1:=by
 have hp:=au k;have hn:n≠0:=by omega
 have a1:=G2 n;have a2:=Pg hn;have b1:Af n-1<k+1:=(dk (by decide)).1 (bv a2 h2);have b2:k<Af n:=(dk (by decide)).1 (bv h1 a1);omega
theorem sZ{n k:Nat}(h:2^k<=n):Af n=k+Af (n/2^k):=by
 have hp:=au k;have hq:0<n/2^k:=Nat.div_pos h hp;have a1:=G2 (n/2^k);have a2:=Pg (n:=n/2^k) (by omega);have hb:0<Af (n/2^k):=by unfold Af;rw[ag (by omega)];omega
 have h1:2^(k+(Af (n/2^k)-1))<=n:=by
  rw[ca];calc 2^k*2^(Af (n/2^k)-1)<=2^k*(n/2^k):=cq _ a2
   _<=n:=Nat.mul_div_le n _
 have h2:n<2^(k+(Af (n/2^k)-1)+1):=by
  rw[show k+(Af (n/2^k)-1)+1=k+Af (n/2^k) by omega,ca,bt];exact(cj hp).1 a1
 have:=aYF h1 h2;omega
theorem aOT:∀i:Nat,i<256->(JO.getD i 0).toNat=Af i:=by
 have h:((ja 256).all fun i=>decide ((JO.getD i 0).toNat=Af i))=true:=by decide +kernel
 intro i hi;have:=ku.1 h i (lq.2 hi);simpa using this
theorem aG6(n:Nat)(hn:n<2^64):nU ((n:Int),())=some ((Af n:Int),()):=by
 have hs:∀m k:Nat,k<=64->AR .u64 (m:Int) (k:Int)=((m/2^k:Nat):Int):=fun m k hk=>DT m k hk;have WZ:∀m:Nat,AR .u64 (m:Int) 32=((m/2^32:Nat):Int):=fun m=>hs m 32 (by decide);have s16:∀m:Nat,AR .u64 (m:Int) 16=((m/2^16:Nat):Int):=fun m=>hs m 16 (by decide);have s8:∀m:Nat,AR .u64 (m:Int) 8=((m/2^8:Nat):Int):=fun m=>hs m 8 (by decide);have ge:∀m k:Nat,decide ((m:Int)>=(k:Int))=decide (k<=m):=fun m k=>by rw[gj];simp
 have g32:∀m:Nat,decide ((m:Int)>=4294967296)=decide (2^32<=m):=fun m=>ge m (2^32);have g16:∀m:Nat,decide ((m:Int)>=65536)=decide (2^16<=m):=fun m=>ge m (2^16);have g8:∀m:Nat,decide ((m:Int)>=256)=decide (2^8<=m):=fun m=>ge m (2^8);have tab:∀m:Nat,m<256->al .u8 (m:Int)=(m:Int):=fun m hm=>IntWalk.u8_in _ (by omega);have look:∀(m:Nat) (c:Int) (d:Nat),m<256->c=(d:Int)->d<=56->(bif(decide ((0:Int)<=al .u8 (m:Int))&&decide (al .u8 (m:Int)<(256:Int)))then(some (al .i64 (c+al .i64 ((UInt8.toNat (JO.getD (aq (al .u8 (m:Int))) 0):Nat):Int)),()):Option (DenS FO))else none)=some (((d+Af m:Nat):Int),()):=fun m c d hm hc hd=>by
  have e:(decide ((0:Int)<=(m:Int))&&decide ((m:Int)<(256:Int)))=true:=by simp;omega
  have hb:Af m<=8:=by
   have:=aOT m hm;rcases cg m with rfl|hpos
   ·decide
   ·have:=Pg (n:=m) (by omega);have h8:Af m-1<8:=(dk (a:=2) (by decide)).1 (bv this hm);omega
  rw[tab m hm,e,aa,ao,aOT m hm,hc,Au (n:=((Af m:Nat):Int)) (by omega),Au (by omega)];rfl
 show xI n=_;unfold xI;have CR:∀(k:Nat),2^k<=n->k+Af (n/2^k)=Af n:=fun k h=>(sZ h).symm;have dd:∀a b:Nat,n/2^a/2^b=n/2^(a+b):=fun a b=>by rw[fd,←ca]
 have up:∀a b:Nat,2^b<=n/2^a->2^(a+b)<=n:=fun a b h=>by
  rw[ca,bt];exact(Nat.le_div_iff_mul_le (au a)).1 h
 have down:∀a b:Nat,n/2^a<2^b->n<2^(a+b):=fun a b h=>by
  rw[ca,bt];exact(cj (au a)).1 h
 have small:∀a:Nat,n<2^(a+8)->n/2^a<256:=fun a h=>by
  rw[cj (au a),bt];rw[ca]at h;exact h
 simp only[WZ,s16,s8,g32,g16,g8];by_cases h1:2^32<=n
 ·rw[ae h1,aa];by_cases h2:2^16<=n/2^32
  ·rw[ae h2,aa];by_cases h3:2^8<=n/2^32/2^16
   ·rw[ae h3,aa];rw[dd 32 16]at h3;have hm:n/2^32/2^16/2^8=n/2^56:=by rw[dd 32 16,dd 48 8]
    refine(look (n/2^32/2^16/2^8) _ 56 (by rw[hm];exact small 56 hn) rfl (by decide)).trans ?_;rw[hm,CR 56 (up 48 8 h3)]
   ·rw[af h3,ab];rw[dd 32 16]at h3;refine(look (n/2^32/2^16) _ 48 (by rw[dd 32 16];exact small 48 (down 48 8 (by omega))) rfl (by decide)).trans ?_;rw[dd 32 16,CR 48 (up 32 16 h2)]
  ·rw[af h2,ab];by_cases h3:2^8<=n/2^32
   ·rw[ae h3,aa];refine(look (n/2^32/2^8) _ 40 (by rw[dd 32 8];exact small 40 (down 32 16 (by omega))) rfl (by decide)).trans ?_;rw[dd 32 8,CR 40 (up 32 8 h3)]
   ·rw[af h3,ab];refine(look (n/2^32) _ 32 (small 32 (down 32 8 (by omega))) rfl (by decide)).trans ?_;rw[CR 32 h1]
 ·rw[af h1,ab];by_cases h2:2^16<=n
  ·rw[ae h2,aa];by_cases h3:2^8<=n/2^16
   ·rw[ae h3,aa];refine(look (n/2^16/2^8) _ 24 (by rw[dd 16 8];exact small 24 (by omega)) rfl (by decide)).trans ?_;rw[dd 16 8,CR 24 (up 16 8 h3)]
   ·rw[af h3,ab];refine(look (n/2^16) _ 16 (small 16 (down 16 8 (by omega))) rfl (by decide)).trans ?_;rw[CR 16 h2]
  ·rw[af h2,ab];by_cases h3:2^8<=n
   ·rw[ae h3,aa];refine(look (n/2^8) _ 8 (small 8 (by omega)) rfl (by decide)).trans ?_;rw[CR 8 h3]
   ·rw[af h3,ab];refine(look n 0 0 (by omega) rfl (by decide)).trans ?_;rw[dj]
end VL
namespace VL
open Go Vx
theorem Vd(B:Nat):∀(l m:List Nat),nv B (l++m)=nv B l+B^l.length*nv B m
 | [],m=>by simp[nv]
 |x::r,m=>by
  simp only[List.cons_append,nv,cy]
  rw[Vd B r m,fm,ck,io]
  congr 2
  rw[bt (B^r.length) B,bu]
theorem C0{B:Nat}(hB:2<=B):∀(l:List Nat),(∀x∈l,x<B)->nv B l<B^l.length
 | [],_=>by simp[nv]
 |x::r,h=>by
  have ih:=C0 hB r fun y hy=>h y (by simp[hy])
  have hx:=h x (by simp)
  simp only[nv,cy,fm]
  have:B*nv B r<=B*(B^r.length-1):=cq _ (by omega)
  have hp:0<B^r.length:=iq (by omega)
  rw[Nat.mul_sub]at this
  have h1:B*1<=B*B^r.length:=cq _ hp
  rw[bt (B^r.length) B]
  omega
theorem LS(B:Nat)(l:List Nat)(i:Nat)(h:i<=l.length):nv B l=nv B (l.take i)+B^i*nv B (l.drop i):=by
 conv=>lhs;rw[←List.take_append_drop i l]
 rw[Vd];simp[h]
theorem LU{B:Nat}(hB:2<=B){l:List Nat}(h:∀x∈l,x<B):nv B (Am l)=nv B l:=by
 rw[Gh hB l h,iM hB]
theorem W4{l:List Nat}{x:Nat}(h:x∈Am l):x∈l:=by
 rw[(DU l).2]at h;exact gc h
theorem aST{l:List Nat}{i:Nat}(h:i<(Am l).length):(Am l)[i]? = l[i]?:=by
 have:(Am l)[i]? = (l.take (Am l).length)[i]?:=congrArg (fun t:List Nat=>t[i]?) (DU l).2;rw[this,List.getElem?_take_of_lt h]
theorem aCP{a b k:Nat}(ha:a<2^k)(hb:0<b):Af (a+2^k*b)=k+Af b:=by
 have hp:=au k;have h1:2^k*1<=2^k*b:=cq _ hb;rw[sZ (n:=a+2^k*b) (k:=k) (by omega),fj _ _ hp,dc ha,dj]
theorem DS(i:Nat):(2^64)^i=2^(64*i):=by rw[←gn]
theorem aMl{l:List Nat}(h:∀x∈l,x<2^64)(hl:0<(Am l).length):Af (nv (2^64) l)=64*((Am l).length-1)+Af (l.getD ((Am l).length-1) 0):=by
 have hlast:=W3 l hl;have hle:=(DU l).1;rw[←LU (by decide) h];have hm:∀x∈Am l,x<2^64:=fun x hx=>h x (W4 hx);rw[LS _ (Am l) ((Am l).length-1) (by omega),DS];have hd:(Am l).drop ((Am l).length-1)=[l.getD ((Am l).length-1) 0]:=by
  have hlt:(Am l).length-1<(Am l).length:=by omega
  rw[dr hlt];have e1:(Am l).length-1+1=(Am l).length:=by omega
  rw[e1,List.drop_length];congr 1;have:(Am l)[(Am l).length-1]? = l[(Am l).length-1]?:=aST hlt;rw[bw hlt]at this;rw[aw,←this];rfl
 rw[hd];have hlow:=C0 (B:=2^64) (by decide) ((Am l).take ((Am l).length-1)) fun x hx=>hm x (gc hx);rw[gz,ij (by omega),DS]at hlow;have:nv (2^64) [l.getD ((Am l).length-1) 0]=l.getD ((Am l).length-1) 0:=by simp[nv]
 rw[this];exact aCP hlow (by omega)
theorem aSU{l:List Nat}(h:∀x∈l,x<2^64)(h0:(Am l).length=0):nv (2^64) l=0:=by
 have:Am l=[]:=List.eq_nil_of_length_eq_zero h0;rw[←LU (by decide) h,this];rfl
theorem B0{l:List Nat}{B:Nat}(hB:0<B)(h:∀x∈l,x<B)(i:Nat):l.getD i 0<B:=by
 rw[aw];cases e:l[i]? with
 |none=>exact hB
 |some x=>exact h x (List.mem_of_getElem? e)
theorem aV3(l:List Nat)(hl:Ws l):bY (Wd l,())=some ((Af (nv (2^64) l):Int),()):=by
 obtain⟨h,hlen⟩:=hl;show w0 Ak.pre Ak.F CL.pre CL.F (Wd l)=_;unfold w0;have p0:=ED l hlen;have hle:=(DU l).1;simp only[Fe p0,aa,Ay];rcases cg (Am l).length with h0|h0
 ·rw[h0,aSU h h0];rfl
 ·have e0:(((Am l).length:Int)==0)=false:=by rw[Ge];exact beq_false_of_ne (by omega)
  have e1:al .i64 (((Am l).length:Int)-1)=(((Am l).length-1:Nat):Int):=EN (Am l).length 1 (by omega) (by omega);have e2:(decide ((0:Int)<=(((Am l).length-1:Nat):Int))&&decide ((((Am l).length-1:Nat):Int)<((Am l).length:Int)))=true:=by simp only[ar,ai];omega
  have e3:(Wd (Am l)).getD ((Am l).length-1) 0=((l.getD ((Am l).length-1) 0:Nat):Int):=by
   rw[BM];congr 1;rw[aw,aw];rw[aST (by omega)]
  have hd:=B0 (by decide) h ((Am l).length-1);have p1:=aG6 _ hd;have hb:Af (l.getD ((Am l).length-1) 0)<=64:=by
   rcases cg (l.getD ((Am l).length-1) 0)with z|z
   ·rw[z];decide
   ·have:=Pg (n:=l.getD ((Am l).length-1) 0) (by omega);have:Af (l.getD ((Am l).length-1) 0)-1<64:=(dk (a:=2) (by decide)).1 (bv this hd);omega
  rw[e0,e1,e2,ab,aa,ao,e3];simp only[aMD p1,aa];rw[aMl h h0,Au (n:=64*(((Am l).length-1:Nat):Int)) (by omega),Au (by omega)];congr 2
end VL
namespace VL
open Go Vx
theorem aAi(x:Nat):al .u64 (x:Int)=((x%2^64:Nat):Int):=by
 simp[al,ji,jr];try omega
theorem H7(x n:Nat)(hn:n<=64):Bk .u64 (x:Int) (n:Int)=((x*2^n%2^64:Nat):Int):=by
 have hm:(min (n:Int).toNat IntKind.u64.bits)=n:=by simp[ji];omega
 unfold Bk;rw[hm];have e:(x:Int)*2^n=((x*2^n:Nat):Int):=by simp
 rw[e];exact aAi _
theorem PO{a b k:Nat}(ha:a<2^k)(h:a+b*2^k<2^64):Ao .u64 (a:Int) ((b*2^k:Nat):Int)=((a+b*2^k:Nat):Int):=by
 have key:(dh 64 (a:Int) ||| dh 64 ((b*2^k:Nat):Int)).toNat=a+b*2^k:=by
  rw[qy,LV (by omega),LV (by omega),bt b,rk,←Nat.two_pow_add_eq_or_of_lt ha];omega
 show IntKind.u64.wrap (((dh 64 (a:Int) ||| dh 64 ((b*2^k:Nat):Int)).toNat:Nat):Int)=_;rw[key];exact DV (by omega)
def BP(s:Nat):List Nat->List Nat
 | []=>[]
 |x::r=>(x/2^s+(r.getD 0 0%2^s)*2^(64-s))::BP s r
theorem PS(s:Nat):∀l,(BP s l).length=l.length
 | []=>rfl
 |_::r=>by simp[BP,PS s r]
theorem i3(s:Nat):∀(l:List Nat) (i:Nat),i<l.length->(BP s l)[i]? = some (l.getD i 0/2^s+(l.getD (i+1) 0%2^s)*2^(64-s))
 | [],i,h=>by simp at h
 |x::r,0,_=>by simp[BP]
 |x::r,i+1,h=>by
  simp only[BP,List.getElem?_cons_succ]
  rw[i3 s r i (by simpa using h)]
  simp
theorem ZV{s:Nat}(hs:s<=64):2^64=2^s*2^(64-s):=by rw[←ca];congr 1;omega
theorem vW{s:Nat}(hs:s<=64){x y:Nat}(hx:x<2^64):x/2^s<2^(64-s)/\x/2^s+(y%2^s)*2^(64-s)<2^64:=by
 have hp:=au s;have h1:x/2^s<2^(64-s):=by
  rw[cj hp,bt,←ZV hs];exact hx
 refine⟨h1,?_⟩;have h2:y%2^s+1<=2^s:=cn _ hp;have h3:=bh (2^(64-s)) h2;rw[←ZV hs,cu,go]at h3;omega
theorem bBU{B:Nat}{s:Nat}(hB:B%2^s=0):∀l:List Nat,nv B l%2^s=l.getD 0 0%2^s
 | []=>by simp[nv]
 |x::r=>by
  simp only[nv,pn]
  obtain⟨c,hc⟩:=Nat.dvd_of_mod_eq_zero hB
  rw[hc,bu,gm]
theorem aEs{s:Nat}(hs:s<=64):∀l:List Nat,nv (2^64) (BP s l)=nv (2^64) l/2^s
 | []=>by simp[BP,nv]
 |x::r=>by
  have ih:=aEs hs r
  simp only[BP,nv]
  rw[ih]
  have hp:=au s
  have hm:=bBU (B:=2^64) (s:=s) (by rw[ZV hs];exact mj _ _) r
  rw[←hm]
  have hN:nv (2^64) r=2^s*(nv (2^64) r/2^s)+nv (2^64) r%2^s:=(df _ _).symm
  generalize nv (2^64) r/2^s=q at *
  generalize nv (2^64) r%2^s=t at *
  rw[hN]
  have e:x+2^64*(2^s*q+t)=x+2^s*(2^64*q+2^(64-s)*t):=by
   rw[ck,ck]
   have e1:2^64*(2^s*q)=2^s*(2^64*q):=by rw[←bu,←bu,bt (2^64) (2^s)]
   have e2:2^64*t=2^s*(2^(64-s)*t):=by rw[←bu,←ZV hs]
   rw[e1,e2]
  rw[e,fj _ _ hp,bt t]
  omega
end VL
namespace VL
open Go Vx
theorem aQY{O:List Nat}{i v:Nat}(hi:i<O.length)(hv:O[i]? = some v):(O.take i++bd (O.length-i) 0).set i v=O.take (i+1)++bd (O.length-(i+1)) 0:=by
 have e:O.length-i=(O.length-(i+1))+1:=by omega
 have hl:(O.take i).length=i:=by simp;omega
 rw[e,jw,gh _ _ (by omega),hl,gu,kf];rw[nr,hv];simp
theorem aDS{l:List Nat}{i v:Nat}(hi:i<l.length):(l.set i v).getD i 0=v:=by
 rw[aw,List.getElem?_set_self hi];rfl
theorem tY(l:List Nat)(w i:Nat):(l.drop w).getD i 0=l.getD (w+i) 0:=by
 rw[aw,aw,List.getElem?_drop]
theorem aEH(n:Nat)(hn:n<=1000000000):Bl .i64 (n:Int) 64=((n/64:Nat):Int):=by
 unfold Bl;have e:(n:Int).tdiv 64=((n/64:Nat):Int):=rfl;rw[e,Au (by omega)]
theorem aWL(l:List Nat)(hl:l.length<=1000000)(n:Nat)(hn:n<=l.length)(ht:(Am l).length<=n):
  pW (((),((n:Int),())),(Wd l,()))=some (.inl (((),(((Am l).length:Int),())),(Wd l,()))):=by
 have key:=Cx aO3 (fun x=>x.1.2.1.toNat)
  (fun x=>∃n:Nat,n<=l.length/\(Am l).length<=n/\x=(((),((n:Int),())),(Wd l,())))
  (fun _=>.inl (((),(((Am l).length:Int),())),(Wd l,()))) ?_ (((),((n:Int),())),(Wd l,())) ⟨n,hn,ht,rfl⟩
 ·exact key
 intro L x hx hL;obtain⟨n,hn,ht,rfl⟩:=hx;unfold YA;rcases cg n with rfl|hpos
 ·have e1:decide (((0:Nat):Int)>0)=false:=rfl;simp only[e1,bf,bo,aa,ay,ab];have:(Am l).length=0:=by omega
  rw[this]
 ·have e0:al .i64 ((n:Int)-1)=((n-1:Nat):Int):=EN n 1 (by omega) (by omega);have e1:decide ((n:Int)>0)=true:=by simp;omega
  have e2:(decide ((0:Int)<=((n-1:Nat):Int))&&decide (((n-1:Nat):Int)<((Wd l).length:Int)))=true:=by
   rw[Ay];simp;omega
  simp only[e0,e1,e2,bg,aa,bl,ao,BM,Ge];cases hz:(l.getD (n-1) 0==0)with
  |true=>
   simp only[aa];refine hL _ ⟨n-1,by omega,?_,rfl⟩ (by simp only[ao];omega);rcases bc (n-1) (Am l).length with h|h
   ·exfalso;have e:n=(Am l).length:=by omega
    have:=W3 l (by omega);rw[←e]at this;exact this (by simpa using hz)
   ·exact h
  |false=>
   simp only[ab];have:(Am l).length=n:=by
    rcases bc (n-1) (Am l).length with h|h
    ·omega
    ·exfalso;have:=aAb l (n-1) h;rw[this]at hz;simp at hz
   rw[this]
theorem aGP(l:List Nat)(hl:l.length<=1000000):Xz (Wd l,())=some (Wd (Am l),()):=by
 show wC pW (Wd l)=_;unfold wC;have h:=aWL l hl l.length (ci _) (DU l).1;rw[Ay];rw[h];have e:(decide ((0:Int)<=((Am l).length:Int))&&decide (((Am l).length:Int)<=((Wd l).length:Int)))=true:=by
  rw[Ay];have:=(DU l).1;simp;omega
 show(bif(decide ((0:Int)<=((Am l).length:Int))&&decide (((Am l).length:Int)<=((Wd l).length:Int)))then some (lb (aq ((Am l).length:Int)) (Wd l),())else none)=_;rw[e,aa,ao,dJ];have:=(DU l).2;rw[←this]
theorem aWY(a:List Nat)(ha:∀x∈a,x<2^64)(hlen:a.length<=1000000)(w s:Nat)(hs:s<64)(hw:w<=a.length)(i:Nat)(hi:i<=(a.drop w).length):
  qH ((((a.drop w).length:Int),(Wd a,((w:Int),((s:Int),((i:Int),((),())))))),(Wd ((BP s (a.drop w)).take i++bd ((BP s (a.drop w)).length-i) 0),()))=some (.inl (((),()),(Wd (BP s (a.drop w)),()))):=by
 have key:=Cx (aPg Ak.pre Ak.F) (fun x=>(a.drop w).length-x.1.2.2.2.2.1.toNat)
  (fun x=>∃i:Nat,i<=(a.drop w).length/\x=((((a.drop w).length:Int),(Wd a,((w:Int),((s:Int),((i:Int),((),())))))),(Wd ((BP s (a.drop w)).take i++bd ((BP s (a.drop w)).length-i) 0),())))
  (fun _=>.inl (((),()),(Wd (BP s (a.drop w)),()))) ?_ _ ⟨i,hi,rfl⟩
 ·exact key
 intro L x hx hL;obtain⟨i,hi,rfl⟩:=hx;unfold YN;have hdl:(a.drop w).length=a.length-w:=by simp
 have hol:=PS s (a.drop w);rcases bc i (a.drop w).length with hlt|hge
 ·have e1:decide ((i:Int)<((a.drop w).length:Int))=true:=by simp;omega
  have e2:al .i64 ((w:Int)+(i:Int))=((w+i:Nat):Int):=by rw[Au (by omega)];omega
  have e3:(decide ((0:Int)<=((w+i:Nat):Int))&&decide (((w+i:Nat):Int)<((Wd a).length:Int)))=true:=by
   rw[Ay];simp only[ar,ai];omega
  have e4:decide ((0:Int)<=(s:Int))=true:=by simp
  have houtl:((BP s (a.drop w)).take i++bd ((BP s (a.drop w)).length-i) 0).length=(a.drop w).length:=by simp;omega
  generalize hout:(BP s (a.drop w)).take i++bd ((BP s (a.drop w)).length-i) 0=out at houtl⊢;have e5:(decide ((0:Int)<=(i:Int))&&decide ((i:Int)<((Wd out).length:Int)))=true:=by
   rw[Ay];simp only[ar,ai];omega
  have e6:al .i64 (((w+i:Nat):Int)+1)=((w+i+1:Nat):Int):=by rw[Au (by omega)];omega
  have e7:al .i64 ((i:Int)+1)=((i+1:Nat):Int):=by rw[Au (by omega)];omega
  have e8:al .i64 (64-(s:Int))=((64-s:Nat):Int):=EN 64 s (by omega) (by omega);have hx:=B0 (by decide) ha (w+i);have hget:=i3 s (a.drop w) i hlt;rw[tY,tY,←io]at hget;have hnext:=fun v (hv:(BP s (a.drop w))[i]? = some v)=>aQY (by omega) hv;rw[hout]at hnext;have e9:∀v:Nat,(decide ((0:Int)<=(i:Int))&&decide ((i:Int)<((Wd (out.set i v)).length:Int)))=true:=fun v=>by
   rw[Ay,jj];simp only[ar,ai];omega
  simp only[e1,e2,e3,e4,e5,e6,e7,e8,aa,ao,BM,DT _ s (by omega),Dz,e9];rcases bc (w+i+1) a.length with h1|h1
  ·have f1:decide (((w+i+1:Nat):Int)<((Wd a).length:Int))=true:=by rw[Ay];exact ae (by omega)
   have f2:decide ((0:Int)<=((w+i+1:Nat):Int))=true:=ae (by omega);have f3:decide ((0:Int)<=((64-s:Nat):Int))=true:=ae (by omega);simp only[f1,f2,f3,ba,aa];have hw2:=vW (s:=s) (y:=a.getD (w+i+1) 0) (by omega) hx;have g1:a.getD (w+i+1) 0*2^(64-s)%2^64=(a.getD (w+i+1) 0%2^s)*2^(64-s):=by
    rw[ZV (s:=s) (by omega),gk]
   rw[aDS (by omega),H7 _ _ (by omega),g1,PO hw2.1 hw2.2,Dz,ot,hnext _ hget];exact hL _ ⟨i+1,by omega,rfl⟩ (by simp only[ao];omega)
  ·have f1:decide (((w+i+1:Nat):Int)<((Wd a).length:Int))=false:=by rw[Ay];exact af (by omega)
   have hz:a.getD (w+i+1) 0=0:=by rw[aw,dz h1];rfl
   rw[hz,mn,fq,dp]at hget;simp only[f1,ab];rw[hnext _ hget];exact hL _ ⟨i+1,by omega,rfl⟩ (by simp only[ao];omega)
 ·have hie:i=(a.drop w).length:=by omega
  subst hie;have e1:decide (((a.drop w).length:Int)<((a.drop w).length:Int))=false:=by simp
  simp only[e1,ab];have:(BP s (a.drop w)).take (a.drop w).length++bd ((BP s (a.drop w)).length-(a.drop w).length) 0=BP s (a.drop w):=by
   rw[←hol,dw,gu,jg,du]
  rw[this]
theorem aG2(l:List Nat)(hl:Ws l)(n:Nat)(hn:n<=100000000):cA (Wd l,(n:Int),())=some (Wd (dg (2^64) (nv (2^64) l/2^n)),()):=by
 obtain⟨h,hlen⟩:=hl;show xD Ak.pre Ak.F qH (Wd l) n=_;unfold xD;have p0:=ED l hlen;have hB:2<=2^64:=by decide
 have hle:=(DU l).1;have hm:∀x∈Am l,x<2^64:=fun x hx=>h x (W4 hx);have hv:=LU hB h;have hsplit:2^n=(2^64)^(n/64)*2^(n%64):=by rw[DS,←ca];congr 1;omega
 simp only[Fe p0,aa,Ay,aEH n (by omega)];rcases bc (n/64) (Am l).length with h1|h1
 ·have e1:decide (((n/64:Nat):Int)>=((Am l).length:Int))=false:=by simp;omega
  have e2:al .i64 (((Am l).length:Int)-((n/64:Nat):Int))=(((Am l).drop (n/64)).length:Int):=by
   rw[EN _ _ (by omega) (by omega)];simp
  have hdl:((Am l).drop (n/64)).length<=1000000:=by simp;omega
  have e3:(decide ((0:Int)<=(((Am l).drop (n/64)).length:Int))&&decide ((((Am l).drop (n/64)).length:Int)*8<=140737488355328))=true:=by
   simp only[ar,ai];omega
  have e4:ii (n:Int) 64=((n%64:Nat):Int):=rfl;have hw:=aWY (Am l) hm (by omega) (n/64) (n%64) (cn _ (by decide)) (by omega) 0 (dv _);rw[ml,ld,nm,PS]at hw;rw[e1,e2,e3,ab,aa,ao,e4,Of,Ay,gr];rw[show((0:Nat):Int)=0 from rfl]at hw;rw[hw];have hos:∀x∈BP (n%64) ((Am l).drop (n/64)),x<2^64:=fun x hx=>by
   obtain⟨i,hi⟩:=mw hx;have hil:i<((Am l).drop (n/64)).length:=by rw[←PS (n%64)];exact(bp.1 hi).1
   rw[i3 _ _ i hil]at hi;cases hi;exact(vW (s:=n%64) (by omega) (B0 (by decide) (fun y hy=>hm y (ln hy)) i)).2
  have p1:=ED (BP (n%64) ((Am l).drop (n/64))) (by rw[PS];exact hdl);show(bif Ak.pre (Wd (BP (n%64) ((Am l).drop (n/64))),())then some (Ak.F (Wd (BP (n%64) ((Am l).drop (n/64))),()))else none)=_;rw[ZW p1,Yv p1,aa,Gh hB _ hos,aEs (by omega)];have hd:nv (2^64) ((Am l).drop (n/64))=nv (2^64) l/(2^64)^(n/64):=by
   rw[←hv,LS _ (Am l) (n/64) (by omega)];have hlow:=C0 hB ((Am l).take (n/64)) fun x hx=>hm x (gc hx);rw[gz,ij (by omega)]at hlow;rw[fj _ _ (iq (by decide)),dc hlow,dj]
  rw[hd,fd,←hsplit];rfl
 ·have e1:decide (((n/64:Nat):Int)>=((Am l).length:Int))=true:=by simp;omega
  rw[e1,aa];have hz:nv (2^64) l/2^n=0:=by
   rw[←hv];have:=C0 hB (Am l) hm;apply dc;refine az this ?_;rw[DS];exact ax (by decide) (by omega)
  rw[hz,D5];rfl
theorem aWK(a:List Nat)(ha:∀x∈a,x<2^64)(hlen:a.length<=1000000)(w s:Nat)(hs:s<64)(hw:w<=a.length)(i:Nat)(hi:i<=(a.drop w).length):
  pV ((((a.drop w).length:Int),(Wd a,((w:Int),((s:Int),((i:Int),((),())))))),(Wd ((BP s (a.drop w)).take i++bd ((BP s (a.drop w)).length-i) 0),()))=some (.inl (((),()),(Wd (BP s (a.drop w)),()))):=by
 have key:=Cx (aO2 B8.pre B8.F Ak.pre Ak.F) (fun x=>(a.drop w).length-x.1.2.2.2.2.1.toNat)
  (fun x=>∃i:Nat,i<=(a.drop w).length/\x=((((a.drop w).length:Int),(Wd a,((w:Int),((s:Int),((i:Int),((),())))))),(Wd ((BP s (a.drop w)).take i++bd ((BP s (a.drop w)).length-i) 0),())))
  (fun _=>.inl (((),()),(Wd (BP s (a.drop w)),()))) ?_ _ ⟨i,hi,rfl⟩
 ·exact key
 intro L x hx hL;obtain⟨i,hi,rfl⟩:=hx;unfold Yz;have hdl:(a.drop w).length=a.length-w:=by simp
 have hol:=PS s (a.drop w);rcases bc i (a.drop w).length with hlt|hge
 ·have e1:decide ((i:Int)<((a.drop w).length:Int))=true:=by simp;omega
  have e2:al .i64 ((w:Int)+(i:Int))=((w+i:Nat):Int):=by rw[Au (by omega)];omega
  have e3:(decide ((0:Int)<=((w+i:Nat):Int))&&decide (((w+i:Nat):Int)<((Wd a).length:Int)))=true:=by
   rw[Ay];simp only[ar,ai];omega
  have e4:decide ((0:Int)<=(s:Int))=true:=by simp
  have houtl:((BP s (a.drop w)).take i++bd ((BP s (a.drop w)).length-i) 0).length=(a.drop w).length:=by simp;omega
  generalize hout:(BP s (a.drop w)).take i++bd ((BP s (a.drop w)).length-i) 0=out at houtl⊢;have e5:(decide ((0:Int)<=(i:Int))&&decide ((i:Int)<((Wd out).length:Int)))=true:=by
   rw[Ay];simp only[ar,ai];omega
  have e6:al .i64 (((w+i:Nat):Int)+1)=((w+i+1:Nat):Int):=by rw[Au (by omega)];omega
  have e7:al .i64 ((i:Int)+1)=((i+1:Nat):Int):=by rw[Au (by omega)];omega
  have e8:al .i64 (64-(s:Int))=((64-s:Nat):Int):=EN 64 s (by omega) (by omega);have hx:=B0 (by decide) ha (w+i);have hget:=i3 s (a.drop w) i hlt;rw[tY,tY,←io]at hget;have hnext:=fun v (hv:(BP s (a.drop w))[i]? = some v)=>aQY (by omega) hv;rw[hout]at hnext;have e9:∀v:Nat,(decide ((0:Int)<=(i:Int))&&decide ((i:Int)<((Wd (out.set i v)).length:Int)))=true:=fun v=>by
   rw[Ay,jj];simp only[ar,ai];omega
  simp only[e1,e2,e3,e4,e5,e6,e7,e8,aa,ao,BM,DT _ s (by omega),Dz,e9];rcases bc (w+i+1) a.length with h1|h1
  ·have f1:decide (((w+i+1:Nat):Int)<((Wd a).length:Int))=true:=by rw[Ay];exact ae (by omega)
   have f2:decide ((0:Int)<=((w+i+1:Nat):Int))=true:=ae (by omega);have f3:decide ((0:Int)<=((64-s:Nat):Int))=true:=ae (by omega);simp only[f1,f2,f3,ba,aa];have hw2:=vW (s:=s) (y:=a.getD (w+i+1) 0) (by omega) hx;have g1:a.getD (w+i+1) 0*2^(64-s)%2^64=(a.getD (w+i+1) 0%2^s)*2^(64-s):=by
    rw[ZV (s:=s) (by omega),gk]
   rw[aDS (by omega),H7 _ _ (by omega),g1,PO hw2.1 hw2.2,Dz,ot,hnext _ hget];exact hL _ ⟨i+1,by omega,rfl⟩ (by simp only[ao];omega)
  ·have f1:decide (((w+i+1:Nat):Int)<((Wd a).length:Int))=false:=by rw[Ay];exact af (by omega)
   have hz:a.getD (w+i+1) 0=0:=by rw[aw,dz h1];rfl
   rw[hz,mn,fq,dp]at hget;simp only[f1,ab];rw[hnext _ hget];exact hL _ ⟨i+1,by omega,rfl⟩ (by simp only[ao];omega)
 ·have hie:i=(a.drop w).length:=by omega
  subst hie;have e1:decide (((a.drop w).length:Int)<((a.drop w).length:Int))=false:=by simp
  simp only[e1,ab];have:(BP s (a.drop w)).take (a.drop w).length++bd ((BP s (a.drop w)).length-(a.drop w).length) 0=BP s (a.drop w):=by
   rw[←hol,dw,gu,jg,du]
  rw[this]
theorem aVN(l:List Nat)(hl:Ws l)(n:Nat)(hn:n<=100000000):m9 (Wd l,(n:Int),())=some (Wd (dg (2^64) (nv (2^64) l/2^n)),()):=by
 obtain⟨h,hlen⟩:=hl;show v9 B8.pre B8.F Ak.pre Ak.F pV (Wd l) n=_;unfold v9;have p0:=ED l hlen;have hB:2<=2^64:=by decide
 have hle:=(DU l).1;have hm:∀x∈Am l,x<2^64:=fun x hx=>h x (W4 hx);have hv:=LU hB h;have hsplit:2^n=(2^64)^(n/64)*2^(n%64):=by rw[DS,←ca];congr 1;omega
 simp only[Fe p0,aa,Ay,aEH n (by omega)];rcases bc (n/64) (Am l).length with h1|h1
 ·have e1:decide (((n/64:Nat):Int)>=((Am l).length:Int))=false:=by simp;omega
  have e2:al .i64 (((Am l).length:Int)-((n/64:Nat):Int))=(((Am l).drop (n/64)).length:Int):=by
   rw[EN _ _ (by omega) (by omega)];simp
  have hdl:((Am l).drop (n/64)).length<=1000000:=by simp;omega
  have e3:(decide ((0:Int)<=(((Am l).drop (n/64)).length:Int))&&decide ((((Am l).drop (n/64)).length:Int)*8<=140737488355328))=true:=by
   simp only[ar,ai];omega
  have e4:ii (n:Int) 64=((n%64:Nat):Int):=rfl;have hw:=aWK (Am l) hm (by omega) (n/64) (n%64) (cn _ (by decide)) (by omega) 0 (dv _);rw[ml,ld,nm,PS]at hw;rw[e1,e2,e3,ab,aa,ao,e4,Of,Ay,gr];rw[show((0:Nat):Int)=0 from rfl]at hw;rw[hw];have hos:∀x∈BP (n%64) ((Am l).drop (n/64)),x<2^64:=fun x hx=>by
   obtain⟨i,hi⟩:=mw hx;have hil:i<((Am l).drop (n/64)).length:=by rw[←PS (n%64)];exact(bp.1 hi).1
   rw[i3 _ _ i hil]at hi;cases hi;exact(vW (s:=n%64) (by omega) (B0 (by decide) (fun y hy=>hm y (ln hy)) i)).2
  have p1:=aGP (BP (n%64) ((Am l).drop (n/64))) (by rw[PS];exact hdl);show(bif B8.pre (Wd (BP (n%64) ((Am l).drop (n/64))),())then some (B8.F (Wd (BP (n%64) ((Am l).drop (n/64))),()))else none)=_;rw[bCQ p1,bAA p1,aa,Gh hB _ hos,aEs (by omega)];have hd:nv (2^64) ((Am l).drop (n/64))=nv (2^64) l/(2^64)^(n/64):=by
   rw[←hv,LS _ (Am l) (n/64) (by omega)];have hlow:=C0 hB ((Am l).take (n/64)) fun x hx=>hm x (gc hx);rw[gz,ij (by omega)]at hlow;rw[fj _ _ (iq (by decide)),dc hlow,dj]
  rw[hd,fd,←hsplit];rfl
 ·have e1:decide (((n/64:Nat):Int)>=((Am l).length:Int))=true:=by simp;omega
  rw[e1,aa];have hz:nv (2^64) l/2^n=0:=by
   rw[←hv];have:=C0 hB (Am l) hm;apply dc;refine az this ?_;rw[DS];exact ax (by decide) (by omega)
  rw[hz,D5];rfl
end VL
namespace VL
open Go Vx
theorem Be(a b:Nat)(h:a+b<2^62):al .i64 ((a:Int)+(b:Int))=((a+b:Nat):Int):=by rw[Au (by omega)];omega
theorem A2(a:Nat)(h:a<2^62):al .i64 ((a:Int)+1)=((a+1:Nat):Int):=by rw[Au (by omega)];omega
theorem Bf(a:Nat)(h:a<2^56):al .i64 (64*(a:Int))=((64*a:Nat):Int):=by rw[Au (by omega)];omega
theorem Bg(a:Nat)(h:a<2^56):al .i64 ((a:Int)*64)=((64*a:Nat):Int):=by rw[Au (by omega)];omega
theorem AW(m n:Nat)(h:n<=m/\m<2^62):al .i64 ((m:Int)-(n:Int))=((m-n:Nat):Int):=by rw[Au (by omega)];omega
theorem AN(m:Nat)(h:1<=m/\m<2^62):al .i64 ((m:Int)-1)=((m-1:Nat):Int):=by rw[Au (by omega)];omega
theorem A1(a b:Nat)(h:a<b):decide ((a:Int)<(b:Int))=true:=ae (by omega)
theorem AZ(a b:Nat)(h:b<=a):decide ((a:Int)<(b:Int))=false:=af (by omega)
theorem A9(a b:Nat)(h:a<=b):decide ((a:Int)<=(b:Int))=true:=ae (by omega)
theorem A8(a b:Nat)(h:b<a):decide ((a:Int)<=(b:Int))=false:=af (by omega)
theorem A7(a b:Nat)(h:b<a):decide ((a:Int)>(b:Int))=true:=ae (by omega)
theorem A6(a b:Nat)(h:a<=b):decide ((a:Int)>(b:Int))=false:=af (by omega)
theorem A4(a b:Nat)(h:b<=a):decide ((a:Int)>=(b:Int))=true:=ae (by omega)
theorem A3(a b:Nat)(h:a<b):decide ((a:Int)>=(b:Int))=false:=af (by omega)
theorem Bb(a:Nat)(h:0<a):decide ((0:Int)<(a:Int))=true:=ae (by omega)
theorem Ba(a:Nat)(h:a=0):decide ((0:Int)<(a:Int))=false:=af (by omega)
theorem A5(a:Nat)(h:0<a):decide ((a:Int)>0)=true:=ae (by omega)
theorem AV(a:Nat)(h:a=0):decide ((a:Int)>0)=false:=af (by omega)
theorem aDZ(a:Nat):decide ((a:Int)<0)=false:=af (by omega)
theorem AS(a:Nat)(h:a=0):((a:Int)==0)=true:=by rw[Ge];simp[h]
theorem AG(a:Nat)(h:a≠0):((a:Int)==0)=false:=by rw[Ge];simp[h]
theorem AO(a:Nat)(h:a≠0):((a:Int)!=0)=true:=by rw[WI];simp[h]
theorem AU(a:Nat)(h:a=0):((a:Int)!=0)=false:=by rw[WI];simp[h]
def pd(B:Nat):Nat->Nat->List Nat
 |0,_=>[]
 |k+1,v=>v%B::pd B k (v/B)
theorem Dr(B:Nat):∀k v,(pd B k v).length=k
 |0,_=>rfl
 |k+1,v=>by simp[pd,Dr B k]
theorem H3{B:Nat}(hB:0<B):∀k v,∀x∈pd B k v,x<B
 |0,_,x,hx=>by simp[pd]at hx
 |k+1,v,x,hx=>by
  simp only[pd,dq]at hx
  rcases hx with rfl|hx
  ·exact cn _ hB
  ·exact H3 hB k _ x hx
theorem aQc{B:Nat}(hB:0<B):∀(l:List Nat),(∀x∈l,x<B)->l=pd B l.length (nv B l)
 | [],_=>rfl
 |x::r,h=>by
  have hx:=h x (by simp)
  simp only[cy,pd,nv]
  rw[gm,ce hx,fj _ _ hB,dc hx,dj,←aQc hB r fun y hy=>h y (by simp[hy])]
theorem Ve{B:Nat}(hB:0<B){l:List Nat}{k v:Nat}(h:∀x∈l,x<B)(hl:l.length=k)(hv:nv B l=v):l=pd B k v:=by
 have:=aQc hB l h;rw[hl,hv]at this;exact this
theorem H4{B:Nat}(hB:0<B):∀k v,v<B^k->nv B (pd B k v)=v
 |0,v,h=>by simp at h;subst h;rfl
 |k+1,v,h=>by
  simp only[pd,nv]
  rw[H4 hB k (v/B) (by rw[cj hB,←fm];exact h)]
  exact jk v B
theorem aEz(B:Nat):∀k v i,i<k->(pd B k v).getD i 0=v/B^i%B
 |0,_,_,h=>by omega
 |k+1,v,0,_=>by simp[pd]
 |k+1,v,i+1,h=>by
  simp only[pd,po]
  rw[aEz B k (v/B) i (by omega),fd,←iw]
theorem aQe(B:Nat):∀k,pd B k 0=bd k 0
 |0=>rfl
 |k+1=>by simp[pd,aQe B k,jw]
theorem ZP(B:Nat):∀(l:List Nat) (i x:Nat),i<l.length->nv B (l.set i x)+B^i*l.getD i 0=nv B l+B^i*x
 | [],_,_,h=>by simp at h
 |y::r,0,x,_=>by simp[nv];omega
 |y::r,i+1,x,h=>by
  have:=ZP B r i x (by simpa using h)
  simp only[List.set_cons_succ,nv,po,iw]
  rw[bu,bu,io,io,←ck,←ck,this]
theorem vT{B:Nat}{l:List Nat}(h:∀x∈l,x<B){i v:Nat}(hv:v<B):∀x∈l.set i v,x<B:=fun x hx=>by
 rcases List.mem_or_eq_of_mem_set hx with h1|h1
 ·exact h x h1
 ·rw[h1];exact hv
theorem Pp{B:Nat}(hB:2<=B)(n:Nat):Am (dg B n)=dg B n:=by
 rw[Gh hB _ (LI hB n),iM hB]
theorem aEt(B:Nat)(l:List Nat)(i:Nat)(h:i<l.length):nv B (l.take (i+1))=nv B (l.take i)+B^i*l.getD i 0:=by
 have hs:=LS B (l.take (i+1)) i (by simp;omega);rw[hs,List.take_take,ij (by omega)];congr 2;rw[List.drop_take,jq,aw];rw[dr h,bw h];show l[i]+B*0=l[i];rw[fu,dp]
theorem aSW{x:Nat}(h:0<x):∃t k,x=2^t*(2*k+1):=by
 induction x using pg with
 |ind x ih=>
  rcases ka x with h0|h1
  ·obtain⟨t,k,e⟩:=ih (x/2) (by omega) (by omega);refine⟨t+1,k,?_⟩;rw[fm,bt (2^t) 2,bu,←e];omega
  ·exact⟨0,x/2,by simp;omega⟩
theorem bBV{t k n:Nat}:(2^t*(2*k+1))%2^n=0↔n<=t:=by
 constructor
 ·intro h;rcases bc t n with hlt|hge
  ·exfalso;have e:n=t+(n-t-1)+1:=by omega
   rw[e,io,ca,Nat.mul_mod_mul_left,fm]at h;have hp:=au t;have h2:(2*k+1)%(2^(n-t-1)*2)=0:=by
    rcases pe.1 h with h|h
    ·omega
    ·exact h
   have:(2*k+1)%2=0:=by
    have:=Nat.mod_mod_of_dvd (2*k+1) (show 2 ∣ 2^(n-t-1)*2 from⟨_,bt _ _⟩);rw[h2]at this;omega
   omega
  ·exact hge
 ·intro h;have e:t=n+(t-n):=by omega
  rw[e,ca,bu];exact mj _ _
theorem aYn{t k:Nat}(h:2^t*(2*k+1)<2^64):2^t*(2*k+1) &&& (2^64-2^t*(2*k+1))=2^t:=by
 have hp:=au t;have ht:t<64:=by
  have:2^t*1<=2^t*(2*k+1):=cq _ (by omega);exact(dk (a:=2) (by decide)).1 (by omega)
 have hz:2^t*(2*k)+(2^t-1)+1=2^t*(2*k+1):=by rw[ck,gx];omega
 have hb:∀i,(2^64-2^t*(2*k+1)).testBit i=(decide (i<64)&&!(2^t*(2*k)+(2^t-1)).testBit i):=fun i=>by
  rw[←hz,Nat.testBit_two_pow_sub_succ (by omega)]
 apply mv;intro i;rw[Nat.testBit_and,hb,pm];have h1:(2^t*(2*k+1)).testBit i=(decide (t<=i)&&(2*k+1).testBit (i-t)):=by
  have:=jy (2*k+1) hp i;rw[dp]at this;rw[this];by_cases hi:i<t
  ·simp[hi];omega
  ·simp[hi];omega
 rw[h1,jy (2*k) (show 2^t-1<2^t by omega) i];rcases gd i t with hi|hi|hi
 ·simp[show ¬t<=i by omega,show ¬t=i by omega]
 ·subst hi;simp[ht]
 ·have e:i-t=(i-t-1)+1:=by omega
  simp only[show ¬i<t by omega,if_false,show ¬t=i by omega,decide_false];rw[e,lv,lv,show(2*k+1)/2=k by omega,show 2*k/2=k by omega];cases k.testBit (i-t-1)<;>simp
theorem aYm{a b:Nat}(ha:a<2^64)(hb:b<2^64):BR .u64 (a:Int) (b:Int)=((a &&& b:Nat):Int):=by
 have key:(dh 64 (a:Int) &&& dh 64 (b:Int)).toNat=a &&& b:=by
  rw[qq,LV ha,LV hb]
 show IntKind.u64.wrap (((dh 64 (a:Int) &&& dh 64 (b:Int)).toNat:Nat):Int)=_;rw[key];have:=Nat.and_le_left (n:=a) (m:=b);exact DV (by omega)
theorem iP{a b:Nat}(ha:a<2^64)(hb:b<2^64):Ao .u64 (a:Int) (b:Int)=((a ||| b:Nat):Int):=by
 have key:(dh 64 (a:Int) ||| dh 64 (b:Int)).toNat=a ||| b:=by
  rw[qy,LV ha,LV hb]
 show IntKind.u64.wrap (((dh 64 (a:Int) ||| dh 64 (b:Int)).toNat:Nat):Int)=_;rw[key];have:=Nat.or_lt_two_pow ha hb;exact DV (by omega)
theorem deb:∀t:Nat,t<64->al .i64 (k_deb.getD (2^t*285870213051353865%2^64/2^58) 0)=(t:Int):=by
 have h:((ja 64).all fun t=>decide (al .i64 (k_deb.getD (2^t*285870213051353865%2^64/2^58) (0:Int))=(t:Int)))=true:=by decide +kernel
 intro t ht;have:=ku.1 h t (lq.2 ht);simpa using this
theorem aBk{t k:Nat}(h:2^t*(2*k+1)<2^64):XQ (((2^t*(2*k+1):Nat):Int),())=some ((t:Int),()):=by
 have hp:=au t;have h1:2^t*1<=2^t*(2*k+1):=cq _ (by omega);have ht:t<64:=(dk (a:=2) (by decide)).1 (by omega);have han:=aYn h;show zX ((2^t*(2*k+1):Nat):Int)=_;generalize hx:2^t*(2*k+1)=x at *
 unfold zX;try dsimp only
 have e1:al .u64 ((0:Int)-(x:Int))=((2^64-x:Nat):Int):=by
  have:∀y:Int,al .u64 y=y%18446744073709551616:=fun y=>by
   simp[al,ji,jr]
  rw[this];omega
 have e2:al .u64 (((2^t:Nat):Int)*285870213051353865)=((2^t*285870213051353865%2^64:Nat):Int):=aAi (2^t*285870213051353865);have e3:AR .u64 ((2^t*285870213051353865%2^64:Nat):Int) 58=((2^t*285870213051353865%2^64/2^58:Nat):Int):=DT _ 58 (by decide);have e4:2^t*285870213051353865%2^64/2^58<64:=by omega
 have e5:(decide ((0:Int)<=((2^t*285870213051353865%2^64/2^58:Nat):Int))&&decide (((2^t*285870213051353865%2^64/2^58:Nat):Int)<(64:Nat)))=true:=by
  rw[ae (by omega),ae (by omega)];rfl
 rw[e1,aYm h (by omega),han,e2,e3,e5,aQW,aa,AG x (by omega),ab,ao,deb t ht]
end VL
namespace VL
open Go Vx
def Dw(n:Nat):List Int:=Wd (dg (2^64) n)
theorem aZV(n:Nat)(h:(dg (2^64) n).length<=1000000):Ws (dg (2^64) n):=⟨LI (by decide) n,h⟩
theorem Eg{B:Nat}(hB:2<=B):∀(k n:Nat),n<B^k->(dg B n).length<=k
 |0,n,h=>by simp at h;subst h;rw[D5];simp
 |k+1,n,h=>by
  rcases cg n with rfl|hn
  ·rw[D5];simp
  ·rw[Ez hB hn]
   have:=Eg hB k (n/B) (by rw[cj (by omega),←fm];exact h)
   simp;omega
theorem f8{B:Nat}(hB:2<=B)(n:Nat):n<B^(dg B n).length:=by
 have:=C0 hB _ (LI hB n);rwa [iM hB]at this
theorem aZ1{x i t k r n:Nat}(hx:x=2^t*(2*k+1))(ht:t<64):((2^64)^i*(x+2^64*r))%2^n=0↔n<=64*i+t:=by
 have e:(2^64)^i*(x+2^64*r)=2^(64*i+t)*(2*(k+2^(64-t-1)*r)+1):=by
  have h1:2^64=2^t*(2^(64-t-1)*2):=by rw[←fm,←ca];congr 1;omega
  rw[DS,hx,ca,bu];congr 1;rw[h1,bu,←ck];congr 1;rw[bu,ic];omega
 rw[e];exact bBV
theorem aW1(a:List Nat)(ha:∀x∈a,x<2^64)(hlen:a.length<=1000000)(n:Nat)(hn:n<=1000000000)(i:Nat)(hi:i<=a.length)(hz:nv (2^64) (a.take i)=0):
  qK (((a.length:Int),(Wd a,((n:Int),((i:Int),())))),())=some (if nv (2^64) a=0 then .inl ((),())else .inr ((decide (nv (2^64) a%2^n=0),()),())):=by
 have key:=Cx (aPj Ak.pre Ak.F Cr.pre Cr.F) (fun x=>a.length-x.1.2.2.2.1.toNat)
  (fun x=>∃i:Nat,i<=a.length/\nv (2^64) (a.take i)=0/\x=(((a.length:Int),(Wd a,((n:Int),((i:Int),())))),()))
  (fun _=>if nv (2^64) a=0 then .inl ((),())else .inr ((decide (nv (2^64) a%2^n=0),()),())) ?_ _ ⟨i,hi,hz,rfl⟩
 ·exact key
 intro L x hx hL;obtain⟨i,hi,hz,rfl⟩:=hx;unfold YQ;rcases bc i a.length with hlt|hge
 ·simp(disch:=omega) only[Be,A2,Bf,AW,AN,Bg,A1,AZ,A9,A8,A7,A6,A4,A3,Bb,Ba,A5,AV,AF,AS,AG,AO,AU,ao,bb,aa,ab,ba,bl,bq,ay,be,bi,bf,bj,bg,bo,bm,br,Ay,BM];have hxl:=B0 (by decide) ha i;rcases cg (a.getD i 0)with h0|h0
  ·simp(disch:=omega) only[Be,A2,Bf,AW,AN,Bg,A1,AZ,A9,A8,A7,A6,A4,A3,Bb,Ba,A5,AV,AF,AS,AG,AO,AU,ao,bb,aa,ab,ba,bl,bq,ay,be,bi,bf,bj,bg,bo,bm,br];refine hL _ ⟨i+1,by omega,?_,rfl⟩ (by simp only[ao];omega);rw[aEt _ _ _ hlt,hz,h0,fu]
  ·obtain⟨t,k,e⟩:=aSW h0;have ht:t<64:=by
    have hp:=au t;have h1:2^t*1<=2^t*(2*k+1):=cq _ (by omega);exact(dk (a:=2) (by decide)).1 (by omega)
   have p0:=aBk (t:=t) (k:=k) (by omega);rw[←e]at p0;have hv:nv (2^64) a=(2^64)^i*(a.getD i 0+2^64*nv (2^64) (a.drop (i+1))):=by
    rw[LS _ a i hi,hz,dj,dr hlt];simp only[nv];rw[aw,bw hlt];rfl
   have hne:nv (2^64) a≠0:=by
    rw[hv];have:0<(2^64)^i:=iq (by decide);exact Nat.ne_of_gt (ir this (by omega))
   have hd:=aZ1 (i:=i) (r:=nv (2^64) (a.drop (i+1))) (n:=n) e ht;rw[←hv]at hd;simp(disch:=omega) only[Be,A2,Bf,AW,AN,Bg,A1,AZ,A9,A8,A7,A6,A4,A3,Bb,Ba,A5,AV,AF,AS,AG,AO,AU,ao,bb,aa,ab,ba,bl,bq,ay,be,bi,bf,bj,bg,bo,bm,br,bC2 p0,bAM p0,ag hne];have:decide (((64*i+t:Nat):Int)>=(n:Int))=decide (nv (2^64) a%2^n=0):=by
    rw[gj,ai,ai,hd];omega
   rw[this]
 ·have e:i=a.length:=by omega
  subst e;rw[dw]at hz;simp(disch:=omega) only[Be,A2,Bf,AW,AN,Bg,A1,AZ,A9,A8,A7,A6,A4,A3,Bb,Ba,A5,AV,AF,AS,AG,AO,AU,ao,bb,aa,ab,ba,bl,bq,ay,be,bi,bf,bj,bg,bo,bm,br,ah hz]
theorem aWc(l:List Nat)(hl:Ws l)(n:Nat)(hn:n<=1000000000):nW (Wd l,(n:Int),())=some (decide (nv (2^64) l%2^n=0),()):=by
 obtain⟨h,hlen⟩:=hl;show xK Ak.pre Ak.F Cr.pre Cr.F qK (Wd l) n=_;unfold xK;have p0:=ED l hlen;have hm:∀x∈Am l,x<2^64:=fun x hx=>h x (W4 hx);have hle:=(DU l).1;have hw:=aW1 (Am l) hm (by omega) n hn 0 (dv _) rfl;rw[LU (by decide) h]at hw;simp only[Fe p0,aa,Ay];rw[show((0:Nat):Int)=0 from rfl]at hw;rw[hw];by_cases h0:nv (2^64) l=0
 ·rw[ah h0,h0,mn];rfl
 ·rw[ag h0]
def PK(v n:Nat):Nat:=if v%2^n=0 then v/2^n else v/2^n/2*2+1
theorem aP6(w:Nat):w ||| 1=w/2*2+1:=by
 apply mv;intro i;rw[Nat.testBit_or];cases i with
 |zero=>simp[Nat.testBit_zero]
 |succ i=>
  rw[lv,lv,lv,show(w/2*2+1)/2=w/2 by omega,show 1/2=0 by rfl];simp
theorem aV9(l:List Nat)(hl:Ws l)(n:Nat)(hn:n<=100000000):cB (Wd l,(n:Int),())=some (Dw (PK (nv (2^64) l) n),0,()):=by
 show xF TU.pre TU.F CU.pre CU.F Uc.pre Uc.F (Wd l) n=_;unfold xF;have p0:=aVN l hl n hn;have p1:=aWc l hl n (by omega);simp only[aDZ,ab,aYM p0,aY2 p1,aa,Ay];unfold PK;by_cases h0:nv (2^64) l%2^n=0
 ·rw[ah h0,ae h0];rfl
 ·rw[ag h0,af h0];generalize nv (2^64) l/2^n=q;rcases cg q with rfl|hq
  ·have e:Dw (0/2*2+1)=[1]:=by
    show Wd (dg (2^64) 1)=[1]
    rw[Ez (by decide) (by decide),D5];rfl
   rw[e,D5];rfl
  ·have hB:2<=2^64:=by decide
   have e:Dw (q/2*2+1)=Wd ((q%2^64/2*2+1)::dg (2^64) (q/2^64)):=by
    show Wd (dg (2^64) (q/2*2+1))=_;rw[Ez hB (by omega)];have e1:(q/2*2+1)%2^64=q%2^64/2*2+1:=by omega
    have e2:(q/2*2+1)/2^64=q/2^64:=by omega
    rw[e1,e2]
   have e2:Ao .u64 ((q%2^64:Nat):Int) 1=((q%2^64/2*2+1:Nat):Int):=by
    have:=iP (a:=q%2^64) (b:=1) (by omega) (by decide);rw[aP6]at this;exact this
   rw[e,Ez hB hq];simp(disch:=omega) only[Be,A2,Bf,AW,AN,Bg,A1,AZ,A9,A8,A7,A6,A4,A3,Bb,Ba,A5,AV,AF,AS,AG,AO,AU,ao,bb,aa,ab,ba,bl,bq,ay,be,bi,bf,bj,bg,bo,bm,br,cy,BM,pn,e2,Dz,kf]
theorem aVX(l:List Nat)(hl:Ws l)(n:Nat)(hn:n<=100000000):VF (Wd l,(n:Int),())=some (Dw (nv (2^64) l/2^n),0,()):=by
 show wR CU.pre CU.F (Wd l) n=_;unfold wR;have p0:=aG2 l hl n hn;simp only[aDZ,ab,aMC p0,aa];rfl
end VL
namespace VL
open Go Vx
theorem gQ{l:List Nat}{i j v:Nat}(h:i≠j):(l.set i v).getD j 0=l.getD j 0:=by
 rw[aw,aw,List.getElem?_set_ne h]
theorem bA6{out:List Nat}{K V k s x:Nat}(hs:s<64)(ho:out=pd (2^64) K V)(hk:k+1<K)(hV:V<2^(64*k+s))(hx:x<2^64):
  (out.getD k 0<2^s)/\(out.getD k 0+x%2^(64-s)*2^s<2^64)/\((out.set k (out.getD k 0+x%2^(64-s)*2^s)).set (k+1) (x/2^(64-s))=pd (2^64) K (V+2^(64*k+s)*x)):=by
 have hB:0<2^64:=by decide
 have hps:=au s;have hpk:=au (64*k);have hlen:out.length=K:=by rw[ho,Dr]
 have hc:out.getD k 0=V/(2^64)^k%2^64:=by rw[ho,aEz _ _ _ _ (by omega)]
 have hc2:V/(2^64)^k<2^s:=by
  rw[DS,cj hpk,bt,←ca];exact hV
 have hc1:out.getD (k+1) 0=0:=by
  rw[ho,aEz _ _ _ _ hk,DS];have:V<2^(64*(k+1)):=az hV (ax (by decide) (by omega));rw[dc this]
 have h64:2^64=2^(64-s)*2^s:=by rw[←ca];congr 1;omega
 have hs64:2^s<=2^64:=ax (by decide) (by omega);have hce:V/(2^64)^k%2^64=V/(2^64)^k:=ce (by omega);have hcl:out.getD k 0<2^s:=by rw[hc,hce];exact hc2
 have hp1:=au (64-s);have hm:x%2^(64-s)+1<=2^(64-s):=cn _ hp1;have hm2:=bh (2^s) hm;rw[←h64,cu,go]at hm2;have hsum:out.getD k 0+x%2^(64-s)*2^s<2^64:=by omega
 refine⟨hcl,hsum,?_⟩;have hall:∀y∈out,y<2^64:=by rw[ho];exact H3 hB _ _
 have hxd:x/2^(64-s)<2^64:=bv (ga _ _) hx;refine Ve hB (vT (vT hall hsum) hxd) (by simp[hlen]) ?_;have g1:=ZP (2^64) out k (out.getD k 0+x%2^(64-s)*2^s) (by omega);have g2:=ZP (2^64) (out.set k (out.getD k 0+x%2^(64-s)*2^s)) (k+1) (x/2^(64-s)) (by rw[jj];omega);rw[gQ (by omega),hc1,fu,dp]at g2;have hVK:V<(2^64)^K:=by
  rw[DS];exact az hV (ax (by decide) (by omega))
 have hnv:nv (2^64) out=V:=by rw[ho,H4 hB _ _ hVK]
 rw[hnv,ck]at g1;rw[g2];have hx2:2^(64*k+s)*x=(2^64)^k*(x%2^(64-s)*2^s)+(2^64)^(k+1)*(x/2^(64-s)):=by
  have hdm:=df x (2^(64-s));generalize x/2^(64-s)=q at *
  generalize x%2^(64-s)=r at *
  rw[ca 2 (64*k) s,←DS,show(2^64)^(k+1)=(2^64)^k*2^64 from fm _ _,bu ((2^64)^k),bu ((2^64)^k),←ck,←hdm];congr 1;rw[ck,bt r,jc];congr 1;rw[←bu,bt (2^s),←h64]
 omega
theorem aW3(a:List Nat)(ha:∀x∈a,x<2^64)(hlen:a.length<=1000000)(w s:Nat)(hs:s<64)(hw:w<=10000000)(i:Nat)(hi:i<=a.length):
  qM (((a.length:Int),(Wd a,((w:Int),((s:Int),((i:Int),((),())))))),(Wd (pd (2^64) (w+a.length+1) (2^(64*w+s)*nv (2^64) (a.take i))),()))=some (.inl (((),()),(Wd (pd (2^64) (w+a.length+1) (2^(64*w+s)*nv (2^64) a)),()))):=by
 have key:=Cx (aPl Ak.pre Ak.F) (fun x=>a.length-x.1.2.2.2.2.1.toNat)
  (fun x=>∃i:Nat,i<=a.length/\x=(((a.length:Int),(Wd a,((w:Int),((s:Int),((i:Int),((),())))))),(Wd (pd (2^64) (w+a.length+1) (2^(64*w+s)*nv (2^64) (a.take i))),())))
  (fun _=>.inl (((),()),(Wd (pd (2^64) (w+a.length+1) (2^(64*w+s)*nv (2^64) a)),()))) ?_ _ ⟨i,hi,rfl⟩
 ·exact key
 intro L x hx hL;obtain⟨i,hi,rfl⟩:=hx;unfold YS;rcases bc i a.length with hlt|hge
 ·have hxl:=B0 (by decide) ha i;have ht:=C0 (B:=2^64) (by decide) (a.take i) fun x hx=>ha x (gc hx);rw[gz,ij (by omega),DS]at ht;have hV:2^(64*w+s)*nv (2^64) (a.take i)<2^(64*(w+i)+s):=by
   have e:64*(w+i)+s=(64*w+s)+64*i:=by omega
   rw[e,ca _ (64*w+s)];exact nk ht (au _)
  have hnext:=aEt (2^64) a i hlt;have hgo:=hL (((a.length:Int),(Wd a,((w:Int),((s:Int),(((i+1:Nat):Int),((),())))))),(Wd (pd (2^64) (w+a.length+1) (2^(64*w+s)*nv (2^64) (a.take (i+1)))),())) ⟨i+1,by omega,rfl⟩ (by simp only[ao];omega);rw[hnext,ck,←bu,show 2^(64*w+s)*(2^64)^i=2^(64*(w+i)+s) by rw[DS,←ca];congr 1;omega]at hgo;generalize hout:pd (2^64) (w+a.length+1) (2^(64*w+s)*nv (2^64) (a.take i))=out at *
  obtain⟨q1,q2,q3⟩:=bA6 (k:=w+i) hs hout.symm (by omega) hV hxl;have hol:out.length=w+a.length+1:=by rw[←hout,Dr]
  have g1:a.getD i 0*2^s%2^64=(a.getD i 0%2^(64-s))*2^s:=by
   have:2^64=2^(64-s)*2^s:=by rw[←ca];congr 1;omega
   rw[this,gk]
  have e8:al .i64 (64-(s:Int))=((64-s:Nat):Int):=EN 64 s (by omega) (by omega);simp(disch:=omega) only[Be,A2,Bf,AW,AN,Bg,A1,AZ,A9,A8,A7,A6,A4,A3,Bb,Ba,A5,AV,AF,AS,AG,AO,AU,ao,bb,aa,ab,ba,bl,bq,ay,be,bi,bf,bj,bg,bo,bm,br,Ay,BM,e8,H7 _ s (by omega),DT _ (64-s) (by omega),g1,PO q1 q2,Dz,jj,q3];exact hgo
 ·have e:i=a.length:=by omega
  subst e;rw[dw];simp(disch:=omega) only[Be,A2,Bf,AW,AN,Bg,A1,AZ,A9,A8,A7,A6,A4,A3,Bb,Ba,A5,AV,AF,AS,AG,AO,AU,ao,bb,aa,ab,ba,bl,bq,ay,be,bi,bf,bj,bg,bo,bm,br]
theorem aA7(l:List Nat)(hl:Ws l)(n:Nat)(hn:n/64+(Am l).length+1<=1000000):XG (Wd l,(n:Int),())=some (Dw (nv (2^64) l*2^n),()):=by
 obtain⟨h,hlen⟩:=hl;show xM Ak.pre Ak.F qM (Wd l) n=_;unfold xM;have hB:2<=2^64:=by decide
 have p0:=ED l hlen;have hm:∀x∈Am l,x<2^64:=fun x hx=>h x (W4 hx);have hle:=(DU l).1;have hv:=LU hB h;simp only[Fe p0,aa,Ay];rcases cg (Am l).length with h0|h0
 ·rw[h0,aSU h h0,fq];unfold Dw;rw[D5];rfl
 ·have e4:ii (n:Int) 64=((n%64:Nat):Int):=rfl;have e3:decide (((n/64+(Am l).length+1:Nat):Int)*8<=140737488355328)=true:=ae (by omega);have hw:=aW3 (Am l) hm (by omega) (n/64) (n%64) (cn _ (by decide)) (by omega) 0 (dv _);rw[show nv (2^64) ((Am l).take 0)=0 by rfl,fu,aQe,show 64*(n/64)+n%64=n by omega,show((0:Nat):Int)=0 from rfl]at hw;simp(disch:=omega) only[Be,A2,Bf,AW,AN,Bg,A1,AZ,A9,A8,A7,A6,A4,A3,Bb,Ba,A5,AV,AF,AS,AG,AO,AU,ao,bb,aa,ab,ba,bl,bq,ay,be,bi,bf,bj,bg,bo,bm,br,aEH n (by omega),e4,e3,Of,hw];have hV:2^n*nv (2^64) (Am l)<(2^64)^(n/64+(Am l).length+1):=by
   have:=C0 hB (Am l) hm;rw[DS]at this⊢;have h1:2^n*nv (2^64) (Am l)<2^n*2^(64*(Am l).length):=nk this (au _);rw[←ca]at h1;exact az h1 (ax (by decide) (by omega))
  have p1:=ED (pd (2^64) (n/64+(Am l).length+1) (2^n*nv (2^64) (Am l))) (by rw[Dr];omega);rw[Gh hB _ (H3 (by decide) _ _),H4 (by decide) _ _ hV,hv,bt (2^n)]at p1;rw[hv,bt (2^n)];generalize pd (2^64) (n/64+(Am l).length+1) (nv (2^64) l*2^n)=out at *
  show(bif Ak.pre (Wd out,())then some (Ak.F (Wd out,()))else none)=_;rw[ZW p1,Yv p1];rfl
theorem aW2(ls:List (List Nat))(hls:∀l∈ls,l.length<=1000000)(hn:ls.length<=1000000)(i:Nat)(hi:i<=ls.length)(hz:∀l∈ls.take i,(Am l).length<=1024):
  qL (((ls.length:Int),(ls.map Wd,((i:Int),()))),())=some (if(∀l∈ls,(Am l).length<=1024)then .inl ((),())else .inr ((true,()),())):=by
 have key:=Cx (aPk Ak.pre Ak.F) (fun x=>ls.length-x.1.2.2.1.toNat)
  (fun x=>∃i:Nat,i<=ls.length/\(∀l∈ls.take i,(Am l).length<=1024)/\x=(((ls.length:Int),(ls.map Wd,((i:Int),()))),()))
  (fun _=>if(∀l∈ls,(Am l).length<=1024)then .inl ((),())else .inr ((true,()),())) ?_ _ ⟨i,hi,hz,rfl⟩
 ·exact key
 intro L x hx hL;obtain⟨i,hi,hz,rfl⟩:=hx;unfold YR;rcases bc i ls.length with hlt|hge
 ·have eg:(ls.map Wd).getD i []=Wd (ls[i]):=by
   rw[aw,lj,bw hlt];rfl
  have hil:ls[i]∈ls:=List.getElem_mem hlt;have p0:=ED ls[i] (hls _ hil);simp(disch:=omega) only[Be,A2,Bf,AW,AN,Bg,A1,AZ,A9,A8,A7,A6,A4,A3,Bb,Ba,A5,AV,AF,AS,AG,AO,AU,ao,bb,aa,ab,ba,bl,bq,ay,be,bi,bf,bj,bg,bo,bm,br,cp,eg,ZW p0,Yv p0,Ay];rcases bc 1024 (Am ls[i]).length with hg|hg
  ·have e:decide (((Am ls[i]).length:Int)>1024)=true:=ae (by omega);have hnot:¬∀l∈ls,(Am l).length<=1024:=fun hh=>by have:=hh _ hil;omega
   rw[e,aa,ag hnot]
  ·have e:decide (((Am ls[i]).length:Int)>1024)=false:=af (by omega);rw[e,ab];refine hL _ ⟨i+1,by omega,?_,rfl⟩ (by simp only[ao];omega);intro l hl;rw[nr,bw hlt]at hl;rcases dt.1 hl with hl|hl
   ·exact hz l hl
   ·have:l=ls[i]:=by simpa using hl
    rw[this];exact hg
 ·have e:i=ls.length:=by omega
  subst e;rw[dw]at hz;simp(disch:=omega) only[Be,A2,Bf,AW,AN,Bg,A1,AZ,A9,A8,A7,A6,A4,A3,Bb,Ba,A5,AV,AF,AS,AG,AO,AU,ao,bb,aa,ab,ba,bl,bq,ay,be,bi,bf,bj,bg,bo,bm,br,ah hz]
theorem aG8(ls:List (List Nat))(hls:∀l∈ls,l.length<=1000000)(hn:ls.length<=1000000):
  VJ (ls.map Wd,())=some (!decide (∀l∈ls,(Am l).length<=1024),()):=by
 show xL Ak.pre Ak.F qL (ls.map Wd)=_;unfold xL;have hw:=aW2 ls hls hn 0 (dv _) (fun l hl=>by simp at hl);rw[show((0:Nat):Int)=0 from rfl]at hw;rw[cp,hw];by_cases h:∀l∈ls,(Am l).length<=1024
 ·rw[ah h,ae h];rfl
 ·rw[ag h,af h];rfl
theorem aG9(l:List Nat)(hl:l.length<=1000000):VJ ((Wd l::[]),())=some (!decide ((Am l).length<=1024),()):=by
 have:=aG8 [l] (by simp;exact hl) (by simp);rw[show[l].map Wd=Wd l::[]from rfl]at this;rw[this];simp
theorem aG5(l:List Nat)(hl:Ws l)(n:Nat)(hn:n<=65536)(hv:nv (2^64) l*2^n<(2^64)^1024):XD (Wd l,(n:Int),())=some (Dw (nv (2^64) l*2^n),0,()):=by
 show xG DN.pre DN.F EX.pre EX.F (Wd l) n=_;unfold xG;have p0:=aG9 l hl.2;have hB:2<=2^64:=by decide
 have h1:=Eg hB 1024 _ hv;have h0:(Am l).length<=1024:=by
  rw[Gh hB _ hl.1];apply Eg hB;exact bv (Nat.le_mul_of_pos_right _ (au _)) hv
 have p1:=aA7 l hl n (by omega);have p2:=aG9 (dg (2^64) (nv (2^64) l*2^n)) (by omega);rw[Pp hB]at p2;rw[ae h0]at p0;rw[ae h1]at p2;have e2:decide ((n:Int)>65536)=false:=af (by omega);simp only[aDZ,e2,bj,ab,aC0 p0,aa,bi,aC1 p1];unfold Dw;simp only[aC0 p2,aa,bi,ab]
end VL
namespace VL
open Go Vx
theorem Dg(B:Nat)(l:List Nat)(i:Nat):nv B (l.take (i+1))=nv B (l.take i)+B^i*l.getD i 0:=by
 rcases bc i l.length with h|h
 ·exact aEt B l i h
 ·rw[de (by omega),de h,aw,dz h];simp
def CA(a b:List Nat)(i:Nat):Nat:=nv (2^64) (a.take i)+nv (2^64) (b.take i)
def El(a b:List Nat)(i:Nat):List Nat:=pd (2^64) i (CA a b i%(2^64)^i)++(a++[0]).drop i
theorem iN{l:List Nat}(h:∀x∈l,x<2^64)(i:Nat):nv (2^64) (l.take i)<(2^64)^i:=by
 have:=C0 (B:=2^64) (by decide) (l.take i) fun x hx=>h x (gc hx);refine az this (ax (by decide) ?_);rw[gz];exact Nat.min_le_left _ _
theorem aNi{a b:List Nat}(ha:∀x∈a,x<2^64)(hb:∀x∈b,x<2^64)(i:Nat):CA a b i/(2^64)^i<=1:=by
 have h1:=iN ha i;have h2:=iN hb i;have hp:0<(2^64)^i:=iq (by decide);unfold CA;have:(nv (2^64) (a.take i)+nv (2^64) (b.take i))/(2^64)^i<2:=by
  rw[cj hp];omega
 omega
theorem aQ7(a b:List Nat)(i:Nat):CA a b (i+1)=CA a b i%(2^64)^i+(2^64)^i*(a.getD i 0+b.getD i 0+CA a b i/(2^64)^i):=by
 have hdm:=df (CA a b i) ((2^64)^i);have h1:CA a b (i+1)=CA a b i+(2^64)^i*(a.getD i 0+b.getD i 0):=by
  unfold CA;rw[Dg,Dg,ck];omega
 rw[h1,ck ((2^64)^i) (a.getD i 0+b.getD i 0)];omega
theorem bIC(a b:List Nat)(i:Nat):CA a b (i+1)/(2^64)^(i+1)=(a.getD i 0+b.getD i 0+CA a b i/(2^64)^i)/2^64:=by
 have hp:0<(2^64)^i:=iq (by decide);rw[aQ7,fm (2^64) i,←fd,fj _ _ hp,dc (cn _ hp),dj]
theorem bID(a b:List Nat)(i:Nat):CA a b (i+1)%(2^64)^(i+1)=CA a b i%(2^64)^i+(2^64)^i*((a.getD i 0+b.getD i 0+CA a b i/(2^64)^i)%2^64):=by
 have hp:0<(2^64)^i:=iq (by decide);rw[aQ7 a b i,fm (2^64) i,nj,gm,rm,fj _ _ hp,dc (cn _ hp),dj]
theorem aQd{k r v:Nat}(hr:r<(2^64)^k)(hv:v<2^64):pd (2^64) k r++[v]=pd (2^64) (k+1) (r+(2^64)^k*v):=by
 refine Ve (by decide) ?_ (by simp[Dr]) ?_
 ·intro x hx;rcases dt.1 hx with hx|hx
  ·exact H3 (by decide) _ _ x hx
  ·have:x=v:=by simpa using hx
   rw[this];exact hv
 ·rw[Vd,Dr,H4 (by decide) _ _ hr];simp[nv]
theorem bCA(a b:List Nat)(i:Nat)(hi:i<a.length):(El a b i).set i ((a.getD i 0+b.getD i 0+CA a b i/(2^64)^i)%2^64)=El a b (i+1):=by
 have hp:0<(2^64)^i:=iq (by decide);unfold El;rw[bID,←aQd (cn _ hp) (cn _ (by decide)),gh _ _ (by rw[Dr];exact ci _),Dr,gu,
  dr (l:=a++[0]) (i:=i) (by simp;omega),kf,List.append_assoc]
 rfl
theorem aQa(a b:List Nat)(i:Nat)(hi:i<=a.length):(El a b i).length=a.length+1:=by
 unfold El;rw[fc,Dr];simp;omega
theorem aWT(a b:List Nat)(ha:∀x∈a,x<2^64)(hb:∀x∈b,x<2^64)(hlen:a.length<=1000000)(i:Nat)(hi:i<=a.length):
  dE (((a.length:Int),(Wd b,((i:Int),(Wd a,(((CA a b i/(2^64)^i:Nat):Int),((),())))))),(Wd (El a b i),()))=some (.inl ((Wd a,(((CA a b a.length/(2^64)^a.length:Nat):Int),((),()))),(Wd (El a b a.length),()))):=by
 have key:=Cx (aPb AD.pre AD.F Ak.pre Ak.F) (fun x=>a.length-x.1.2.2.1.toNat)
  (fun x=>∃i:Nat,i<=a.length/\x=(((a.length:Int),(Wd b,((i:Int),(Wd a,(((CA a b i/(2^64)^i:Nat):Int),((),())))))),(Wd (El a b i),())))
  (fun _=>.inl ((Wd a,(((CA a b a.length/(2^64)^a.length:Nat):Int),((),()))),(Wd (El a b a.length),()))) ?_ _ ⟨i,hi,rfl⟩
 ·exact key
 intro L x hx hL;obtain⟨i,hi,rfl⟩:=hx;unfold YI;rcases bc i a.length with hlt|hge
 ·have hc:=aNi ha hb i;have hol:=aQa a b i hi;have hset:=bCA a b i hlt;have hgo:=hL (((a.length:Int),(Wd b,(((i+1:Nat):Int),(Wd a,(((CA a b (i+1)/(2^64)^(i+1):Nat):Int),((),())))))),(Wd (El a b (i+1)),())) ⟨i+1,by omega,rfl⟩ (by simp only[ao];omega);rw[bIC,←hset]at hgo;have hF:∀x y c:Nat,AD.F ((x:Int),((y:Int),((c:Int),())))=(((((x+y+c)%2^64:Nat):Int)),((((x+y+c)/2^64:Nat):Int)),()):=fun x y c=>rfl;have hP:∀(x y:Int) (c:Nat),c<=1->AD.pre (x,(y,((c:Int),())))=true:=fun x y c h=>by
   show(decide ((0:Int)<=(c:Int))&&decide ((c:Int)<=1))=true;rw[ae (by omega),ae (by omega)];rfl
  generalize CA a b i/(2^64)^i=c at *
  generalize El a b i=out at *
  rcases bc i b.length with hbl|hbl
  ·simp(disch:=omega) only[Be,A2,Bf,AW,AN,Bg,A1,AZ,A9,A8,A7,A6,A4,A3,Bb,Ba,A5,AV,AF,AS,AG,AO,AU,ao,bb,aa,ab,ba,bl,bq,ay,be,bi,bf,bj,bg,bo,bm,br,Ay,BM,hP _ _ c hc,hF,Dz];exact hgo
  ·have hbz:b.getD i 0=0:=by rw[aw,dz hbl];rfl
   have hF0:AD.F (((a.getD i 0:Nat):Int),((0:Int),((c:Int),())))=((((a.getD i 0+b.getD i 0+c)%2^64:Nat):Int),(((a.getD i 0+b.getD i 0+c)/2^64:Nat):Int),()):=by rw[hbz];rfl
   simp(disch:=omega) only[Be,A2,Bf,AW,AN,Bg,A1,AZ,A9,A8,A7,A6,A4,A3,Bb,Ba,A5,AV,AF,AS,AG,AO,AU,ao,bb,aa,ab,ba,bl,bq,ay,be,bi,bf,bj,bg,bo,bm,br,Ay,BM,hP _ _ c hc,hF0,Dz];exact hgo
 ·have e:i=a.length:=by omega
  subst e;simp(disch:=omega) only[Be,A2,Bf,AW,AN,Bg,A1,AZ,A9,A8,A7,A6,A4,A3,Bb,Ba,A5,AV,AF,AS,AG,AO,AU,ao,bb,aa,ab,ba,bl,bq,ay,be,bi,bf,bj,bg,bo,bm,br]
theorem bIA(a b:List Nat)(ha:∀x∈a,x<2^64)(hb:∀x∈b,x<2^64)(hab:b.length<=a.length):
  (El a b a.length).set a.length (CA a b a.length/(2^64)^a.length)=pd (2^64) (a.length+1) (nv (2^64) a+nv (2^64) b)/\nv (2^64) a+nv (2^64) b<(2^64)^(a.length+1):=by
 have hp:0<(2^64)^a.length:=iq (by decide);have hc:=aNi ha hb a.length;have hs:CA a b a.length=nv (2^64) a+nv (2^64) b:=by
  unfold CA;rw[dw,de hab]
 have hdm:=df (CA a b a.length) ((2^64)^a.length);refine⟨?_,?_⟩
 ·have hd:(a++[0]).drop a.length=[0]:=by simp
  unfold El;rw[hd,gh _ _ (by rw[Dr];exact ci _),Dr,gu,kf,aQd (cn _ hp) (by omega),jc (CA a b a.length%(2^64)^a.length),hdm,hs]
 ·rw[←hs];have h1:=iN ha a.length;have h2:=iN hb a.length;unfold CA;rw[fm (2^64) a.length];omega
theorem aYi{a:List Nat}:lb (bd (a.length+1) (0:Int)).length (Wd a)++rf a.length (bd (a.length+1) (0:Int))=Wd (El a ([]:List Nat) 0):=by
 rw[gr,lw,jq,de (by rw[Ay];omega)];unfold El;simp[Wd,pd]
theorem bCB(a b c:List Nat):El a b 0=El a c 0:=by unfold El;simp[pd]
theorem aL3(a b:List Nat)(ha:∀x∈a,x<2^64)(hb:∀x∈b,x<2^64)(hlen:a.length+1<=1000000)(hab:b.length<=a.length):
  (bif decide (0<=al .i64 ((a.length:Int)+1))&&decide (al .i64 ((a.length:Int)+1)*8<=140737488355328)then
   AQ (dE (((a.length:Int),(Wd b,((0:Int),(Wd a,((0:Int),((),())))))),(lb (bd (aq (al .i64 ((a.length:Int)+1))) (0:Int)).length (Wd a)++rf a.length (bd (aq (al .i64 ((a.length:Int)+1))) (0:Int)),()))) fun y4=>
    AP y4 (fun y5=>bif decide (0<=((y5.1.1.length:Nat):Int))&&decide (((y5.1.1.length:Nat):Int)<((y5.2.1.length:Nat):Int))then
     (bif Ak.pre ((y5.2.1.set (aq ((y5.1.1.length:Nat):Int)) y5.1.2.1),())then some (Ak.F ((y5.2.1.set (aq ((y5.1.1.length:Nat):Int)) y5.1.2.1),()))else none)else none) fun _=>none
  else none:Option (DenS Hp))=some (Dw (nv (2^64) a+nv (2^64) b),()):=by
 have hw:=aWT a b ha hb (by omega) 0 (dv _)
 have h0:CA a b 0/(2^64)^0=0:=by unfold CA;simp[nv]
 rw[h0,show((0:Nat):Int)=0 from rfl,bCB a b [],←aYi]at hw
 have e3:decide (((a.length+1:Nat):Int)*8<=140737488355328)=true:=ae (by omega)
 rw[A2 _ (by omega),e3,AF,ao,hw]
 obtain⟨g1,g2⟩:=bIA a b ha hb hab
 have hol:=aQa a b a.length (ci _)
 have p1:=ED (pd (2^64) (a.length+1) (nv (2^64) a+nv (2^64) b)) (by rw[Dr];exact hlen)
 rw[Gh (by decide) _ (H3 (by decide) _ _),H4 (by decide) _ _ g2,←g1,←Dz]at p1
 generalize CA a b a.length/(2^64)^a.length=c at *
 generalize El a b a.length=out at *
 show(bif decide (0<=(((Wd a).length:Nat):Int))&&decide ((((Wd a).length:Nat):Int)<(((Wd out).length:Nat):Int))then
     (bif Ak.pre ((Wd out).set (Wd a).length (c:Int),())then some (Ak.F ((Wd out).set (Wd a).length (c:Int),()))else none)else none)=_
 simp(disch:=omega) only[Be,A2,Bf,AW,AN,Bg,A1,AZ,A9,A8,A7,A6,A4,A3,Bb,Ba,A5,AV,AF,AS,AG,AO,AU,ao,bb,aa,ab,ba,bl,bq,ay,be,bi,bf,bj,bg,bo,bm,br,Ay,ZW p1,Yv p1]
 rfl
theorem aGX(l m:List Nat)(hl:Ws l)(hm:Ws m)(hl2:(Am l).length<1000000)(hm2:(Am m).length<1000000):XB (Wd l,Wd m,())=some (Dw (nv (2^64) l+nv (2^64) m),()):=by
 show wS AD.pre AD.F Ak.pre Ak.F dE (Wd l) (Wd m)=_;unfold wS;have p0:=ED l hl.2;have p1:=ED m hm.2;have h1:∀x∈Am l,x<2^64:=fun x hx=>hl.1 x (W4 hx);have h2:∀x∈Am m,x<2^64:=fun x hx=>hm.1 x (W4 hx);simp only[Fe p0,Fe p1,aa];rcases bc (Am l).length (Am m).length with h|h
 ·rw[Ay,Ay,A1 _ _ h,aa];have:=aL3 (Am m) (Am l) h2 h1 hm2 (by omega);rw[LU (by decide) hl.1,LU (by decide) hm.1,jc]at this;exact this
 ·rw[Ay,Ay,AZ _ _ h,ab];have:=aL3 (Am l) (Am m) h1 h2 hl2 (by omega);rw[LU (by decide) hl.1,LU (by decide) hm.1]at this;exact this
theorem aVZ(l:List Nat)(hl:Ws l):nL (Wd l,())=some (Dw (nv (2^64) l),()):=by
 show wV Ak.pre Ak.F (Wd l)=_;unfold wV;have p0:=ED l hl.2;have hle:=(DU l).1;have h2:=hl.2;have e3:decide ((((Am l).length:Nat):Int)*8<=140737488355328)=true:=ae (by omega);simp(disch:=omega) only[Be,A2,Bf,AW,AN,Bg,A1,AZ,A9,A8,A7,A6,A4,A3,Bb,Ba,A5,AV,AF,AS,AG,AO,AU,ao,bb,aa,ab,ba,bl,bq,ay,be,bi,bf,bj,bg,bo,bm,br,ZW p0,Yv p0,Ay,e3,gr,lw,gu];rw[de (by rw[Ay];exact ci _),jg,du,Gh (by decide) l hl.1];rfl
theorem aGF(l:List Nat)(hl:Ws l):bO (Wd l,())=some (Dw (nv (2^64) l),()):=by
 show v5 CT.pre CT.F (Wd l)=_;unfold v5;have p0:=aVZ l hl;simp only[aYV p0,aa]
end VL
namespace VL
open Go Vx
def Wi(n:Nat):Ab (.pair (.int .u64) (.pair (.int .u64) .unit)):=(((n/2^64:Nat):Int),(((n%2^64:Nat):Int),()))
theorem aIP(k:Nat)(h:0<k):decide ((k:Int)<=0)=false:=af (by omega)
theorem aYs{A q R P:Nat}(g1:A%2^64=R)(g2:q<P)(g4:R+P<=2^64):(A+q)%2^64=q+R:=by omega
theorem aYt{X Y r:Nat}(h:X%2^64=Y)(hr:r<2^64):(2^64*X+r)%2^128=2^64*Y+r:=by omega
theorem aYu{X h q R P:Nat}(e:X=2^64*h+R+q)(g2:q<P)(g4:R+P<=2^64):X/2^64=h/\X%2^64=q+R:=by omega
theorem aGQ(n k:Nat)(hn:n<2^128):XA (Wi n,(k:Int),())=some (Wi (n*2^k%2^128),()):=by
 show wE (Wi n) k=_;unfold wE;rcases cg k with rfl|hk
 ·have e:n*2^0%2^128=n:=by rw[iv,gx,ce hn]
  rw[e];rfl
 rw[aIP k hk,ab];rcases bc k 128 with h128|h128
 ·rw[show decide ((k:Int)>=128)=false from af (by omega),ab];have hlo:(n%2^64)<2^64:=cn _ (by decide);have hhi:n/2^64<2^64:=by omega
  have hsplit:n=2^64*(n/2^64)+n%2^64:=(df n (2^64)).symm;rcases bc k 64 with h64|h64
  ·have e8:al .i64 (64-(k:Int))=((64-k:Nat):Int):=EN 64 k (by omega) (by omega);rw[show decide ((k:Int)>=64)=false from af (by omega),ab,AF,aa,e8,AF,aa,aa];show some ((Ao .u64 (Bk .u64 ((n/2^64:Nat):Int) k) (AR .u64 ((n%2^64:Nat):Int) ((64-k:Nat):Int)),(Bk .u64 ((n%2^64:Nat):Int) k,())),())=_;rw[H7 _ k (by omega),H7 _ k (by omega),DT _ (64-k) (by omega)];have hp:=au k;have hp2:=au (64-k);have h2:2^64=2^(64-k)*2^k:=by rw[←ca];congr 1;omega
   generalize n/2^64=hi at *
   generalize n%2^64=lo at *
   have g1:hi*2^k%2^64=(hi%2^(64-k))*2^k:=by rw[h2,gk]
   have g2:lo/2^(64-k)<2^k:=by rw[cj hp2,bt,←h2];exact hlo
   have g3:hi%2^(64-k)+1<=2^(64-k):=cn _ hp2;have g4:=bh (2^k) g3;rw[←h2,cu,go]at g4;have hor:Ao .u64 ((hi*2^k%2^64:Nat):Int) ((lo/2^(64-k):Nat):Int)=((lo/2^(64-k)+(hi%2^(64-k))*2^k:Nat):Int):=by
    have:=PO g2 (b:=hi%2^(64-k)) (by omega);rw[g1];have hc:∀a b:Nat,a<2^64->b<2^64->Ao .u64 (a:Int) (b:Int)=Ao .u64 (b:Int) (a:Int):=fun a b ha hb=>by
     rw[iP ha hb,iP hb ha,rk]
    rw[hc _ _ (by omega) (by omega)];exact this
   rw[hor];have hdm:=df lo (2^(64-k));have v1:n*2^k=2^64*(hi*2^k+lo/2^(64-k))+lo*2^k%2^64:=by
    have g5:lo*2^k%2^64=(lo%2^(64-k))*2^k:=by rw[h2,gk]
    have g6:2^64*(lo/2^(64-k))=2^(64-k)*(lo/2^(64-k))*2^k:=by
     rw[kg,←h2]
    rw[hsplit,cu,ck,bu,io,g6,g5,←cu,hdm]
   have v2:n*2^k%2^128=2^64*(lo/2^(64-k)+(hi%2^(64-k))*2^k)+lo*2^k%2^64:=by
    rw[v1];have hlo2:lo*2^k%2^64<2^64:=cn _ (by decide);exact aYt (aYs g1 g2 g4) hlo2
   have hlo2:lo*2^k%2^64<2^64:=cn _ (by decide);have e1:n*2^k%2^128/2^64=lo/2^(64-k)+(hi%2^(64-k))*2^k:=by rw[v2];omega
   have e2:n*2^k%2^128%2^64=lo*2^k%2^64:=by rw[v2];omega
   unfold Wi;rw[e1,e2]
  ·have e8:al .i64 ((k:Int)-64)=((k-64:Nat):Int):=EN k 64 (by omega) (by omega);rw[show decide ((k:Int)>=64)=true from ae (by omega),aa,e8,AF,aa];show some ((Bk .u64 ((n%2^64:Nat):Int) ((k-64:Nat):Int),((0:Int),())),())=_;rw[H7 _ (k-64) (by omega)];have v1:n*2^k%2^128=2^64*(n%2^64*2^(k-64)%2^64):=by
    have h2:2^k=2^(k-64)*2^64:=by rw[←ca];congr 1;omega
    rw[h2,←bu,show 2^128=2^64*2^64 by decide,gk,bt _ (2^64),rn n (2^(k-64)),rn (n%2^64) (2^(k-64)),rm]
   have e1:n*2^k%2^128/2^64=n%2^64*2^(k-64)%2^64:=by rw[v1];omega
   have e2:n*2^k%2^128%2^64=0:=by rw[v1];omega
   unfold Wi;rw[e1,e2];rfl
 ·rw[show decide ((k:Int)>=128)=true from ae (by omega),aa];have e:n*2^k%2^128=0:=by
   rw[show k=(k-128)+128 by omega,ca,←bu];exact mu _ _
  rw[e];rfl
theorem aVO(n k:Nat)(hn:n<2^128):bQ (Wi n,(k:Int),())=some (Wi (n/2^k),()):=by
 show wF (Wi n) k=_;unfold wF;rcases cg k with rfl|hk
 ·have e:n/2^0=n:=by rw[iv,Nat.div_one]
  rw[e];rfl
 rw[aIP k hk,ab];rcases bc k 128 with h128|h128
 ·rw[show decide ((k:Int)>=128)=false from af (by omega),ab];have hlo:(n%2^64)<2^64:=cn _ (by decide);have hhi:n/2^64<2^64:=by omega
  rcases bc k 64 with h64|h64
  ·have e8:al .i64 (64-(k:Int))=((64-k:Nat):Int):=EN 64 k (by omega) (by omega);rw[show decide ((k:Int)>=64)=false from af (by omega),ab,AF,aa,e8,AF,aa,aa];show some ((AR .u64 ((n/2^64:Nat):Int) k,(Ao .u64 (AR .u64 ((n%2^64:Nat):Int) k) (Bk .u64 ((n/2^64:Nat):Int) ((64-k:Nat):Int)),())),())=_;rw[H7 _ (64-k) (by omega),DT _ k (by omega),DT _ k (by omega)];have hp:=au k;have hp2:=au (64-k);have h2:2^64=2^k*2^(64-k):=by rw[←ca];congr 1;omega
   have hsplit:n=2^64*(n/2^64)+n%2^64:=(df n (2^64)).symm;generalize n/2^64=hi at *
   generalize n%2^64=lo at *
   have g1:hi*2^(64-k)%2^64=(hi%2^k)*2^(64-k):=by rw[h2,gk]
   have g2:lo/2^k<2^(64-k):=by rw[cj hp,bt,←h2];exact hlo
   have g3:hi%2^k+1<=2^k:=cn _ hp;have g4:=bh (2^(64-k)) g3;rw[←h2,cu,go]at g4;rw[g1,PO g2 (by omega)];have v1:n/2^k=hi*2^(64-k)+lo/2^k:=by
    have:n=lo+2^k*(hi*2^(64-k)):=by rw[hsplit,h2,bu,bt hi];omega
    rw[this,fj _ _ hp,jc]
   have hdm:=df hi (2^k);have v2:hi*2^(64-k)=2^64*(hi/2^k)+(hi%2^k)*2^(64-k):=by
    rw[h2,kg,←cu,hdm]
   rw[v2]at v1;obtain⟨e1,e2⟩:=aYu v1 g2 g4;unfold Wi;rw[e1,e2]
  ·have e8:al .i64 ((k:Int)-64)=((k-64:Nat):Int):=EN k 64 (by omega) (by omega);rw[show decide ((k:Int)>=64)=true from ae (by omega),aa,e8,AF,aa];show some (((0:Int),(AR .u64 ((n/2^64:Nat):Int) ((k-64:Nat):Int),())),())=_;rw[DT _ (k-64) (by omega)];have v1:n/2^k=n/2^64/2^(k-64):=by
    rw[fd,←ca];congr 2;omega
   have hs:n/2^k<2^64:=by
    rw[v1];exact bv (ga _ _) hhi
   have e1:n/2^k/2^64=0:=dc hs;have e2:n/2^k%2^64=n/2^64/2^(k-64):=by rw[←v1];exact ce hs
   unfold Wi;rw[e1,e2];rfl
 ·rw[show decide ((k:Int)>=128)=true from ae (by omega),aa];have e:n/2^k=0:=dc (az hn (ax (by decide) h128));rw[e];rfl
theorem Yc(x y c:Nat):AD.F ((x:Int),((y:Int),((c:Int),())))=(((((x+y+c)%2^64:Nat):Int)),((((x+y+c)/2^64:Nat):Int)),()):=rfl
theorem Yd(x y:Int)(c:Nat)(h:c<=1):AD.pre (x,(y,((c:Int),())))=true:=by
 show(decide ((0:Int)<=(c:Int))&&decide ((c:Int)<=1))=true;rw[ae (by omega),ae (by omega)];rfl
theorem i6(x y c:Nat)(h:c<=1)(hx:x<2^64)(hy:y<2^64):BI.F ((x:Int),((y:Int),((c:Int),())))=(((((x+2^64-y-c)%2^64:Nat):Int)),((if x<y+c then 1 else 0:Nat):Int),()):=by
 show((((x:Int)-y-c)%18446744073709551616:Int),((if(x:Int)<y+c then 1 else 0:Int)),())=_;have e1:((x:Int)-y-c)%18446744073709551616=((x+2^64-y-c)%2^64:Nat):=by omega
 rw[e1];by_cases h:x<y+c
 ·rw[ah h,ah (by omega)];rfl
 ·rw[ag h,ag (by omega)];rfl
theorem i7(x y:Int)(c:Nat)(h:c<=1):BI.pre (x,(y,((c:Int),())))=true:=by
 show(decide ((0:Int)<=(c:Int))&&decide ((c:Int)<=1))=true;rw[ae (by omega),ae (by omega)];rfl
theorem aVP(n m:Nat)(h:n+m<2^128):nC (Wi n,Wi m,())=some (Wi (n+m),0,()):=by
 show wG AD.pre AD.F (Wi n) (Wi m)=_;unfold wG;have c1:(n%2^64+m%2^64+0)/2^64<=1:=by omega
 have p1:AD.pre ((Wi n).2.1,((Wi m).2.1,((0:Int),())))=true:=Yd _ _ 0 (by decide);have q1:AD.F ((Wi n).2.1,((Wi m).2.1,((0:Int),())))=_:=Yc (n%2^64) (m%2^64) 0;rw[p1,q1,aa];have p2:AD.pre ((Wi n).1,((Wi m).1,((((n%2^64+m%2^64+0)/2^64:Nat):Int),())))=true:=Yd _ _ _ c1;have q2:AD.F ((Wi n).1,((Wi m).1,((((n%2^64+m%2^64+0)/2^64:Nat):Int),())))=_:=Yc (n/2^64) (m/2^64) ((n%2^64+m%2^64+0)/2^64);dsimp only;rw[p2,q2,aa];have e1:(n/2^64+m/2^64+(n%2^64+m%2^64+0)/2^64)%2^64=(n+m)/2^64:=by omega
 have e2:(n%2^64+m%2^64+0)%2^64=(n+m)%2^64:=by omega
 have e3:(n/2^64+m/2^64+(n%2^64+m%2^64+0)/2^64)/2^64=0:=by omega
 rw[e1,e2,e3];rfl
theorem aA2(n m:Nat)(hn:n<2^128)(h:m<=n):nF (Wi n,Wi m,())=some (Wi (n-m),0,()):=by
 show wJ BI.pre BI.F (Wi n) (Wi m)=_;unfold wJ;have p1:BI.pre ((Wi n).2.1,((Wi m).2.1,((0:Int),())))=true:=i7 _ _ 0 (by decide);have q1:BI.F ((Wi n).2.1,((Wi m).2.1,((0:Int),())))=_:=i6 (n%2^64) (m%2^64) 0 (by decide) (by omega) (by omega);rw[p1,q1,aa];have c1:(if n%2^64<m%2^64+0 then 1 else 0)<=1:=by split<;>omega
 have p2:BI.pre ((Wi n).1,((Wi m).1,(((if n%2^64<m%2^64+0 then 1 else 0:Nat):Int),())))=true:=i7 _ _ _ c1;have q2:BI.F ((Wi n).1,((Wi m).1,(((if n%2^64<m%2^64+0 then 1 else 0:Nat):Int),())))=_:=i6 (n/2^64) (m/2^64) _ c1 (by omega) (by omega);dsimp only;rw[p2,q2,aa];have e2:(n%2^64+2^64-m%2^64-0)%2^64=(n-m)%2^64:=by omega
 rw[e2];by_cases hb:n%2^64<m%2^64+0
 ·rw[ah hb,ag (by omega)];have e1:(n/2^64+2^64-m/2^64-1)%2^64=(n-m)/2^64:=by omega
  rw[e1];rfl
 ·rw[ag hb,ag (by omega)];have e1:(n/2^64+2^64-m/2^64-0)%2^64=(n-m)/2^64:=by omega
  rw[e1];rfl
theorem aVQ(n m:Nat):nE (Wi n,Wi m,())=some (if n=m then 0 else if n<m then -1 else 1,()):=by
 show wI (Wi n) (Wi m)=_;unfold wI;show(bif(((n/2^64:Nat):Int)==((m/2^64:Nat):Int)&&((n%2^64:Nat):Int)==((m%2^64:Nat):Int))then some ((0:Int),())
  else bif(decide (((n/2^64:Nat):Int)<((m/2^64:Nat):Int))||(((n/2^64:Nat):Int)==((m/2^64:Nat):Int)&&decide (((n%2^64:Nat):Int)<((m%2^64:Nat):Int))))then some ((-1:Int),())else some ((1:Int),()):Option (Int×Unit))=_
 rw[LP,LP,nlt,nlt];rcases gd n m with h|h|h
 ·have e1:(n/2^64==m/2^64&&n%2^64==m%2^64)=false:=by
   rw[mp,beq_eq_false_iff_ne,beq_eq_false_iff_ne];omega
  have e2:(decide (n/2^64<m/2^64)||(n/2^64==m/2^64&&decide (n%2^64<m%2^64)))=true:=by
   rw[fh,ar,ai,ai,beq_iff_eq];omega
  rw[e1,e2,ag (by omega),ah h];rfl
 ·subst h;rw[ah rfl];simp
 ·have e1:(n/2^64==m/2^64&&n%2^64==m%2^64)=false:=by
   rw[mp,beq_eq_false_iff_ne,beq_eq_false_iff_ne];omega
  have e2:(decide (n/2^64<m/2^64)||(n/2^64==m/2^64&&decide (n%2^64<m%2^64)))=false:=by
   rw[Bool.or_eq_false_iff,mp,decide_eq_false_iff_not,decide_eq_false_iff_not,beq_eq_false_iff_ne];omega
  rw[e1,e2,ag (by omega),ag (by omega)];rfl
end VL
namespace VL
open Go Vx
def Df(m:Int)(neg odd:Bool)(rest:Nat):Bool:=if m=4 then neg else if m=3 then !neg else if m=0 then(if rest=2 then odd else decide (2<=rest))else if m=1 then decide (2<=rest)else if m=5 then !odd else false
theorem Wz(a b:Int)(h:a≠b):(a==b)=false:=by simp[h]
theorem XF(m:Int)(neg odd:Bool)(rest:Nat):XE (m,neg,odd,(rest:Int),())=some (Df m neg odd rest,()):=by
 show xH m neg odd (rest:Int)=_;have e2:decide ((rest:Int)>=2)=decide (2<=rest):=by rw[gj,ai,ai];omega
 have e3:((rest:Int)==2)=decide (rest=2):=by rw[gj,ai,beq_iff_eq];omega
 unfold xH Df;rw[e2,e3];by_cases h4:m=4
 ·subst h4;cases neg<;>rfl
 rw[Wz m 4 h4,ab,ag h4];by_cases h3:m=3
 ·subst h3;rfl
 rw[Wz m 3 h3,ab,ag h3];by_cases h0:m=0
 ·subst h0;by_cases hr:rest=2
  ·subst hr;rfl
  ·rw[af hr,ah rfl,ag hr];rfl
 rw[Wz m 0 h0,ab,ag h0];by_cases h1:m=1
 ·subst h1;rfl
 rw[Wz m 1 h1,ab,ag h1];by_cases h5:m=5
 ·subst h5;rfl
 rw[Wz m 5 h5,ab,ag h5]
def Hb(n:Nat)(e q:Int):Nat:=if q<=e then n*2^(e-q).toNat else n/2^(q-e).toNat
def B5(r s:Nat):Nat:=if r=0 then 0 else if r<2^(s-1)then 1 else if r=2^(s-1)then 2 else 3
def Vl(n:Nat)(e q:Int):Nat:=if q<=e then 0 else B5 (n%2^(q-e).toNat) (q-e).toNat
def j4(n:Nat)(e q:Int):Nat:=if 2<=q-e then PK n (q-e-2).toNat else n*2^(2-(q-e)).toNat
theorem bA2(n:Nat)(e q:Int):j4 n e q/4=Hb n e q/\j4 n e q%4=Vl n e q:=by
 unfold j4 Hb Vl;by_cases h2:2<=q-e
 ·rw[ah h2,ag (by omega),ag (by omega)];have es:(q-e).toNat=(q-e-2).toNat+2:=by omega
  rw[es];generalize(q-e-2).toNat=s;have hp:=au s;have e1:2^(s+2)=2^s*4:=by rw[ca]
  have e2:2^(s+2-1)=2^s*2:=by rw[show s+2-1=s+1 by omega,fm]
  unfold PK B5;rw[e2,e1,←fd,nj];have hr:=cn n hp;generalize n%2^s=r at *
  generalize n/2^s=u at *
  have h4:u%4=0∨u%4=1∨u%4=2∨u%4=3:=by omega
  constructor
  ·split<;>omega
  ·rcases h4 with h|h|h|h<;>rw[h]<;>by_cases hz:r=0
   ·rw[ah hz,ah (by omega)];exact h
   ·rw[ag hz,ag (by omega),ah (by omega)];omega
   ·rw[ah hz,ag (by omega),ah (by omega)];exact h
   ·rw[ag hz,ag (by omega),ah (by omega)];omega
   ·rw[ah hz,ag (by omega),ag (by omega),ah (by omega)];exact h
   ·rw[ag hz,ag (by omega),ag (by omega),ag (by omega)];omega
   ·rw[ah hz,ag (by omega),ag (by omega),ag (by omega)];exact h
   ·rw[ag hz,ag (by omega),ag (by omega),ag (by omega)];omega
 ·rw[ag h2];by_cases h1:q<=e
  ·rw[ah h1,ah h1,show(2-(q-e)).toNat=(e-q).toNat+2 by omega,ca,←bu];generalize n*2^(e-q).toNat=x;omega
  ·rw[ag h1,ag h1,show(2-(q-e)).toNat=1 by omega,show(q-e).toNat=1 by omega];unfold B5;rcases ka n with h|h
   ·rw[show n%2^1=0 from h,ah rfl];omega
   ·rw[show n%2^1=1 from h,ag (by omega),ag (by decide),ah (by decide)];omega
def Dm(n:Nat)(e q:Int)(more:Bool):Nat:=if more then Vl n e q/2*2+1 else Vl n e q
def BF(m:Int)(neg:Bool)(n:Nat)(e q:Int)(more:Bool):Nat:=if Dm n e q more≠0/\Df m neg (decide (Hb n e q%2=1)) (Dm n e q more)=true then Hb n e q+1 else Hb n e q
theorem Fl:Dw 0=[]:=by unfold Dw;rw[D5];rfl
theorem kN{n:Nat}(h:n≠0):0<(Dw n).length:=by
 unfold Dw;rw[Ay,Ez (by decide) (by omega)];simp
theorem L9{n:Nat}(h:n≠0):decide ((((Dw n).length:Nat):Int)>0)=true:=ae (by have:=kN h;omega)
theorem Xk{n:Nat}(h:n≠0):decide ((0:Int)<(((Dw n).length:Nat):Int))=true:=ae (by have:=kN h;omega)
theorem P0(n:Nat):(Dw n).getD 0 0=((n%2^64:Nat):Int):=by
 unfold Dw;rw[BM];rcases cg n with rfl|h
 ·rw[D5];rfl
 ·rw[Ez (by decide) h];rfl
theorem aTc:Dw 1=(1:Int)::[]:=by
 unfold Dw;rw[Ez (by decide) (by decide),D5];rfl
theorem P1(n:Nat):(decide ((0:Int)<(((Dw n).length:Nat):Int))||!decide ((((Dw n).length:Nat):Int)>0))=true:=by
 by_cases h:0<(Dw n).length
 ·rw[ae (by omega)];rfl
 ·rw[af (p:=(((Dw n).length:Nat):Int)>0) (by omega)];simp
theorem sW(n:Nat):BR .u64 ((n%2^64:Nat):Int) 3=((n%4:Nat):Int):=by
 have:=UX (m:=n%2^64) (n:=2) (cn _ (by decide)) (by decide);rw[show n%2^64%2^2=n%4 by omega]at this;exact this
theorem aYl(n:Nat):BR .u64 ((n%2^64:Nat):Int) 1=((n%2:Nat):Int):=by
 have:=UX (m:=n%2^64) (n:=1) (cn _ (by decide)) (by decide);rw[show n%2^64%2^1=n%2 by omega]at this;exact this
theorem or1(n:Nat)(h:n<2^64):Ao .u64 (n:Int) 1=((n/2*2+1:Nat):Int):=by
 have:=iP (a:=n) (b:=1) h (by decide);rw[aP6]at this;exact this
theorem aP4:Ao .u64 0 1=1:=by decide
theorem ZQ(u:Nat):(decide ((((Dw u).length:Nat):Int)>0)&&(BR .u64 ((Dw u).getD 0 0) 1==1))=decide (u%2=1):=by
 rw[P0,aYl];rcases cg u with rfl|h
 ·rw[Fl];rfl
 ·rw[L9 (by omega),bl,gj,ai,beq_iff_eq];omega
theorem Eb{n:Nat}(h:n<(2^64)^5000):Ws (dg (2^64) n):=by
 have:=Eg (B:=2^64) (by decide) 5000 n h;exact aZV n (by omega)
theorem C4(n:Nat):nv (2^64) (dg (2^64) n)=n:=iM (by decide) n
theorem aQ0{j:Nat}(hj:Ws (dg (2^64) j)):VF (Dw j,(2:Int),())=some (Dw (j/4),0,()):=by
 have:=aVX (dg (2^64) j) hj 2 (by decide);rw[C4]at this;exact this
theorem aL0{u:Nat}(hu:Ws (dg (2^64) u))(hl:(dg (2^64) u).length<1000000):XB (Dw u,((1:Int)::[]),())=some (Dw (u+1),()):=by
 have:=aGX (dg (2^64) u) [1] hu ⟨by simp,by simp⟩ (by rw[Pp (by decide)];exact hl) (by simp[Am]);rw[C4,show nv (2^64) [1]=1 by rfl]at this;exact this
end VL
namespace VL
open Go Vx
theorem uK:decide ((0:Int)>0)=false:=rfl
theorem aV2(m:Int)(neg:Bool)(n:Nat)(e q:Int)(more:Bool)(hn:n<(2^64)^2000)(hq:q-e<=10000000)(he:-1000000000<=e/\e<=1000000000)(hqb:-1000000000<=q/\q<=1000000000)
  (hs:q-e<2->2-(q-e)<=65536/\n*2^(2-(q-e)).toNat<(2^64)^1024) :
  bX ((neg,Dw n,e,more,()),m,q,())=some (Dw (BF m neg n e q more),decide (Dm n e q more≠0),()):=by
 show wZ _ _ _ _ _ _ _ _ _ _ (neg,Dw n,e,more,()) m q=_;unfold wZ;have hnw:Ws (dg (2^64) n):=Eb (gl hn (ct (by decide) (by decide)));have e0:al .i64 (q-e)=q-e:=Au (by omega);have hj4:=bA2 n e q;dsimp only;rw[e0];by_cases h2:2<=q-e
 ·rw[show decide (q-e>=2)=true from ae h2,aa];obtain⟨s,hs⟩:=cv (show 0<=q-e-2 by omega);have e1:al .i64 (q-e-2)=(s:Int):=by rw[Au (by omega)];exact hs
  have hj:j4 n e q=PK n s:=by unfold j4;rw[ah h2];congr 1;omega
  rw[hj]at hj4;have hjn:PK n s<=n+1:=by
   unfold PK;have:=ga n (2^s);split<;>omega
  have p0:=aV9 (dg (2^64) n) hnw s (by omega);rw[C4]at p0;have hjl:PK n s<(2^64)^5000:=by
   have h1:(2^64)^2000<(2^64)^5000:=ct (by decide) (by decide);generalize(2^64)^2000=A at *
   generalize(2^64)^5000=B at *
   omega
  clear hj;generalize PK n s=j at *
  have hj:Ws (dg (2^64) j):=Eb hjl;rw[e1];have p0:cB (Dw n,(s:Int),())=some (Dw j,0,()):=p0;have p1:=aQ0 hj;have hu:Ws (dg (2^64) (j/4)):=Eb (bv (ga _ _) hjl);have hul:=Eg (B:=2^64) (by decide) 5000 (j/4) (bv (ga _ _) hjl);have p3:=aL0 hu (by omega);have h4:j%4<4:=cn _ (by decide);unfold BF Dm;rw[←hj4.1,←hj4.2];rcases cg j with hj0|hj0
  ·subst hj0;have pz:VF ([],(2:Int),())=some (Dw (0/4),0,()):=by rw[←Fl];exact p1
   cases more with
   |true=>
    have p2:XE (m,neg,decide (0/4%2=1),(1:Int),())=some (Df m neg (decide (0/4%2=1)) 1,()):=XF m neg _ 1;simp only[tC p0,aa,Fl,ee,AV,jf,ab,bb,uK,aP4,U1 pz,P1,ZQ,Yk p2,bg,bo,bl];cases hf:Df m neg (decide (0/4%2=1)) 1 with
    |true=>simp only[aa,Ph p3];have hf:Df m neg false 1=true:=hf;simp[hf]
    |false=>simp only[ab];have hf:Df m neg false 1=false:=hf;simp[hf]
   |false=>
    simp only[tC p0,aa,Fl,ee,jf,ab,bb,uK,U1 pz,P1,bo];simp
  ·have hjn:j≠0:=by omega
   cases more with
   |true=>
    have p2:=XF m neg (decide (j/4%2=1)) (j%4/2*2+1);have hr:j%4/2*2+1≠0:=by omega
    simp only[tC p0,aa,L9 hjn,Xk hjn,bb,P0 j,sW,or1 (j%4) (by omega),U1 p1,P1,ZQ,Yk p2,bg,bo,AO _ hr,bl];cases hf:Df m neg (decide (j/4%2=1)) (j%4/2*2+1)with
    |true=>simp only[aa,Ph p3];simp[hf]
    |false=>simp only[ab];simp[hf]
   |false=>
    have p2:=XF m neg (decide (j/4%2=1)) (j%4);simp only[tC p0,aa,ab,L9 hjn,Xk hjn,bb,P0 j,sW,U1 p1,P1,ZQ,Yk p2,bg,bo];rcases cg (j%4)with hz|hz
    ·rw[AU _ hz,ay,ab];simp[hz]
    ·have hr:j%4≠0:=by omega
     rw[AO _ hr,bl];cases hf:Df m neg (decide (j/4%2=1)) (j%4)with
     |true=>simp only[aa,Ph p3];simp[hf,hr]
     |false=>simp only[ab];simp[hf,hr]
 ·rw[show decide (q-e>=2)=false from af h2,ab];obtain⟨s,hse⟩:=cv (show 0<=2-(q-e) by omega);have e1:al .i64 (2-(q-e))=(s:Int):=by rw[Au (by omega)];exact hse
  have hj:j4 n e q=n*2^s:=by unfold j4;rw[ag h2];congr 2;omega
  rw[hj]at hj4;obtain⟨hs1,hs2⟩:=hs (by omega);rw[show(2-(q-e)).toNat=s by omega]at hs2;have p0:=aG5 (dg (2^64) n) hnw s (by omega) (by rw[C4];exact hs2);rw[C4]at p0;have hjl:n*2^s<(2^64)^5000:=gl hs2 (ct (by decide) (by decide));clear hj;generalize n*2^s=j at *
  have hj:Ws (dg (2^64) j):=Eb hjl;rw[e1];have p0:XD (Dw n,(s:Int),())=some (Dw j,0,()):=p0;have p1:=aQ0 hj;have hu:Ws (dg (2^64) (j/4)):=Eb (bv (ga _ _) hjl);have hul:=Eg (B:=2^64) (by decide) 5000 (j/4) (bv (ga _ _) hjl);have p3:=aL0 hu (by omega);have h4:j%4<4:=cn _ (by decide);unfold BF Dm;rw[←hj4.1,←hj4.2];rcases cg j with hj0|hj0
  ·subst hj0;have pz:VF ([],(2:Int),())=some (Dw (0/4),0,()):=by rw[←Fl];exact p1
   cases more with
   |true=>
    have p2:XE (m,neg,decide (0/4%2=1),(1:Int),())=some (Df m neg (decide (0/4%2=1)) 1,()):=XF m neg _ 1;simp only[fS p0,aa,Fl,ee,AV,jf,ab,bb,uK,aP4,U1 pz,P1,ZQ,Yk p2,bg,bo,bl];cases hf:Df m neg (decide (0/4%2=1)) 1 with
    |true=>simp only[aa,Ph p3];have hf:Df m neg false 1=true:=hf;simp[hf]
    |false=>simp only[ab];have hf:Df m neg false 1=false:=hf;simp[hf]
   |false=>
    simp only[fS p0,aa,Fl,ee,jf,ab,bb,uK,U1 pz,P1,bo];simp
  ·have hjn:j≠0:=by omega
   cases more with
   |true=>
    have p2:=XF m neg (decide (j/4%2=1)) (j%4/2*2+1);have hr:j%4/2*2+1≠0:=by omega
    simp only[fS p0,aa,L9 hjn,Xk hjn,bb,P0 j,sW,or1 (j%4) (by omega),U1 p1,P1,ZQ,Yk p2,bg,bo,AO _ hr,bl];cases hf:Df m neg (decide (j/4%2=1)) (j%4/2*2+1)with
    |true=>simp only[aa,Ph p3];simp[hf]
    |false=>simp only[ab];simp[hf]
   |false=>
    have p2:=XF m neg (decide (j/4%2=1)) (j%4);simp only[fS p0,aa,ab,L9 hjn,Xk hjn,bb,P0 j,sW,U1 p1,P1,ZQ,Yk p2,bg,bo];rcases cg (j%4)with hz|hz
    ·rw[AU _ hz,ay,ab];simp[hz]
    ·have hr:j%4≠0:=by omega
     rw[AO _ hr,bl];cases hf:Df m neg (decide (j/4%2=1)) (j%4)with
     |true=>simp only[aa,Ph p3];simp[hf,hr]
     |false=>simp only[ab];simp[hf,hr]
end VL
namespace VL
open Go Vx
def Bu(f:Int)(neg:Bool):Nat:=if neg then 2^(fW f-1)else 0
def Dp(f:Int)(neg:Bool):Nat:=(2^(fW f-fP f)-1)*2^(fP f-1)+Bu f neg
def J3(m:Int)(neg:Bool):Bool:=((m==0||m==1)||(m==3&&!neg))||(m==4&&neg)
def UY(f m:Int)(neg:Bool):Nat:=if J3 m neg then Dp f neg else Dp f neg-1
theorem aBl{f:Int}(h:Fm f)(neg:Bool):XR (f,neg,())=some ((Dp f neg:Int),0,()):=by
 rcases CB h with rfl|rfl|rfl|rfl<;>cases neg<;>kernel_rfl
theorem aWw{f:Int}(h:Fm f)(neg:Bool):cP (f,neg,())=some (((Dp f neg-1:Nat):Int),0,()):=by
 rcases CB h with rfl|rfl|rfl|rfl<;>cases neg<;>kernel_rfl
theorem bP{f:Int}(h:Fm f)(neg:Bool):nB (f,neg,())=some ((Bu f neg:Int),0,()):=by
 rcases CB h with rfl|rfl|rfl|rfl<;>cases neg<;>kernel_rfl
theorem aV1{f:Int}(h:Fm f)(m:Int)(neg:Bool):nO (f,m,neg,())=some ((UY f m neg:Int),()):=by
 show wY CM.pre CM.F Lc.pre Lc.F f m neg=_;have p0:=aBl h neg;have p1:=aWw h neg;unfold wY UY;show(bif J3 m neg then(bif CM.pre (f,neg,())then some ((CM.F (f,neg,())).1,())else none)else(bif Lc.pre (f,neg,())then some ((Lc.F (f,neg,())).1,())else none))=_;rw[bC3 p0,bAN p0,bCZ p1,bAJ p1];cases J3 m neg<;>rfl
def Az(n:Nat)(e:Int):Int:=e+(Af n:Int)-1
theorem Db{n k:Nat}(h:n<2^k):Af n<=k:=by
 rcases cg n with rfl|hn
 ·exact dv _
 ·have:=Pg (n:=n) (by omega);have:Af n-1<k:=(dk (a:=2) (by decide)).1 (bv this h);omega
theorem fL{n:Nat}(h:n≠0):1<=Af n:=by unfold Af;rw[ag h];omega
theorem sY{n:Nat}(h:n<(2^64)^2000):Af n<=128000:=by
 apply Db;rw[DS]at h;exact h
theorem VG{n:Nat}(h:n<(2^64)^5000):bY (Dw n,())=some ((Af n:Int),()):=by
 have:=aV3 _ (Eb h);rw[C4]at this;exact this
theorem aO1{n:Nat}(h:n<(2^64)^2000):n<(2^64)^5000:=gl h (ct (by decide) (by decide))
theorem aV0(neg:Bool)(n:Nat)(e:Int)(more:Bool)(hn:n<(2^64)^2000)(he:-1000000<=e/\e<=1000000):nN ((neg,Dw n,e,more,()),())=some (Az n e,()):=by
 show wX Ck.pre Ck.F (neg,Dw n,e,more,())=_;unfold wX;have p0:=VG (aO1 hn);have hb:=sY hn;simp only[Wf p0,aa];rw[Au (n:=e+(Af n:Int)) (by omega),Au (by omega)];rfl
theorem bDb{n:Nat}{e q:Int}{p:Nat}(h:Az n e-p+1<=q):Hb n e q<2^p:=by
 unfold Az at h;unfold Hb;have hb:=G2 n;by_cases hq:q<=e
 ·rw[ah hq];have h1:n*2^(e-q).toNat<2^Af n*2^(e-q).toNat:=dl hb (au _);rw[←ca]at h1;exact az h1 (ax (by decide) (by omega))
 ·rw[ag hq,cj (au _),←ca];exact az hb (ax (by decide) (by omega))
theorem aDs{m:Int}{neg:Bool}{n:Nat}{e q:Int}{more:Bool}{p:Nat}(h:Az n e-p+1<=q):BF m neg n e q more<=2^p:=by
 have:=bDb h;unfold BF;split<;>omega
theorem aGY(m:Int)(neg:Bool)(n:Nat)(e q:Int)(more:Bool)(hn:n<(2^64)^2000)(he:-1000000<=e/\e<=1000000){p:Nat}(hp:p<=60)(h1:Az n e-p+1<=q)(h2:q<=Az n e∨q<=1000):
  bX ((neg,Dw n,e,more,()),m,q,())=some (Dw (BF m neg n e q more),decide (Dm n e q more≠0),()):=by
 have hb:=sY hn;unfold Az at h1 h2;refine aV2 m neg n e q more hn (by omega) (by omega) (by omega) fun hs=>?_;refine⟨by omega,?_⟩;have hl:=G2 n;have h3:n*2^(2-(q-e)).toNat<2^Af n*2^(2-(q-e)).toNat:=dl hl (au _);rw[←ca]at h3;rw[DS];exact az h3 (ax (by decide) (by omega))
theorem aV4(neg:Bool)(n:Nat)(e:Int)(more:Bool)(f m:Int)(hf:Fm f)(hn:n<(2^64)^2000)(he:-1000000<=e/\e<=1000000):
  nP ((neg,Dw n,e,more,()),Cy f,m,Az n e,())=some (decide (Az n e<1-(fX f:Int)/\Az n e-fP f+Af (BF m neg n e (Az n e-fP f+1) more)<1-(fX f:Int)),()):=by
 show w6 Jp.pre Jp.F Ck.pre Ck.F (neg,Dw n,e,more,()) ((fW f:Int),((fP f:Int),((1-(fX f:Int)),((fX f:Int),())))) m (Az n e)=_;unfold w6;have hb:=sY hn;have hp:=D7 hf;have hw:=EG hf;have hx:=LJ hf;have hp8:=CZ hf;have ht:Az n e=e+(Af n:Int)-1:=rfl;have p0:=aGY m neg n e (Az n e-fP f+1) more hn he (p:=fP f) (by omega) (by omega) (by omega);have hc:=aDs (m:=m) (neg:=neg) (more:=more) (n:=n) (e:=e) (q:=Az n e-fP f+1) (p:=fP f) (by omega);generalize BF m neg n e (Az n e-fP f+1) more=u at *
 have hu:u<(2^64)^5000:=by
  rw[DS];exact bv hc (ct (by decide) (by omega))
 have hub:Af u<=fP f+1:=Db (bv hc (ct (by decide) (by omega)));have p1:=VG hu;have e1:al .i64 (Az n e-(fP f:Int))=Az n e-(fP f:Int):=Au (by omega);have e2:al .i64 (Az n e-(fP f:Int)+1)=Az n e-(fP f:Int)+1:=Au (by omega);have e3:al .i64 (Az n e-(fP f:Int)+(Af u:Int))=Az n e-(fP f:Int)+(Af u:Int):=Au (by omega);dsimp only;rw[e1,e2];by_cases h:Az n e>=1-(fX f:Int)
 ·rw[ae h,aa,af (by omega)]
 ·rw[af h,ab];simp only[aMz p0,aa,Wf p1,e3];have:(Az n e<1-(fX f:Int)):=by omega
  simp only[this,true_and]
end VL
namespace VL
open Go Vx
def BY(f:Int)(t:Int):Int:=(if 1-(fX f:Int)>t then 1-(fX f:Int)else t)-fP f+1
def D9(f m:Int)(neg:Bool)(n:Nat)(e:Int)(more:Bool):Prop:=Az n e<1-(fX f:Int)/\Az n e-fP f+Af (BF m neg n e (Az n e-fP f+1) more)<1-(fX f:Int)
instance (f m:Int) (neg:Bool) (n:Nat) (e:Int) (more:Bool):Decidable (D9 f m neg n e more):=by unfold D9;infer_instance
def AT(f m:Int)(neg:Bool)(n:Nat)(e:Int)(more:Bool):Nat×Nat:=
 if Az n e>fX f then(UY f m neg,20)
 else
  let q:=BY f (Az n e)
  let u:=BF m neg n e q more
  if q+Af u-1>fX f then(UY f m neg,20)
  else((q-(1-(fX f:Int)-fP f+1)).toNat*2^(fP f-1)+u+Bu f neg,
   if Dm n e q more=0 then 0 else if D9 f m neg n e more then 24 else 16)
theorem aOE{f:Int}(hf:Fm f):(2*fX f-1)*2^(fP f-1)+2^fP f+2^(fP f-1)=2^(fW f-1):=by
 rcases CB hf with rfl|rfl|rfl|rfl<;>decide
theorem JL{f:Int}(hf:Fm f):15<=fX f:=by
 rcases CB hf with rfl|rfl|rfl|rfl<;>decide
theorem aGK(neg:Bool)(n:Nat)(e:Int)(more:Bool)(f m:Int)(hf:Fm f)(hn:n<(2^64)^2000)(he:-1000000<=e/\e<=1000000):
  mZ ((neg,Dw n,e,more,()),f,Cy f,m,())=some (((AT f m neg n e more).1:Int),((AT f m neg n e more).2:Int),()):=by
 show v7 _ _ _ _ _ _ _ _ _ _ (neg,Dw n,e,more,()) f ((fW f:Int),((fP f:Int),((1-(fX f:Int)),((fX f:Int),())))) m=_;unfold v7 AT;have hb:=sY hn;have hp:=D7 hf;have hp8:=CZ hf;have hw:=EG hf;have hx:=LJ hf;have hx15:=JL hf;have ht:Az n e=e+(Af n:Int)-1:=rfl;have pt:=aV0 neg n e more hn he;have pb:=aV1 hf m neg;have py:=aV4 neg n e more f m hf hn he;have hrow:Cy f=((fW f:Int),((fP f:Int),((1-(fX f:Int)),((fX f:Int),())))):=rfl;rw[hrow]at py;simp only[aYX pt,aa];by_cases h1:Az n e>(fX f:Int)
 ·rw[ah h1,ae h1,aa];simp only[aCY pb,aa];rfl
 rw[ag h1,af h1,ab];have hM:∃M:Int,(if 1-(fX f:Int)>Az n e then 1-(fX f:Int)else Az n e)=M/\Az n e<=M/\1-(fX f:Int)<=M/\M<=fX f/\(M=Az n e∨M=1-(fX f:Int)):=by
  refine⟨_,rfl,?_⟩;split<;>omega
 obtain⟨M,hMe,m1,m2,m3,m4⟩:=hM;have hq:BY f (Az n e)=M-fP f+1:=by unfold BY;rw[hMe]
 simp only[hMe,hq];have e1:al .i64 (M-(fP f:Int))=M-(fP f:Int):=Au (by omega);have e2:al .i64 (M-(fP f:Int)+1)=M-(fP f:Int)+1:=Au (by omega);simp only[e1,e2];have p0:=aGY m neg n e (M-(fP f:Int)+1) more hn he (p:=fP f) (by omega) (by omega) (by omega);have hc:=aDs (m:=m) (neg:=neg) (more:=more) (n:=n) (e:=e) (q:=M-(fP f:Int)+1) (p:=fP f) (by omega);generalize BF m neg n e (M-(fP f:Int)+1) more=u at *
 generalize Dm n e (M-(fP f:Int)+1) more=r at *
 have hP60:2^fP f<=2^60:=ax (by decide) (by omega);have hu:u<(2^64)^5000:=by
  rw[DS];exact bv hc (ct (by decide) (by omega))
 have hub:Af u<=fP f+1:=Db (bv hc (ct (by decide) (by omega)));have p1:=VG hu;have e3:al .i64 ((fP f:Int)-1)=((fP f-1:Nat):Int):=AN _ (by omega);have e4:al .i64 ((fW f:Int)-1)=((fW f-1:Nat):Int):=AN _ (by omega);have e5:al .i64 (M-(fP f:Int)+1+(Af u:Int))=M-(fP f:Int)+1+(Af u:Int):=Au (by omega);have e6:al .i64 (M-(fP f:Int)+1+(Af u:Int)-1)=M-(fP f:Int)+1+(Af u:Int)-1:=Au (by omega);have e7:al .i64 (1-(fX f:Int)-(fP f:Int))=1-(fX f:Int)-(fP f:Int):=Au (by omega);have e8:al .i64 (1-(fX f:Int)-(fP f:Int)+1)=1-(fX f:Int)-(fP f:Int)+1:=Au (by omega);obtain⟨k,hk⟩:=cv (show 0<=M-(fP f:Int)+1-(1-(fX f:Int)-(fP f:Int)+1) by omega);have e9:al .i64 (M-(fP f:Int)+1-(1-(fX f:Int)-(fP f:Int)+1))=(k:Int):=by rw[Au (by omega)];exact hk
 have e10:al .u64 (k:Int)=(k:Int):=DV (by omega);have hkn:(M-(fP f:Int)+1-(1-(fX f:Int)-(fP f:Int)+1)).toNat=k:=by omega
 have hhalf:=aOE hf;have hk2:k<=2*fX f-1:=by omega
 have hk3:=bh (2^(fP f-1)) hk2;have hW64:2^(fW f-1)<=2^63:=ax (by decide) (by omega);have hpp:=au (fP f-1);have e11:Bk .u64 (k:Int) ((fP f-1:Nat):Int)=((k*2^(fP f-1):Nat):Int):=by
  rw[H7 _ _ (by omega),ce (by omega)]
 have e12:Bk .u64 1 ((fW f-1:Nat):Int)=((1*2^(fW f-1):Nat):Int):=by rw[PR (by omega),go]
 generalize hA:k*2^(fP f-1)=A at *
 have hbits:A+u<2^(fW f-1):=by omega
 have e13:al .u64 ((A:Int)+((u%2^64:Nat):Int))=((A+u:Nat):Int):=by
  rw[ce (by omega),DV (by omega)];omega
 have hor:∀b:Nat,b<2^(fW f-1)->Ao .u64 (b:Int) ((1*2^(fW f-1):Nat):Int)=((b+2^(fW f-1):Nat):Int):=fun b hb=>by
  have:=PO (a:=b) (b:=1) (k:=fW f-1) hb (by omega);rw[go]at this⊢;exact this
 have hsg:Bu f neg=if neg then 2^(fW f-1)else 0:=rfl;have htd:decide (Az n e<1-(fX f:Int)/\Az n e-fP f+Af (BF m neg n e (Az n e-fP f+1) more)<1-(fX f:Int))=decide (D9 f m neg n e more):=by
  unfold D9;rfl
 rw[htd]at py;simp only[aMz p0,aa,e3,AF,Wf p1,e5,e6,e7,e8,e9,e10,e11,e4,e12,hkn,hA];rcases cg u with hu0|hu0
 ·subst hu0;have hl0:decide ((((Dw 0).length:Nat):Int)>0)=false:=by rw[Fl];rfl
  rw[hl0,ab];by_cases h2:M-(fP f:Int)+1+(Af 0:Int)-1>(fX f:Int)
  ·rw[ae h2,aa,ah h2];simp only[aCY pb,aa];rfl
  ·rw[af h2,ab,ag h2];have hbi:=hor (A) (by omega);rw[hbi];by_cases hr:r=0
   ·rw[ah hr,af (p:=r≠0) (by omega)];simp only[bf,aa];cases neg<;>rfl
   ·rw[ag hr,ae (p:=r≠0) hr];simp only[bi,ab,aMA py,aa];by_cases hti:D9 f m neg n e more
    ·rw[ah hti,ae hti];cases neg<;>rfl
    ·rw[ag hti,af hti];cases neg<;>rfl
 ·have hun:u≠0:=by omega
  simp only[L9 hun,Xk hun,aa,bb,P0,e13];by_cases h2:M-(fP f:Int)+1+(Af u:Int)-1>(fX f:Int)
  ·rw[ae h2,aa,ah h2];simp only[aCY pb,aa];rfl
  ·rw[af h2,ab,ag h2];have hbi:=hor (A+u) (by omega);rw[hbi];by_cases hr:r=0
   ·rw[ah hr,af (p:=r≠0) (by omega)];simp only[bf,aa];cases neg<;>rfl
   ·rw[ag hr,ae (p:=r≠0) hr];simp only[bi,ab,aMA py,aa];by_cases hti:D9 f m neg n e more
    ·rw[ah hti,ae hti];cases neg<;>rfl
    ·rw[ag hti,af hti];cases neg<;>rfl
theorem aGI{f m:Int}(hf:Fm f)(hm:0<=m/\m<=5):mY (f,m,())=some (Cy f,0,()):=by
 show v6 Ap.pre Ap.F T5.pre T5.F f m=_;unfold v6;have p0:=Li hf;have p1:nM (m,())=some (0,()):=by
  show wW m=_;unfold wW;rw[af (show ¬m<0 by omega),af (show ¬m>5 by omega)];rfl
 simp only[Dc p0,aa,aYW p1];rfl
theorem aV5{f:Int}(h:Fm f)(neg:Bool):nQ (f,neg,())=some ((Bu f neg:Int),0,0,()):=by
 show w7 Cw.pre Cw.F f neg=_;unfold w7;have p0:=bP h neg;simp only[fO p0,aa]
theorem bIS(s:Nat)(hs:s<2^128):(Wi s).2.1::(Wi s).1::[]=Wd [s%2^64,s/2^64]/\Ws [s%2^64,s/2^64]/\nv (2^64) [s%2^64,s/2^64]=s:=by
 refine⟨rfl,⟨?_,by simp⟩,?_⟩
 ·intro x hx;have:x=s%2^64∨x=s/2^64:=by simpa using hx
  omega
 ·simp only[nv];omega
theorem bR{f m:Int}(hf:Fm f)(hm:0<=m/\m<=5)(neg:Bool)(s:Nat)(hs:s<2^128)(e:Int)(he:-40000<=e/\e<=40000)(more:Bool)(hmore:more=true->fP f+2<=Af s):
  nD (f,m,neg,Wi s,e,more,())=some (if s=0 then((Bu f neg:Int),0,0,())else(((AT f m neg s e more).1:Int),((AT f m neg s e more).2:Int),0,())):=by
 show wH _ _ _ _ _ _ _ _ _ _ f m neg (Wi s) e more=_;unfold wH;obtain⟨w1,w2,w3⟩:=bIS s hs;have hP:=D7 hf;have hW:=EG hf;have p0:=aGI hf hm;have p1:=aGF _ w2;rw[←w1,w3]at p1;have hs2:s<(2^64)^2000:=by
  rw[DS];exact az hs (ax (by decide) (by decide))
 have p2:=VG (aO1 hs2);have p3:=aV5 hf neg;have p4:=aGK neg s e more f m hf hs2 (by omega);have e1:decide (e < -40000)=false:=af (by omega);have e2:decide (e>40000)=false:=af (by omega);have e3:al .i64 ((Cy f).2.1+2)=((fP f+2:Nat):Int):=by
  show al .i64 ((fP f:Int)+2)=_;rw[Au (by omega)];rfl
 have e4:(more&&decide ((Af s:Int)<((fP f+2:Nat):Int)))=false:=by
  cases more with
  |false=>rfl
  |true=>rw[af (by have:=hmore rfl;omega)];rfl
 have z0:((0:Int)!=0)=false:=rfl;simp only[aMt p0,aa,z0,ab,aCT p1,e1,e2,bj,Wf p2,bg,e3,e4];by_cases h0:s=0
 ·rw[ah h0];subst h0;rw[show((((Dw 0).length:Nat):Int)==0)=true by rw[Fl];rfl,aa];simp only[aYY p3,aa]
 ·rw[ag h0,AG _ (by have:=kN h0;omega),ab];simp only[aMu p4,aa]
end VL
namespace VL
open Go Vx
theorem aZG{r k s ρ:Nat}(hρ:0<ρ)(hρ2:ρ<2^k)(hs:1<=s):B5 (ρ+2^k*r) (k+s)=B5 r s/2*2+1:=by
 unfold B5;have hp:2^(k+s-1)=2^k*2^(s-1):=by rw[←ca];congr 1;omega
 rw[hp];have hh:=au (s-1);generalize 2^(s-1)=h at *
 generalize 2^k=K at *
 rw[ag (by omega)];rcases gd r h with h1|h1|h1
 ·have:K*(r+1)<=K*h:=cq _ h1;rw[ck,gx]at this;rw[ah (by omega)];by_cases hr:r=0
  ·rw[ah hr]
  ·rw[ag hr,ah h1]
 ·subst h1;rw[ag (by omega),ag (by omega),ag (by omega),ag (by omega),ah rfl]
 ·have:K*(h+1)<=K*r:=cq _ h1;rw[ck,gx]at this;rw[ag (by omega),ag (by omega),ag (by omega),ag (by omega),ag (by omega)]
theorem aNp{r k s:Nat}(hs:1<=s):B5 (2^k*r) (k+s)=B5 r s:=by
 unfold B5;have hp:2^(k+s-1)=2^k*2^(s-1):=by rw[←ca];congr 1;omega
 rw[hp];have hk:=au k;generalize 2^(s-1)=h at *
 generalize 2^k=K at *
 have h1:K*r=0↔r=0:=by
  constructor
  ·intro h;rcases pe.1 h with h|h<;>omega
  ·intro h;rw[h,fu]
 have h2:K*r<K*h↔r<h:=pp hk;have h3:K*r=K*h↔r=h:=Nat.mul_right_inj (by omega);simp only[h1,h2,h3]
theorem bBA(N k s:Nat):N%2^(k+s)=N%2^k+2^k*(N/2^k%2^s):=by
 rw[ca,nj]
theorem WV{n:Nat}{e q:Int}(h:q<=e):Hb n e q=n*2^(e-q).toNat:=ah h
theorem WU{n:Nat}{e q:Int}(h:e<q):Hb n e q=n/2^(q-e).toNat:=ag (by omega)
theorem Z3{n:Nat}{e q:Int}(h:q<=e):Vl n e q=0:=ah h
theorem Z2{n:Nat}{e q:Int}(h:e<q):Vl n e q=B5 (n%2^(q-e).toNat) (q-e).toNat:=ag (by omega)
theorem Pn(n:Nat)(e q:Int):Dm n e q false=Vl n e q:=rfl
theorem aZN(n:Nat)(e q:Int):Dm n e q true=Vl n e q/2*2+1:=rfl
theorem aDu{N k:Nat}{E q:Int}(hq:N%2^k≠0->E+k<q):
  Hb (N/2^k) (E+k) q=Hb N E q/\Dm (N/2^k) (E+k) q (decide (N%2^k≠0))=Dm N E q false:=by
 have hk:=au k;have hdm:=df N (2^k);by_cases h1:E+k<q
 ·have es:(q-E).toNat=k+(q-(E+k)).toNat:=by omega
  have hs:1<=(q-(E+k)).toNat:=by omega
  rw[WU h1,WU (by omega),Pn,Z2 (e:=E) (by omega),es];have hrs:=Z2 (n:=N/2^k) h1;generalize(q-(E+k)).toNat=s at *
  refine⟨by rw[fd,←ca],?_⟩;rw[bBA];by_cases hr:N%2^k=0
  ·rw[hr,dj,aNp hs,show decide ((0:Nat)≠0)=false by decide,Pn,hrs]
  ·have hρ:0<N%2^k:=by omega
   rw[aZG hρ (cn _ hk) hs,ae hr,aZN,hrs]
 ·have hr:N%2^k=0:=by
   by_cases h:N%2^k=0
   ·exact h
   ·exact absurd (hq h) h1
  rw[hr,dp]at hdm;rw[hr];clear hq hr;generalize N/2^k=n at *
  subst hdm;have hz:decide ((0:Nat)≠0)=false:=by decide
  rw[hz,WV (by omega),Pn,Pn,Z3 (by omega)];by_cases h2:q<=E
  ·rw[WV h2,Z3 h2,show(E+k-q).toNat=k+(E-q).toNat by omega,ca,bt (2^k) n,bu];exact⟨rfl,rfl⟩
  ·rw[WU (by omega),Z2 (by omega)];have ek:k=(q-E).toNat+(E+k-q).toNat:=by omega
   generalize(q-E).toNat=s at *
   generalize(E+k-q).toNat=t at *
   have:2^k*n=2^s*(2^t*n):=by rw[ek,ca,bu]
   rw[this,Nat.mul_div_cancel_left _ (au s),mj];exact⟨bt _ _,rfl⟩
theorem tS{m:Int}{neg:Bool}{N k:Nat}{E q:Int}(hq:N%2^k≠0->E+k<q):BF m neg (N/2^k) (E+k) q (decide (N%2^k≠0))=BF m neg N E q false:=by
 obtain⟨h1,h2⟩:=aDu hq;unfold BF;rw[h1,h2]
theorem aSS{N k:Nat}{E:Int}(hn:N/2^k≠0):Az (N/2^k) (E+k)=Az N E:=by
 have hk:=au k;have h1:2^k<=N:=by
  rcases bc N (2^k)with h|h
  ·exact absurd (dc h) hn
  ·exact h
 have:=sZ h1;unfold Az;omega
theorem aEN{f m:Int}{neg:Bool}{N k:Nat}{E:Int}(hf:Fm f)(hn:N/2^k≠0)(hm:N%2^k≠0->fP f+2<=Af (N/2^k)):AT f m neg (N/2^k) (E+k) (decide (N%2^k≠0))=AT f m neg N E false:=by
 have ht:=aSS (E:=E) hn;have htd:Az (N/2^k) (E+k)=E+k+(Af (N/2^k):Int)-1:=rfl;have hq1:N%2^k≠0->E+k<BY f (Az N E):=fun h=>by
  have:=hm h;unfold BY;split<;>omega
 have hq2:N%2^k≠0->E+k<Az N E-fP f+1:=fun h=>by
  have:=hm h;omega
 have hti:D9 f m neg (N/2^k) (E+k) (decide (N%2^k≠0))=D9 f m neg N E false:=by
  unfold D9;rw[ht,tS hq2]
 unfold AT;simp only[ht,tS hq1,(aDu hq1).2,hti]
theorem Z1{f m:Int}{neg:Bool}(hf:Fm f){n:Nat}(hn:n≠0)(k:Nat)(e:Int):AT f m neg (n*2^k) e false=AT f m neg n (e+k) false:=by
 have hk:=au k;have:=aEN (f:=f) (m:=m) (neg:=neg) (N:=n*2^k) (k:=k) (E:=e) hf (by rw[jn _ hk];exact hn) (by rw[mu];omega);rw[jn _ hk,mu]at this;exact this.symm
end VL
namespace VL
open Go Vx
def aC(f m:Int)(nx:Bool)(X ex:Int)(ny:Bool)(Y ey:Int):Option (DenS IG):=aE Jo.pre Jo.F TX.pre TX.F TY.pre TY.F EB.pre EB.F TZ.pre TZ.F Cw.pre Cw.F C1.pre C1.F f m nx X ex ny Y ey
theorem bIH(f m:Int)(nx:Bool)(X ex:Int)(ny:Bool)(Y ey:Int):dA (f,m,(nx,X,ex,()),(ny,Y,ey,()),()) =
 (bif((X==0)&&(Y==0))&&(nx==ny)then(bif Cw.pre (f,nx,())then some ((Cw.F (f,nx,())).1,0,0,())else none)
 else bif(X==0)||((Y !=0)&&decide (ex<ey))then(bif X==0 then aC f m ny Y ey nx X ey else aC f m ny Y ey nx X ex)
 else bif Y==0 then aC f m nx X ex ny Y ex else aC f m nx X ex ny Y ey):=by kernel_rfl
theorem aIR{n:Nat}(h:n<2^64):((0:Int),((n:Int),()))=Wi n:=by
 unfold Wi;rw[dc h,ce h];rfl
theorem aXn:((0:Int),((1:Int),()))=Wi 1:=rfl
theorem aIS{n:Nat}(h:n<2^128):(((Wi n).1==0)&&((Wi n).2.1==0))=decide (n=0):=by
 show(((n/2^64:Nat):Int)==0&&((n%2^64:Nat):Int)==0)=_;rw[Ge,Ge,gj,ar,beq_iff_eq,beq_iff_eq,ai];omega
theorem bBB{Y dn:Nat}(hY:Y<2^64):((!(((Wi (Y/2^dn*2^dn)).1==0)&&((Wi (Y/2^dn*2^dn)).2.1==(Y:Int))))||(decide ((dn:Int)>63)&&((Y:Int)!=0)))=decide (Y%2^dn≠0):=by
 have hdm:=df Y (2^dn);rw[bt]at hdm;generalize hL:Y/2^dn*2^dn=L at *
 show((!(((L/2^64:Nat):Int)==0&&((L%2^64:Nat):Int)==(Y:Int)))||(decide ((dn:Int)>63)&&((Y:Int)!=0)))=_;rw[Ge,LP,WI];by_cases h:Y%2^dn=0
 ·rw[af (p:=Y%2^dn≠0) (by omega)];rw[show(L/2^64==0)=true by rw[beq_iff_eq];omega,show(L%2^64==Y)=true by rw[beq_iff_eq];omega];by_cases hy:Y=0
  ·rw[hy];simp
  ·have:¬(dn:Int)>63:=fun hd=>by
    have h1:Y<2^dn:=az hY (ax (by decide) (by omega));rw[ce h1]at h;exact hy h
   rw[af this];rfl
 ·rw[ae (p:=Y%2^dn≠0) h];rw[show(L%2^64==Y)=false by rw[beq_eq_false_iff_ne];omega];simp
theorem Pf{n k:Nat}(h:2^k<=n):k+1<=Af n:=by
 have h1:=G2 n;have:k<Af n:=(dk (a:=2) (by decide)).1 (bv h h1);omega
def DJ(f m:Int)(nx:Bool)(X:Nat)(ex:Int)(ny:Bool)(Y:Nat)(ey:Int):Nat×Nat:=let e:=if ex<=ey then ex else ey;let a:=X*2^(ex-e).toNat;let b:=Y*2^(ey-e).toNat;if nx=ny then(if a+b=0 then(Bu f nx,0)else AT f m nx (a+b) e false)else if a=b then(Bu f (m==4),0)else if b<a then AT f m nx (a-b) e false else AT f m ny (b-a) e false
theorem aE2{f m:Int}{nx:Bool}{X:Nat}{ey:Int}{ny:Bool}{Y:Nat}(D:Nat):
  DJ f m nx X (ey+D) ny Y ey=if nx=ny then(if X*2^D+Y=0 then(Bu f nx,0)else AT f m nx (X*2^D+Y) ey false)
   else if X*2^D=Y then(Bu f (m==4),0)else if Y<X*2^D then AT f m nx (X*2^D-Y) ey false else AT f m ny (Y-X*2^D) ey false:=by
 unfold DJ;have he:(if ey+(D:Int)<=ey then ey+(D:Int)else ey)=ey:=by split<;>omega
 simp only[he];rw[show(ey+(D:Int)-ey).toNat=D by omega,show(ey-ey).toNat=0 by omega,iv,gx]
theorem v0(f m:Int)(nx:Bool)(X:Nat)(ex:Int)(ny:Bool)(Y:Nat)(ey:Int):DJ f m nx X ex ny Y ey=DJ f m ny Y ey nx X ex:=by
 unfold DJ;have he:(if ex<=ey then ex else ey)=(if ey<=ex then ey else ex):=by split<;>split<;>omega
 simp only[he];generalize(if ey<=ex then ey else ex)=e;generalize X*2^(ex-e).toNat=a;generalize Y*2^(ey-e).toNat=b;by_cases hn:nx=ny
 ·subst hn;rw[ah rfl,ah rfl,jc]
 ·rw[ag hn,ag (Ne.symm hn)];rcases gd a b with h|h|h
  ·rw[ag (by omega),ag (by omega),ag (by omega),ah h]
  ·rw[ah h,ah h.symm]
  ·rw[ag (by omega),ah h,ag (by omega),ag (by omega)]
theorem W2{f m:Int}(hf:Fm f)(nx:Bool)(X:Nat)(ex:Int)(ny:Bool)(ey:Int):DJ f m nx X ex ny 0 ey=if X=0 then(if nx=ny then(Bu f nx,0)else(Bu f (m==4),0))else AT f m nx X ex false:=by
 rcases Int.le_total ex ey with h|h
 ·obtain⟨D,hD⟩:=cv (show 0<=ey-ex by omega);have:ey=ex+D:=by omega
  subst this;rw[v0,aE2,fq,dj];by_cases hn:nx=ny
  ·subst hn;simp only[↓reduceIte]
  ·rw[ag (Ne.symm hn),ag hn];by_cases hx:X=0
   ·subst hx;simp only[↓reduceIte]
   ·rw[ag (by omega),ag (by omega),ag hx,nm]
 ·obtain⟨D,hD⟩:=cv (show 0<=ex-ey by omega);have:ex=ey+D:=by omega
  subst this;rw[aE2,dp];by_cases hx:X=0
  ·subst hx;rw[ah rfl,fq,ah rfl,ah rfl]
  ·have hp:=au D;have hpos:0<X*2^D:=ir (by omega) hp;rw[ag hx];by_cases hn:nx=ny
   ·rw[ah hn,ag (by omega),Z1 hf hx]
   ·rw[ag hn,ag (by omega),ah hpos,nm,Z1 hf hx]
theorem aAa{f m:Int}(hf:Fm f)(hm:0<=m/\m<=5)(nx:Bool)(X D:Nat)(ny:Bool)(Y:Nat)(ey:Int)(hX:X<2^53)(hY:Y<2^53)(he:-2000<=ey/\ey+D<=2000)(h0:X≠0∨(Y=0/\nx≠ny)):
  aC f m nx X (ey+D) ny Y ey=some (((DJ f m nx X (ey+D) ny Y ey).1:Int),((DJ f m nx X (ey+D) ny Y ey).2:Int),0,()):=by
 rw[aE2];have hW:=EG hf;have hP:=D7 hf;have hU:∃U dn:Nat,(if(70:Int)<(D:Int)then(70:Int)else(D:Int))=(U:Int)/\D=U+dn/\U<=70/\(dn≠0->U=70):=by
  by_cases h:70<D
  ·exact⟨70,D-70,by rw[ah (by omega)];rfl,by omega,by omega,fun _=>rfl⟩
  ·exact⟨D,0,by rw[ag (by omega)],by omega,by omega,fun h=>absurd rfl h⟩
 obtain⟨U,dn,hU1,hU2,hU3,hU4⟩:=hU;have e1:al .i64 (ey+(D:Int)-ey)=(D:Int):=by rw[Au (by omega)];omega
 have e2:al .i64 (ey+(D:Int)-(U:Int))=ey+(dn:Int):=by rw[Au (by omega)];omega
 have e3:al .i64 (ey+(dn:Int)-ey)=(dn:Int):=by rw[Au (by omega)];omega
 have hpU:=au U;have hpd:=au dn;have hU70:2^U<=2^70:=ax (by decide) hU3;have hH:X*2^U<2^123:=by
  have h1:X*2^U<=X*2^70:=cq _ hU70;have h2:X*2^70<2^53*2^70:=dl hX (by decide);omega
 have hXD:X*2^D=X*2^U*2^dn:=by rw[hU2,ca,bu]
 have hbig:Y%2^dn≠0->2^70<=X*2^U/\X≠0:=fun h=>by
  have hd:dn≠0:=fun h1=>by rw[h1,iv,Nat.mod_one]at h;exact h rfl
  have hy:Y≠0:=fun h1=>by rw[h1,mn]at h;exact h rfl
  have hx:X≠0:=by
   rcases h0 with h|h
   ·exact h
   ·exact absurd h.1 hy
  refine⟨?_,hx⟩;rw[hU4 hd];exact mh _ (by omega)
 have hYL:Y/2^dn<=Y:=ga _ _;have hLd:Y/2^dn*2^dn<=Y:=Nat.div_mul_le_self _ _;have p1:XA (((0:Int),((X:Int),())),((U:Int),()))=some (Wi (X*2^U),()):=by
  rw[aIR (by omega),aGQ _ _ (by omega),ce (by omega)]
 have p2:bQ (((0:Int),((Y:Int),())),((dn:Int),()))=some (Wi (Y/2^dn),()):=by
  rw[aIR (by omega),aVO _ _ (by omega)]
 have p3:XA (Wi (Y/2^dn),((dn:Int),()))=some (Wi (Y/2^dn*2^dn),()):=by
  rw[aGQ _ _ (by omega),ce (by omega)]
 have p4:=aVP (X*2^U) (Y/2^dn) (by omega);have p5:=aVQ (X*2^U) (Y/2^dn);have pz:=bP hf (m==4);unfold aC aE aSP;simp only[e1,hU1,e2,e3,aMv p1,aYP p2,aMv p3,aa,aYQ p4,aYR p5,bBB (show Y<2^64 by omega)];have hdm:=df Y (2^dn);have hml:=cn Y hpd;have hX0H:X=0->X*2^U=0:=fun h=>by rw[h,fq]
 have hXb:X≠0->dn≠0->2^70<=X*2^U:=fun h1 h2=>by rw[hU4 h2];exact mh _ (by omega)
 have hHp:X≠0->0<X*2^U:=fun h=>ir (by omega) hpU;clear e1 e2 e3 p1 p2 p3;rw[bt]at hdm;generalize hHe:X*2^U=H at *
 generalize hLe:Y/2^dn=L at *
 generalize hRe:Y%2^dn=R at *
 by_cases hn:nx=ny
 ·subst hn;rw[ah rfl,show(nx==nx)=true by cases nx<;>rfl,aa];have hX0:X≠0:=by
   rcases h0 with h|h
   ·exact h
   ·exact absurd rfl h.2
  have hHp:=hHp hX0;have hN:X*2^D+Y=Y+H*2^dn:=by rw[hXD,jc]
  have hNd:(X*2^D+Y)/2^dn=H+L:=by rw[hN,ph _ _ hpd,hLe,jc]
  have hNm:(X*2^D+Y)%2^dn=R:=by rw[hN,lk,hRe]
  have hbl:R≠0->fP f+2<=Af (H+L):=fun h=>by
   have h1:=(hbig h).1;have:=Pf (n:=H+L) (k:=70) (by omega);omega
  have p6:=bR hf hm nx (H+L) (by omega) (ey+(dn:Int)) (by omega) (decide (R≠0)) (fun h=>hbl (by simpa using h));rw[ag (by omega)]at p6;simp only[fQ p6,aa];have htr:=aEN (f:=f) (m:=m) (neg:=nx) (N:=X*2^D+Y) (k:=dn) (E:=ey) hf (by rw[hNd];omega) (by rw[hNd,hNm];exact hbl);rw[hNd,hNm]at htr;have hpp:0<H*2^dn:=ir hHp hpd;rw[htr,ag (by rw[hXD];omega)]
 ·rw[ag hn,show(nx==ny)=false by cases nx<;>cases ny<;>first|rfl|exact absurd rfl hn,ab];by_cases hlt:H<L
  ·have hm0:R=0:=by
    by_cases h:R=0
    ·exact h
    ·have:=(hbig h).1;omega
   have hdn:dn=0:=by
    by_cases h:dn=0
    ·exact h
    ·exfalso;rcases h0 with h1|h1
     ·have h2:=hXb h1 h;omega
     ·have:=h1.1;omega
   subst hdn;have hY1:Y=L:=by rw[←hLe];simp
   subst hY1;have hXD1:X*2^D=H:=by rw[hXD];simp
   rw[hm0,hXD1];have p7:=aA2 Y H (by omega) (by omega);have p6:=bR hf hm ny (Y-H) (by omega) (ey+((0:Nat):Int)) (by omega) false (fun h=>by cases h);rw[ag (by omega)]at p6;have z1:decide ((if H=Y then(0:Int)else if H<Y then -1 else 1)<0)=true:=by
    rw[ag (by omega),ah hlt];rfl
   have z2:decide ((0:Nat)≠0)=false:=by decide
   have z3:=aIS (n:=Y-H) (by omega);rw[af (p:=Y-H=0) (by omega)]at z3;simp only[z1,z2,aa,ab,aCV p7,z3,ay,fQ p6];rw[ag (by omega),ag (by omega),jf,lf]
  ·have hge:L<=H:=by omega
   have p7:=aA2 H L (by omega) hge;have z1:decide ((if H=L then(0:Int)else if H<L then -1 else 1)<0)=false:=by
    by_cases h:H=L
    ·rw[ah h];rfl
    ·rw[ag h,ag hlt];rfl
   simp only[z1,ab,aCV p7,aa];by_cases hm0:R=0
   ·rw[hm0,show decide ((0:Nat)≠0)=false by decide,ab];have hYe:Y=L*2^dn:=by omega
    have z3:=aIS (n:=H-L) (by omega);rw[z3];by_cases hz:H-L=0
    ·have heq:X*2^D=Y:=by rw[hXD,hYe,show H=L by omega]
     rw[ae hz,ah heq];simp only[bf,ba,aa,fO pz];rfl
    ·rw[af hz];have p6:=bR hf hm nx (H-L) (by omega) (ey+(dn:Int)) (by omega) false (fun h=>by cases h);rw[ag hz]at p6;simp only[ay,ab,fQ p6,aa];have hN:X*2^D-Y=(H-L)*2^dn:=by rw[hXD,Nat.sub_mul,←hYe]
     have hpp:0<(H-L)*2^dn:=ir (by omega) hpd;have hlt2:Y<X*2^D:=by omega
     rw[ag (by omega),ah hlt2,hN,Z1 hf hz]
   ·rw[ae (p:=R≠0) hm0,aa];obtain⟨hb1,hX0⟩:=hbig hm0;have p8:=aA2 (H-L) 1 (by omega) (by omega);rw[←aXn]at p8;have hbl:fP f+2<=Af (H-L-1):=by
     have:=Pf (n:=H-L-1) (k:=69) (by omega);omega
    have p6:=bR hf hm nx (H-L-1) (by omega) (ey+(dn:Int)) (by omega) true (fun _=>hbl);rw[ag (by omega)]at p6;simp only[aCV p8,aa,bi,be,ab,fQ p6];have h2:(L+1+(H-L-1))*2^dn=H*2^dn:=by rw[show L+1+(H-L-1)=H by omega]
    rw[cu,cu,go]at h2;have hN:X*2^D-Y=(2^dn-R)+(H-L-1)*2^dn:=by rw[hXD];omega
    have hlt2:Y<X*2^D:=by omega
    have hNd:(X*2^D-Y)/2^dn=H-L-1:=by
     rw[hN,ph _ _ hpd,dc (by omega),dj]
    have hNm:(X*2^D-Y)%2^dn=2^dn-R:=by
     rw[hN,lk,ce (by omega)]
    have htr:=aEN (f:=f) (m:=m) (neg:=nx) (N:=X*2^D-Y) (k:=dn) (E:=ey) hf (by rw[hNd];omega) (fun _=>by rw[hNd];exact hbl);rw[hNd,hNm,ae (p:=2^dn-R≠0) (by omega)]at htr;rw[htr,ag (by omega),ah hlt2]
theorem aWH{f m:Int}(hf:Fm f)(hm:0<=m/\m<=5)(nx:Bool)(X:Nat)(ex:Int)(ny:Bool)(Y:Nat)(ey:Int)(hX:X<2^53)(hY:Y<2^53)(hex:-2000<=ex/\ex<=2000)(hey:-2000<=ey/\ey<=2000):
  dA (f,m,(nx,(X:Int),ex,()),(ny,(Y:Int),ey,()),())=some (((DJ f m nx X ex ny Y ey).1:Int),((DJ f m nx X ex ny Y ey).2:Int),0,()):=by
 rw[bIH];by_cases hX0:X=0
 ·subst hX0;by_cases hYn:Y=0/\nx=ny
  ·obtain⟨rfl,rfl⟩:=hYn;have p0:=bP hf nx;rw[show((((0:Nat):Int)==0)&&(((0:Nat):Int)==0)&&(nx==nx))=true by cases nx<;>rfl,aa];simp only[fO p0,aa];rw[W2 hf,ah rfl,ah rfl];rfl
  ·have hg:((((0:Nat):Int)==0)&&(((Y:Nat):Int)==0)&&(nx==ny))=false:=by
    by_cases hy:Y=0
    ·have:nx≠ny:=fun h=>hYn ⟨hy,h⟩;subst hy;cases nx<;>cases ny<;>first|rfl|exact absurd rfl this
    ·rw[AG Y hy,be,ay]
   have h1:(((0:Nat):Int)==0)=true:=rfl;rw[hg,ab,h1,bg,aa,aa];have ht:=aAa hf hm ny Y 0 nx 0 ey hY hX (by omega) (by
    by_cases hy:Y=0
    ·exact .inr ⟨rfl,fun h=>hYn ⟨hy,h.symm⟩⟩
    ·exact .inl hy)
   rw[jf,lf]at ht;rw[jf,ht,v0 f m nx 0 ex,W2 hf,W2 hf]
 ·have hx0:((X:Int)==0)=false:=AG _ hX0;rw[hx0,ay,ay,ab,bm,ab];by_cases hY0:Y=0
  ·subst hY0;have ht:=aAa hf hm nx X 0 ny 0 ex hX hY (by omega) (.inl hX0);rw[jf,lf]at ht;rw[show(((0:Nat):Int)!=0)=false by rfl,ay,ab,show(((0:Nat):Int)==0)=true by rfl,aa,jf,ht,W2 hf,W2 hf]
  ·rw[AO _ hY0,bl,AG _ hY0,ab];by_cases hlt:ex<ey
   ·rw[ae hlt,aa];obtain⟨D,hD⟩:=cv (show 0<=ey-ex by omega);have hee:ey=ex+D:=by omega
    subst hee;rw[aAa hf hm ny Y D nx X ex hY hX (by omega) (.inl hY0),v0 f m ny Y]
   ·rw[af hlt,ab];obtain⟨D,hD⟩:=cv (show 0<=ex-ey by omega);have hee:ex=ey+D:=by omega
    subst hee;rw[aAa hf hm nx X D ny Y ey hX hY (by omega) (.inl hX0)]
end VL
namespace VL
open Go Vx
def Dh(n:Nat):List Int:=Wd (dg (2^32) n)
def Hs(l:List Nat):Prop:=(∀x∈l,x<2^32)/\l.length<=1000000
theorem Hs.dg{n:Nat}(h:n<2^100000):Hs (dg (2^32) n):=by
 refine⟨LI (by decide) n,?_⟩;have:n<(2^32)^3125:=by rw[←gn];exact h
 have:=Eg (B:=2^32) (by decide) 3125 n this;omega
theorem FC(n:Nat):nv (2^32) (dg (2^32) n)=n:=iM (by decide) n
theorem Xj(n:Nat):(((Dh n).length:Int)==0)=decide (n=0):=by
 unfold Dh;rw[Ay];by_cases h:n=0
 ·subst h;rw[D5];rfl
 ·rw[Ez (by decide) (by omega),af h];exact AG _ (by simp)
theorem aS9{n:Nat}(h:n≠0):0<(Dh n).length:=by
 unfold Dh;rw[Ay,Ez (by decide) (by omega)];simp
theorem aS7(n:Nat):(Dh n).getD 0 0=((n%2^32:Nat):Int):=by
 unfold Dh;rw[BM];rcases cg n with rfl|h
 ·rw[D5];rfl
 ·rw[Ez (by decide) h];rfl
theorem aFi{x:Nat}(h0:x≠0)(h:x<2^32):Dh x=(x:Int)::[]:=by
 unfold Dh;rw[Ez (by decide) (by omega),ce h,dc h,D5];rfl
theorem L3(n:Nat)(h:n<=100000000):CK n 8=true:=by
 unfold CK;rw[Nat.ble_eq];omega
theorem PX(x:Nat):ii (x:Int) 4294967296=((x%2^32:Nat):Int):=rfl
theorem WT(x:Nat)(h:x<2^64):Bl .u64 (x:Int) 4294967296=((x/2^32:Nat):Int):=by
 unfold Bl;have e:(x:Int).tdiv 4294967296=((x/2^32:Nat):Int):=rfl;rw[e,DV (by omega)]
theorem aQt(n:Nat)(hn:n<=1000000000):Bl .i64 (n:Int) 32=((n/32:Nat):Int):=by
 unfold Bl;have e:(n:Int).tdiv 32=((n/32:Nat):Int):=rfl;rw[e,Au (by omega)]
theorem aSQ(n:Nat):ii (n:Int) 32=((n%32:Nat):Int):=rfl
theorem J6(n:Nat)(h:n<2^64):al .u64 (n:Int)=(n:Int):=DV (by omega)
theorem jD(a b:Nat)(h:a*b<2^64):al .u64 ((a:Int)*(b:Int))=((a*b:Nat):Int):=by
 rw[←Int.natCast_mul,J6 _ h]
theorem DL(a b:Nat)(h:a+b<2^64):al .u64 ((a:Int)+(b:Int))=((a+b:Nat):Int):=by
 rw[←Int.natCast_add,J6 _ h]
theorem PY(l:List Nat)(v:Nat):Wd l++((v:Int)::[])=Wd (l++[v]):=by simp[Wd]
theorem bIW(l:List Nat)(u v:Nat):Wd l++((u:Int)::((v:Int)::[]))=Wd (l++[u,v]):=by simp[Wd]
theorem aWV(l:List Nat)(hl:l.length<=1000000)(n:Nat)(hn:n<=l.length)(ht:(Am l).length<=n):
  qE ((Wd l,((n:Int),())),())=some (.inl ((Wd l,(((Am l).length:Int),())),())):=by
 have key:=Cx aPd (fun x=>x.1.2.1.toNat)
  (fun x=>∃n:Nat,n<=l.length/\(Am l).length<=n/\x=((Wd l,((n:Int),())),()))
  (fun _=>.inl ((Wd l,(((Am l).length:Int),())),())) ?_ ((Wd l,((n:Int),())),()) ⟨n,hn,ht,rfl⟩
 ·exact key
 intro L x hx hL;obtain⟨n,hn,ht,rfl⟩:=hx;unfold YK;rcases cg n with rfl|hpos
 ·have e1:decide (((0:Nat):Int)>0)=false:=rfl;simp only[e1,bf,bo,aa,ay,ab];have:(Am l).length=0:=by omega
  rw[this]
 ·simp(disch:=omega) only[Be,A2,Bf,AW,AN,Bg,A1,AZ,A9,A8,A7,A6,A4,A3,Bb,Ba,A5,AV,AF,AS,AG,AO,AU,ao,bb,aa,ab,ba,bl,bq,ay,be,bi,bf,bj,bg,bo,bm,br,Ay,BM,Ge];cases hz:(l.getD (n-1) 0==0)with
  |true=>
   simp only[aa];refine hL _ ⟨n-1,by omega,?_,rfl⟩ (by simp only[ao];omega);rcases bc (n-1) (Am l).length with h|h
   ·exfalso;have e:n=(Am l).length:=by omega
    have:=W3 l (by omega);rw[←e]at this;exact this (by simpa using hz)
   ·exact h
  |false=>
   simp only[ab];have:(Am l).length=n:=by
    rcases bc (n-1) (Am l).length with h|h
    ·omega
    ·exfalso;have:=aAb l (n-1) h;rw[this]at hz;simp at hz
   rw[this]
theorem aG0(l:List Nat)(hl:l.length<=1000000):VH (Wd l,())=some (Wd (Am l),()):=by
 show w8 qE (Wd l)=_;unfold w8;have h:=aWV l hl l.length (ci _) (DU l).1;have e:=(DU l).1;rw[Ay,h];show(bif(decide ((0:Int)<=((Am l).length:Int))&&decide (((Am l).length:Int)<=((Wd l).length:Int)))then some (((Wd l).take (aq ((Am l).length:Int))).drop (aq 0),())else none)=_;simp(disch:=omega) only[Be,A2,Bf,AW,AN,Bg,A1,AZ,A9,A8,A7,A6,A4,A3,Bb,Ba,A5,AV,AF,AS,AG,AO,AU,ao,bb,aa,ab,ba,bl,bq,ay,be,bi,bf,bj,bg,bo,bm,br,Ay,jh,dJ];rw[←(DU l).2]
theorem VI{l:List Nat}(hl:Hs l){v:Nat}(hv:nv (2^32) l=v):VH (Wd l,())=some (Dh v,()):=by
 rw[aG0 l hl.2,Gh (by decide) _ hl.1,hv];rfl
theorem JB{B:Nat}{l:List Nat}{v:Nat}(h:∀x∈l,x<B)(hv:v<B):∀x∈l++[v],x<B:=fun x hx=>by
 rcases dt.1 hx with hx|hx
 ·exact h x hx
 ·have:x=v:=by simpa using hx
  rw[this];exact hv
theorem LR(B:Nat)(l:List Nat)(v:Nat):nv B (l++[v])=nv B l+B^l.length*v:=by
 rw[Vd];simp[nv]
theorem aWN(a:List Nat)(ha:∀x∈a,x<2^64)(hlen:a.length<=1000000):
  pX ((Wd a,((0:Int),((),()))),([],()))=some (.inl (((),()),(Wd (pd (2^32) (2*a.length) (nv (2^64) a)),()))):=by
 have key:=Cx (aO5 Aq.pre Aq.F) (fun x=>a.length-x.1.2.1.toNat)
  (fun x=>∃(i:Nat) (out:List Nat),i<=a.length/\out.length=2*i/\(∀x∈out,x<2^32)/\nv (2^32) out=nv (2^64) (a.take i)/\x=((Wd a,((i:Int),((),()))),(Wd out,())))
  (fun _=>.inl (((),()),(Wd (pd (2^32) (2*a.length) (nv (2^64) a)),()))) ?_ ((Wd a,((0:Int),((),()))),([],())) ⟨0,[],dv _,rfl,(fun x hx=>by simp at hx),by simp[nv],rfl⟩
 ·exact key
 intro L x hx hL;obtain⟨i,out,hi,hol,hod,hov,rfl⟩:=hx;unfold YC;rcases bc i a.length with hlt|hge
 ·have hx:=B0 (by decide) ha i;have hn:=Dg (2^64) a i;generalize hd:a.getD i 0=d at *
  simp(disch:=omega) only[Be,A2,Bf,AW,AN,Bg,A1,AZ,A9,A8,A7,A6,A4,A3,Bb,Ba,A5,AV,AF,AS,AG,AO,AU,ao,bb,aa,ab,ba,bl,bq,ay,be,bi,bf,bj,bg,bo,bm,br,Ay,BM,hd,PX,WT,bIW,cy,ee,L3];refine hL _ ⟨i+1,out++[d%2^32,d/2^32],by omega,by simp;omega,?_,?_,rfl⟩ (by simp only[ao];omega)
  ·intro x hx;rcases dt.1 hx with hx|hx
   ·exact hod x hx
   ·have:x=d%2^32∨x=d/2^32:=by simpa using hx
    omega
  ·rw[Vd,hov,hol,hn,gn];show nv (2^64) (a.take i)+(2^64)^i*(d%2^32+2^32*(d/2^32+2^32*0))=_;congr 2;omega
 ·have e:i=a.length:=by omega
  subst e;rw[dw]at hov;have ho:=Ve (B:=2^32) (by decide) hod hol hov;subst ho;simp(disch:=omega) only[Be,A2,Bf,AW,AN,Bg,A1,AZ,A9,A8,A7,A6,A4,A3,Bb,Ba,A5,AV,AF,AS,AG,AO,AU,ao,bb,aa,ab,ba,bl,bq,ay,be,bi,bf,bj,bg,bo,bm,br,Ay]
theorem aVR(a:List Nat)(ha:∀x∈a,x<2^64)(hlen:a.length<=400000):bS (Wd a,())=some (Dh (nv (2^64) a),()):=by
 show wK Aq.pre Aq.F pX (Wd a)=_;unfold wK;have hw:=aWN a ha (by omega);have hlt:=C0 (B:=2^64) (by decide) a ha;have p0:=VI (l:=pd (2^32) (2*a.length) (nv (2^64) a)) ⟨H3 (by decide) _ _,by rw[Dr];omega⟩ (H4 (by decide) _ _ (by rw[gn];exact hlt));have e1:al .i64 (2*((Wd a).length:Int))=((2*a.length:Nat):Int):=by rw[Ay,Au (by omega)];omega
 have e2:decide (((2*a.length:Nat):Int)*8<=140737488355328)=true:=ae (by omega);simp(disch:=omega) only[Be,A2,Bf,AW,AN,Bg,A1,AZ,A9,A8,A7,A6,A4,A3,Bb,Ba,A5,AV,AF,AS,AG,AO,AU,ao,bb,aa,ab,ba,bl,bq,ay,be,bi,bf,bj,bg,bo,bm,br,e1,e2,jg,hw];show(bif Aq.pre (Wd (pd (2^32) (2*a.length) (nv (2^64) a)),())then some (Aq.F (Wd (pd (2^32) (2*a.length) (nv (2^64) a)),()))else none)=_;simp only[Yj p0,aa];rfl
theorem aGR{x:Nat}(h:x<2^64):bS (((x:Int)::[]),())=some (Dh x,()):=by
 have:=aVR [x] (fun y hy=>by rw[List.mem_singleton.1 hy];exact h) (by simp);simpa[nv,Wd]using this
theorem aNj{B:Nat}{out:List Nat}{k c V V' d:Nat}(hol:out.length=k)(hov:nv B out+B^k*c=V)(hV:V'=V+B^k*d):
  nv B (out++[(d+c)%B])+B^(k+1)*((d+c)/B)=V':=by
 rw[LR,hol,hV,←hov,fm,bu,io,←ck];have:=jk (d+c) B;rw[this,ck];omega
theorem aNh{B:Nat}(hB:2<=B){out:List Nat}{k c V:Nat}(hol:out.length=k)(hod:∀x∈out,x<B)(hov:nv B out+B^k*c=V):out=pd B k (V%B^k)/\c=V/B^k:=by
 have hlt:=C0 hB out hod;rw[hol]at hlt;have hp:0<B^k:=iq (by omega);refine⟨Ve (by omega) hod hol ?_,?_⟩
 ·rw[←hov,gm,ce hlt]
 ·rw[←hov,fj _ _ hp,dc hlt,dj]
theorem u6(B n:Nat):nv B (bd n 0)=0:=by
 induction n with
 |zero=>rfl
 |succ n ih=>rw[jw];simp[nv,ih]
theorem aWO(l:List Nat)(hl:Hs l)(m w:Nat)(hm:m<=2^31)(hw:w<=1000000):
  pZ ((Wd l,((m:Int),((0:Int),((),((0:Int),()))))),(Wd (bd w 0),())) =
   some (.inl (((),((((2^32)^w*(nv (2^32) l*m)/(2^32)^(w+l.length):Nat):Int),())),(Wd (pd (2^32) (w+l.length) ((2^32)^w*(nv (2^32) l*m)%(2^32)^(w+l.length))),()))):=by
 have key:=Cx (aO6 Aq.pre Aq.F) (fun x=>l.length-x.1.2.2.1.toNat)
  (fun x=>∃(i:Nat) (out:List Nat) (c:Nat),i<=l.length/\out.length=w+i/\(∀x∈out,x<2^32)/\c<2^32/\nv (2^32) out+(2^32)^(w+i)*c=(2^32)^w*(nv (2^32) (l.take i)*m)/\x=((Wd l,((m:Int),((i:Int),((),((c:Int),()))))),(Wd out,())))
  (fun _=>.inl (((),((((2^32)^w*(nv (2^32) l*m)/(2^32)^(w+l.length):Nat):Int),())),(Wd (pd (2^32) (w+l.length) ((2^32)^w*(nv (2^32) l*m)%(2^32)^(w+l.length))),()))) ?_ _
  ⟨0,bd w 0,0,dv _,by simp,(fun x hx=>by have:=List.eq_of_mem_replicate hx;omega),by decide,by rw[u6];simp[nv],rfl⟩
 ·exact key
 intro L x hx hL;obtain⟨i,out,c,hi,hol,hod,hc,hov,rfl⟩:=hx;have hll:=hl.2;unfold YD;rcases bc i l.length with hlt|hge
 ·have hx:=B0 (by decide) hl.1 i;have hn:=Dg (2^32) l i;generalize hd:l.getD i 0=d at *
  have hdm:d*m<=d*2^31:=cq _ hm;have hdm2:d*m<2^63:=by omega
  have hstep:=aNj (B:=2^32) (V':=(2^32)^w*(nv (2^32) (l.take (i+1))*m)) (d:=d*m) hol hov (by
   rw[hn,cu,ck,ca,bu,bu])
  have e1:=jD d m (by omega);generalize d*m=dm at *
  simp(disch:=omega) only[Be,A2,Bf,AW,AN,Bg,A1,AZ,A9,A8,A7,A6,A4,A3,Bb,Ba,A5,AV,AF,AS,AG,AO,AU,ao,bb,aa,ab,ba,bl,bq,ay,be,bi,bf,bj,bg,bo,bm,br,Ay,BM,hd,e1,DL,PX,WT,PY,cy,ee,L3];exact hL _ ⟨i+1,out++[(dm+c)%2^32],(dm+c)/2^32,by omega,by simp;omega,JB hod (cn _ (by decide)),by omega,hstep,rfl⟩ (by simp only[ao];omega)
 ·have e:i=l.length:=by omega
  subst e;rw[dw]at hov;obtain⟨h1,h2⟩:=aNh (by decide) hol hod hov;simp(disch:=omega) only[Be,A2,Bf,AW,AN,Bg,A1,AZ,A9,A8,A7,A6,A4,A3,Bb,Ba,A5,AV,AF,AS,AG,AO,AU,ao,bb,aa,ab,ba,bl,bq,ay,be,bi,bf,bj,bg,bo,bm,br,Ay];rw[h1,h2]
theorem aVT(l:List Nat)(hl:Hs l)(hl2:l.length<=400000)(n:Nat)(hn:n<=10000000):bT (Wd l,(n:Int),())=some (Dh (nv (2^32) l*2^n),()):=by
 show wM Aq.pre Aq.F pZ (Wd l) n=_;unfold wM;have hs:n%32<32:=cn _ (by decide);have hm:2^(n%32)<=2^31:=ax (by decide) (by omega);have hw:=aWO l hl (2^(n%32)) (n/32) hm (by omega);have hV:(2^32)^(n/32)*(nv (2^32) l*2^(n%32))=nv (2^32) l*2^n:=by
  rw[←gn,ic,←ca];congr 2;omega
 rw[hV]at hw;have hB:0<(2^32)^(n/32+l.length):=iq (by decide);have hlt:=C0 (B:=2^32) (by decide) l hl.1;have hq:nv (2^32) l*2^n/(2^32)^(n/32+l.length)<2^32:=by
  rw[cj hB,←hV,ca,ic (2^32)];refine(pp (iq (n:=n/32) (show 0<2^32 by decide))).2 ?_;have h1:nv (2^32) l*2^(n%32)<=nv (2^32) l*2^32:=cq _ (by omega);have h2:nv (2^32) l*2^32<(2^32)^l.length*2^32:=dl hlt (by decide);rw[bt (2^32) ((2^32)^l.length)];omega
 have hlast:nv (2^32) (pd (2^32) (n/32+l.length) (nv (2^32) l*2^n%(2^32)^(n/32+l.length))++[nv (2^32) l*2^n/(2^32)^(n/32+l.length)])=nv (2^32) l*2^n:=by
  rw[LR,Dr,H4 (by decide) _ _ (cn _ hB)];exact jk _ _
 have p0:=VI ⟨JB (H3 (by decide) (n/32+l.length) (nv (2^32) l*2^n%(2^32)^(n/32+l.length))) hq,by simp[Dr];omega⟩ hlast;have hpl:=Dr (2^32) (n/32+l.length) (nv (2^32) l*2^n%(2^32)^(n/32+l.length));generalize nv (2^32) l*2^n/(2^32)^(n/32+l.length)=C at *
 generalize pd (2^32) (n/32+l.length) (nv (2^32) l*2^n%(2^32)^(n/32+l.length))=O at *
 have e0:decide (((n/32+l.length+1:Nat):Int)*8<=140737488355328)=true:=ae (by omega);have e1:(1:Int)=((1:Nat):Int):=rfl;simp(disch:=omega) only[Be,A2,Bf,AW,AN,Bg,A1,AZ,A9,A8,A7,A6,A4,A3,Bb,Ba,A5,AV,AF,AS,AG,AO,AU,ao,bb,aa,ab,ba,bl,bq,ay,be,bi,bf,bj,bg,bo,bm,br,aQt,aSQ,J6,PR,Ay,Of,e0,hw];show(bif CK ((Wd O).length+((C:Int)::[]).length) 8 then(bif Aq.pre (Wd O++((C:Int)::[]),())then some (Aq.F (Wd O++((C:Int)::[]),()))else none)else none)=_;simp(disch:=omega) only[Be,A2,Bf,AW,AN,Bg,A1,AZ,A9,A8,A7,A6,A4,A3,Bb,Ba,A5,AV,AF,AS,AG,AO,AU,ao,bb,aa,ab,ba,bl,bq,ay,be,bi,bf,bj,bg,bo,bm,br,PY,Ay,cy,ee,L3,aQj p0,aOq p0];rfl
theorem aWP(a b:List Nat)(ha:Hs a)(hb:Hs b)(K:Nat)(hK:K<=1000000)(haK:a.length<=K)(hbK:b.length<=K):
  qA (((K:Int),(Wd a,(Wd b,((0:Int),((),((0:Int),())))))),([],())) =
   some (.inl (((),((((nv (2^32) a+nv (2^32) b)/(2^32)^K:Nat):Int),())),(Wd (pd (2^32) K ((nv (2^32) a+nv (2^32) b)%(2^32)^K)),()))):=by
 have key:=Cx (aO7 Aq.pre Aq.F) (fun x=>K-x.1.2.2.2.1.toNat)
  (fun x=>∃(i:Nat) (out:List Nat) (c:Nat),i<=K/\out.length=i/\(∀x∈out,x<2^32)/\c<=1/\nv (2^32) out+(2^32)^i*c=nv (2^32) (a.take i)+nv (2^32) (b.take i)/\x=(((K:Int),(Wd a,(Wd b,((i:Int),((),((c:Int),())))))),(Wd out,())))
  (fun _=>.inl (((),((((nv (2^32) a+nv (2^32) b)/(2^32)^K:Nat):Int),())),(Wd (pd (2^32) K ((nv (2^32) a+nv (2^32) b)%(2^32)^K)),()))) ?_ _
  ⟨0,[],0,dv _,rfl,(fun x hx=>by simp at hx),by decide,by simp[nv],rfl⟩
 ·exact key
 intro L x hx hL;obtain⟨i,out,c,hi,hol,hod,hc,hov,rfl⟩:=hx;have hla:=ha.2;have hlb:=hb.2;unfold YE;rcases bc i K with hlt|hge
 ·have hxa:=B0 (by decide) ha.1 i;have hxb:=B0 (by decide) hb.1 i;have hna:=Dg (2^32) a i;have hnb:=Dg (2^32) b i;have hstep:=aNj (B:=2^32) (V':=nv (2^32) (a.take (i+1))+nv (2^32) (b.take (i+1))) (d:=a.getD i 0+b.getD i 0) hol hov (by
   rw[hna,hnb,ck];omega)
  have hza:a.length<=i->a.getD i 0=0:=fun h=>by rw[aw,dz h];rfl
  have hzb:b.length<=i->b.getD i 0=0:=fun h=>by rw[aw,dz h];rfl
  have hgo:=fun s=>hL (((K:Int),(Wd a,(Wd b,(((i+1:Nat):Int),((),((s:Int),())))))),(Wd (out++[(a.getD i 0+b.getD i 0+c)%2^32]),()));have hgo:=hgo (((a.getD i 0+b.getD i 0+c)/2^32:Nat)) ⟨i+1,_,(a.getD i 0+b.getD i 0+c)/2^32,by omega,by rw[fc,hol];rfl,JB hod (cn _ (by decide)),by omega,hstep,rfl⟩ (by simp only[ao];omega);have hgo':∀s:Nat,s=a.getD i 0+b.getD i 0+c->L (((K:Int),(Wd a,(Wd b,(((i+1:Nat):Int),((),(((s/2^32:Nat):Int),())))))),(Wd (out++[s%2^32]),()))=L (((K:Int),(Wd a,(Wd b,(((i+1:Nat):Int),((),((((a.getD i 0+b.getD i 0+c)/2^32:Nat):Int),())))))),(Wd (out++[(a.getD i 0+b.getD i 0+c)%2^32]),())):=fun s hs=>by rw[hs]
  generalize hda:a.getD i 0=da at *
  generalize hdb:b.getD i 0=db at *
  rcases bc i a.length with hia|hia<;>rcases bc i b.length with hib|hib
  ·simp(disch:=omega) only[Be,A2,Bf,AW,AN,Bg,A1,AZ,A9,A8,A7,A6,A4,A3,Bb,Ba,A5,AV,AF,AS,AG,AO,AU,ao,bb,aa,ab,ba,bl,bq,ay,be,bi,bf,bj,bg,bo,bm,br,Ay,BM,hda,hdb,DL,PX,WT,PY,cy,ee,L3];exact(hgo' (c+da+db) (by omega)).trans hgo
  ·have:=hzb hib;simp(disch:=omega) only[Be,A2,Bf,AW,AN,Bg,A1,AZ,A9,A8,A7,A6,A4,A3,Bb,Ba,A5,AV,AF,AS,AG,AO,AU,ao,bb,aa,ab,ba,bl,bq,ay,be,bi,bf,bj,bg,bo,bm,br,Ay,BM,hda,hdb,DL,PX,WT,PY,cy,ee,L3];exact(hgo' (c+da) (by omega)).trans hgo
  ·have:=hza hia;simp(disch:=omega) only[Be,A2,Bf,AW,AN,Bg,A1,AZ,A9,A8,A7,A6,A4,A3,Bb,Ba,A5,AV,AF,AS,AG,AO,AU,ao,bb,aa,ab,ba,bl,bq,ay,be,bi,bf,bj,bg,bo,bm,br,Ay,BM,hda,hdb,DL,PX,WT,PY,cy,ee,L3];exact(hgo' (c+db) (by omega)).trans hgo
  ·have:=hza hia;have:=hzb hib;simp(disch:=omega) only[Be,A2,Bf,AW,AN,Bg,A1,AZ,A9,A8,A7,A6,A4,A3,Bb,Ba,A5,AV,AF,AS,AG,AO,AU,ao,bb,aa,ab,ba,bl,bq,ay,be,bi,bf,bj,bg,bo,bm,br,Ay,BM,hda,hdb,DL,PX,WT,PY,cy,ee,L3];exact(hgo' c (by omega)).trans hgo
 ·have e:i=K:=by omega
  subst e;rw[de haK,de hbK]at hov;obtain⟨h1,h2⟩:=aNh (by decide) hol hod hov;simp(disch:=omega) only[Be,A2,Bf,AW,AN,Bg,A1,AZ,A9,A8,A7,A6,A4,A3,Bb,Ba,A5,AV,AF,AS,AG,AO,AU,ao,bb,aa,ab,ba,bl,bq,ay,be,bi,bf,bj,bg,bo,bm,br,Ay];rw[h1,h2]
theorem aVU(a b:List Nat)(ha:Hs a)(hb:Hs b)(ha2:a.length<=400000)(hb2:b.length<=400000):bV (Wd a,Wd b,())=some (Dh (nv (2^32) a+nv (2^32) b),()):=by
 show wN Aq.pre Aq.F qA (Wd a) (Wd b)=_;unfold wN;have hKe:∃K:Nat,(if((Wd b).length:Int)>((Wd a).length:Int)then((Wd b).length:Int)else((Wd a).length:Int))=(K:Int)/\a.length<=K/\b.length<=K/\K<=400000:=by
  rw[Ay,Ay];by_cases h:(b.length:Int)>(a.length:Int)
  ·exact⟨b.length,by rw[ah h],by omega,ci _,hb2⟩
  ·exact⟨a.length,by rw[ag h],ci _,by omega,ha2⟩
 obtain⟨K,hK,haK,hbK,hK2⟩:=hKe;have hw:=aWP a b ha hb K (by omega) haK hbK;have hB:0<(2^32)^K:=iq (by decide);have hla:=az (C0 (B:=2^32) (by decide) a ha.1) (ax (by decide) haK);have hlb:=az (C0 (B:=2^32) (by decide) b hb.1) (ax (by decide) hbK);have hq:(nv (2^32) a+nv (2^32) b)/(2^32)^K<2^32:=by
  rw[cj hB];have:2*(2^32)^K<=2^32*(2^32)^K:=bh _ (by decide);omega
 have hlast:nv (2^32) (pd (2^32) K ((nv (2^32) a+nv (2^32) b)%(2^32)^K)++[(nv (2^32) a+nv (2^32) b)/(2^32)^K])=nv (2^32) a+nv (2^32) b:=by
  rw[LR,Dr,H4 (by decide) _ _ (cn _ hB)];exact jk _ _
 have p0:=VI ⟨JB (H3 (by decide) K ((nv (2^32) a+nv (2^32) b)%(2^32)^K)) hq,by simp[Dr];omega⟩ hlast;have hpl:=Dr (2^32) K ((nv (2^32) a+nv (2^32) b)%(2^32)^K);generalize(nv (2^32) a+nv (2^32) b)/(2^32)^K=C at *
 generalize pd (2^32) K ((nv (2^32) a+nv (2^32) b)%(2^32)^K)=O at *
 have e0:decide (((K+1:Nat):Int)*8<=140737488355328)=true:=ae (by omega);simp(disch:=omega) only[hK,Be,A2,Bf,AW,AN,Bg,A1,AZ,A9,A8,A7,A6,A4,A3,Bb,Ba,A5,AV,AF,AS,AG,AO,AU,ao,bb,aa,ab,ba,bl,bq,ay,be,bi,bf,bj,bg,bo,bm,br,jg,e0,hw];show(bif CK ((Wd O).length+((C:Int)::[]).length) 8 then(bif Aq.pre (Wd O++((C:Int)::[]),())then some (Aq.F (Wd O++((C:Int)::[]),()))else none)else none)=_;simp(disch:=omega) only[Be,A2,Bf,AW,AN,Bg,A1,AZ,A9,A8,A7,A6,A4,A3,Bb,Ba,A5,AV,AF,AS,AG,AO,AU,ao,bb,aa,ab,ba,bl,bq,ay,be,bi,bf,bj,bg,bo,bm,br,PY,Ay,cy,ee,L3,aQj p0,aOq p0];rfl
end VL
end
