/- Part 7 of the proof. What is proved: symbolic execution of the functions, proved sound; what each function of the program computes, and that every run ends with it; what these functions compute, in plain numbers. Conditions: each theorem bears its own. -/
import Derived.Test.YthajbkcpnbiobaaGreatDoorVxG6
set_option linter.all false
set_option exponentiation.threshold 1000000
noncomputable section
open Bool renaming and_eq_true->ah,and_false->ar,and_self->ax,and_true->bf,eq_iff_iff->fj,false_and->ak,false_or->bc,not_false->au,not_true->bb,or_eq_true->dv,or_false->bg,or_self->ba,or_true->bd,true_and->az,true_or->av
open Classical renaming not_not->ji
open Go.IntKind renaming wrap->aa
open Int renaming add_zero->kx,eq_ofNat_of_zero_le->cn,le_refl->li,natAbs_natCast->pg,natCast_add->nt,natCast_mul->ka,natCast_zero->ir,sub_self->mz,tmod->gm,toNat->ag,toNat_natCast->ab,toNat_zero->ap
open List renaming append_assoc->fg,append_nil->dl,drop_eq_getElem_cons->fd,drop_length->ii,drop_of_length_le->jl,drop_zero->jv,eq_of_mem_replicate->ll,getD_eq_getElem?_getD->al,getElem?_append_right->cj,getElem?_drop->du,getElem?_eq_getElem->bq,getElem?_eq_none->df,length_cons->dh,length_nil->fe,length_set->iy,mem_append->cy,replicate->aq,replicate_succ->jj,replicate_zero->iv,set_append_right->gd,set_cons_zero->jt,take_length->dq,take_of_length_le->cm
open Nat renaming add_comm->iq,add_mul->ce,add_mul_div_left->dx,add_mul_div_right->og,add_mul_mod_self_left->fu,add_mul_mod_self_right->la,add_sub_cancel_left->jg,add_zero->cu,div_add_mod->cp,div_div_eq_div_mul->dk,div_eq_of_lt->cg,div_eq_zero_iff->mr,div_le_self->ee,div_lt_iff_lt_mul->bv,div_mul_le_self->lk,eq_zero_or_pos->br,le_div_iff_mul_le->go,le_mul_of_pos_left->iu,le_mul_of_pos_right->gj,le_refl->bu,le_trans->ga,lt_of_le_of_lt->bl,lt_of_lt_of_le->ao,lt_of_mul_lt_mul_right->lb,lt_or_ge->ay,lt_trans->fq,lt_trichotomy->fi,mod_add_div->ja,mod_eq_of_lt->bo,mod_lt->ca,mod_mul->ms,mod_one->ou,mod_two_eq_zero_or_one->jm,mul_add->bw,mul_add_div->kf,mul_add_mod->kg,mul_assoc->bh,mul_comm->be,mul_div_cancel->jd,mul_div_cancel_left->im,mul_le_mul->ic,mul_le_mul_left->cd,mul_le_mul_right->aw,mul_left_comm->gc,mul_lt_mul_left->ot,mul_lt_mul_of_pos_right->ck,mul_mod_left->mh,mul_one->fy,mul_pos->ij,mul_right_comm->ju,mul_zero->dz,one_mul->fx,pow_add->bi,pow_le_pow_right->ai,pow_lt_pow_iff_right->cv,pow_lt_pow_right->bt,pow_mul->fw,pow_pos->gw,pow_succ->dj,pow_succ'->il,pow_zero->gz,sub_add_cancel->js,sub_self->gy,sub_zero->mw,succ_eq_add_one->ki,two_pow_pos->af,zero_add->cz,zero_le->dp,zero_mul->ej
namespace VL
open Go Vx
theorem aZf{r k s ρ:Nat}(hρ:0<ρ)(hρ2:ρ<2^k)(hs:1<=s):B9 (ρ+2^k*r) (k+s)=B9 r s/2*2+1:=by
 unfold B9;have hp:2^(k+s-1)=2^k*2^(s-1):=by rw[←bi];congr 1;omega
 rw[hp];have hh:=af (s-1);generalize 2^(s-1)=h at *
 generalize 2^k=K at *
 rw[if_neg (by omega)];rcases fi r h with h1|h1|h1
 ·have:K*(r+1)<=K*h:=cd _ h1;rw[bw,fy]at this;rw[if_pos (by omega)];by_cases hr:r=0
  ·rw[if_pos hr]
  ·rw[if_neg hr,if_pos h1]
 ·subst h1;rw[if_neg (by omega),if_neg (by omega),if_neg (by omega),if_neg (by omega),if_pos rfl]
 ·have:K*(h+1)<=K*r:=cd _ h1;rw[bw,fy]at this;rw[if_neg (by omega),if_neg (by omega),if_neg (by omega),if_neg (by omega),if_neg (by omega)]
theorem aNm{r k s:Nat}(hs:1<=s):B9 (2^k*r) (k+s)=B9 r s:=by
 unfold B9;have hp:2^(k+s-1)=2^k*2^(s-1):=by rw[←bi];congr 1;omega
 rw[hp];have hk:=af k;generalize 2^(s-1)=h at *
 generalize 2^k=K at *
 have h1:K*r=0↔r=0:=by
  constructor
  ·intro h;rcases Nat.mul_eq_zero.1 h with h|h<;>omega
  ·intro h;rw[h,dz]
 have h2:K*r<K*h↔r<h:=ot hk;have h3:K*r=K*h↔r=h:=Nat.mul_right_inj (by omega);simp only[h1,h2,h3]
theorem bBL(N k s:Nat):N%2^(k+s)=N%2^k+2^k*(N/2^k%2^s):=by
 rw[bi,ms]
theorem WR{n:Nat}{e q:Int}(h:q<=e):GR n e q=n*2^(e-q).toNat:=if_pos h
theorem WQ{n:Nat}{e q:Int}(h:e<q):GR n e q=n/2^(q-e).toNat:=if_neg (by omega)
theorem aD{n:Nat}{e q:Int}(h:q<=e):Vi n e q=0:=if_pos h
theorem aC{n:Nat}{e q:Int}(h:e<q):Vi n e q=B9 (n%2^(q-e).toNat) (q-e).toNat:=if_neg (by omega)
theorem OO(n:Nat)(e q:Int):Dj n e q false=Vi n e q:=rfl
theorem aZm(n:Nat)(e q:Int):Dj n e q true=Vi n e q/2*2+1:=rfl
theorem aDK{N k:Nat}{E q:Int}(hq:N%2^k≠0->E+k<q):
  GR (N/2^k) (E+k) q=GR N E q/\Dj (N/2^k) (E+k) q (decide (N%2^k≠0))=Dj N E q false:=by
 have hk:=af k;have hdm:=cp N (2^k);by_cases h1:E+k<q
 ·have es:(q-E).toNat=k+(q-(E+k)).toNat:=by omega
  have hs:1<=(q-(E+k)).toNat:=by omega
  rw[WQ h1,WQ (by omega),OO,aC (e:=E) (by omega),es];have hrs:=aC (n:=N/2^k) h1;generalize(q-(E+k)).toNat=s at *
  refine⟨by rw[dk,←bi],?_⟩;rw[bBL];by_cases hr:N%2^k=0
  ·rw[hr,cz,aNm hs,show decide ((0:Nat)≠0)=false by decide,OO,hrs]
  ·have hρ:0<N%2^k:=by omega
   rw[aZf hρ (ca _ hk) hs,decide_eq_true hr,aZm,hrs]
 ·have hr:N%2^k=0:=by
   by_cases h:N%2^k=0
   ·exact h
   ·exact absurd (hq h) h1
  rw[hr,cu]at hdm;rw[hr];clear hq hr;generalize N/2^k=n at *
  subst hdm;have hz:decide ((0:Nat)≠0)=false:=by decide
  rw[hz,WR (by omega),OO,OO,aD (by omega)];by_cases h2:q<=E
  ·rw[WR h2,aD h2,show(E+k-q).toNat=k+(E-q).toNat by omega,bi,be (2^k) n,bh];exact⟨rfl,rfl⟩
  ·rw[WQ (by omega),aC (by omega)];have ek:k=(q-E).toNat+(E+k-q).toNat:=by omega
   generalize(q-E).toNat=s at *
   generalize(E+k-q).toNat=t at *
   have:2^k*n=2^s*(2^t*n):=by rw[ek,bi,bh]
   rw[this,im _ (af s),Nat.mul_mod_right];exact⟨be _ _,rfl⟩
theorem tH{m:Int}{neg:Bool}{N k:Nat}{E q:Int}(hq:N%2^k≠0->E+k<q):BB m neg (N/2^k) (E+k) q (decide (N%2^k≠0))=BB m neg N E q false:=by
 obtain⟨h1,h2⟩:=aDK hq;unfold BB;rw[h1,h2]
theorem aTi{N k:Nat}{E:Int}(hn:N/2^k≠0):AA (N/2^k) (E+k)=AA N E:=by
 have hk:=af k;have h1:2^k<=N:=by
  rcases ay N (2^k)with h|h
  ·exact absurd (cg h) hn
  ·exact h
 have:=sX h1;unfold AA;omega
theorem aFy{f m:Int}{neg:Bool}{N k:Nat}{E:Int}(hf:Fm f)(hn:N/2^k≠0)(hm:N%2^k≠0->fP f+2<=Ae (N/2^k)):AP f m neg (N/2^k) (E+k) (decide (N%2^k≠0))=AP f m neg N E false:=by
 have ht:=aTi (E:=E) hn;have htd:AA (N/2^k) (E+k)=E+k+(Ae (N/2^k):Int)-1:=rfl;have hq1:N%2^k≠0->E+k<B1 f (AA N E):=fun h=>by
  have:=hm h;unfold B1;split<;>omega
 have hq2:N%2^k≠0->E+k<AA N E-fP f+1:=fun h=>by
  have:=hm h;omega
 have hti:DW f m neg (N/2^k) (E+k) (decide (N%2^k≠0))=DW f m neg N E false:=by
  unfold DW;rw[ht,tH hq2]
 unfold AP;simp only[ht,tH hq1,(aDK hq1).2,hti]
theorem WU{f m:Int}{neg:Bool}(hf:Fm f){n:Nat}(hn:n≠0)(k:Nat)(e:Int):AP f m neg (n*2^k) e false=AP f m neg n (e+k) false:=by
 have hk:=af k;have:=aFy (f:=f) (m:=m) (neg:=neg) (N:=n*2^k) (k:=k) (E:=e) hf (by rw[jd _ hk];exact hn) (by rw[mh];omega);rw[jd _ hk,mh]at this;exact this.symm
end VL
namespace VL
open Go Vx
def aL(f m:Int)(nx:Bool)(X ex:Int)(ny:Bool)(Y ey:Int):Option (DenS KH):=bif(AS.pre (((0:Int),(X,())),((if((70:Int)<(aa .i64 (ex-ey)))then(70:Int)else(aa .i64 (ex-ey))),())))then(bif(AZ.pre (((0:Int),(Y,())),((aa .i64 ((aa .i64 (ex-(if((70:Int)<(aa .i64 (ex-ey)))then(70:Int)else(aa .i64 (ex-ey)))))-ey)),())))then(bif(AS.pre ((AZ.F (((0:Int),(Y,())),((aa .i64 ((aa .i64 (ex-(if((70:Int)<(aa .i64 (ex-ey)))then(70:Int)else(aa .i64 (ex-ey)))))-ey)),()))).1,((aa .i64 ((aa .i64 (ex-(if((70:Int)<(aa .i64 (ex-ey)))then(70:Int)else(aa .i64 (ex-ey)))))-ey)),())))then(bif(AZ.pre (((0:Int),(Y,())),((aa .i64 ((aa .i64 (ex-(if((70:Int)<(aa .i64 (ex-ey)))then(70:Int)else(aa .i64 (ex-ey)))))-ey)),())))then(bif(nx==ny)then(bif(NK.pre ((AS.F (((0:Int),(X,())),((if((70:Int)<(aa .i64 (ex-ey)))then(70:Int)else(aa .i64 (ex-ey))),()))).1,(AZ.F (((0:Int),(Y,())),((aa .i64 ((aa .i64 (ex-(if((70:Int)<(aa .i64 (ex-ey)))then(70:Int)else(aa .i64 (ex-ey)))))-ey)),())))))then(bif(Ch.pre (f,(m,(nx,((NK.F ((AS.F (((0:Int),(X,())),((if((70:Int)<(aa .i64 (ex-ey)))then(70:Int)else(aa .i64 (ex-ey))),()))).1,(AZ.F (((0:Int),(Y,())),((aa .i64 ((aa .i64 (ex-(if((70:Int)<(aa .i64 (ex-ey)))then(70:Int)else(aa .i64 (ex-ey)))))-ey)),()))))).1,((aa .i64 (ex-(if((70:Int)<(aa .i64 (ex-ey)))then(70:Int)else(aa .i64 (ex-ey))))),(((!(((AS.F ((AZ.F (((0:Int),(Y,())),((aa .i64 ((aa .i64 (ex-(if((70:Int)<(aa .i64 (ex-ey)))then(70:Int)else(aa .i64 (ex-ey)))))-ey)),()))).1,((aa .i64 ((aa .i64 (ex-(if((70:Int)<(aa .i64 (ex-ey)))then(70:Int)else(aa .i64 (ex-ey)))))-ey)),()))).1.1==(0:Int))&&((AS.F ((AZ.F (((0:Int),(Y,())),((aa .i64 ((aa .i64 (ex-(if((70:Int)<(aa .i64 (ex-ey)))then(70:Int)else(aa .i64 (ex-ey)))))-ey)),()))).1,((aa .i64 ((aa .i64 (ex-(if((70:Int)<(aa .i64 (ex-ey)))then(70:Int)else(aa .i64 (ex-ey)))))-ey)),()))).1.2.1==Y)))||((decide ((aa .i64 ((aa .i64 (ex-(if((70:Int)<(aa .i64 (ex-ey)))then(70:Int)else(aa .i64 (ex-ey)))))-ey))>(63:Int)))&&(Y !=(0:Int)))),())))))))then(some (Ch.F (f,(m,(nx,((NK.F ((AS.F (((0:Int),(X,())),((if((70:Int)<(aa .i64 (ex-ey)))then(70:Int)else(aa .i64 (ex-ey))),()))).1,(AZ.F (((0:Int),(Y,())),((aa .i64 ((aa .i64 (ex-(if((70:Int)<(aa .i64 (ex-ey)))then(70:Int)else(aa .i64 (ex-ey)))))-ey)),()))))).1,((aa .i64 (ex-(if((70:Int)<(aa .i64 (ex-ey)))then(70:Int)else(aa .i64 (ex-ey))))),(((!(((AS.F ((AZ.F (((0:Int),(Y,())),((aa .i64 ((aa .i64 (ex-(if((70:Int)<(aa .i64 (ex-ey)))then(70:Int)else(aa .i64 (ex-ey)))))-ey)),()))).1,((aa .i64 ((aa .i64 (ex-(if((70:Int)<(aa .i64 (ex-ey)))then(70:Int)else(aa .i64 (ex-ey)))))-ey)),()))).1.1==(0:Int))&&((AS.F ((AZ.F (((0:Int),(Y,())),((aa .i64 ((aa .i64 (ex-(if((70:Int)<(aa .i64 (ex-ey)))then(70:Int)else(aa .i64 (ex-ey)))))-ey)),()))).1,((aa .i64 ((aa .i64 (ex-(if((70:Int)<(aa .i64 (ex-ey)))then(70:Int)else(aa .i64 (ex-ey)))))-ey)),()))).1.2.1==Y)))||((decide ((aa .i64 ((aa .i64 (ex-(if((70:Int)<(aa .i64 (ex-ey)))then(70:Int)else(aa .i64 (ex-ey)))))-ey))>(63:Int)))&&(Y !=(0:Int)))),()))))))))else none)else none)else bif(EF.pre ((AS.F (((0:Int),(X,())),((if((70:Int)<(aa .i64 (ex-ey)))then(70:Int)else(aa .i64 (ex-ey))),()))).1,(AZ.F (((0:Int),(Y,())),((aa .i64 ((aa .i64 (ex-(if((70:Int)<(aa .i64 (ex-ey)))then(70:Int)else(aa .i64 (ex-ey)))))-ey)),())))))then(bif(decide ((EF.F ((AS.F (((0:Int),(X,())),((if((70:Int)<(aa .i64 (ex-ey)))then(70:Int)else(aa .i64 (ex-ey))),()))).1,(AZ.F (((0:Int),(Y,())),((aa .i64 ((aa .i64 (ex-(if((70:Int)<(aa .i64 (ex-ey)))then(70:Int)else(aa .i64 (ex-ey)))))-ey)),()))))).1<(0:Int)))then(bif(B8.pre ((AZ.F (((0:Int),(Y,())),((aa .i64 ((aa .i64 (ex-(if((70:Int)<(aa .i64 (ex-ey)))then(70:Int)else(aa .i64 (ex-ey)))))-ey)),()))).1,(AS.F (((0:Int),(X,())),((if((70:Int)<(aa .i64 (ex-ey)))then(70:Int)else(aa .i64 (ex-ey))),())))))then(bif((!(((AS.F ((AZ.F (((0:Int),(Y,())),((aa .i64 ((aa .i64 (ex-(if((70:Int)<(aa .i64 (ex-ey)))then(70:Int)else(aa .i64 (ex-ey)))))-ey)),()))).1,((aa .i64 ((aa .i64 (ex-(if((70:Int)<(aa .i64 (ex-ey)))then(70:Int)else(aa .i64 (ex-ey)))))-ey)),()))).1.1==(0:Int))&&((AS.F ((AZ.F (((0:Int),(Y,())),((aa .i64 ((aa .i64 (ex-(if((70:Int)<(aa .i64 (ex-ey)))then(70:Int)else(aa .i64 (ex-ey)))))-ey)),()))).1,((aa .i64 ((aa .i64 (ex-(if((70:Int)<(aa .i64 (ex-ey)))then(70:Int)else(aa .i64 (ex-ey)))))-ey)),()))).1.2.1==Y)))||((decide ((aa .i64 ((aa .i64 (ex-(if((70:Int)<(aa .i64 (ex-ey)))then(70:Int)else(aa .i64 (ex-ey)))))-ey))>(63:Int)))&&(Y !=(0:Int))))then(bif(B8.pre ((B8.F ((AZ.F (((0:Int),(Y,())),((aa .i64 ((aa .i64 (ex-(if((70:Int)<(aa .i64 (ex-ey)))then(70:Int)else(aa .i64 (ex-ey)))))-ey)),()))).1,(AS.F (((0:Int),(X,())),((if((70:Int)<(aa .i64 (ex-ey)))then(70:Int)else(aa .i64 (ex-ey))),()))))).1,(((0:Int),((1:Int),())),())))then(bif((((B8.F ((B8.F ((AZ.F (((0:Int),(Y,())),((aa .i64 ((aa .i64 (ex-(if((70:Int)<(aa .i64 (ex-ey)))then(70:Int)else(aa .i64 (ex-ey)))))-ey)),()))).1,(AS.F (((0:Int),(X,())),((if((70:Int)<(aa .i64 (ex-ey)))then(70:Int)else(aa .i64 (ex-ey))),()))))).1,(((0:Int),((1:Int),())),()))).1.1==(0:Int))&&((B8.F ((B8.F ((AZ.F (((0:Int),(Y,())),((aa .i64 ((aa .i64 (ex-(if((70:Int)<(aa .i64 (ex-ey)))then(70:Int)else(aa .i64 (ex-ey)))))-ey)),()))).1,(AS.F (((0:Int),(X,())),((if((70:Int)<(aa .i64 (ex-ey)))then(70:Int)else(aa .i64 (ex-ey))),()))))).1,(((0:Int),((1:Int),())),()))).1.2.1==(0:Int)))&&(!((!(((AS.F ((AZ.F (((0:Int),(Y,())),((aa .i64 ((aa .i64 (ex-(if((70:Int)<(aa .i64 (ex-ey)))then(70:Int)else(aa .i64 (ex-ey)))))-ey)),()))).1,((aa .i64 ((aa .i64 (ex-(if((70:Int)<(aa .i64 (ex-ey)))then(70:Int)else(aa .i64 (ex-ey)))))-ey)),()))).1.1==(0:Int))&&((AS.F ((AZ.F (((0:Int),(Y,())),((aa .i64 ((aa .i64 (ex-(if((70:Int)<(aa .i64 (ex-ey)))then(70:Int)else(aa .i64 (ex-ey)))))-ey)),()))).1,((aa .i64 ((aa .i64 (ex-(if((70:Int)<(aa .i64 (ex-ey)))then(70:Int)else(aa .i64 (ex-ey)))))-ey)),()))).1.2.1==Y)))||((decide ((aa .i64 ((aa .i64 (ex-(if((70:Int)<(aa .i64 (ex-ey)))then(70:Int)else(aa .i64 (ex-ey)))))-ey))>(63:Int)))&&(Y !=(0:Int))))))then(bif(B4.pre (f,((m==(4:Int)),())))then(some ((B4.F (f,((m==(4:Int)),()))).1,((0:Int),((0:Int),()))))else none)else bif(Ch.pre (f,(m,(ny,((B8.F ((B8.F ((AZ.F (((0:Int),(Y,())),((aa .i64 ((aa .i64 (ex-(if((70:Int)<(aa .i64 (ex-ey)))then(70:Int)else(aa .i64 (ex-ey)))))-ey)),()))).1,(AS.F (((0:Int),(X,())),((if((70:Int)<(aa .i64 (ex-ey)))then(70:Int)else(aa .i64 (ex-ey))),()))))).1,(((0:Int),((1:Int),())),()))).1,((aa .i64 (ex-(if((70:Int)<(aa .i64 (ex-ey)))then(70:Int)else(aa .i64 (ex-ey))))),(((!(((AS.F ((AZ.F (((0:Int),(Y,())),((aa .i64 ((aa .i64 (ex-(if((70:Int)<(aa .i64 (ex-ey)))then(70:Int)else(aa .i64 (ex-ey)))))-ey)),()))).1,((aa .i64 ((aa .i64 (ex-(if((70:Int)<(aa .i64 (ex-ey)))then(70:Int)else(aa .i64 (ex-ey)))))-ey)),()))).1.1==(0:Int))&&((AS.F ((AZ.F (((0:Int),(Y,())),((aa .i64 ((aa .i64 (ex-(if((70:Int)<(aa .i64 (ex-ey)))then(70:Int)else(aa .i64 (ex-ey)))))-ey)),()))).1,((aa .i64 ((aa .i64 (ex-(if((70:Int)<(aa .i64 (ex-ey)))then(70:Int)else(aa .i64 (ex-ey)))))-ey)),()))).1.2.1==Y)))||((decide ((aa .i64 ((aa .i64 (ex-(if((70:Int)<(aa .i64 (ex-ey)))then(70:Int)else(aa .i64 (ex-ey)))))-ey))>(63:Int)))&&(Y !=(0:Int)))),())))))))then(some (Ch.F (f,(m,(ny,((B8.F ((B8.F ((AZ.F (((0:Int),(Y,())),((aa .i64 ((aa .i64 (ex-(if((70:Int)<(aa .i64 (ex-ey)))then(70:Int)else(aa .i64 (ex-ey)))))-ey)),()))).1,(AS.F (((0:Int),(X,())),((if((70:Int)<(aa .i64 (ex-ey)))then(70:Int)else(aa .i64 (ex-ey))),()))))).1,(((0:Int),((1:Int),())),()))).1,((aa .i64 (ex-(if((70:Int)<(aa .i64 (ex-ey)))then(70:Int)else(aa .i64 (ex-ey))))),(((!(((AS.F ((AZ.F (((0:Int),(Y,())),((aa .i64 ((aa .i64 (ex-(if((70:Int)<(aa .i64 (ex-ey)))then(70:Int)else(aa .i64 (ex-ey)))))-ey)),()))).1,((aa .i64 ((aa .i64 (ex-(if((70:Int)<(aa .i64 (ex-ey)))then(70:Int)else(aa .i64 (ex-ey)))))-ey)),()))).1.1==(0:Int))&&((AS.F ((AZ.F (((0:Int),(Y,())),((aa .i64 ((aa .i64 (ex-(if((70:Int)<(aa .i64 (ex-ey)))then(70:Int)else(aa .i64 (ex-ey)))))-ey)),()))).1,((aa .i64 ((aa .i64 (ex-(if((70:Int)<(aa .i64 (ex-ey)))then(70:Int)else(aa .i64 (ex-ey)))))-ey)),()))).1.2.1==Y)))||((decide ((aa .i64 ((aa .i64 (ex-(if((70:Int)<(aa .i64 (ex-ey)))then(70:Int)else(aa .i64 (ex-ey)))))-ey))>(63:Int)))&&(Y !=(0:Int)))),()))))))))else none)else none)else bif((((B8.F ((AZ.F (((0:Int),(Y,())),((aa .i64 ((aa .i64 (ex-(if((70:Int)<(aa .i64 (ex-ey)))then(70:Int)else(aa .i64 (ex-ey)))))-ey)),()))).1,(AS.F (((0:Int),(X,())),((if((70:Int)<(aa .i64 (ex-ey)))then(70:Int)else(aa .i64 (ex-ey))),()))))).1.1==(0:Int))&&((B8.F ((AZ.F (((0:Int),(Y,())),((aa .i64 ((aa .i64 (ex-(if((70:Int)<(aa .i64 (ex-ey)))then(70:Int)else(aa .i64 (ex-ey)))))-ey)),()))).1,(AS.F (((0:Int),(X,())),((if((70:Int)<(aa .i64 (ex-ey)))then(70:Int)else(aa .i64 (ex-ey))),()))))).1.2.1==(0:Int)))&&(!((!(((AS.F ((AZ.F (((0:Int),(Y,())),((aa .i64 ((aa .i64 (ex-(if((70:Int)<(aa .i64 (ex-ey)))then(70:Int)else(aa .i64 (ex-ey)))))-ey)),()))).1,((aa .i64 ((aa .i64 (ex-(if((70:Int)<(aa .i64 (ex-ey)))then(70:Int)else(aa .i64 (ex-ey)))))-ey)),()))).1.1==(0:Int))&&((AS.F ((AZ.F (((0:Int),(Y,())),((aa .i64 ((aa .i64 (ex-(if((70:Int)<(aa .i64 (ex-ey)))then(70:Int)else(aa .i64 (ex-ey)))))-ey)),()))).1,((aa .i64 ((aa .i64 (ex-(if((70:Int)<(aa .i64 (ex-ey)))then(70:Int)else(aa .i64 (ex-ey)))))-ey)),()))).1.2.1==Y)))||((decide ((aa .i64 ((aa .i64 (ex-(if((70:Int)<(aa .i64 (ex-ey)))then(70:Int)else(aa .i64 (ex-ey)))))-ey))>(63:Int)))&&(Y !=(0:Int))))))then(bif(B4.pre (f,((m==(4:Int)),())))then(some ((B4.F (f,((m==(4:Int)),()))).1,((0:Int),((0:Int),()))))else none)else bif(Ch.pre (f,(m,(ny,((B8.F ((AZ.F (((0:Int),(Y,())),((aa .i64 ((aa .i64 (ex-(if((70:Int)<(aa .i64 (ex-ey)))then(70:Int)else(aa .i64 (ex-ey)))))-ey)),()))).1,(AS.F (((0:Int),(X,())),((if((70:Int)<(aa .i64 (ex-ey)))then(70:Int)else(aa .i64 (ex-ey))),()))))).1,((aa .i64 (ex-(if((70:Int)<(aa .i64 (ex-ey)))then(70:Int)else(aa .i64 (ex-ey))))),(((!(((AS.F ((AZ.F (((0:Int),(Y,())),((aa .i64 ((aa .i64 (ex-(if((70:Int)<(aa .i64 (ex-ey)))then(70:Int)else(aa .i64 (ex-ey)))))-ey)),()))).1,((aa .i64 ((aa .i64 (ex-(if((70:Int)<(aa .i64 (ex-ey)))then(70:Int)else(aa .i64 (ex-ey)))))-ey)),()))).1.1==(0:Int))&&((AS.F ((AZ.F (((0:Int),(Y,())),((aa .i64 ((aa .i64 (ex-(if((70:Int)<(aa .i64 (ex-ey)))then(70:Int)else(aa .i64 (ex-ey)))))-ey)),()))).1,((aa .i64 ((aa .i64 (ex-(if((70:Int)<(aa .i64 (ex-ey)))then(70:Int)else(aa .i64 (ex-ey)))))-ey)),()))).1.2.1==Y)))||((decide ((aa .i64 ((aa .i64 (ex-(if((70:Int)<(aa .i64 (ex-ey)))then(70:Int)else(aa .i64 (ex-ey)))))-ey))>(63:Int)))&&(Y !=(0:Int)))),())))))))then(some (Ch.F (f,(m,(ny,((B8.F ((AZ.F (((0:Int),(Y,())),((aa .i64 ((aa .i64 (ex-(if((70:Int)<(aa .i64 (ex-ey)))then(70:Int)else(aa .i64 (ex-ey)))))-ey)),()))).1,(AS.F (((0:Int),(X,())),((if((70:Int)<(aa .i64 (ex-ey)))then(70:Int)else(aa .i64 (ex-ey))),()))))).1,((aa .i64 (ex-(if((70:Int)<(aa .i64 (ex-ey)))then(70:Int)else(aa .i64 (ex-ey))))),(((!(((AS.F ((AZ.F (((0:Int),(Y,())),((aa .i64 ((aa .i64 (ex-(if((70:Int)<(aa .i64 (ex-ey)))then(70:Int)else(aa .i64 (ex-ey)))))-ey)),()))).1,((aa .i64 ((aa .i64 (ex-(if((70:Int)<(aa .i64 (ex-ey)))then(70:Int)else(aa .i64 (ex-ey)))))-ey)),()))).1.1==(0:Int))&&((AS.F ((AZ.F (((0:Int),(Y,())),((aa .i64 ((aa .i64 (ex-(if((70:Int)<(aa .i64 (ex-ey)))then(70:Int)else(aa .i64 (ex-ey)))))-ey)),()))).1,((aa .i64 ((aa .i64 (ex-(if((70:Int)<(aa .i64 (ex-ey)))then(70:Int)else(aa .i64 (ex-ey)))))-ey)),()))).1.2.1==Y)))||((decide ((aa .i64 ((aa .i64 (ex-(if((70:Int)<(aa .i64 (ex-ey)))then(70:Int)else(aa .i64 (ex-ey)))))-ey))>(63:Int)))&&(Y !=(0:Int)))),()))))))))else none)else none)else bif(B8.pre ((AS.F (((0:Int),(X,())),((if((70:Int)<(aa .i64 (ex-ey)))then(70:Int)else(aa .i64 (ex-ey))),()))).1,(AZ.F (((0:Int),(Y,())),((aa .i64 ((aa .i64 (ex-(if((70:Int)<(aa .i64 (ex-ey)))then(70:Int)else(aa .i64 (ex-ey)))))-ey)),())))))then(bif((!(((AS.F ((AZ.F (((0:Int),(Y,())),((aa .i64 ((aa .i64 (ex-(if((70:Int)<(aa .i64 (ex-ey)))then(70:Int)else(aa .i64 (ex-ey)))))-ey)),()))).1,((aa .i64 ((aa .i64 (ex-(if((70:Int)<(aa .i64 (ex-ey)))then(70:Int)else(aa .i64 (ex-ey)))))-ey)),()))).1.1==(0:Int))&&((AS.F ((AZ.F (((0:Int),(Y,())),((aa .i64 ((aa .i64 (ex-(if((70:Int)<(aa .i64 (ex-ey)))then(70:Int)else(aa .i64 (ex-ey)))))-ey)),()))).1,((aa .i64 ((aa .i64 (ex-(if((70:Int)<(aa .i64 (ex-ey)))then(70:Int)else(aa .i64 (ex-ey)))))-ey)),()))).1.2.1==Y)))||((decide ((aa .i64 ((aa .i64 (ex-(if((70:Int)<(aa .i64 (ex-ey)))then(70:Int)else(aa .i64 (ex-ey)))))-ey))>(63:Int)))&&(Y !=(0:Int))))then(bif(B8.pre ((B8.F ((AS.F (((0:Int),(X,())),((if((70:Int)<(aa .i64 (ex-ey)))then(70:Int)else(aa .i64 (ex-ey))),()))).1,(AZ.F (((0:Int),(Y,())),((aa .i64 ((aa .i64 (ex-(if((70:Int)<(aa .i64 (ex-ey)))then(70:Int)else(aa .i64 (ex-ey)))))-ey)),()))))).1,(((0:Int),((1:Int),())),())))then(bif((((B8.F ((B8.F ((AS.F (((0:Int),(X,())),((if((70:Int)<(aa .i64 (ex-ey)))then(70:Int)else(aa .i64 (ex-ey))),()))).1,(AZ.F (((0:Int),(Y,())),((aa .i64 ((aa .i64 (ex-(if((70:Int)<(aa .i64 (ex-ey)))then(70:Int)else(aa .i64 (ex-ey)))))-ey)),()))))).1,(((0:Int),((1:Int),())),()))).1.1==(0:Int))&&((B8.F ((B8.F ((AS.F (((0:Int),(X,())),((if((70:Int)<(aa .i64 (ex-ey)))then(70:Int)else(aa .i64 (ex-ey))),()))).1,(AZ.F (((0:Int),(Y,())),((aa .i64 ((aa .i64 (ex-(if((70:Int)<(aa .i64 (ex-ey)))then(70:Int)else(aa .i64 (ex-ey)))))-ey)),()))))).1,(((0:Int),((1:Int),())),()))).1.2.1==(0:Int)))&&(!((!(((AS.F ((AZ.F (((0:Int),(Y,())),((aa .i64 ((aa .i64 (ex-(if((70:Int)<(aa .i64 (ex-ey)))then(70:Int)else(aa .i64 (ex-ey)))))-ey)),()))).1,((aa .i64 ((aa .i64 (ex-(if((70:Int)<(aa .i64 (ex-ey)))then(70:Int)else(aa .i64 (ex-ey)))))-ey)),()))).1.1==(0:Int))&&((AS.F ((AZ.F (((0:Int),(Y,())),((aa .i64 ((aa .i64 (ex-(if((70:Int)<(aa .i64 (ex-ey)))then(70:Int)else(aa .i64 (ex-ey)))))-ey)),()))).1,((aa .i64 ((aa .i64 (ex-(if((70:Int)<(aa .i64 (ex-ey)))then(70:Int)else(aa .i64 (ex-ey)))))-ey)),()))).1.2.1==Y)))||((decide ((aa .i64 ((aa .i64 (ex-(if((70:Int)<(aa .i64 (ex-ey)))then(70:Int)else(aa .i64 (ex-ey)))))-ey))>(63:Int)))&&(Y !=(0:Int))))))then(bif(B4.pre (f,((m==(4:Int)),())))then(some ((B4.F (f,((m==(4:Int)),()))).1,((0:Int),((0:Int),()))))else none)else bif(Ch.pre (f,(m,(nx,((B8.F ((B8.F ((AS.F (((0:Int),(X,())),((if((70:Int)<(aa .i64 (ex-ey)))then(70:Int)else(aa .i64 (ex-ey))),()))).1,(AZ.F (((0:Int),(Y,())),((aa .i64 ((aa .i64 (ex-(if((70:Int)<(aa .i64 (ex-ey)))then(70:Int)else(aa .i64 (ex-ey)))))-ey)),()))))).1,(((0:Int),((1:Int),())),()))).1,((aa .i64 (ex-(if((70:Int)<(aa .i64 (ex-ey)))then(70:Int)else(aa .i64 (ex-ey))))),(((!(((AS.F ((AZ.F (((0:Int),(Y,())),((aa .i64 ((aa .i64 (ex-(if((70:Int)<(aa .i64 (ex-ey)))then(70:Int)else(aa .i64 (ex-ey)))))-ey)),()))).1,((aa .i64 ((aa .i64 (ex-(if((70:Int)<(aa .i64 (ex-ey)))then(70:Int)else(aa .i64 (ex-ey)))))-ey)),()))).1.1==(0:Int))&&((AS.F ((AZ.F (((0:Int),(Y,())),((aa .i64 ((aa .i64 (ex-(if((70:Int)<(aa .i64 (ex-ey)))then(70:Int)else(aa .i64 (ex-ey)))))-ey)),()))).1,((aa .i64 ((aa .i64 (ex-(if((70:Int)<(aa .i64 (ex-ey)))then(70:Int)else(aa .i64 (ex-ey)))))-ey)),()))).1.2.1==Y)))||((decide ((aa .i64 ((aa .i64 (ex-(if((70:Int)<(aa .i64 (ex-ey)))then(70:Int)else(aa .i64 (ex-ey)))))-ey))>(63:Int)))&&(Y !=(0:Int)))),())))))))then(some (Ch.F (f,(m,(nx,((B8.F ((B8.F ((AS.F (((0:Int),(X,())),((if((70:Int)<(aa .i64 (ex-ey)))then(70:Int)else(aa .i64 (ex-ey))),()))).1,(AZ.F (((0:Int),(Y,())),((aa .i64 ((aa .i64 (ex-(if((70:Int)<(aa .i64 (ex-ey)))then(70:Int)else(aa .i64 (ex-ey)))))-ey)),()))))).1,(((0:Int),((1:Int),())),()))).1,((aa .i64 (ex-(if((70:Int)<(aa .i64 (ex-ey)))then(70:Int)else(aa .i64 (ex-ey))))),(((!(((AS.F ((AZ.F (((0:Int),(Y,())),((aa .i64 ((aa .i64 (ex-(if((70:Int)<(aa .i64 (ex-ey)))then(70:Int)else(aa .i64 (ex-ey)))))-ey)),()))).1,((aa .i64 ((aa .i64 (ex-(if((70:Int)<(aa .i64 (ex-ey)))then(70:Int)else(aa .i64 (ex-ey)))))-ey)),()))).1.1==(0:Int))&&((AS.F ((AZ.F (((0:Int),(Y,())),((aa .i64 ((aa .i64 (ex-(if((70:Int)<(aa .i64 (ex-ey)))then(70:Int)else(aa .i64 (ex-ey)))))-ey)),()))).1,((aa .i64 ((aa .i64 (ex-(if((70:Int)<(aa .i64 (ex-ey)))then(70:Int)else(aa .i64 (ex-ey)))))-ey)),()))).1.2.1==Y)))||((decide ((aa .i64 ((aa .i64 (ex-(if((70:Int)<(aa .i64 (ex-ey)))then(70:Int)else(aa .i64 (ex-ey)))))-ey))>(63:Int)))&&(Y !=(0:Int)))),()))))))))else none)else none)else bif((((B8.F ((AS.F (((0:Int),(X,())),((if((70:Int)<(aa .i64 (ex-ey)))then(70:Int)else(aa .i64 (ex-ey))),()))).1,(AZ.F (((0:Int),(Y,())),((aa .i64 ((aa .i64 (ex-(if((70:Int)<(aa .i64 (ex-ey)))then(70:Int)else(aa .i64 (ex-ey)))))-ey)),()))))).1.1==(0:Int))&&((B8.F ((AS.F (((0:Int),(X,())),((if((70:Int)<(aa .i64 (ex-ey)))then(70:Int)else(aa .i64 (ex-ey))),()))).1,(AZ.F (((0:Int),(Y,())),((aa .i64 ((aa .i64 (ex-(if((70:Int)<(aa .i64 (ex-ey)))then(70:Int)else(aa .i64 (ex-ey)))))-ey)),()))))).1.2.1==(0:Int)))&&(!((!(((AS.F ((AZ.F (((0:Int),(Y,())),((aa .i64 ((aa .i64 (ex-(if((70:Int)<(aa .i64 (ex-ey)))then(70:Int)else(aa .i64 (ex-ey)))))-ey)),()))).1,((aa .i64 ((aa .i64 (ex-(if((70:Int)<(aa .i64 (ex-ey)))then(70:Int)else(aa .i64 (ex-ey)))))-ey)),()))).1.1==(0:Int))&&((AS.F ((AZ.F (((0:Int),(Y,())),((aa .i64 ((aa .i64 (ex-(if((70:Int)<(aa .i64 (ex-ey)))then(70:Int)else(aa .i64 (ex-ey)))))-ey)),()))).1,((aa .i64 ((aa .i64 (ex-(if((70:Int)<(aa .i64 (ex-ey)))then(70:Int)else(aa .i64 (ex-ey)))))-ey)),()))).1.2.1==Y)))||((decide ((aa .i64 ((aa .i64 (ex-(if((70:Int)<(aa .i64 (ex-ey)))then(70:Int)else(aa .i64 (ex-ey)))))-ey))>(63:Int)))&&(Y !=(0:Int))))))then(bif(B4.pre (f,((m==(4:Int)),())))then(some ((B4.F (f,((m==(4:Int)),()))).1,((0:Int),((0:Int),()))))else none)else bif(Ch.pre (f,(m,(nx,((B8.F ((AS.F (((0:Int),(X,())),((if((70:Int)<(aa .i64 (ex-ey)))then(70:Int)else(aa .i64 (ex-ey))),()))).1,(AZ.F (((0:Int),(Y,())),((aa .i64 ((aa .i64 (ex-(if((70:Int)<(aa .i64 (ex-ey)))then(70:Int)else(aa .i64 (ex-ey)))))-ey)),()))))).1,((aa .i64 (ex-(if((70:Int)<(aa .i64 (ex-ey)))then(70:Int)else(aa .i64 (ex-ey))))),(((!(((AS.F ((AZ.F (((0:Int),(Y,())),((aa .i64 ((aa .i64 (ex-(if((70:Int)<(aa .i64 (ex-ey)))then(70:Int)else(aa .i64 (ex-ey)))))-ey)),()))).1,((aa .i64 ((aa .i64 (ex-(if((70:Int)<(aa .i64 (ex-ey)))then(70:Int)else(aa .i64 (ex-ey)))))-ey)),()))).1.1==(0:Int))&&((AS.F ((AZ.F (((0:Int),(Y,())),((aa .i64 ((aa .i64 (ex-(if((70:Int)<(aa .i64 (ex-ey)))then(70:Int)else(aa .i64 (ex-ey)))))-ey)),()))).1,((aa .i64 ((aa .i64 (ex-(if((70:Int)<(aa .i64 (ex-ey)))then(70:Int)else(aa .i64 (ex-ey)))))-ey)),()))).1.2.1==Y)))||((decide ((aa .i64 ((aa .i64 (ex-(if((70:Int)<(aa .i64 (ex-ey)))then(70:Int)else(aa .i64 (ex-ey)))))-ey))>(63:Int)))&&(Y !=(0:Int)))),())))))))then(some (Ch.F (f,(m,(nx,((B8.F ((AS.F (((0:Int),(X,())),((if((70:Int)<(aa .i64 (ex-ey)))then(70:Int)else(aa .i64 (ex-ey))),()))).1,(AZ.F (((0:Int),(Y,())),((aa .i64 ((aa .i64 (ex-(if((70:Int)<(aa .i64 (ex-ey)))then(70:Int)else(aa .i64 (ex-ey)))))-ey)),()))))).1,((aa .i64 (ex-(if((70:Int)<(aa .i64 (ex-ey)))then(70:Int)else(aa .i64 (ex-ey))))),(((!(((AS.F ((AZ.F (((0:Int),(Y,())),((aa .i64 ((aa .i64 (ex-(if((70:Int)<(aa .i64 (ex-ey)))then(70:Int)else(aa .i64 (ex-ey)))))-ey)),()))).1,((aa .i64 ((aa .i64 (ex-(if((70:Int)<(aa .i64 (ex-ey)))then(70:Int)else(aa .i64 (ex-ey)))))-ey)),()))).1.1==(0:Int))&&((AS.F ((AZ.F (((0:Int),(Y,())),((aa .i64 ((aa .i64 (ex-(if((70:Int)<(aa .i64 (ex-ey)))then(70:Int)else(aa .i64 (ex-ey)))))-ey)),()))).1,((aa .i64 ((aa .i64 (ex-(if((70:Int)<(aa .i64 (ex-ey)))then(70:Int)else(aa .i64 (ex-ey)))))-ey)),()))).1.2.1==Y)))||((decide ((aa .i64 ((aa .i64 (ex-(if((70:Int)<(aa .i64 (ex-ey)))then(70:Int)else(aa .i64 (ex-ey)))))-ey))>(63:Int)))&&(Y !=(0:Int)))),()))))))))else none)else none)else none)else none)else none)else none)else none
theorem bJv(f m:Int)(nx:Bool)(X ex:Int)(ny:Bool)(Y ey:Int):XT (f,m,(nx,X,ex,()),(ny,Y,ey,()),()) =
 (bif((X==0)&&(Y==0))&&(nx==ny)then(bif B4.pre (f,nx,())then some ((B4.F (f,nx,())).1,0,0,())else none)
 else bif(X==0)||((Y !=0)&&decide (ex<ey))then(bif X==0 then aL f m ny Y ey nx X ey else aL f m ny Y ey nx X ex)
 else bif Y==0 then aL f m nx X ex ny Y ex else aL f m nx X ex ny Y ey):=by kernel_rfl
theorem aJu{n:Nat}(h:n<2^64):((0:Int),((n:Int),()))=Wi n:=by
 unfold Wi;rw[cg h,bo h];rfl
theorem aXL:((0:Int),((1:Int),()))=Wi 1:=rfl
theorem aJv{n:Nat}(h:n<2^128):(((Wi n).1==0)&&((Wi n).2.1==0))=decide (n=0):=by
 show(((n/2^64:Nat):Int)==0&&((n%2^64:Nat):Int)==0)=_;rw[F6,F6,fj,ah,beq_iff_eq,beq_iff_eq,decide_eq_true_eq];omega
theorem bBM{Y dn:Nat}(hY:Y<2^64):((!(((Wi (Y/2^dn*2^dn)).1==0)&&((Wi (Y/2^dn*2^dn)).2.1==(Y:Int))))||(decide ((dn:Int)>63)&&((Y:Int)!=0)))=decide (Y%2^dn≠0):=by
 have hdm:=cp Y (2^dn);rw[be]at hdm;generalize hL:Y/2^dn*2^dn=L at *
 show((!(((L/2^64:Nat):Int)==0&&((L%2^64:Nat):Int)==(Y:Int)))||(decide ((dn:Int)>63)&&((Y:Int)!=0)))=_;rw[F6,LG,WG];by_cases h:Y%2^dn=0
 ·rw[decide_eq_false (p:=Y%2^dn≠0) (by omega)];rw[show(L/2^64==0)=true by rw[beq_iff_eq];omega,show(L%2^64==Y)=true by rw[beq_iff_eq];omega];by_cases hy:Y=0
  ·rw[hy];simp
  ·have:¬(dn:Int)>63:=fun hd=>by
    have h1:Y<2^dn:=ao hY (ai (by decide) (by omega));rw[bo h1]at h;exact hy h
   rw[decide_eq_false this];rfl
 ·rw[decide_eq_true (p:=Y%2^dn≠0) h];rw[show(L%2^64==Y)=false by rw[beq_eq_false_iff_ne];omega];simp
theorem Jc{n k:Nat}(h:2^k<=n):k+1<=Ae n:=by
 have h1:=FU n;have:k<Ae n:=(cv (a:=2) (by decide)).1 (bl h h1);omega
def Dy(f m:Int)(nx:Bool)(X:Nat)(ex:Int)(ny:Bool)(Y:Nat)(ey:Int):Nat×Nat:=let e:=if ex<=ey then ex else ey;let a:=X*2^(ex-e).toNat;let b:=Y*2^(ey-e).toNat;if nx=ny then(if a+b=0 then(Bs f nx,0)else AP f m nx (a+b) e false)else if a=b then(Bs f (m==4),0)else if b<a then AP f m nx (a-b) e false else AP f m ny (b-a) e false
theorem aFK{f m:Int}{nx:Bool}{X:Nat}{ey:Int}{ny:Bool}{Y:Nat}(D:Nat):
  Dy f m nx X (ey+D) ny Y ey=if nx=ny then(if X*2^D+Y=0 then(Bs f nx,0)else AP f m nx (X*2^D+Y) ey false)
   else if X*2^D=Y then(Bs f (m==4),0)else if Y<X*2^D then AP f m nx (X*2^D-Y) ey false else AP f m ny (Y-X*2^D) ey false:=by
 unfold Dy;have he:(if ey+(D:Int)<=ey then ey+(D:Int)else ey)=ey:=by split<;>omega
 simp only[he];rw[show(ey+(D:Int)-ey).toNat=D by omega,show(ey-ey).toNat=0 by omega,gz,fy]
theorem v7(f m:Int)(nx:Bool)(X:Nat)(ex:Int)(ny:Bool)(Y:Nat)(ey:Int):Dy f m nx X ex ny Y ey=Dy f m ny Y ey nx X ex:=by
 unfold Dy;have he:(if ex<=ey then ex else ey)=(if ey<=ex then ey else ex):=by split<;>split<;>omega
 simp only[he];generalize(if ey<=ex then ey else ex)=e;generalize X*2^(ex-e).toNat=a;generalize Y*2^(ey-e).toNat=b;by_cases hn:nx=ny
 ·subst hn;rw[if_pos rfl,if_pos rfl,iq]
 ·rw[if_neg hn,if_neg (Ne.symm hn)];rcases fi a b with h|h|h
  ·rw[if_neg (by omega),if_neg (by omega),if_neg (by omega),if_pos h]
  ·rw[if_pos h,if_pos h.symm]
  ·rw[if_neg (by omega),if_pos h,if_neg (by omega),if_neg (by omega)]
theorem W0{f m:Int}(hf:Fm f)(nx:Bool)(X:Nat)(ex:Int)(ny:Bool)(ey:Int):Dy f m nx X ex ny 0 ey=if X=0 then(if nx=ny then(Bs f nx,0)else(Bs f (m==4),0))else AP f m nx X ex false:=by
 rcases Int.le_total ex ey with h|h
 ·obtain⟨D,hD⟩:=cn (show 0<=ey-ex by omega);have:ey=ex+D:=by omega
  subst this;rw[v7,aFK,ej,cz];by_cases hn:nx=ny
  ·subst hn;simp only[↓reduceIte]
  ·rw[if_neg (Ne.symm hn),if_neg hn];by_cases hx:X=0
   ·subst hx;simp only[↓reduceIte]
   ·rw[if_neg (by omega),if_neg (by omega),if_neg hx,mw]
 ·obtain⟨D,hD⟩:=cn (show 0<=ex-ey by omega);have:ex=ey+D:=by omega
  subst this;rw[aFK,cu];by_cases hx:X=0
  ·subst hx;rw[if_pos rfl,ej,if_pos rfl,if_pos rfl]
  ·have hp:=af D;have hpos:0<X*2^D:=ij (by omega) hp;rw[if_neg hx];by_cases hn:nx=ny
   ·rw[if_pos hn,if_neg (by omega),WU hf hx]
   ·rw[if_neg hn,if_neg (by omega),if_pos hpos,mw,WU hf hx]
theorem aAj{f m:Int}(hf:Fm f)(hm:0<=m/\m<=5)(nx:Bool)(X D:Nat)(ny:Bool)(Y:Nat)(ey:Int)(hX:X<2^53)(hY:Y<2^53)(he:-2000<=ey/\ey+D<=2000)(h0:X≠0∨(Y=0/\nx≠ny)):
  aL f m nx X (ey+D) ny Y ey=some (((Dy f m nx X (ey+D) ny Y ey).1:Int),((Dy f m nx X (ey+D) ny Y ey).2:Int),0,()):=by
 rw[aFK];have hW:=EI hf;have hP:=DT hf;have hU:∃U dn:Nat,(if(70:Int)<(D:Int)then(70:Int)else(D:Int))=(U:Int)/\D=U+dn/\U<=70/\(dn≠0->U=70):=by
  by_cases h:70<D
  ·exact⟨70,D-70,by rw[if_pos (by omega)];rfl,by omega,by omega,fun _=>rfl⟩
  ·exact⟨D,0,by rw[if_neg (by omega)],by omega,by omega,fun h=>absurd rfl h⟩
 obtain⟨U,dn,hU1,hU2,hU3,hU4⟩:=hU;have e1:aa .i64 (ey+(D:Int)-ey)=(D:Int):=by rw[Av (by omega)];omega
 have e2:aa .i64 (ey+(D:Int)-(U:Int))=ey+(dn:Int):=by rw[Av (by omega)];omega
 have e3:aa .i64 (ey+(dn:Int)-ey)=(dn:Int):=by rw[Av (by omega)];omega
 have hpU:=af U;have hpd:=af dn;have hU70:2^U<=2^70:=ai (by decide) hU3;have hH:X*2^U<2^123:=by
  have h1:X*2^U<=X*2^70:=cd _ hU70;have h2:X*2^70<2^53*2^70:=ck hX (by decide);omega
 have hXD:X*2^D=X*2^U*2^dn:=by rw[hU2,bi,bh]
 have hbig:Y%2^dn≠0->2^70<=X*2^U/\X≠0:=fun h=>by
  have hd:dn≠0:=fun h1=>by rw[h1,gz,ou]at h;exact h rfl
  have hy:Y≠0:=fun h1=>by rw[h1,Nat.zero_mod]at h;exact h rfl
  have hx:X≠0:=by
   rcases h0 with h|h
   ·exact h
   ·exact absurd h.1 hy
  refine⟨?_,hx⟩;rw[hU4 hd];exact iu _ (by omega)
 have hYL:Y/2^dn<=Y:=ee _ _;have hLd:Y/2^dn*2^dn<=Y:=lk _ _;have p1:VB (((0:Int),((X:Int),())),((U:Int),()))=some (Wi (X*2^U),()):=by
  rw[aJu (by omega),aHx _ _ (by omega),bo (by omega)]
 have p2:Xt (((0:Int),((Y:Int),())),((dn:Int),()))=some (Wi (Y/2^dn),()):=by
  rw[aJu (by omega),aWc _ _ (by omega)]
 have p3:VB (Wi (Y/2^dn),((dn:Int),()))=some (Wi (Y/2^dn*2^dn),()):=by
  rw[aHx _ _ (by omega),bo (by omega)]
 have p4:=aWd (X*2^U) (Y/2^dn) (by omega);have p5:=aWe (X*2^U) (Y/2^dn);have pz:=cH hf (m==4);unfold aL;simp only[e1,hU1,e2,e3,aQu p1,aOj p1,bC1 p2,bAa p2,aQu p3,aOj p3,cond_true,bC2 p4,bAb p4,bC3 p5,bAc p5,bBM (show Y<2^64 by omega)];have hdm:=cp Y (2^dn);have hml:=ca Y hpd;have hX0H:X=0->X*2^U=0:=fun h=>by rw[h,ej]
 have hXb:X≠0->dn≠0->2^70<=X*2^U:=fun h1 h2=>by rw[hU4 h2];exact iu _ (by omega)
 have hHp:X≠0->0<X*2^U:=fun h=>ij (by omega) hpU;clear e1 e2 e3 p1 p2 p3;rw[be]at hdm;generalize hHe:X*2^U=H at *
 generalize hLe:Y/2^dn=L at *
 generalize hRe:Y%2^dn=R at *
 by_cases hn:nx=ny
 ·subst hn;rw[if_pos rfl,show(nx==nx)=true by cases nx<;>rfl,cond_true];have hX0:X≠0:=by
   rcases h0 with h|h
   ·exact h
   ·exact absurd rfl h.2
  have hHp:=hHp hX0;have hN:X*2^D+Y=Y+H*2^dn:=by rw[hXD,iq]
  have hNd:(X*2^D+Y)/2^dn=H+L:=by rw[hN,og _ _ hpd,hLe,iq]
  have hNm:(X*2^D+Y)%2^dn=R:=by rw[hN,la,hRe]
  have hbl:R≠0->fP f+2<=Ae (H+L):=fun h=>by
   have h1:=(hbig h).1;have:=Jc (n:=H+L) (k:=70) (by omega);omega
  have p6:=cL hf hm nx (H+L) (by omega) (ey+(dn:Int)) (by omega) (decide (R≠0)) (fun h=>hbl (by simpa using h));rw[if_neg (by omega)]at p6;simp only[kW p6,jQ p6,cond_true];have htr:=aFy (f:=f) (m:=m) (neg:=nx) (N:=X*2^D+Y) (k:=dn) (E:=ey) hf (by rw[hNd];omega) (by rw[hNd,hNm];exact hbl);rw[hNd,hNm]at htr;have hpp:0<H*2^dn:=ij hHp hpd;rw[htr,if_neg (by rw[hXD];omega)]
 ·rw[if_neg hn,show(nx==ny)=false by cases nx<;>cases ny<;>first|rfl|exact absurd rfl hn,cond_false];by_cases hlt:H<L
  ·have hm0:R=0:=by
    by_cases h:R=0
    ·exact h
    ·have:=(hbig h).1;omega
   have hdn:dn=0:=by
    by_cases h:dn=0
    ·exact h
    ·exfalso;rcases h0 with h1|h1
     ·have h2:=hXb h1 h;omega
     ·have:=h1.1;omega
   subst hdn;have hY1:Y=L:=by rw[←hLe];simp
   subst hY1;have hXD1:X*2^D=H:=by rw[hXD];simp
   rw[hm0,hXD1];have p7:=aBh Y H (by omega) (by omega);have p6:=cL hf hm ny (Y-H) (by omega) (ey+((0:Nat):Int)) (by omega) false (fun h=>by cases h);rw[if_neg (by omega)]at p6;have z1:decide ((if H=Y then(0:Int)else if H<Y then -1 else 1)<0)=true:=by
    rw[if_neg (by omega),if_pos hlt];rfl
   have z2:decide ((0:Nat)≠0)=false:=by decide
   have z3:=aJv (n:=Y-H) (by omega);rw[decide_eq_false (p:=Y-H=0) (by omega)]at z3;simp only[z1,z2,cond_true,cond_false,aE8 p7,aEa p7,z3,ak,kW p6,jQ p6];rw[if_neg (by omega),if_neg (by omega),ir,kx]
  ·have hge:L<=H:=by omega
   have p7:=aBh H L (by omega) hge;have z1:decide ((if H=L then(0:Int)else if H<L then -1 else 1)<0)=false:=by
    by_cases h:H=L
    ·rw[if_pos h];rfl
    ·rw[if_neg h,if_neg hlt];rfl
   simp only[z1,cond_false,aE8 p7,aEa p7,cond_true];by_cases hm0:R=0
   ·rw[hm0,show decide ((0:Nat)≠0)=false by decide,cond_false];have hYe:Y=L*2^dn:=by omega
    have z3:=aJv (n:=H-L) (by omega);rw[z3];by_cases hz:H-L=0
    ·have heq:X*2^D=Y:=by rw[hXD,hYe,show H=L by omega]
     rw[decide_eq_true hz,if_pos heq];simp only[au,ax,cond_true,kV pz,jP pz];rfl
    ·rw[decide_eq_false hz];have p6:=cL hf hm nx (H-L) (by omega) (ey+(dn:Int)) (by omega) false (fun h=>by cases h);rw[if_neg hz]at p6;simp only[ak,cond_false,kW p6,jQ p6,cond_true];have hN:X*2^D-Y=(H-L)*2^dn:=by rw[hXD,Nat.sub_mul,←hYe]
     have hpp:0<(H-L)*2^dn:=ij (by omega) hpd;have hlt2:Y<X*2^D:=by omega
     rw[if_neg (by omega),if_pos hlt2,hN,WU hf hz]
   ·rw[decide_eq_true (p:=R≠0) hm0,cond_true];obtain⟨hb1,hX0⟩:=hbig hm0;have p8:=aBh (H-L) 1 (by omega) (by omega);rw[←aXL]at p8;have hbl:fP f+2<=Ae (H-L-1):=by
     have:=Jc (n:=H-L-1) (k:=69) (by omega);omega
    have p6:=cL hf hm nx (H-L-1) (by omega) (ey+(dn:Int)) (by omega) true (fun _=>hbl);rw[if_neg (by omega)]at p6;simp only[aE8 p8,aEa p8,cond_true,bb,ar,cond_false,kW p6,jQ p6];have h2:(L+1+(H-L-1))*2^dn=H*2^dn:=by rw[show L+1+(H-L-1)=H by omega]
    rw[ce,ce,fx]at h2;have hN:X*2^D-Y=(2^dn-R)+(H-L-1)*2^dn:=by rw[hXD];omega
    have hlt2:Y<X*2^D:=by omega
    have hNd:(X*2^D-Y)/2^dn=H-L-1:=by
     rw[hN,og _ _ hpd,cg (by omega),cz]
    have hNm:(X*2^D-Y)%2^dn=2^dn-R:=by
     rw[hN,la,bo (by omega)]
    have htr:=aFy (f:=f) (m:=m) (neg:=nx) (N:=X*2^D-Y) (k:=dn) (E:=ey) hf (by rw[hNd];omega) (fun _=>by rw[hNd];exact hbl);rw[hNd,hNm,decide_eq_true (p:=2^dn-R≠0) (by omega)]at htr;rw[htr,if_neg (by omega),if_pos hlt2]
theorem aXa{f m:Int}(hf:Fm f)(hm:0<=m/\m<=5)(nx:Bool)(X:Nat)(ex:Int)(ny:Bool)(Y:Nat)(ey:Int)(hX:X<2^53)(hY:Y<2^53)(hex:-2000<=ex/\ex<=2000)(hey:-2000<=ey/\ey<=2000):
  XT (f,m,(nx,(X:Int),ex,()),(ny,(Y:Int),ey,()),())=some (((Dy f m nx X ex ny Y ey).1:Int),((Dy f m nx X ex ny Y ey).2:Int),0,()):=by
 rw[bJv];by_cases hX0:X=0
 ·subst hX0;by_cases hYn:Y=0/\nx=ny
  ·obtain⟨rfl,rfl⟩:=hYn;have p0:=cH hf nx;rw[show((((0:Nat):Int)==0)&&(((0:Nat):Int)==0)&&(nx==nx))=true by cases nx<;>rfl,cond_true];simp only[kV p0,jP p0,cond_true];rw[W0 hf,if_pos rfl,if_pos rfl];rfl
  ·have hg:((((0:Nat):Int)==0)&&(((Y:Nat):Int)==0)&&(nx==ny))=false:=by
    by_cases hy:Y=0
    ·have:nx≠ny:=fun h=>hYn ⟨hy,h⟩;subst hy;cases nx<;>cases ny<;>first|rfl|exact absurd rfl this
    ·rw[AG Y hy,ar,ak]
   have h1:(((0:Nat):Int)==0)=true:=rfl;rw[hg,cond_false,h1,av,cond_true,cond_true];have ht:=aAj hf hm ny Y 0 nx 0 ey hY hX (by omega) (by
    by_cases hy:Y=0
    ·exact .inr ⟨rfl,fun h=>hYn ⟨hy,h.symm⟩⟩
    ·exact .inl hy)
   rw[ir,kx]at ht;rw[ir,ht,v7 f m nx 0 ex,W0 hf,W0 hf]
 ·have hx0:((X:Int)==0)=false:=AG _ hX0;rw[hx0,ak,ak,cond_false,bc,cond_false];by_cases hY0:Y=0
  ·subst hY0;have ht:=aAj hf hm nx X 0 ny 0 ex hX hY (by omega) (.inl hX0);rw[ir,kx]at ht;rw[show(((0:Nat):Int)!=0)=false by rfl,ak,cond_false,show(((0:Nat):Int)==0)=true by rfl,cond_true,ir,ht,W0 hf,W0 hf]
  ·rw[AL _ hY0,az,AG _ hY0,cond_false];by_cases hlt:ex<ey
   ·rw[decide_eq_true hlt,cond_true];obtain⟨D,hD⟩:=cn (show 0<=ey-ex by omega);have hee:ey=ex+D:=by omega
    subst hee;rw[aAj hf hm ny Y D nx X ex hY hX (by omega) (.inl hY0),v7 f m ny Y]
   ·rw[decide_eq_false hlt,cond_false];obtain⟨D,hD⟩:=cn (show 0<=ex-ey by omega);have hee:ex=ey+D:=by omega
    subst hee;rw[aAj hf hm nx X D ny Y ey hX hY (by omega) (.inl hX0)]
end VL
namespace VL
open Go Vx
def Dh(n:Nat):List Int:=Wd (dg (2^32) n)
def Hs(l:List Nat):Prop:=(∀x∈l,x<2^32)/\l.length<=1000000
theorem Hs.dg{n:Nat}(h:n<2^100000):Hs (dg (2^32) n):=by
 refine⟨Lw (by decide) n,?_⟩;have:n<(2^32)^3125:=by rw[←fw];exact h
 have:=Ea (B:=2^32) (by decide) 3125 n this;omega
theorem Fu(n:Nat):nv (2^32) (dg (2^32) n)=n:=kQ (by decide) n
theorem aF2:Dh 0=[]:=by unfold Dh;rw[DJ];rfl
theorem Xd(n:Nat):(((Dh n).length:Int)==0)=decide (n=0):=by
 unfold Dh;rw[Az];by_cases h:n=0
 ·subst h;rw[DJ];rfl
 ·rw[EC (by decide) (by omega),decide_eq_false h];exact AG _ (by simp)
theorem aF1{n:Nat}(h:n≠0):0<(Dh n).length:=by
 unfold Dh;rw[Az,EC (by decide) (by omega)];simp
theorem aTw(n:Nat):(Dh n).getD 0 0=((n%2^32:Nat):Int):=by
 unfold Dh;rw[BN];rcases br n with rfl|h
 ·rw[DJ];rfl
 ·rw[EC (by decide) h];rfl
theorem nM{x:Nat}(h0:x≠0)(h:x<2^32):Dh x=(x:Int)::[]:=by
 unfold Dh;rw[EC (by decide) (by omega),bo h,cg h,DJ];rfl
theorem LU(n:Nat)(h:n<=100000000):EM n 8=true:=by
 unfold EM;rw[Nat.ble_eq];omega
theorem Pm(x:Nat):gm (x:Int) 4294967296=((x%2^32:Nat):Int):=rfl
theorem WP(x:Nat)(h:x<2^64):Bl .u64 (x:Int) 4294967296=((x/2^32:Nat):Int):=by
 unfold Bl;have e:(x:Int).tdiv 4294967296=((x/2^32:Nat):Int):=rfl;rw[e,DO (by omega)]
theorem aQ2(n:Nat)(hn:n<=1000000000):Bl .i64 (n:Int) 32=((n/32:Nat):Int):=by
 unfold Bl;have e:(n:Int).tdiv 32=((n/32:Nat):Int):=rfl;rw[e,Av (by omega)]
theorem aTg(n:Nat):gm (n:Int) 32=((n%32:Nat):Int):=rfl
theorem JF(n:Nat)(h:n<2^64):aa .u64 (n:Int)=(n:Int):=DO (by omega)
theorem lW(a b:Nat)(h:a*b<2^64):aa .u64 ((a:Int)*(b:Int))=((a*b:Nat):Int):=by
 rw[←ka,JF _ h]
theorem Dz(a b:Nat)(h:a+b<2^64):aa .u64 ((a:Int)+(b:Int))=((a+b:Nat):Int):=by
 rw[←nt,JF _ h]
theorem Po(l:List Nat)(v:Nat):Wd l++((v:Int)::[])=Wd (l++[v]):=by simp[Wd]
theorem bJJ(l:List Nat)(u v:Nat):Wd l++((u:Int)::((v:Int)::[]))=Wd (l++[u,v]):=by simp[Wd]
theorem aXo(l:List Nat)(hl:l.length<=1000000)(n:Nat)(hn:n<=l.length)(ht:(An l).length<=n):
  qL ((Wd l,((n:Int),())),())=some (.inl ((Wd l,(((An l).length:Int),())),())):=by
 have key:=CW aPr (fun x=>x.1.2.1.toNat)
  (fun x=>∃n:Nat,n<=l.length/\(An l).length<=n/\x=((Wd l,((n:Int),())),()))
  (fun _=>.inl ((Wd l,(((An l).length:Int),())),())) ?_ ((Wd l,((n:Int),())),()) ⟨n,hn,ht,rfl⟩
 ·exact key
 intro L x hx hL;obtain⟨n,hn,ht,rfl⟩:=hx;unfold YS;rcases br n with rfl|hpos
 ·have e1:decide (((0:Nat):Int)>0)=false:=rfl;simp only[e1,au,bd,cond_true,ak,cond_false];have:(An l).length=0:=by omega
  rw[this]
 ·simp(disch:=omega) only[Ba,AY,Bb,AV,AJ,Be,AX,AW,A7,A6,A5,A4,A2,A1,A9,A8,A3,AU,AF,AR,AG,AL,AT,ab,ap,cond_true,cond_false,ax,az,bf,ak,ar,bb,au,ba,av,bd,bc,bg,Az,BN,F6];cases hz:(l.getD (n-1) 0==0)with
  |true=>
   simp only[cond_true];refine hL _ ⟨n-1,by omega,?_,rfl⟩ (by simp only[ab];omega);rcases ay (n-1) (An l).length with h|h
   ·exfalso;have e:n=(An l).length:=by omega
    have:=W1 l (by omega);rw[←e]at this;exact this (by simpa using hz)
   ·exact h
  |false=>
   simp only[cond_false];have:(An l).length=n:=by
    rcases ay (n-1) (An l).length with h|h
    ·omega
    ·exfalso;have:=aAl l (n-1) h;rw[this]at hz;simp at hz
   rw[this]
theorem aHG(l:List Nat)(hl:l.length<=1000000):Xy (Wd l,())=some (Wd (An l),()):=by
 show xC qL (Wd l)=_;unfold xC;have h:=aXo l hl l.length (bu _) (DN l).1;have e:=(DN l).1;rw[Az,h];show(bif(decide ((0:Int)<=((An l).length:Int))&&decide (((An l).length:Int)<=((Wd l).length:Int)))then some (((Wd l).take (ag ((An l).length:Int))).drop (ag 0),())else none)=_;simp(disch:=omega) only[Ba,AY,Bb,AV,AJ,Be,AX,AW,A7,A6,A5,A4,A2,A1,A9,A8,A3,AU,AF,AR,AG,AL,AT,ab,ap,cond_true,cond_false,ax,az,bf,ak,ar,bb,au,ba,av,bd,bc,bg,Az,jv,gN];rw[←(DN l).2]
theorem VE{l:List Nat}(hl:Hs l){v:Nat}(hv:nv (2^32) l=v):Xy (Wd l,())=some (Dh v,()):=by
 rw[aHG l hl.2,Ga (by decide) _ hl.1,hv];rfl
theorem I8{B:Nat}{l:List Nat}{v:Nat}(h:∀x∈l,x<B)(hv:v<B):∀x∈l++[v],x<B:=fun x hx=>by
 rcases cy.1 hx with hx|hx
 ·exact h x hx
 ·have:x=v:=by simpa using hx
  rw[this];exact hv
theorem LI(B:Nat)(l:List Nat)(v:Nat):nv B (l++[v])=nv B l+B^l.length*v:=by
 rw[U6];simp[nv]
theorem aXg(a:List Nat)(ha:∀x∈a,x<2^64)(hlen:a.length<=1000000):
  qF ((Wd a,((0:Int),((),()))),([],()))=some (.inl (((),()),(Wd (pd (2^32) (2*a.length) (nv (2^64) a)),()))):=by
 have key:=CW (aPj Ar.pre Ar.F) (fun x=>a.length-x.1.2.1.toNat)
  (fun x=>∃(i:Nat) (out:List Nat),i<=a.length/\out.length=2*i/\(∀x∈out,x<2^32)/\nv (2^32) out=nv (2^64) (a.take i)/\x=((Wd a,((i:Int),((),()))),(Wd out,())))
  (fun _=>.inl (((),()),(Wd (pd (2^32) (2*a.length) (nv (2^64) a)),()))) ?_ ((Wd a,((0:Int),((),()))),([],())) ⟨0,[],dp _,rfl,(fun x hx=>by simp at hx),by simp[nv],rfl⟩
 ·exact key
 intro L x hx hL;obtain⟨i,out,hi,hol,hod,hov,rfl⟩:=hx;unfold YK;rcases ay i a.length with hlt|hge
 ·have hx:=B3 (by decide) ha i;have hn:=Da (2^64) a i;generalize hd:a.getD i 0=d at *
  simp(disch:=omega) only[Ba,AY,Bb,AV,AJ,Be,AX,AW,A7,A6,A5,A4,A2,A1,A9,A8,A3,AU,AF,AR,AG,AL,AT,ab,ap,cond_true,cond_false,ax,az,bf,ak,ar,bb,au,ba,av,bd,bc,bg,Az,BN,hd,Pm,WP,bJJ,dh,fe,LU];refine hL _ ⟨i+1,out++[d%2^32,d/2^32],by omega,by simp;omega,?_,?_,rfl⟩ (by simp only[ab];omega)
  ·intro x hx;rcases cy.1 hx with hx|hx
   ·exact hod x hx
   ·have:x=d%2^32∨x=d/2^32:=by simpa using hx
    omega
  ·rw[U6,hov,hol,hn,fw];show nv (2^64) (a.take i)+(2^64)^i*(d%2^32+2^32*(d/2^32+2^32*0))=_;congr 2;omega
 ·have e:i=a.length:=by omega
  subst e;rw[dq]at hov;have ho:=U7 (B:=2^32) (by decide) hod hol hov;subst ho;simp(disch:=omega) only[Ba,AY,Bb,AV,AJ,Be,AX,AW,A7,A6,A5,A4,A2,A1,A9,A8,A3,AU,AF,AR,AG,AL,AT,ab,ap,cond_true,cond_false,ax,az,bf,ak,ar,bb,au,ba,av,bd,bc,bg,Az]
theorem aWf(a:List Nat)(ha:∀x∈a,x<2^64)(hlen:a.length<=400000):Xu (Wd a,())=some (Dh (nv (2^64) a),()):=by
 show wO Ar.pre Ar.F qF (Wd a)=_;unfold wO;have hw:=aXg a ha (by omega);have hlt:=CX (B:=2^64) (by decide) a ha;have p0:=VE (l:=pd (2^32) (2*a.length) (nv (2^64) a)) ⟨HK (by decide) _ _,by rw[Dp];omega⟩ (HL (by decide) _ _ (by rw[fw];exact hlt));have e1:aa .i64 (2*((Wd a).length:Int))=((2*a.length:Nat):Int):=by rw[Az,Av (by omega)];omega
 have e2:decide (((2*a.length:Nat):Int)*8<=140737488355328)=true:=decide_eq_true (by omega);simp(disch:=omega) only[Ba,AY,Bb,AV,AJ,Be,AX,AW,A7,A6,A5,A4,A2,A1,A9,A8,A3,AU,AF,AR,AG,AL,AT,ab,ap,cond_true,cond_false,ax,az,bf,ak,ar,bb,au,ba,av,bd,bc,bg,e1,e2,iv,hw];show(bif Ar.pre (Wd (pd (2^32) (2*a.length) (nv (2^64) a)),())then some (Ar.F (Wd (pd (2^32) (2*a.length) (nv (2^64) a)),()))else none)=_;simp only[Va p0,UZ p0,cond_true];rfl
theorem aHy{x:Nat}(h:x<2^64):Xu (((x:Int)::[]),())=some (Dh x,()):=by
 have:=aWf [x] (fun y hy=>by rw[List.mem_singleton.1 hy];exact h) (by simp);simpa[nv,Wd]using this
theorem aNh{B:Nat}{out:List Nat}{k c V V' d:Nat}(hol:out.length=k)(hov:nv B out+B^k*c=V)(hV:V'=V+B^k*d):
  nv B (out++[(d+c)%B])+B^(k+1)*((d+c)/B)=V':=by
 rw[LI,hol,hV,←hov,dj,bh,Nat.add_assoc,←bw];have:=ja (d+c) B;rw[this,bw];omega
theorem aNf{B:Nat}(hB:2<=B){out:List Nat}{k c V:Nat}(hol:out.length=k)(hod:∀x∈out,x<B)(hov:nv B out+B^k*c=V):out=pd B k (V%B^k)/\c=V/B^k:=by
 have hlt:=CX hB out hod;rw[hol]at hlt;have hp:0<B^k:=gw (by omega);refine⟨U7 (by omega) hod hol ?_,?_⟩
 ·rw[←hov,fu,bo hlt]
 ·rw[←hov,dx _ _ hp,cg hlt,cz]
theorem uW(B n:Nat):nv B (aq n 0)=0:=by
 induction n with
 |zero=>rfl
 |succ n ih=>rw[jj];simp[nv,ih]
theorem aXh(l:List Nat)(hl:Hs l)(m w:Nat)(hm:m<=2^31)(hw:w<=1000000):
  qG ((Wd l,((m:Int),((0:Int),((),((0:Int),()))))),(Wd (aq w 0),())) =
   some (.inl (((),((((2^32)^w*(nv (2^32) l*m)/(2^32)^(w+l.length):Nat):Int),())),(Wd (pd (2^32) (w+l.length) ((2^32)^w*(nv (2^32) l*m)%(2^32)^(w+l.length))),()))):=by
 have key:=CW (aPk Ar.pre Ar.F) (fun x=>l.length-x.1.2.2.1.toNat)
  (fun x=>∃(i:Nat) (out:List Nat) (c:Nat),i<=l.length/\out.length=w+i/\(∀x∈out,x<2^32)/\c<2^32/\nv (2^32) out+(2^32)^(w+i)*c=(2^32)^w*(nv (2^32) (l.take i)*m)/\x=((Wd l,((m:Int),((i:Int),((),((c:Int),()))))),(Wd out,())))
  (fun _=>.inl (((),((((2^32)^w*(nv (2^32) l*m)/(2^32)^(w+l.length):Nat):Int),())),(Wd (pd (2^32) (w+l.length) ((2^32)^w*(nv (2^32) l*m)%(2^32)^(w+l.length))),()))) ?_ _
  ⟨0,aq w 0,0,dp _,by simp,(fun x hx=>by have:=ll hx;omega),by decide,by rw[uW];simp[nv],rfl⟩
 ·exact key
 intro L x hx hL;obtain⟨i,out,c,hi,hol,hod,hc,hov,rfl⟩:=hx;have hll:=hl.2;unfold YL;rcases ay i l.length with hlt|hge
 ·have hx:=B3 (by decide) hl.1 i;have hn:=Da (2^32) l i;generalize hd:l.getD i 0=d at *
  have hdm:d*m<=d*2^31:=cd _ hm;have hdm2:d*m<2^63:=by omega
  have hstep:=aNh (B:=2^32) (V':=(2^32)^w*(nv (2^32) (l.take (i+1))*m)) (d:=d*m) hol hov (by
   rw[hn,ce,bw,bi,bh,bh])
  have e1:=lW d m (by omega);generalize d*m=dm at *
  simp(disch:=omega) only[Ba,AY,Bb,AV,AJ,Be,AX,AW,A7,A6,A5,A4,A2,A1,A9,A8,A3,AU,AF,AR,AG,AL,AT,ab,ap,cond_true,cond_false,ax,az,bf,ak,ar,bb,au,ba,av,bd,bc,bg,Az,BN,hd,e1,Dz,Pm,WP,Po,dh,fe,LU];exact hL _ ⟨i+1,out++[(dm+c)%2^32],(dm+c)/2^32,by omega,by simp;omega,I8 hod (ca _ (by decide)),by omega,hstep,rfl⟩ (by simp only[ab];omega)
 ·have e:i=l.length:=by omega
  subst e;rw[dq]at hov;obtain⟨h1,h2⟩:=aNf (by decide) hol hod hov;simp(disch:=omega) only[Ba,AY,Bb,AV,AJ,Be,AX,AW,A7,A6,A5,A4,A2,A1,A9,A8,A3,AU,AF,AR,AG,AL,AT,ab,ap,cond_true,cond_false,ax,az,bf,ak,ar,bb,au,ba,av,bd,bc,bg,Az];rw[h1,h2]
theorem aWg(l:List Nat)(hl:Hs l)(hl2:l.length<=400000)(n:Nat)(hn:n<=10000000):NQ (Wd l,(n:Int),())=some (Dh (nv (2^32) l*2^n),()):=by
 show wQ Ar.pre Ar.F qG (Wd l) n=_;unfold wQ;have hs:n%32<32:=ca _ (by decide);have hm:2^(n%32)<=2^31:=ai (by decide) (by omega);have hw:=aXh l hl (2^(n%32)) (n/32) hm (by omega);have hV:(2^32)^(n/32)*(nv (2^32) l*2^(n%32))=nv (2^32) l*2^n:=by
  rw[←fw,gc,←bi];congr 2;omega
 rw[hV]at hw;have hB:0<(2^32)^(n/32+l.length):=gw (by decide);have hlt:=CX (B:=2^32) (by decide) l hl.1;have hq:nv (2^32) l*2^n/(2^32)^(n/32+l.length)<2^32:=by
  rw[bv hB,←hV,bi,gc (2^32)];refine(ot (gw (n:=n/32) (show 0<2^32 by decide))).2 ?_;have h1:nv (2^32) l*2^(n%32)<=nv (2^32) l*2^32:=cd _ (by omega);have h2:nv (2^32) l*2^32<(2^32)^l.length*2^32:=ck hlt (by decide);rw[be (2^32) ((2^32)^l.length)];omega
 have hlast:nv (2^32) (pd (2^32) (n/32+l.length) (nv (2^32) l*2^n%(2^32)^(n/32+l.length))++[nv (2^32) l*2^n/(2^32)^(n/32+l.length)])=nv (2^32) l*2^n:=by
  rw[LI,Dp,HL (by decide) _ _ (ca _ hB)];exact ja _ _
 have p0:=VE ⟨I8 (HK (by decide) (n/32+l.length) (nv (2^32) l*2^n%(2^32)^(n/32+l.length))) hq,by simp[Dp];omega⟩ hlast;have hpl:=Dp (2^32) (n/32+l.length) (nv (2^32) l*2^n%(2^32)^(n/32+l.length));generalize nv (2^32) l*2^n/(2^32)^(n/32+l.length)=C at *
 generalize pd (2^32) (n/32+l.length) (nv (2^32) l*2^n%(2^32)^(n/32+l.length))=O at *
 have e0:decide (((n/32+l.length+1:Nat):Int)*8<=140737488355328)=true:=decide_eq_true (by omega);have e1:(1:Int)=((1:Nat):Int):=rfl;simp(disch:=omega) only[Ba,AY,Bb,AV,AJ,Be,AX,AW,A7,A6,A5,A4,A2,A1,A9,A8,A3,AU,AF,AR,AG,AL,AT,ab,ap,cond_true,cond_false,ax,az,bf,ak,ar,bb,au,ba,av,bd,bc,bg,aQ2,aTg,JF,Ph,Az,NT,e0,hw];show(bif EM ((Wd O).length+((C:Int)::[]).length) 8 then(bif Ar.pre (Wd O++((C:Int)::[]),())then some (Ar.F (Wd O++((C:Int)::[]),()))else none)else none)=_;simp(disch:=omega) only[Ba,AY,Bb,AV,AJ,Be,AX,AW,A7,A6,A5,A4,A2,A1,A9,A8,A3,AU,AF,AR,AG,AL,AT,ab,ap,cond_true,cond_false,ax,az,bf,ak,ar,bb,au,ba,av,bd,bc,bg,Po,Az,dh,fe,LU,Va p0,UZ p0];rfl
theorem aXi(a b:List Nat)(ha:Hs a)(hb:Hs b)(K:Nat)(hK:K<=1000000)(haK:a.length<=K)(hbK:b.length<=K):
  qH (((K:Int),(Wd a,(Wd b,((0:Int),((),((0:Int),())))))),([],())) =
   some (.inl (((),((((nv (2^32) a+nv (2^32) b)/(2^32)^K:Nat):Int),())),(Wd (pd (2^32) K ((nv (2^32) a+nv (2^32) b)%(2^32)^K)),()))):=by
 have key:=CW (aPl Ar.pre Ar.F) (fun x=>K-x.1.2.2.2.1.toNat)
  (fun x=>∃(i:Nat) (out:List Nat) (c:Nat),i<=K/\out.length=i/\(∀x∈out,x<2^32)/\c<=1/\nv (2^32) out+(2^32)^i*c=nv (2^32) (a.take i)+nv (2^32) (b.take i)/\x=(((K:Int),(Wd a,(Wd b,((i:Int),((),((c:Int),())))))),(Wd out,())))
  (fun _=>.inl (((),((((nv (2^32) a+nv (2^32) b)/(2^32)^K:Nat):Int),())),(Wd (pd (2^32) K ((nv (2^32) a+nv (2^32) b)%(2^32)^K)),()))) ?_ _
  ⟨0,[],0,dp _,rfl,(fun x hx=>by simp at hx),by decide,by simp[nv],rfl⟩
 ·exact key
 intro L x hx hL;obtain⟨i,out,c,hi,hol,hod,hc,hov,rfl⟩:=hx;have hla:=ha.2;have hlb:=hb.2;unfold YM;rcases ay i K with hlt|hge
 ·have hxa:=B3 (by decide) ha.1 i;have hxb:=B3 (by decide) hb.1 i;have hna:=Da (2^32) a i;have hnb:=Da (2^32) b i;have hstep:=aNh (B:=2^32) (V':=nv (2^32) (a.take (i+1))+nv (2^32) (b.take (i+1))) (d:=a.getD i 0+b.getD i 0) hol hov (by
   rw[hna,hnb,bw];omega)
  have hza:a.length<=i->a.getD i 0=0:=fun h=>by rw[al,df h];rfl
  have hzb:b.length<=i->b.getD i 0=0:=fun h=>by rw[al,df h];rfl
  have hgo:=fun s=>hL (((K:Int),(Wd a,(Wd b,(((i+1:Nat):Int),((),((s:Int),())))))),(Wd (out++[(a.getD i 0+b.getD i 0+c)%2^32]),()));have hgo:=hgo (((a.getD i 0+b.getD i 0+c)/2^32:Nat)) ⟨i+1,_,(a.getD i 0+b.getD i 0+c)/2^32,by omega,by rw[List.length_append,hol];rfl,I8 hod (ca _ (by decide)),by omega,hstep,rfl⟩ (by simp only[ab];omega);have hgo':∀s:Nat,s=a.getD i 0+b.getD i 0+c->L (((K:Int),(Wd a,(Wd b,(((i+1:Nat):Int),((),(((s/2^32:Nat):Int),())))))),(Wd (out++[s%2^32]),()))=L (((K:Int),(Wd a,(Wd b,(((i+1:Nat):Int),((),((((a.getD i 0+b.getD i 0+c)/2^32:Nat):Int),())))))),(Wd (out++[(a.getD i 0+b.getD i 0+c)%2^32]),())):=fun s hs=>by rw[hs]
  generalize hda:a.getD i 0=da at *
  generalize hdb:b.getD i 0=db at *
  rcases ay i a.length with hia|hia<;>rcases ay i b.length with hib|hib
  ·simp(disch:=omega) only[Ba,AY,Bb,AV,AJ,Be,AX,AW,A7,A6,A5,A4,A2,A1,A9,A8,A3,AU,AF,AR,AG,AL,AT,ab,ap,cond_true,cond_false,ax,az,bf,ak,ar,bb,au,ba,av,bd,bc,bg,Az,BN,hda,hdb,Dz,Pm,WP,Po,dh,fe,LU];exact(hgo' (c+da+db) (by omega)).trans hgo
  ·have:=hzb hib;simp(disch:=omega) only[Ba,AY,Bb,AV,AJ,Be,AX,AW,A7,A6,A5,A4,A2,A1,A9,A8,A3,AU,AF,AR,AG,AL,AT,ab,ap,cond_true,cond_false,ax,az,bf,ak,ar,bb,au,ba,av,bd,bc,bg,Az,BN,hda,hdb,Dz,Pm,WP,Po,dh,fe,LU];exact(hgo' (c+da) (by omega)).trans hgo
  ·have:=hza hia;simp(disch:=omega) only[Ba,AY,Bb,AV,AJ,Be,AX,AW,A7,A6,A5,A4,A2,A1,A9,A8,A3,AU,AF,AR,AG,AL,AT,ab,ap,cond_true,cond_false,ax,az,bf,ak,ar,bb,au,ba,av,bd,bc,bg,Az,BN,hda,hdb,Dz,Pm,WP,Po,dh,fe,LU];exact(hgo' (c+db) (by omega)).trans hgo
  ·have:=hza hia;have:=hzb hib;simp(disch:=omega) only[Ba,AY,Bb,AV,AJ,Be,AX,AW,A7,A6,A5,A4,A2,A1,A9,A8,A3,AU,AF,AR,AG,AL,AT,ab,ap,cond_true,cond_false,ax,az,bf,ak,ar,bb,au,ba,av,bd,bc,bg,Az,BN,hda,hdb,Dz,Pm,WP,Po,dh,fe,LU];exact(hgo' c (by omega)).trans hgo
 ·have e:i=K:=by omega
  subst e;rw[cm haK,cm hbK]at hov;obtain⟨h1,h2⟩:=aNf (by decide) hol hod hov;simp(disch:=omega) only[Ba,AY,Bb,AV,AJ,Be,AX,AW,A7,A6,A5,A4,A2,A1,A9,A8,A3,AU,AF,AR,AG,AL,AT,ab,ap,cond_true,cond_false,ax,az,bf,ak,ar,bb,au,ba,av,bd,bc,bg,Az];rw[h1,h2]
theorem aWh(a b:List Nat)(ha:Hs a)(hb:Hs b)(ha2:a.length<=400000)(hb2:b.length<=400000):Ux (Wd a,Wd b,())=some (Dh (nv (2^32) a+nv (2^32) b),()):=by
 show wR Ar.pre Ar.F qH (Wd a) (Wd b)=_;unfold wR;have hKe:∃K:Nat,(if((Wd b).length:Int)>((Wd a).length:Int)then((Wd b).length:Int)else((Wd a).length:Int))=(K:Int)/\a.length<=K/\b.length<=K/\K<=400000:=by
  rw[Az,Az];by_cases h:(b.length:Int)>(a.length:Int)
  ·exact⟨b.length,by rw[if_pos h],by omega,bu _,hb2⟩
  ·exact⟨a.length,by rw[if_neg h],bu _,by omega,ha2⟩
 obtain⟨K,hK,haK,hbK,hK2⟩:=hKe;have hw:=aXi a b ha hb K (by omega) haK hbK;have hB:0<(2^32)^K:=gw (by decide);have hla:=ao (CX (B:=2^32) (by decide) a ha.1) (ai (by decide) haK);have hlb:=ao (CX (B:=2^32) (by decide) b hb.1) (ai (by decide) hbK);have hq:(nv (2^32) a+nv (2^32) b)/(2^32)^K<2^32:=by
  rw[bv hB];have:2*(2^32)^K<=2^32*(2^32)^K:=aw _ (by decide);omega
 have hlast:nv (2^32) (pd (2^32) K ((nv (2^32) a+nv (2^32) b)%(2^32)^K)++[(nv (2^32) a+nv (2^32) b)/(2^32)^K])=nv (2^32) a+nv (2^32) b:=by
  rw[LI,Dp,HL (by decide) _ _ (ca _ hB)];exact ja _ _
 have p0:=VE ⟨I8 (HK (by decide) K ((nv (2^32) a+nv (2^32) b)%(2^32)^K)) hq,by simp[Dp];omega⟩ hlast;have hpl:=Dp (2^32) K ((nv (2^32) a+nv (2^32) b)%(2^32)^K);generalize(nv (2^32) a+nv (2^32) b)/(2^32)^K=C at *
 generalize pd (2^32) K ((nv (2^32) a+nv (2^32) b)%(2^32)^K)=O at *
 have e0:decide (((K+1:Nat):Int)*8<=140737488355328)=true:=decide_eq_true (by omega);simp(disch:=omega) only[hK,Ba,AY,Bb,AV,AJ,Be,AX,AW,A7,A6,A5,A4,A2,A1,A9,A8,A3,AU,AF,AR,AG,AL,AT,ab,ap,cond_true,cond_false,ax,az,bf,ak,ar,bb,au,ba,av,bd,bc,bg,iv,e0,hw];show(bif EM ((Wd O).length+((C:Int)::[]).length) 8 then(bif Ar.pre (Wd O++((C:Int)::[]),())then some (Ar.F (Wd O++((C:Int)::[]),()))else none)else none)=_;simp(disch:=omega) only[Ba,AY,Bb,AV,AJ,Be,AX,AW,A7,A6,A5,A4,A2,A1,A9,A8,A3,AU,AF,AR,AG,AL,AT,ab,ap,cond_true,cond_false,ax,az,bf,ak,ar,bb,au,ba,av,bd,bc,bg,Po,Az,dh,fe,LU,Va p0,UZ p0];rfl
end VL
namespace VL
open Go Vx
theorem LH(B:Nat)(l:List Nat)(i:Nat)(h:i<l.length):nv B (l.drop i)=l.getD i 0+B*nv B (l.drop (i+1)):=by
 rw[fd h,al,bq h];rfl
theorem aFP{B:Nat}(hB:2<=B){l:List Nat}(h:∀x∈l,x<B)(i:Nat):nv B (l.take i)<B^i:=by
 have:=CX hB (l.take i) fun x hx=>h x (List.mem_of_mem_take hx);refine ao this (ai (by omega) ?_);rw[List.length_take];exact Nat.min_le_left _ _
theorem bI5{P A A' X Y:Nat}(h:A<P)(hxy:X<Y):A+P*X<A'+P*Y:=by
 have:P*(X+1)<=P*Y:=cd _ hxy;rw[bw,fy]at this;omega
theorem LV{B:Nat}(hB:2<=B){a b:List Nat}(ha:∀x∈a,x<B){i:Nat}(hia:i<a.length)(hib:i<b.length)(hd:nv B (a.drop (i+1))=nv B (b.drop (i+1)))(h:a.getD i 0<b.getD i 0):nv B a<nv B b:=by
 rw[LJ B a i (by omega),LJ B b i (by omega),LH B a i hia,LH B b i hib,hd];exact bI5 (aFP hB ha i) (by omega)
theorem aXj(a b:List Nat)(ha:Hs a)(hb:Hs b)(hab:a.length=b.length):
  qI ((Wd a,(Wd b,((a.length:Int)-1,()))),())=some (if nv (2^32) a=nv (2^32) b then .inl ((),())else .inr (((if nv (2^32) a<nv (2^32) b then(-1:Int)else 1),()),())):=by
 have key:=CW aPm (fun x=>(x.1.2.2.1+1).toNat)
  (fun x=>∃j:Nat,j<=a.length/\nv (2^32) (a.drop j)=nv (2^32) (b.drop j)/\x=((Wd a,(Wd b,((j:Int)-1,()))),()))
  (fun _=>if nv (2^32) a=nv (2^32) b then .inl ((),())else .inr (((if nv (2^32) a<nv (2^32) b then(-1:Int)else 1),()),())) ?_ ((Wd a,(Wd b,((a.length:Int)-1,()))),())
  ⟨a.length,bu _,by rw[ii,hab,ii],rfl⟩
 ·exact key
 intro L x hx hL;obtain⟨j,hj,hd,rfl⟩:=hx;have hla:=ha.2;have hlb:=hb.2;unfold YN;rcases j with _|i
 ·have e1:decide ((((0:Nat):Int)-1)>=0)=false:=rfl;rw[jv,jv]at hd;simp only[e1,cond_false,if_pos hd]
 ·have e0:(((i+1:Nat):Int)-1)=(i:Int):=by omega
  have e2:aa .i64 ((i:Int)-1)=(i:Int)-1:=Av (by omega);have e3:decide ((i:Int)>=0)=true:=decide_eq_true (by omega);simp(disch:=omega) only[e0,e2,e3,Ba,AY,Bb,AV,AJ,Be,AX,AW,A7,A6,A5,A4,A2,A1,A9,A8,A3,AU,AF,AR,AG,AL,AT,ab,ap,cond_true,cond_false,ax,az,bf,ak,ar,bb,au,ba,av,bd,bc,bg,Az,BN];rcases fi (a.getD i 0) (b.getD i 0)with h|h|h
  ·have hr:=LV (by decide) ha.1 (by omega) (by omega) hd h;simp(disch:=omega) only[Ba,AY,Bb,AV,AJ,Be,AX,AW,A7,A6,A5,A4,A2,A1,A9,A8,A3,AU,AF,AR,AG,AL,AT,ab,ap,cond_true,cond_false,ax,az,bf,ak,ar,bb,au,ba,av,bd,bc,bg];rw[if_neg (by omega),if_pos hr]
  ·simp(disch:=omega) only[Ba,AY,Bb,AV,AJ,Be,AX,AW,A7,A6,A5,A4,A2,A1,A9,A8,A3,AU,AF,AR,AG,AL,AT,ab,ap,cond_true,cond_false,ax,az,bf,ak,ar,bb,au,ba,av,bd,bc,bg];refine hL _ ⟨i,by omega,?_,rfl⟩ (by simp only[ab];omega);rw[LH _ a i (by omega),LH _ b i (by omega),hd,h]
  ·have hr:=LV (by decide) hb.1 (by omega) (by omega) hd.symm h;simp(disch:=omega) only[Ba,AY,Bb,AV,AJ,Be,AX,AW,A7,A6,A5,A4,A2,A1,A9,A8,A3,AU,AF,AR,AG,AL,AT,ab,ap,cond_true,cond_false,ax,az,bf,ak,ar,bb,au,ba,av,bd,bc,bg];rw[if_neg (by omega),if_neg (by omega)]
theorem jA{B:Nat}(hB:2<=B){x y:Nat}(h:(dg B x).length<(dg B y).length):x<y:=by
 have h1:=i9 hB x;rcases ay x y with h2|h2
 ·exact h2
 ·have:=Ea hB (dg B x).length y (by omega);omega
theorem aBi(x y:Nat)(hx:x<2^100000)(hy:y<2^100000):cP (Dh x,Dh y,())=some (if x=y then 0 else if x<y then -1 else 1,()):=by
 show wS qI (Dh x) (Dh y)=_;unfold wS;have hX:=Hs.dg hx;have hY:=Hs.dg hy;have hlx:=hX.2;have hly:=hY.2;rcases fi (dg (2^32) x).length (dg (2^32) y).length with h|h|h
 ·have hr:=jA (by decide) h;have e0:(((dg (2^32) x).length:Int)!=((dg (2^32) y).length:Int))=true:=by rw[uQ];exact bne_iff_ne.2 (by omega)
  unfold Dh;simp(disch:=omega) only[Ba,AY,Bb,AV,AJ,Be,AX,AW,A7,A6,A5,A4,A2,A1,A9,A8,A3,AU,AF,AR,AG,AL,AT,ab,ap,cond_true,cond_false,ax,az,bf,ak,ar,bb,au,ba,av,bd,bc,bg,Az,e0];rw[if_neg (by omega),if_pos hr]
 ·have hw:=aXj _ _ hX hY h;rw[Fu,Fu]at hw;have e0:(((dg (2^32) x).length:Int)!=((dg (2^32) y).length:Int))=false:=by rw[uQ,h];simp
  have e2:aa .i64 (((dg (2^32) x).length:Int)-1)=((dg (2^32) x).length:Int)-1:=Av (by omega);unfold Dh;simp only[Az,e0,cond_false,e2,hw];by_cases he:x=y
  ·rw[if_pos he,if_pos he]
  ·rw[if_neg he,if_neg he]
 ·have hr:=jA (by decide) h;have e0:(((dg (2^32) x).length:Int)!=((dg (2^32) y).length:Int))=true:=by rw[uQ];exact bne_iff_ne.2 (by omega)
  unfold Dh;simp(disch:=omega) only[Ba,AY,Bb,AV,AJ,Be,AX,AW,A7,A6,A5,A4,A2,A1,A9,A8,A3,AU,AF,AR,AG,AL,AT,ab,ap,cond_true,cond_false,ax,az,bf,ak,ar,bb,au,ba,av,bd,bc,bg,Az,e0];rw[if_neg (by omega),if_neg (by omega)]
theorem aAt(a:Nat)(h:a<2^33):aa .u64 ((a:Int)+4294967296)=((a+2^32:Nat):Int):=by rw[DO (by omega)];omega
theorem W4(a b:Nat)(h:b<=a/\a<2^64):aa .u64 ((a:Int)-(b:Int))=((a-b:Nat):Int):=by
 rw[DO (by omega)];omega
theorem bIY{out:List Nat}{n i v:Nat}(hol:out.length=i)(h:i<n):(out++aq (n-i) 0).set i v=(out++[v])++aq (n-(i+1)) 0:=by
 have e:n-i=(n-(i+1))+1:=by omega
 rw[e,jj,gd _ _ (by omega),hol,gy,jt,fg];rfl
theorem aPW{P B A A' O a b c c' v:Nat}(h:A+P*c=A'+O)(h2:a+B*c'=b+c+v):A+P*a+P*B*c'=A'+P*b+(O+P*v):=by
 have h3:P*(a+B*c')=P*(b+c+v):=by rw[h2]
 rw[bw,bw,bw,←bh]at h3;omega
theorem aXk(a b:List Nat)(ha:Hs a)(hb:Hs b)(hba:b.length<=a.length)(hv:nv (2^32) b<=nv (2^32) a):
  qJ (((0:Int),(Wd b,(Wd a,((0:Int),((),()))))),(Wd (aq a.length 0),()))=some (.inl (((),()),(Wd (pd (2^32) a.length (nv (2^32) a-nv (2^32) b)),()))):=by
 have key:=CW (aPn Ar.pre Ar.F) (fun x=>a.length-x.1.2.2.2.1.toNat)
  (fun x=>∃(i:Nat) (out:List Nat) (c:Nat),i<=a.length/\out.length=i/\(∀x∈out,x<2^32)/\c<=1/\nv (2^32) (a.take i)+(2^32)^i*c=nv (2^32) (b.take i)+nv (2^32) out /\
   x=(((c:Int),(Wd b,(Wd a,((i:Int),((),()))))),(Wd (out++aq (a.length-i) 0),())))
  (fun _=>.inl (((),()),(Wd (pd (2^32) a.length (nv (2^32) a-nv (2^32) b)),()))) ?_ (((0:Int),(Wd b,(Wd a,((0:Int),((),()))))),(Wd (aq a.length 0),()))
  ⟨0,[],0,dp _,rfl,(fun x hx=>by simp at hx),by decide,by simp[nv],rfl⟩
 ·exact key
 intro L x hx hL;obtain⟨i,out,c,hi,hol,hod,hc,hov,rfl⟩:=hx;have hla:=ha.2;unfold YO;rcases ay i a.length with hlt|hge
 ·have hxa:=B3 (by decide) ha.1 i;have hxb:=B3 (by decide) hb.1 i;have hna:=Da (2^32) a i;have hnb:=Da (2^32) b i;have hzb:b.length<=i->b.getD i 0=0:=fun h=>by rw[al,df h];rfl
  have hset:=fun v=>bIY (v:=v) hol hlt;have hlen:(out++aq (a.length-i) 0).length=a.length:=by simp;omega
  generalize hda:a.getD i 0=da at *
  generalize hdb:b.getD i 0=db at *
  have hgo:∀c' v:Nat,c'<=1->v<2^32->da+2^32*c'=db+c+v->L (((c':Int),(Wd b,(Wd a,(((i+1:Nat):Int),((),()))))),(Wd (out++[v]++aq (a.length-(i+1)) 0),()))=_:=fun c' v h1 h2 h3=>
   hL _ ⟨i+1,out++[v],c',by omega,by simp;omega,I8 hod h2,h1,by
    rw[hna,hnb,LI,hol,dj];exact aPW hov h3,rfl⟩ (by simp only[ab];omega)
  have hg1:=fun v=>hgo 1 v (bu _);have hg0:=fun v=>hgo 0 v (dp _);rw[show((1:Nat):Int)=1 from rfl]at hg1;rw[show((0:Nat):Int)=0 from rfl]at hg0;rcases ay i b.length with hib|hib
  ·rcases ay da (c+db)with h|h
   ·simp(disch:=omega) only[Ba,AY,Bb,AV,AJ,Be,AX,AW,A7,A6,A5,A4,A2,A1,A9,A8,A3,AU,AF,AR,AG,AL,AT,ab,ap,cond_true,cond_false,ax,az,bf,ak,ar,bb,au,ba,av,bd,bc,bg,Az,BN,hda,hdb,Dz,aAt,W4,hlen,Dt,hset];exact hg1 _ (by omega) (by omega)
   ·simp(disch:=omega) only[Ba,AY,Bb,AV,AJ,Be,AX,AW,A7,A6,A5,A4,A2,A1,A9,A8,A3,AU,AF,AR,AG,AL,AT,ab,ap,cond_true,cond_false,ax,az,bf,ak,ar,bb,au,ba,av,bd,bc,bg,Az,BN,hda,hdb,Dz,aAt,W4,hlen,Dt,hset];exact hg0 _ (by omega) (by omega)
  ·have:=hzb hib;rcases ay da c with h|h
   ·simp(disch:=omega) only[Ba,AY,Bb,AV,AJ,Be,AX,AW,A7,A6,A5,A4,A2,A1,A9,A8,A3,AU,AF,AR,AG,AL,AT,ab,ap,cond_true,cond_false,ax,az,bf,ak,ar,bb,au,ba,av,bd,bc,bg,Az,BN,hda,hdb,Dz,aAt,W4,hlen,Dt,hset];exact hg1 _ (by omega) (by omega)
   ·simp(disch:=omega) only[Ba,AY,Bb,AV,AJ,Be,AX,AW,A7,A6,A5,A4,A2,A1,A9,A8,A3,AU,AF,AR,AG,AL,AT,ab,ap,cond_true,cond_false,ax,az,bf,ak,ar,bb,au,ba,av,bd,bc,bg,Az,BN,hda,hdb,Dz,aAt,W4,hlen,Dt,hset];exact hg0 _ (by omega) (by omega)
 ·have e:i=a.length:=by omega
  subst e;rw[dq,cm hba]at hov;have hlt:=CX (B:=2^32) (by decide) out hod;rw[hol]at hlt;have hc0:(2^32)^a.length*c=0:=by
   rcases(show c=0∨c=1 by omega)with h|h
   ·rw[h,dz]
   ·rw[h,fy]at hov;omega
  have ho:=U7 (B:=2^32) (v:=nv (2^32) a-nv (2^32) b) (by decide) hod hol (by omega);rw[gy,iv,dl];simp(disch:=omega) only[Ba,AY,Bb,AV,AJ,Be,AX,AW,A7,A6,A5,A4,A2,A1,A9,A8,A3,AU,AF,AR,AG,AL,AT,ab,ap,cond_true,cond_false,ax,az,bf,ak,ar,bb,au,ba,av,bd,bc,bg,Az];rw[←ho]
theorem aWi(a b:List Nat)(ha:Hs a)(hb:Hs b)(hba:b.length<=a.length)(hv:nv (2^32) b<=nv (2^32) a):Xv (Wd a,Wd b,())=some (Dh (nv (2^32) a-nv (2^32) b),()):=by
 show wT Ar.pre Ar.F qJ (Wd a) (Wd b)=_;unfold wT;have hw:=aXk a b ha hb hba hv;have hla:=ha.2;have hlt:=CX (B:=2^32) (by decide) a ha.1;have p0:=VE (l:=pd (2^32) a.length (nv (2^32) a-nv (2^32) b)) ⟨HK (by decide) _ _,by rw[Dp];omega⟩ (HL (by decide) _ _ (by omega));have e2:decide ((a.length:Int)*8<=140737488355328)=true:=decide_eq_true (by omega);simp(disch:=omega) only[Ba,AY,Bb,AV,AJ,Be,AX,AW,A7,A6,A5,A4,A2,A1,A9,A8,A3,AU,AF,AR,AG,AL,AT,ab,ap,cond_true,cond_false,ax,az,bf,ak,ar,bb,au,ba,av,bd,bc,bg,Az,e2,NT,hw];show(bif Ar.pre (Wd (pd (2^32) a.length (nv (2^32) a-nv (2^32) b)),())then some (Ar.F (Wd (pd (2^32) a.length (nv (2^32) a-nv (2^32) b)),()))else none)=_;simp only[Va p0,UZ p0,cond_true];rfl
theorem aDL{B:Nat}(hB:2<=B){x y:Nat}(h:y<=x):(dg B y).length<=(dg B x).length:=by
 rcases ay (dg B x).length (dg B y).length with h1|h1
 ·have:=jA hB h1;omega
 ·exact h1
theorem pU{x y:Nat}(hx:x<2^100000)(h:y<=x):Xv (Dh x,Dh y,())=some (Dh (x-y),()):=by
 have:=aWi (dg (2^32) x) (dg (2^32) y) (Hs.dg hx) (Hs.dg (by omega)) (aDL (by decide) h) (by rw[Fu,Fu];exact h);rwa [Fu,Fu]at this
theorem Hs.len{n:Nat}(h:n<2^100000):(VL.dg (2^32) n).length<=3125:=by
 have:n<(2^32)^3125:=by rw[←fw];exact h
 exact Ea (B:=2^32) (by decide) 3125 n this
theorem NR{x:Nat}(hx:x<2^100000)(n:Nat)(hn:n<=10000000):NQ (Dh x,(n:Int),())=some (Dh (x*2^n),()):=by
 have:=aWg (dg (2^32) x) (Hs.dg hx) (by have:=Hs.len hx;omega) n hn;rwa [Fu]at this
theorem pT{x y:Nat}(hx:x<2^100000)(hy:y<2^100000):Ux (Dh x,Dh y,())=some (Dh (x+y),()):=by
 have:=aWh (dg (2^32) x) (dg (2^32) y) (Hs.dg hx) (Hs.dg hy) (by have:=Hs.len hx;omega) (by have:=Hs.len hy;omega);rwa [Fu,Fu]at this
theorem bDV(x:Nat)(h:x<2^64):Bl .u64 (x:Int) 2=((x/2:Nat):Int):=by
 unfold Bl;have e:(x:Int).tdiv 2=((x/2:Nat):Int):=rfl;rw[e,DO (by omega)]
theorem aFo(x:Nat)(h:x<2^60):Bl .i64 (x:Int) 2=((x/2:Nat):Int):=by
 unfold Bl;have e:(x:Int).tdiv 2=((x/2:Nat):Int):=rfl;rw[e,Av (by omega)]
theorem aFQ(x:Nat):gm (x:Int) 2=((x%2:Nat):Int):=rfl
theorem bJL(a:Nat)(h:a<2^56):aa .i64 (32*(a:Int))=((32*a:Nat):Int):=by rw[Av (by omega)];omega
theorem aYZ{x:Nat}(h:x≠0):Ae x=Ae (x/2)+1:=by
 have:=sX (n:=x) (k:=1);rcases ay x 2 with h1|h1
 ·have:x=1:=by omega
  subst this;decide
 ·have:=this (by omega);rw[this,Nat.pow_one];omega
theorem aXp(x c:Nat)(hx:x<2^64)(hc:c+Ae x<2^60):qM (((x:Int),((c:Int),())),())=some (.inl ((((c+Ae x:Nat):Int),()),())):=by
 have key:=CW (aPs Ar.pre Ar.F) (fun y=>y.1.1.toNat)
  (fun y=>∃x' c':Nat,x'<2^64/\c'+Ae x'=c+Ae x/\y=(((x':Int),((c':Int),())),()))
  (fun _=>.inl ((((c+Ae x:Nat):Int),()),())) ?_ (((x:Int),((c:Int),())),()) ⟨x,c,hx,rfl,rfl⟩
 ·exact key
 intro L y hy hL;obtain⟨x',c',hx',hc',rfl⟩:=hy;unfold YT;rcases br x' with rfl|hp
 ·have:Ae 0=0:=by decide
  rw[this,cu]at hc';rw[←hc'];simp(disch:=omega) only[Ba,AY,Bb,AV,AJ,Be,AX,AW,A7,A6,A5,A4,A2,A1,A9,A8,A3,AU,AF,AR,AG,AL,AT,ab,ap,cond_true,cond_false,ax,az,bf,ak,ar,bb,au,ba,av,bd,bc,bg]
 ·have hb:=aYZ (x:=x') (by omega);simp(disch:=omega) only[Ba,AY,Bb,AV,AJ,Be,AX,AW,A7,A6,A5,A4,A2,A1,A9,A8,A3,AU,AF,AR,AG,AL,AT,ab,ap,cond_true,cond_false,ax,az,bf,ak,ar,bb,au,ba,av,bd,bc,bg,bDV];exact hL _ ⟨x'/2,c'+1,by omega,by omega,rfl⟩ (by simp only[ab];omega)
theorem dA{n:Nat}(hn:n<2^100000):cZ (Dh n,())=some ((Ae n:Int),()):=by
 show xD Ar.pre Ar.F qM (Dh n)=_;unfold xD;have hH:=Hs.dg hn;have hl:=Hs.len hn;have p0:=VE hH (Fu n);rw[show Wd (dg (2^32) n)=Dh n from rfl]at p0;simp only[Va p0,UZ p0,cond_true,Xd];by_cases h0:n=0
 ·subst h0;rfl
 ·rw[decide_eq_false h0,cond_false];have hlen:0<(dg (2^32) n).length:=by rw[EC (by decide) (by omega)];simp
  have ht:=OP (B:=2^32) (by decide) n;have hlast:=W1 (dg (2^32) n) (by rw[ht];exact hlen);rw[ht]at hlast;have hnv:=Fu n;rw[LJ _ _ ((dg (2^32) n).length-1) (by omega),LH _ _ _ (by omega)]at hnv;rw[show(dg (2^32) n).length-1+1=(dg (2^32) n).length by omega,ii]at hnv;have htk:=aFP (B:=2^32) (by decide) hH.1 ((dg (2^32) n).length-1);have htop:=B3 (B:=2^32) (by decide) hH.1 ((dg (2^32) n).length-1);have hb:Ae n=32*((dg (2^32) n).length-1)+Ae ((dg (2^32) n).getD ((dg (2^32) n).length-1) 0):=by
   rw[←fw]at hnv htk;have:=aDo htk (b:=(dg (2^32) n).getD ((dg (2^32) n).length-1) 0) (by omega);have hnv2:=hnv;simp only[nv,dz,cu]at hnv2;rw[hnv2]at this;exact this
  have hbb:=CS htop;have hw:=aXp ((dg (2^32) n).getD ((dg (2^32) n).length-1) 0) (32*((dg (2^32) n).length-1)) (by omega) (by omega);rw[←hb]at hw;unfold Dh;simp(disch:=omega) only[Ba,AY,Bb,AV,AJ,Be,AX,AW,A7,A6,A5,A4,A2,A1,A9,A8,A3,AU,AF,AR,AG,AL,AT,ab,ap,cond_true,cond_false,ax,az,bf,ak,ar,bb,au,ba,av,bd,bc,bg,Az,BN,bJL,hw]
theorem aFY(a:Nat)(h:a<2^32):aa .u64 ((a:Int)*4294967296)=((a*2^32:Nat):Int):=by rw[DO (by omega)];omega
theorem aP6(B:Nat)(l:List Nat)(i x y:Nat)(hi:i<l.length)(hy:l.getD i 0+y=x):nv B (l.set i x)=nv B l+B^i*y:=by
 have:=ZW B l i x hi;rw[←hy,bw]at this;rw[hy]at this;omega
theorem aXq(a:List Nat)(ha:Hs a):
  qN ((Wd a,((0:Int),((),()))),(Wd (aq ((a.length+1)/2) 0),()))=some (.inl (((),()),(Wd (pd (2^64) ((a.length+1)/2) (nv (2^32) a)),()))):=by
 have key:=CW (aPt Ar.pre Ar.F) (fun x=>a.length-x.1.2.1.toNat)
  (fun x=>∃(i:Nat) (out:List Nat),i<=a.length/\out.length=(a.length+1)/2/\(∀x∈out,x<2^64)/\nv (2^64) out=nv (2^32) (a.take i)/\(∀j,i<=2*j->out.getD j 0=0)/\(i%2=1->out.getD (i/2) 0<2^32) /\
   x=((Wd a,((i:Int),((),()))),(Wd out,())))
  (fun _=>.inl (((),()),(Wd (pd (2^64) ((a.length+1)/2) (nv (2^32) a)),()))) ?_ ((Wd a,((0:Int),((),()))),(Wd (aq ((a.length+1)/2) 0),()))
  ⟨0,aq ((a.length+1)/2) 0,dp _,by simp,(fun x hx=>by have:=ll hx;omega),by rw[uW];simp[nv],(fun j _=>by
   have h:=B3 (B:=1) (by decide) (l:=aq ((a.length+1)/2) 0) (fun x hx=>by have:=ll hx;omega) j;omega),(fun h=>by omega),rfl⟩
 ·exact key
 intro L x hx hL;obtain⟨i,out,hi,hol,hod,hov,hz,ho,rfl⟩:=hx;have hla:=ha.2;unfold YU;rcases ay i a.length with hlt|hge
 ·have hxa:=B3 (by decide) ha.1 i;have hna:=Da (2^32) a i;generalize hda:a.getD i 0=da at *
  rcases jm i with h2|h2
  ·have hz0:=hz (i/2) (by omega);have hns:=aP6 (2^64) out (i/2) da da (by omega) (by omega);simp(disch:=omega) only[Ba,AY,Bb,AV,AJ,Be,AX,AW,A7,A6,A5,A4,A2,A1,A9,A8,A3,AU,AF,AR,AG,AL,AT,ab,ap,cond_true,cond_false,ax,az,bf,ak,ar,bb,au,ba,av,bd,bc,bg,Az,BN,hda,aFQ,aFo,Dt];refine hL _ ⟨i+1,out.set (i/2) da,by omega,by rw[iy];exact hol,vU hod (by omega),?_,?_,?_,rfl⟩ (by simp only[ab];omega)
   ·rw[hns,hna,hov];have:(2^64)^(i/2)=(2^32)^i:=by rw[←fw,←fw];congr 1;omega
    rw[this]
   ·intro j hj;rw[jX (by omega)];exact hz j (by omega)
   ·intro _;rw[show(i+1)/2=i/2 by omega,aEn (by omega)];exact hxa
  ·have hlo:=ho h2;generalize hdo:out.getD (i/2) 0=lo at *
   have hns:=aP6 (2^64) out (i/2) (lo+da*2^32) (da*2^32) (by omega) (by omega);simp(disch:=omega) only[Ba,AY,Bb,AV,AJ,Be,AX,AW,A7,A6,A5,A4,A2,A1,A9,A8,A3,AU,AF,AR,AG,AL,AT,ab,ap,cond_true,cond_false,ax,az,bf,ak,ar,bb,au,ba,av,bd,bc,bg,Az,BN,hda,hdo,aFQ,aFo,aFY,Dz,Dt];refine hL _ ⟨i+1,out.set (i/2) (lo+da*2^32),by omega,by rw[iy];exact hol,vU hod (by omega),?_,?_,?_,rfl⟩ (by simp only[ab];omega)
   ·rw[hns,hna,hov,be da,←bh];have:(2^64)^(i/2)*2^32=(2^32)^i:=by rw[←fw,←fw,←bi];congr 1;omega
    rw[this]
   ·intro j hj;rw[jX (by omega)];exact hz j (by omega)
   ·intro h;omega
 ·have e:i=a.length:=by omega
  subst e;rw[dq]at hov;have h1:=U7 (B:=2^64) (by decide) hod hol hov;simp(disch:=omega) only[Ba,AY,Bb,AV,AJ,Be,AX,AW,A7,A6,A5,A4,A2,A1,A9,A8,A3,AU,AF,AR,AG,AL,AT,ab,ap,cond_true,cond_false,ax,az,bf,ak,ar,bb,au,ba,av,bd,bc,bg,Az];rw[←h1]
theorem aWu(a:List Nat)(ha:Hs a):Xz (Wd a,())=some (Dw (nv (2^32) a),()):=by
 show xG Ar.pre Ar.F qN (Wd a)=_;unfold xG;have hla:=ha.2;have hw:=aXq a ha;have hlt:=CX (B:=2^32) (by decide) a ha.1;have hlt2:nv (2^32) a<(2^64)^((a.length+1)/2):=by
  refine ao hlt ?_;rw[←fw,←fw];exact ai (by decide) (by omega)
 have p0:=aHG (pd (2^64) ((a.length+1)/2) (nv (2^32) a)) (by rw[Dp];omega);rw[Ga (B:=2^64) (by decide) _ (HK (by decide) _ _),HL (by decide) _ _ hlt2]at p0;have e2:decide ((((a.length+1)/2:Nat):Int)*8<=140737488355328)=true:=decide_eq_true (by omega);simp(disch:=omega) only[Ba,AY,Bb,AV,AJ,Be,AX,AW,A7,A6,A5,A4,A2,A1,A9,A8,A3,AU,AF,AR,AG,AL,AT,ab,ap,cond_true,cond_false,ax,az,bf,ak,ar,bb,au,ba,av,bd,bc,bg,Az,aFo,e2,NT,hw];show(bif Ar.pre (Wd (pd (2^64) ((a.length+1)/2) (nv (2^32) a)),())then some (Ar.F (Wd (pd (2^64) ((a.length+1)/2) (nv (2^32) a)),()))else none)=_;simp only[Va p0,UZ p0,cond_true];rfl
theorem aWv{n:Nat}(hn:n<2^100000):Xz (Dh n,())=some (Dw n,()):=by
 have:=aWu (dg (2^32) n) (Hs.dg hn);rwa [Fu]at this
theorem bB4{B:Nat}(hB:2<=B){l:List Nat}(h:∀x∈l,x<B)(i:Nat)(hi:i<=l.length):nv B l/B^i=nv B (l.drop i):=by
 rw[LJ B l i hi,dx _ _ (gw (by omega)),cg (aFP hB h i),cz]
theorem bHQ{l:List Nat}(hl:Hs l){w s k:Nat}(hs:s<32)(hi:w+k<l.length):
  nv (2^32) l/2^(32*w+s)/(2^32)^k%2^32=(l.getD (w+k) 0+l.getD (w+k+1) 0*2^32)/2^s%2^32:=by
 have e1:nv (2^32) l/2^(32*w+s)/(2^32)^k=nv (2^32) l/(2^32)^(w+k)/2^s:=by
  rw[dk,dk];congr 1;rw[←fw,←fw,←bi,←bi];congr 1;omega
 rw[e1,bB4 (by decide) hl.1 _ (by omega),LH _ _ _ hi];have e2:∃R,nv (2^32) (l.drop (w+k+1))=l.getD (w+k+1) 0+2^32*R:=by
  rcases ay (w+k+1) l.length with h|h
  ·exact⟨_,LH _ _ _ h⟩
  ·refine⟨0,?_⟩;rw[List.drop_eq_nil_of_le h,al,df h];rfl
 obtain⟨R,hR⟩:=e2;rw[hR];generalize l.getD (w+k) 0=x;generalize l.getD (w+k+1) 0=y;have hp:=af s;have e3:x+2^32*(y+2^32*R)=(x+y*2^32)+2^s*(2^32*(2^(32-s)*R)):=by
  have h1:2^s*2^(32-s)=2^32:=by rw[←bi];congr 1;omega
  have h2:2^s*(2^32*(2^(32-s)*R))=2^32*(2^s*2^(32-s)*R):=by
   rw[gc,bh (2^s)]
  rw[h2,h1,bw];omega
 rw[e3,dx _ _ hp,fu]
theorem lF(x m:Nat)(h:x<2^64)(hm:0<m):Bl .u64 (x:Int) (m:Int)=((x/m:Nat):Int):=by
 unfold Bl;have e:(x:Int).tdiv (m:Int)=((x/m:Nat):Int):=rfl;have:=ee x m;generalize x/m=q at *
 rw[e,DO (by omega)]
theorem aXt(l:List Nat)(hl:Hs l)(w s:Nat)(hs:s<32)(hw:w<=10000000):
  qQ ((Wd l,(((2^s:Nat):Int),((w:Int),((),())))),([],()))=some (.inl (((),()),(Wd (pd (2^32) (l.length-w) (nv (2^32) l/2^(32*w+s)%(2^32)^(l.length-w))),()))):=by
 have key:=CW (aPw Ar.pre Ar.F) (fun x=>l.length-x.1.2.2.1.toNat)
  (fun x=>∃(k:Nat) (out:List Nat),(w+k<=l.length∨k=0)/\out.length=k/\(∀x∈out,x<2^32)/\nv (2^32) out=nv (2^32) l/2^(32*w+s)%(2^32)^k /\
   x=((Wd l,(((2^s:Nat):Int),(((w+k:Nat):Int),((),())))),(Wd out,())))
  (fun _=>.inl (((),()),(Wd (pd (2^32) (l.length-w) (nv (2^32) l/2^(32*w+s)%(2^32)^(l.length-w))),()))) ?_ ((Wd l,(((2^s:Nat):Int),((w:Int),((),())))),([],()))
  ⟨0,[],.inr rfl,rfl,(fun x hx=>by simp at hx),by simp[nv,ou],rfl⟩
 ·exact key
 intro L x hx hL;obtain⟨k,out,hk,hol,hod,hov,rfl⟩:=hx;have hla:=hl.2;have hp:=af s;unfold YX;rcases ay (w+k) l.length with hlt|hge
 ·have hx:=B3 (by decide) hl.1 (w+k);have hy:=B3 (by decide) hl.1 (w+k+1);have hdig:=bHQ hl hs hlt;have hzb:l.length<=w+k+1->l.getD (w+k+1) 0=0:=fun h=>by rw[al,df h];rfl
  generalize nv (2^32) l/2^(32*w+s)=X at *
  have hgo:∀v:Nat,v=X/(2^32)^k%2^32->L ((Wd l,(((2^s:Nat):Int),(((w+k+1:Nat):Int),((),())))),(Wd (out++[v]),()))=_:=fun v hv=>
   hL _ ⟨k+1,out++[v],.inl (by omega),by simp;omega,I8 hod (by rw[hv];exact ca _ (by decide)),by
    rw[LI,hol,hov,hv,show(2^32)^(k+1)=(2^32)^k*2^32 from rfl,ms],rfl⟩ (by simp only[ab];omega)
  generalize hdx:l.getD (w+k) 0=x at *
  generalize hdy:l.getD (w+k+1) 0=y at *
  rcases ay (w+k+1) l.length with h1|h1
  ·simp(disch:=omega) only[Ba,AY,Bb,AV,AJ,Be,AX,AW,A7,A6,A5,A4,A2,A1,A9,A8,A3,AU,AF,AR,AG,AL,AT,ab,ap,cond_true,cond_false,ax,az,bf,ak,ar,bb,au,ba,av,bd,bc,bg,Az,BN,hdx,hdy,aFY,Dz,lF,Pm,Po,dh,fe,LU];exact hgo _ hdig.symm
  ·have h0:=hzb h1;rw[h0,ej,cu]at hdig;simp(disch:=omega) only[Ba,AY,Bb,AV,AJ,Be,AX,AW,A7,A6,A5,A4,A2,A1,A9,A8,A3,AU,AF,AR,AG,AL,AT,ab,ap,cond_true,cond_false,ax,az,bf,ak,ar,bb,au,ba,av,bd,bc,bg,Az,BN,hdx,hdy,aFY,Dz,lF,Pm,Po,dh,fe,LU];exact hgo _ hdig.symm
 ·have e:k=l.length-w:=by omega
  subst e;have h1:=U7 (B:=2^32) (by decide) hod hol hov;simp(disch:=omega) only[Ba,AY,Bb,AV,AJ,Be,AX,AW,A7,A6,A5,A4,A2,A1,A9,A8,A3,AU,AF,AR,AG,AL,AT,ab,ap,cond_true,cond_false,ax,az,bf,ak,ar,bb,au,ba,av,bd,bc,bg,Az];rw[←h1]
theorem aWx(l:List Nat)(hl:Hs l)(n:Nat)(hn:n<=10000000):XE (Wd l,(n:Int),())=some (Dh (nv (2^32) l/2^n),()):=by
 show xN Ar.pre Ar.F qQ (Wd l) n=_;unfold xN;have hla:=hl.2;have hw:=aXt l hl (n/32) (n%32) (ca _ (by decide)) (by omega);rw[show 32*(n/32)+n%32=n by omega]at hw;have hlt:=CX (B:=2^32) (by decide) l hl.1;have hX:nv (2^32) l/2^n<(2^32)^(l.length-n/32):=by
  rw[bv (af n)];refine ao hlt ?_;rw[←fw,←fw,←bi];exact ai (by decide) (by omega)
 rw[bo hX]at hw;have p0:=VE (l:=pd (2^32) (l.length-n/32) (nv (2^32) l/2^n)) ⟨HK (by decide) _ _,by rw[Dp];omega⟩ (HL (by decide) _ _ hX);simp(disch:=omega) only[Ba,AY,Bb,AV,AJ,Be,AX,AW,A7,A6,A5,A4,A2,A1,A9,A8,A3,AU,AF,AR,AG,AL,AT,ab,ap,cond_true,cond_false,ax,az,bf,ak,ar,bb,au,ba,av,bd,bc,bg,aQ2,aTg,JF,Ph,hw];show(bif Ar.pre (Wd (pd (2^32) (l.length-n/32) (nv (2^32) l/2^n)),())then some (Ar.F (Wd (pd (2^32) (l.length-n/32) (nv (2^32) l/2^n)),()))else none)=_;simp only[Va p0,UZ p0,cond_true];rfl
theorem aWy{x:Nat}(hx:x<2^100000)(n:Nat)(hn:n<=10000000):XE (Dh x,(n:Int),())=some (Dh (x/2^n),()):=by
 have:=aWx (dg (2^32) x) (Hs.dg hx) n hn;rwa [Fu]at this
end VL
namespace VL
open Go Vx
theorem fS{f:Int}(h:Fm f):XQ (f,())=some ((fW f:Int),(fP f:Int),(1-(fX f:Int)),()):=by
 rcases Cs h with rfl|rfl|rfl|rfl<;>kernel_rfl
theorem aI6{f:Int}(h:¬Fm f):XQ (f,())=some (0,0,0,()):=by
 show zW f=_;unfold zW;have hn:∀k:Int,0<=k/\k<4->(f==k)=false:=fun k hk=>Wy _ _ (fun e=>h (by rw[e];exact hk));rw[hn 0 (by omega),hn 1 (by omega),hn 2 (by omega),hn 3 (by omega)];rfl
theorem aJa{f:Int}(h:Fm f)(neg:Bool):gA (f,neg,())=some ((Bs f neg:Int),()):=by
 rcases Cs h with rfl|rfl|rfl|rfl<;>cases neg<;>kernel_rfl
theorem aBl{f:Int}(h:Fm f)(neg:Bool):dE (f,neg,())=some ((Dn f neg:Int),()):=by
 rcases Cs h with rfl|rfl|rfl|rfl<;>cases neg<;>kernel_rfl
theorem aH7{f:Int}(h:Fm f)(neg:Bool):dW (f,neg,())=some ((Bs f neg:Int),()):=by
 rcases Cs h with rfl|rfl|rfl|rfl<;>cases neg<;>kernel_rfl
theorem aBv{f:Int}(h:Fm f):fZ (f,())=some ((Co f:Int),()):=by
 rcases Cs h with rfl|rfl|rfl|rfl<;>kernel_rfl
theorem bA9{f:Int}(h:Fm f)(neg:Bool):1<=Dn f neg/\Dn f neg<2^64:=by
 rcases Cs h with rfl|rfl|rfl|rfl<;>cases neg<;>decide
theorem aWt{f:Int}(h:Fm f)(m:Int)(neg:Bool):dB (f,m,neg,())=some ((UL f m neg:Int),()):=by
 show xE Er.pre Er.F f m neg=_;have p0:=aBl h neg;have hp:=bA9 h neg;have e1:aa .u64 ((Dn f neg:Int)-1)=((Dn f neg-1:Nat):Int):=W4 _ 1 (by omega);unfold xE UL;simp only[vC p0,t6 p0,cond_true,e1];show(bif JC m neg then _ else _)=_;cases JC m neg<;>rfl
theorem E8{f:Int}(hf:Fm f):fP f<=53:=by
 rcases Cs hf with rfl|rfl|rfl|rfl<;>decide
theorem uM{m:Int}(hm:0<=m/\m<=5):m=0∨m=1∨m=2∨m=3∨m=4∨m=5:=by omega
theorem aTx(n:Nat):(decide ((0:Int)<(((Dh n).length:Nat):Int))||!decide ((((Dh n).length:Nat):Int)>0))=true:=by
 cases decide ((((Dh n).length:Nat):Int)>0)<;>rfl
theorem aTy(u:Nat):(decide ((((Dh u).length:Nat):Int)>0)&&(gm ((Dh u).getD (ag 0) 0) 2==1))=decide (u%2=1):=by
 rw[ap,aTw,aFQ,show(u%2^32)%2=u%2 by omega];rcases jm u with h|h
 ·rw[h];simp
 ·have:0<(Dh u).length:=aF1 (by omega);rw[h,decide_eq_true (show(((Dh u).length:Nat):Int)>0 by omega)];rfl
theorem bBK(N n:Nat):N-N/2^n*2^n=N%2^n:=by
 have:=ja N (2^n);rw[be]at this;omega
theorem aHH{m:Int}(hm:0<=m/\m<=5)(neg:Bool)(N:Nat)(E q:Int)(hN:N<2^50000)(hb:-20000<=E/\E<=20000/\-20000<=q/\q<=20000)(hsh:q<=E->N*2^(E-q).toNat<2^100000):
  dC (m,(neg,Dh N,E,()),q,())=some (Dh (BB m neg N E q false),decide (Dj N E q false≠0),()):=by
 show xF TH.pre TH.F CN.pre CN.F CK.pre CK.F CM.pre CM.F CL.pre CL.F m (neg,Dh N,E,()) q=_;have hN2:N<2^100000:=fq hN (bt (by decide) (by decide));unfold xF BB;rw[OO];dsimp only;by_cases hqE:q<=E
 ·obtain⟨d,hd⟩:=cn (show 0<=E-q by omega);have e0:aa .i64 (E-q)=(d:Int):=by rw[Av (by omega)];exact hd
  have p0:=NR hN2 d (by omega);rw[decide_eq_true hqE,cond_true,e0];simp only[Jv p0,Jk p0,cond_true];rw[aD hqE,WR hqE,hd,ab];rfl
 ·obtain⟨n,hn⟩:=cn (show 0<=q-E by omega);have e0:aa .i64 (q-E)=(n:Int):=by rw[Av (by omega)];exact hn
  have e1:aa .i64 ((n:Int)-1)=((n-1:Nat):Int):=AJ _ (by omega);have hQN:N/2^n*2^n<=N:=lk _ _;have hQ2:N/2^n<=N:=ee _ _;have p0:=aWy hN2 n (by omega);have p1:=NR (x:=N/2^n) (by omega) n (by omega);have p2:=pU hN2 hQN;rw[bBK]at p2;rw[decide_eq_false hqE,cond_false,e0,aC (by omega),WQ (by omega),hn,ab];simp only[bDc p0,bAl p0,cond_true,Jv p1,Jk p1,u9 p2,t0 p2,Xd];have hRN:=Nat.mod_le N (2^n);generalize N/2^n=Q at *
  generalize N%2^n=R at *
  by_cases hR:R=0
  ·subst hR;rw[decide_eq_true rfl,cond_true];rfl
  ·have hQ1:1<2^100000:=ao (show 1<2^1 by decide) (ai (by decide) (by decide));have p3:=NR (x:=1) hQ1 (n-1) (by omega);rw[nM (by decide) (by decide),fx]at p3;have hH:2^(n-1)<2^100000:=bt (by decide) (by omega);have p4:=aBi R (2^(n-1)) (by omega) hH;have p5:=pT (x:=Q) (y:=1) (by omega) hQ1;rw[nM (x:=1) (by decide) (by decide)]at p5;rw[show((1:Nat):Int)=1 from rfl]at p3 p5;have hcls:B9 R n≠0:=by
    unfold B9;rw[if_neg hR];split
    ·decide
    ·split<;>decide
   have hcut:(if B9 R n≠0/\C9 m neg (decide (Q%2=1)) (B9 R n)=true then Q+1 else Q)=bif C9 m neg (decide (Q%2=1)) (B9 R n)then Q+1 else Q:=by
    cases h:C9 m neg (decide (Q%2=1)) (B9 R n)with
    |true=>rw[if_pos ⟨hcls,rfl⟩];rfl
    |false=>rw[if_neg (fun hh=>by cases hh.2)];rfl
   rw[hcut,decide_eq_false hR,cond_false,decide_eq_true hcls];simp only[e1,Jv p3,Jk p3,u7 p4,tZ p4,cond_true,aTx,aTy,u6 p5,tY p5];generalize hcmp:(if R=2^(n-1)then(0:Int)else if R<2^(n-1)then -1 else 1)=cmp at *
   have hcase:(cmp=-1/\B9 R n=1)∨(cmp=0/\B9 R n=2)∨(cmp=1/\B9 R n=3):=by
    unfold B9;rw[if_neg hR,←hcmp];rcases fi R (2^(n-1))with h|h|h
    ·left;rw[if_neg (by omega),if_pos h,if_pos h];exact⟨rfl,rfl⟩
    ·right;left;rw[if_pos h,if_neg (by omega),if_pos h];exact⟨rfl,rfl⟩
    ·right;right;rw[if_neg (by omega),if_neg (by omega),if_neg (by omega),if_neg (by omega)];exact⟨rfl,rfl⟩
   generalize B9 R n=cl at *
   generalize decide (Q%2=1)=odd at *
   clear hcut hcmp p0 p1 p2 p3 p4 p5 hcls;rcases hcase with⟨rfl,rfl⟩|⟨rfl,rfl⟩|⟨rfl,rfl⟩<;>rcases uM hm with rfl|rfl|rfl|rfl|rfl|rfl<;>cases neg<;>cases odd<;>rfl
theorem aDJ{f m:Int}(hf:Fm f){neg:Bool}{n:Nat}{e q:Int}(h:AA n e-fP f+1<=q):BB m neg n e q false<=2^fP f:=aDI h
theorem aHz{f m:Int}(hf:Fm f)(hm:0<=m/\m<=5)(neg:Bool)(N:Nat)(E:Int)(h0:N≠0)(hN:N<2^6000)(hE:-6000<=E/\E<=6000):
  cO (f,m,(neg,Dh N,E,()),())=some (((AP f m neg N E false).1:Int),((AP f m neg N E false).2:Int),()):=by
 show wP B7.pre B7.F TE.pre TE.F D7.pre D7.F TG.pre TG.F TF.pre TF.F DD.pre DD.F f m (neg,Dh N,E,())=_;have hP:=CV hf;have hPW:=DT hf;have hW:=EI hf;have hX:=Ly hf;have hX15:=Ji hf;have hbl:=CS hN;have hbl1:=Yn h0;have htop:AA N E=E+(Ae N:Int)-1:=rfl;have hNbig:N<2^50000:=fq hN (bt (by decide) (by decide));have pP:=fS hf;have pB:=dA (n:=N) (fq hN (bt (by decide) (by decide)));have pY:=aWt hf m neg;have pS:=aJa hf neg;have e1:aa .i64 (aa .i64 (E+(Ae N:Int))-1)=AA N E:=by rw[Av (n:=E+_) (by omega),Av (by omega)];rfl
 have e2:aa .i64 (1-(1-(fX f:Int)))=(fX f:Int):=by rw[Av (by omega)];omega
 have e3:aa .i64 (aa .i64 ((if 1-(fX f:Int)>AA N E then 1-(fX f:Int)else AA N E)-(fP f:Int))+1)=B1 f (AA N E):=by
  unfold B1;have hb:-100000<=(if 1-(fX f:Int)>AA N E then 1-(fX f:Int)else AA N E)/\(if 1-(fX f:Int)>AA N E then 1-(fX f:Int)else AA N E)<=100000:=by split<;>omega
  rw[Av (n:=_-(fP f:Int)) (by omega),Av (by omega)]
 have e4:aa .i64 (aa .i64 ((1-(fX f:Int))-(fP f:Int))+1)=1-(fX f:Int)-(fP f:Int)+1:=by
  rw[Av (n:=_-(fP f:Int)) (by omega),Av (by omega)]
 have e5:aa .i64 (AA N E-(fP f:Int)+1)=AA N E-(fP f:Int)+1:=Av (by omega);have e6:aa .i64 (AA N E-(fP f:Int))=AA N E-(fP f:Int):=Av (by omega);unfold wP AP;dsimp only;simp only[WO pP,Ww pP,cond_true,kX pB,jR pB,e1,e2,e3,e4,e5,e6,bDa pY,bAj pY,aQW pS,aOK pS];by_cases hov:AA N E>fX f
 ·rw[if_pos hov,decide_eq_true hov,cond_true];rfl
 rw[if_neg hov,decide_eq_false hov,cond_false];have hlow:AA N E-(fP f:Int)+1<=B1 f (AA N E)/\1-(fX f:Int)-(fP f:Int)+1<=B1 f (AA N E)/\B1 f (AA N E)<=2000/\B1 f (AA N E)<=(fX f:Int)-(fP f:Int)+1/\(B1 f (AA N E)≠1-(fX f:Int)-(fP f:Int)+1->B1 f (AA N E)=AA N E-(fP f:Int)+1):=by
  unfold B1;split<;>refine⟨?_,?_,?_,?_,?_⟩<;>omega
 generalize hqd:B1 f (AA N E)=q at *
 have hshl:∀q:Int,-20000<=q->q<=E->N*2^(E-q).toNat<2^100000:=fun q h1 h2=>by
  have h3:N*2^(E-q).toNat<2^6000*2^(E-q).toNat:=ck hN (af _);rw[←bi]at h3;exact ao h3 (ai (by decide) (by omega))
 have p61:=aHH hm neg N E q hNbig (by omega) (hshl q (by omega));have hu:=aDJ (m:=m) (neg:=neg) hf hlow.1;have hu64:BB m neg N E q false<=2^53:=ga hu (ai (by decide) (E8 hf));have p591:=dA (n:=BB m neg N E q false) (bl hu64 (bt (by decide) (by decide)));have p62:=aWv (n:=BB m neg N E q false) (bl hu64 (bt (by decide) (by decide)));have p63:=aHH hm neg N E (AA N E-(fP f:Int)+1) hNbig (by omega) (hshl _ (by omega));have hu2:=aDJ (m:=m) (neg:=neg) hf (li (AA N E-(fP f:Int)+1));have hu264:BB m neg N E (AA N E-(fP f:Int)+1) false<=2^53:=ga hu2 (ai (by decide) (E8 hf));have p592:=dA (n:=BB m neg N E (AA N E-(fP f:Int)+1) false) (bl hu264 (bt (by decide) (by decide)));have hU0:BB m neg N E q false=0->q=1-(fX f:Int)-(fP f:Int)+1:=fun h=>by
  by_cases hq:q=1-(fX f:Int)-(fP f:Int)+1
  ·exact hq
  ·exfalso;have hq2:=hlow.2.2.2.2 hq;have hQ:GR N E q=0:=by
    unfold BB at h;split at h
    ·omega
    ·exact h
   by_cases hqE:q<=E
   ·rw[WR hqE]at hQ;have:=ij (show 0<N by omega) (af (E-q).toNat);omega
   ·rw[WQ (by omega),mr]at hQ;rcases hQ with hQ|hQ
    ·have:=af (q-E).toNat;omega
    ·have:=CS hQ;omega
 have hb1:=CS (show BB m neg N E q false<2^60 by omega);have hb2:=CS (show BB m neg N E (AA N E-(fP f:Int)+1) false<2^60 by omega);have htny:DW f m neg N E false↔(AA N E<1-(fX f:Int)/\AA N E-(fP f:Int)+(Ae (BB m neg N E (AA N E-(fP f:Int)+1) false):Int)<1-(fX f:Int)):=Iff.rfl;have hodd:Dj N E q false=0↔¬(Dj N E q false≠0):=by omega
 simp only[htny];generalize hU:BB m neg N E q false=U at *
 generalize hU2:BB m neg N E (AA N E-(fP f:Int)+1) false=U2 at *
 generalize hRd:Dj N E q false=R at *
 generalize AA N E=t at *
 have e7:aa .i64 (aa .i64 (q+(Ae U:Int))-1)=q+(Ae U:Int)-1:=by
  rw[Av (n:=q+_) (by omega),Av (by omega)]
 have e8:aa .i64 (t-(fP f:Int)+(Ae U2:Int))=t-(fP f:Int)+(Ae U2:Int):=Av (by omega);obtain⟨k,hk⟩:=cn (show 0<=q-(1-(fX f:Int)-(fP f:Int)+1) by omega);have e9:aa .u64 (aa .i64 (k:Int))=(k:Int):=by
  rw[Av (by omega),JF _ (by omega)]
 have e10:aa .u64 (aa .i64 ((fP f:Int)-1))=((fP f-1:Nat):Int):=by
  rw[AJ _ (by omega),JF _ (by omega)]
 have hhalf:=aOS hf;have hpp:=af (fP f-1);have hk2:k<=2*fX f-1:=by omega
 have hkp:k*2^(fP f-1)<=(2*fX f-1)*2^(fP f-1):=aw _ hk2;have hW1:2^(fW f-1)<=2^63:=ai (by decide) (by omega);have e11:Bj .u64 (k:Int) ((fP f-1:Nat):Int)=((k*2^(fP f-1):Nat):Int):=by
  rw[HP _ _ (by omega),bo (by omega)]
 have hs:Bs f neg<=2^63:=by unfold Bs;split<;>omega
 have e12:aa .u64 ((U:Int)+((k*2^(fP f-1):Nat):Int))=((U+k*2^(fP f-1):Nat):Int):=Dz _ _ (by omega);have e13:aa .u64 ((Bs f neg:Int)+((U+k*2^(fP f-1):Nat):Int))=((Bs f neg+(U+k*2^(fP f-1)):Nat):Int):=Dz _ _ (by omega);have hDg:(Dw U).getD (ag 0) 0=(U:Int):=by rw[ap,Pp,bo (by omega)]
 have eOr:Ak .i64 16 8=24:=by decide
 simp only[aQz p61,aOo p61,cond_true,kX p591,jR p591,e7];by_cases hov2:q+(Ae U:Int)-1>fX f
 ·rw[if_pos hov2,decide_eq_true hov2,cond_true];rfl
 rw[if_neg hov2,decide_eq_false hov2,cond_false,hk,ab];have hval:Bs f neg+(U+k*2^(fP f-1))=k*2^(fP f-1)+U+Bs f neg:=by omega
 have hfl:((if R=0 then 0 else if t<1-(fX f:Int)/\t-(fP f:Int)+(Ae U2:Int)<1-(fX f:Int)then 24 else 16:Nat):Int) =
   (bif !(decide (R≠0))then(0:Int)else bif decide (t<1-(fX f:Int))then(bif decide (t-(fP f:Int)+(Ae U2:Int)<1-(fX f:Int))then 24 else 16)else 16):=by
  by_cases h1:R=0
  ·rw[if_pos h1,decide_eq_false (by omega)];rfl
  ·rw[if_neg h1,decide_eq_true h1];by_cases h2:t<1-(fX f:Int)
   ·by_cases h3:t-(fP f:Int)+(Ae U2:Int)<1-(fX f:Int)
    ·rw[if_pos ⟨h2,h3⟩,decide_eq_true h2,decide_eq_true h3];rfl
    ·rw[if_neg (fun h=>h3 h.2),decide_eq_true h2,decide_eq_false h3];rfl
   ·rw[if_neg (fun h=>h2 h.1),decide_eq_false h2];rfl
 rw[hfl];simp only[bDb p62,bAk p62,cond_true,e8,e9,e10,e11,e12,e13,hDg,aQz p63,aOo p63,kX p592,jR p592,eOr];by_cases hUz:U=0
 ·have hk0:k=0:=by have:=hU0 hUz;omega
  have eL:decide ((((Dw U).length:Nat):Int)>0)=false:=by rw[hUz,Ff];rfl
  have ev:k*2^(fP f-1)+U+Bs f neg=Bs f neg:=by rw[hk0,hUz,ej,cz]
  rw[eL,cond_false,ev];cases decide (R≠0)<;>cases decide (t<1-(fX f:Int))<;>cases decide (t-(fP f:Int)+(Ae U2:Int)<1-(fX f:Int))<;>rfl
 ·have eL:decide ((((Dw U).length:Nat):Int)>0)=true:=LZ hUz;have eL2:decide ((0:Int)<(((Dw U).length:Nat):Int))=true:=Xe hUz;rw[eL,cond_true,cond_true,hval];cases decide (R≠0)<;>cases decide (t<1-(fX f:Int))<;>cases decide (t-(fP f:Int)+(Ae U2:Int)<1-(fX f:Int))<;>rfl
theorem aI9{f m:Int}(hf:Fm f)(hm:0<=m/\m<=5)(neg:Bool)(N:Nat)(E:Int)(zn:Bool)(hN:N<2^6000)(hE:-6000<=E/\E<=6000):
  f0 (f,m,(neg,Dh N,E,()),zn,())=some (((if N=0 then(Bs f zn,0)else AP f m neg N E false:Nat×Nat).1:Int),((if N=0 then(Bs f zn,0)else AP f m neg N E false:Nat×Nat).2:Int),()):=by
 show t77 Gz.pre Gz.F Gw.pre Gw.F f m (neg,Dh N,E,()) zn=_;unfold t77;dsimp only;rw[Xd];by_cases h:N=0
 ·have p0:=aH7 hf zn;rw[decide_eq_true h,cond_true,if_pos h];simp only[aQH p0,aOw p0,cond_true];rfl
 ·have p0:=aHz hf hm neg N E h hN hE;rw[decide_eq_false h,cond_false,if_neg h];simp only[aQw p0,aOl p0,cond_true]
end VL
namespace VL
open Go Vx
def D0(nx:Bool)(X:Nat)(ex:Int)(ny:Bool)(Y:Nat)(ey:Int):Bool×Nat×Int:=
 if X=0 then(ny,Y,ey)else if Y=0 then(nx,X,ex)else
 let e:=if ey<ex then ey else ex
 let a:=X*2^(ex-e).toNat
 let b:=Y*2^(ey-e).toNat
 if nx=ny then(nx,a+b,e)else if b<=a then(nx,a-b,e)else(ny,b-a,e)
theorem vV{X:Nat}(hX:X<2^53){d:Nat}(hd:d<=5000):X*2^d<2^5053:=by
 have h1:X*2^d<2^53*2^d:=ck hX (af _);rw[←bi]at h1;exact ao h1 (ai (by decide) (by omega))
theorem aXc(nx:Bool)(X:Nat)(ex:Int)(ny:Bool)(Y:Nat)(ey:Int)(hX:X<2^53)(hY:Y<2^53)(hex:-2000<=ex/\ex<=2000)(hey:-2000<=ey/\ey<=2000):
  f8 ((nx,Dh X,ex,()),(ny,Dh Y,ey,()),())=some (((D0 nx X ex ny Y ey).1,Dh (D0 nx X ex ny Y ey).2.1,(D0 nx X ex ny Y ey).2.2,()),()):=by
 show t78 CK.pre CK.F CL.pre CL.F CM.pre CM.F CN.pre CN.F (nx,Dh X,ex,()) (ny,Dh Y,ey,())=_;unfold t78 D0;dsimp only;rw[Xd,Xd];by_cases h1:X=0
 ·rw[decide_eq_true h1,cond_true,if_pos h1]
 rw[decide_eq_false h1,cond_false,if_neg h1];by_cases h2:Y=0
 ·rw[decide_eq_true h2,cond_true,if_pos h2]
 rw[decide_eq_false h2,cond_false,if_neg h2];have he:(if ey<ex then ey else ex)<=ex/\(if ey<ex then ey else ex)<=ey/\-2000<=(if ey<ex then ey else ex):=by split<;>omega
 generalize(if ey<ex then ey else ex)=e at *
 obtain⟨d1,hd1⟩:=cn (show 0<=ex-e by omega);obtain⟨d2,hd2⟩:=cn (show 0<=ey-e by omega);have e1:aa .i64 (d1:Int)=(d1:Int):=Av (by omega);have e2:aa .i64 (d2:Int)=(d2:Int):=Av (by omega);have g1:X<2^100000:=fq hX (bt (by decide) (by decide));have g2:Y<2^100000:=fq hY (bt (by decide) (by decide));have p1:=NR g1 d1 (by omega);have p2:=NR g2 d2 (by omega);have k1:=fq (vV hX (d:=d1) (by omega)) (bt (a:=2) (n:=100000) (by decide) (by decide));have k2:=fq (vV hY (d:=d2) (by omega)) (bt (a:=2) (n:=100000) (by decide) (by decide));have p3:=pT k1 k2;have p4:=aBi _ _ k1 k2;simp only[e1,e2,Jv p1,Jk p1,Jv p2,Jk p2,cond_true,hd1,hd2,ab];generalize X*2^d1=a at *
 generalize Y*2^d2=b at *
 by_cases hn:nx=ny
 ·subst hn;have:(nx==nx)=true:=by cases nx<;>rfl
  rw[this,cond_true,if_pos rfl];simp only[u6 p3,tY p3,cond_true]
 ·have:(nx==ny)=false:=by cases nx<;>cases ny<;>first|rfl|exact absurd rfl hn
  rw[this,cond_false,if_neg hn];simp only[u7 p4,tZ p4,cond_true];by_cases hle:b<=a
  ·have p5:=pU k1 hle;have z:decide ((if a=b then(0:Int)else if a<b then -1 else 1)>=0)=true:=by
    by_cases hab:a=b
    ·rw[if_pos hab];rfl
    ·rw[if_neg hab,if_neg (by omega)];rfl
   simp only[z,cond_true,u9 p5,t0 p5,if_pos hle]
  ·have p5:=pU (y:=a) k2 (by omega);have z:decide ((if a=b then(0:Int)else if a<b then -1 else 1)>=0)=false:=by
    rw[if_neg (by omega),if_pos (by omega)];rfl
   simp only[z,cond_false,u9 p5,t0 p5,if_neg hle,cond_true]
theorem bJl(nx:Bool)(X:Nat)(ex:Int)(ny:Bool)(Y:Nat)(ey:Int)(hX:X<2^53)(hY:Y<2^53)(hex:-2000<=ex/\ex<=2000)(hey:-2000<=ey/\ey<=2000):
  (D0 nx X ex ny Y ey).2.1<2^6000/\-6000<=(D0 nx X ex ny Y ey).2.2/\(D0 nx X ex ny Y ey).2.2<=6000:=by
 have g1:X<2^6000:=fq hX (bt (by decide) (by decide));have g2:Y<2^6000:=fq hY (bt (by decide) (by decide));unfold D0;dsimp only;have he:(if ey<ex then ey else ex)<=ex/\(if ey<ex then ey else ex)<=ey/\-2000<=(if ey<ex then ey else ex):=by split<;>omega
 generalize(if ey<ex then ey else ex)=e at *
 have k1:=vV hX (d:=(ex-e).toNat) (by omega);have k2:=vV hY (d:=(ey-e).toNat) (by omega);have k3:2^5053+2^5053<=2^6000:=by
  rw[←Nat.two_mul,←il];exact ai (by decide) (by decide)
 generalize X*2^(ex-e).toNat=a at *
 generalize Y*2^(ey-e).toNat=b at *
 generalize 2^5053=P at *
 generalize 2^6000=P2 at *
 split
 ·exact⟨g2,by dsimp only;omega,by dsimp only;omega⟩
 split
 ·exact⟨g1,by dsimp only;omega,by dsimp only;omega⟩
 split
 ·exact⟨by dsimp only;omega,by dsimp only;omega,by dsimp only;omega⟩
 split
 ·exact⟨by dsimp only;omega,by dsimp only;omega,by dsimp only;omega⟩
 ·exact⟨by dsimp only;omega,by dsimp only;omega,by dsimp only;omega⟩
theorem bJt{f m:Int}(hf:Fm f)(nx:Bool)(X:Nat)(ex:Int)(ny:Bool)(Y:Nat)(ey:Int)(zn:Bool)(hz:zn=if X=0/\Y=0/\nx=ny then nx else(m==4)):
  (if(D0 nx X ex ny Y ey).2.1=0 then(Bs f zn,0)else AP f m (D0 nx X ex ny Y ey).1 (D0 nx X ex ny Y ey).2.1 (D0 nx X ex ny Y ey).2.2 false)=Dy f m nx X ex ny Y ey:=by
 by_cases hX:X=0
 ·subst hX;rw[v7,W0 hf];unfold D0;rw[if_pos rfl];dsimp only;by_cases hY:Y=0
  ·rw[if_pos hY,if_pos hY,hz];by_cases hn:nx=ny
   ·rw[if_pos ⟨rfl,hY,hn⟩,if_pos hn.symm,hn]
   ·rw[if_neg (fun h=>hn h.2.2),if_neg (Ne.symm hn)]
  ·rw[if_neg hY,if_neg hY]
 by_cases hY:Y=0
 ·subst hY;rw[W0 hf,if_neg hX];unfold D0;rw[if_neg hX,if_pos rfl];dsimp only;rw[if_neg hX]
 rw[if_neg (fun h=>hX h.1)]at hz;subst hz;obtain⟨e,he⟩:∃e,(if ex<=ey then ex else ey)=e:=⟨_,rfl⟩
 obtain⟨a,ha⟩:∃a,X*2^(ex-e).toNat=a:=⟨_,rfl⟩
 obtain⟨b,hb⟩:∃b,Y*2^(ey-e).toNat=b:=⟨_,rfl⟩
 have he2:(if ey<ex then ey else ex)=e:=by rw[←he];split<;>split<;>omega
 have hD:D0 nx X ex ny Y ey=if nx=ny then(nx,a+b,e)else if b<=a then(nx,a-b,e)else(ny,b-a,e):=by
  unfold D0;rw[if_neg hX,if_neg hY];simp only[he2,ha,hb]
 have hS:Dy f m nx X ex ny Y ey=if nx=ny then(if a+b=0 then(Bs f nx,0)else AP f m nx (a+b) e false)
   else if a=b then(Bs f (m==4),0)else if b<a then AP f m nx (a-b) e false else AP f m ny (b-a) e false:=by
  unfold Dy;simp only[he,ha,hb]
 have ha0:0<a:=by rw[←ha];exact ij (by omega) (af _)
 have hb0:0<b:=by rw[←hb];exact ij (by omega) (af _)
 rw[hD,hS];by_cases hn:nx=ny
 ·rw[if_pos hn,if_pos hn];dsimp only;rw[if_neg (by omega),if_neg (by omega)]
 ·rw[if_neg hn,if_neg hn];rcases fi a b with h|h|h
  ·rw[if_neg (show ¬b<=a by omega)];dsimp only;rw[if_neg (show ¬b-a=0 by omega),if_neg (show ¬a=b by omega),if_neg (show ¬b<a by omega)]
  ·rw[if_pos (show b<=a by omega)];dsimp only;rw[if_pos (show a-b=0 by omega),if_pos h]
  ·rw[if_pos (show b<=a by omega)];dsimp only;rw[if_neg (show ¬a-b=0 by omega),if_neg (show ¬a=b by omega),if_pos h]
theorem jL{f:Int}(hf:Fm f){a:Nat}(ha:a<2^64):fU (f,(a:Int),())=some (decide (Ah f a=0),()):=by
 show zX B7.pre B7.F f a=_;unfold zX;have p0:=fS hf;have hW:=EI hf;have h2:=DT hf;simp only[WO p0,Ww p0,cond_true];have e1:aa .u64 (fW f:Int)=(fW f:Int):=JF _ (by omega);rw[e1,DM _ _ hW,F6];have hc:Ah f a=0↔a<2^fW f:=by
  unfold Ah;rw[if_pos hf];split<;>simp_all
 have:(((fW f:Int)==64)||(a/2^fW f==0))=decide (Ah f a=0):=by
  rw[fj,dv,beq_iff_eq,beq_iff_eq,decide_eq_true_eq,hc];constructor
  ·rintro (h|h)
   ·have:fW f=64:=by omega
    rw[this];exact ha
   ·rw[mr]at h;rcases h with h|h
    ·have:=af (fW f);omega
    ·exact h
  ·intro h;right;exact cg h
 rw[this]
theorem aI8(f m:Int):fY (f,m,())=some ((if Fm f then(if 0<=m/\m<=5 then 0 else 3)else 2),()):=by
 show t73 B7.pre B7.F f m=_;unfold t73;by_cases hf:Fm f
 ·have p0:=fS hf;have h2:=DT hf;have e0:((fW f:Int)==0)=false:=AG _ (by omega);simp only[WO p0,Ww p0,cond_true,e0,cond_false,if_pos hf];by_cases hm:0<=m/\m<=5
  ·rw[if_pos hm,decide_eq_false (p:=m<0) (by omega),decide_eq_false (p:=m>5) (by omega)];rfl
  ·rw[if_neg hm];have:(decide (m<0)||decide (m>5))=true:=by
    by_cases h:m<0
    ·rw[decide_eq_true h];rfl
    ·rw[decide_eq_true (p:=m>5) (by omega),bd]
   rw[this];rfl
 ·have p0:=aI6 hf;simp only[WO p0,Ww p0,cond_true,if_neg hf];rfl
def Al(f:Int)(a:Nat):Nat:=if eF f a=0 then mF f a else mF f a+2^(fP f-1)
def Ao(f:Int)(a:Nat):Int:=1-(fX f:Int)-(fP f:Int)+1+(if eF f a=0 then 0 else(eF f a:Int)-1)
theorem Jp(f:Int)(a:Nat):mF f a<2^(fP f-1):=ca _ (af _)
theorem HI{f:Int}(hf:Fm f)(a:Nat):Al f a<2^53:=by
 have h1:=Jp f a;have h2:=CV hf;have h3:=DT hf;have h4:=EI hf;have h5:2^(fP f-1)<=2^52:=ai (by decide) (by rcases Cs hf with rfl|rfl|rfl|rfl<;>decide);unfold Al;split<;>omega
theorem jE{f:Int}(hf:Fm f)(a:Nat):eF f a<2048:=by
 have:2^(fW f-fP f)<=2^11:=ai (by decide) (by rcases Cs hf with rfl|rfl|rfl|rfl<;>decide);have h:eF f a<2^(fW f-fP f):=ca _ (af _);omega
theorem LX{f:Int}(hf:Fm f)(a:Nat):-2000<=Ao f a/\Ao f a<=2000:=by
 have h1:=jE hf a;have h2:=Ly hf;have h3:=E8 hf;have h4:=Ji hf;have h5:=CV hf;have h6:(eF f a:Int)<=2*fX f+1:=by
  have:eF f a<2^(fW f-fP f):=ca _ (af _);have:=tT hf;omega
 unfold Ao;split<;>omega
theorem aBu{f:Int}(hf:Fm f){a:Nat}(h:Ah f a=0):XU (f,(a:Int),()) =
  some (if eF f a=AH f then(mF f a !=0,(mF f a !=0)&&(mF f a/2^(fP f-2)==0),mF f a==0,sF f a,(false,[],0,()),())
   else(false,false,false,sF f a,(sF f a,Dh (Al f a),Ao f a,()),()),()):=by
 have ha:=WL h;have haW:=(Fs h).2;show t74 B7.pre B7.F TB.pre TB.F f a=_;unfold t74;have h1:=CV hf;have h2:=DT hf;have h3:=EI hf;have h4:=Ly hf;have h5:=E8 hf;have h6:=Ji hf;have hE:=jE hf a;have hM:=Jp f a;have hPp:2^(fP f-1)<=2^52:=ai (by decide) (by omega);have hpp:=af (fP f-1);have hWp:=af (fW f-fP f);have hWq:2^(fW f-fP f)<=2^11:=ai (by decide) (by rcases Cs hf with rfl|rfl|rfl|rfl<;>decide);have p0:=fS hf;have e1:aa .u64 (aa .i64 ((fP f:Int)-1))=((fP f-1:Nat):Int):=by rw[AJ _ (by omega),JF _ (by omega)]
 have e2:aa .u64 (aa .i64 ((fW f:Int)-(fP f:Int)))=((fW f-fP f:Nat):Int):=by rw[AV _ _ (by omega),JF _ (by omega)]
 have e3:aa .u64 (aa .i64 ((fW f:Int)-1))=((fW f-1:Nat):Int):=by rw[AJ _ (by omega),JF _ (by omega)]
 have e4:aa .u64 (aa .i64 ((fP f:Int)-2))=((fP f-2:Nat):Int):=by rw[Av (by omega),DO (by omega)];omega
 have e5:aa .u64 (((2^(fW f-fP f):Nat):Int)-1)=((2^(fW f-fP f)-1:Nat):Int):=W4 _ 1 (by omega);have e6:aa .u64 (((2^(fP f-1):Nat):Int)-1)=((2^(fP f-1)-1:Nat):Int):=W4 _ 1 (by omega);have e7:Bj .i64 1 ((fW f-fP f:Nat):Int)=((2^(fW f-fP f):Nat):Int):=by
  rcases Cs hf with rfl|rfl|rfl|rfl<;>decide
 have e8:aa .i64 (((2^(fW f-fP f):Nat):Int)-1)=((AH f:Nat):Int):=AJ _ (by omega);have e9:BS .u64 ((a/2^(fP f-1):Nat):Int) ((2^(fW f-fP f)-1:Nat):Int)=((eF f a:Nat):Int):=UK (bl (ee _ _) ha) (by omega);have e10:aa .i64 ((eF f a:Nat):Int)=((eF f a:Nat):Int):=Av (by omega);have e11:BS .u64 (a:Int) ((2^(fP f-1)-1:Nat):Int)=((mF f a:Nat):Int):=UK ha (by omega);have e12:BS .u64 ((a/2^(fW f-1):Nat):Int) 1=((a/2^(fW f-1)%2^1:Nat):Int):=UK (n:=1) (bl (ee _ _) ha) (by omega);have e13:(((a/2^(fW f-1)%2^1:Nat):Int)==1)=sF f a:=by
  have hq:a/2^(fW f-1)<2:=by
   rw[bv (af _),←il,ki,js (by omega)];exact haW
  unfold sF;rw[show((1:Int))=((1:Nat):Int)from rfl,LG];rcases(show ∀q:Nat,q<2->q=0∨q=1 from fun q h=>by omega) _ hq with hh|hh<;>rw[hh]<;>rfl
 have e14:aa .i64 (aa .i64 ((1-(fX f:Int))-(fP f:Int))+1)=1-(fX f:Int)-(fP f:Int)+1:=by
  rw[Av (n:=_-(fP f:Int)) (by omega),Av (by omega)]
 have e15:aa .u64 (((mF f a:Nat):Int)+((2^(fP f-1):Nat):Int))=((mF f a+2^(fP f-1):Nat):Int):=Dz _ _ (by omega);have s1:Bj .u64 1 ((fP f-1:Nat):Int)=((2^(fP f-1):Nat):Int):=Ph (by omega);have s2:Bj .u64 1 ((fW f-fP f:Nat):Int)=((2^(fW f-fP f):Nat):Int):=Ph (by omega);have r1:AQ .u64 (a:Int) ((fP f-1:Nat):Int)=((a/2^(fP f-1):Nat):Int):=DM _ _ (by omega);have r2:AQ .u64 (a:Int) ((fW f-1:Nat):Int)=((a/2^(fW f-1):Nat):Int):=DM _ _ (by omega);have r3:AQ .u64 ((mF f a:Nat):Int) ((fP f-2:Nat):Int)=((mF f a/2^(fP f-2):Nat):Int):=DM _ _ (by omega);simp only[WO p0,Ww p0,cond_true,e1,e2,e3,e4,s1,s2,r1,r2,e5,e6,e7,e8,e9,e10,e11,e12,e13,e14,e15,r3];by_cases hfull:eF f a=AH f
 ·rw[LG,show(eF f a==AH f)=true by simp[hfull],cond_true,if_pos hfull,WG,F6,F6]
 ·rw[LG,show(eF f a==AH f)=false by simp[hfull],cond_false,if_neg hfull];by_cases h0:eF f a=0
  ·have p1:=aHy (x:=mF f a) (by omega);have hg:decide (((eF f a:Nat):Int)>0)=false:=decide_eq_false (by omega);have hm:Al f a=mF f a:=by unfold Al;rw[if_pos h0]
   have hx:Ao f a=1-(fX f:Int)-(fP f:Int)+1:=by unfold Ao;rw[if_pos h0,kx]
   simp only[hg,cond_false,aQv p1,aOk p1,cond_true,hm,hx]
  ·have p1:=aHy (x:=mF f a+2^(fP f-1)) (by omega);have hg:decide (((eF f a:Nat):Int)>0)=true:=decide_eq_true (by omega);have hm:Al f a=mF f a+2^(fP f-1):=by unfold Al;rw[if_neg h0]
   have hx:aa .i64 ((1-(fX f:Int)-(fP f:Int)+1)+aa .i64 (((eF f a:Nat):Int)-1))=Ao f a:=by
    unfold Ao;rw[if_neg h0,Av (n:=((eF f a:Nat):Int)-1) (by omega),Av (by omega)]
   simp only[hg,cond_true,aQv p1,aOk p1,hm,hx]
def Ax(f:Int)(a:Nat):Bool:=eF f a==AH f&&mF f a==0
def Wc(f m:Int)(a b:Nat):Int×Int×Int×Unit:=bif Bk f a||Bk f b then((Co f:Int),1,0,())else bif nan f a||nan f b then((Co f:Int),0,0,())else bif(Ax f a&&Ax f b)&&!(sF f a==sF f b)then((Co f:Int),1,0,())else bif Ax f a then((a:Int),0,0,())else bif Ax f b then((b:Int),0,0,())else(((Dy f m (sF f a) (Al f a) (Ao f a) (sF f b) (Al f b) (Ao f b)).1:Int),((Dy f m (sF f a) (Al f a) (Ao f a) (sF f b) (Al f b) (Ao f b)).2:Int),0,())
def HB(f m:Int)(a b:Nat):Int×Int×Int×Unit:=if Fm f then(if 0<=m/\m<=5 then(if Ah f a=0/\Ah f b=0 then Wc f m a b else(0,0,4,()))else(0,0,3,()))else(0,0,2,())
theorem aBw(s s':Bool)(X:Nat)(e:Int):VM ((false,false,false,s,(s',Dh X,e,()),()),())=some (decide (X=0),()):=by
 show aK (false,false,false,s,(s',Dh X,e,()),())=_;unfold aK;dsimp only;rw[Xd];rfl
theorem UX{f:Int}{a:Nat}(h:eF f a=AH f):nan f a=(!(mF f a==0))/\Bk f a=(!(mF f a==0)&&(mF f a/2^(fP f-2)==0))/\Ax f a=(mF f a==0):=by
 unfold Bk nan Ax;rw[h];simp[bne]
theorem Ju{f:Int}{a:Nat}(h:eF f a≠AH f):nan f a=false/\Bk f a=false/\Ax f a=false:=by
 unfold Bk nan Ax;simp[h]
theorem aBo(f m:Int){a b:Nat}(ha:a<2^64)(hb:b<2^64):XG (f,m,(a:Int),(b:Int),())=some (HB f m a b):=by
 show xU DF.pre DF.F CQ.pre CQ.F Ey.pre Ey.F Ez.pre Ez.F EA.pre EA.F Uw.pre Uw.F GK.pre GK.F f m a b=_;unfold xU HB;have p0:=aI8 f m;by_cases hf:Fm f
 ·rw[if_pos hf]at p0⊢;by_cases hm:0<=m/\m<=5
  ·rw[if_pos hm]at p0⊢;have p1:=jL hf ha;have p2:=jL hf hb;simp only[Z6 p0,YE p0,k9 p1,jV p1,k9 p2,jV p2,bne_self_eq_false,cond_false,cond_true,av];by_cases hca:Ah f a=0
   ·by_cases hcb:Ah f b=0
    ·rw[if_pos ⟨hca,hcb⟩,decide_eq_true hca,decide_eq_true hcb];have p3:=aBu hf hca;have p4:=aBu hf hcb;have p5:=aBv hf;have nb:∀n:Nat,(n !=0)=!(n==0):=fun _=>rfl;rw[nb]at p3 p4;unfold Wc;by_cases fa:eF f a=AH f
     ·rw[if_pos fa]at p3;obtain⟨v1,v2,v3⟩:=UX fa;rw[v1,v2,v3];generalize(mF f a==0)=x1 at *
      generalize(mF f a/2^(fP f-2)==0)=q1 at *
      by_cases fb:eF f b=AH f
      ·rw[if_pos fb]at p4;obtain⟨w1,w2,w3⟩:=UX fb;rw[w1,w2,w3];generalize(mF f b==0)=x2 at *
       generalize(mF f b/2^(fP f-2)==0)=q2 at *
       simp only[bb,ba,cond_false,HN p3,HH p3,HN p4,HH p4,cond_true,Pc p5,OZ p5];cases x1<;>cases q1<;>cases x2<;>cases q2<;>cases sF f a<;>cases sF f b<;>rfl
      ·rw[if_neg fb]at p4;obtain⟨w1,w2,w3⟩:=Ju fb;rw[w1,w2,w3];simp only[bb,ba,cond_false,HN p3,HH p3,HN p4,HH p4,cond_true,Pc p5,OZ p5];cases x1<;>cases q1<;>cases sF f a<;>cases sF f b<;>rfl
     ·rw[if_neg fa]at p3;obtain⟨v1,v2,v3⟩:=Ju fa;rw[v1,v2,v3];by_cases fb:eF f b=AH f
      ·rw[if_pos fb]at p4;obtain⟨w1,w2,w3⟩:=UX fb;rw[w1,w2,w3];generalize(mF f b==0)=x2 at *
       generalize(mF f b/2^(fP f-2)==0)=q2 at *
       simp only[bb,ba,cond_false,HN p3,HH p3,HN p4,HH p4,cond_true,Pc p5,OZ p5];cases x2<;>cases q2<;>cases sF f a<;>cases sF f b<;>rfl
      ·rw[if_neg fb]at p4;obtain⟨w1,w2,w3⟩:=Ju fb;rw[w1,w2,w3];have p6:=aBw (sF f a) (sF f a) (Al f a) (Ao f a);have p7:=aBw (sF f b) (sF f b) (Al f b) (Ao f b);have p8:=aXc (sF f a) (Al f a) (Ao f a) (sF f b) (Al f b) (Ao f b) (HI hf a) (HI hf b) (LX hf a) (LX hf b);have hbd:=bJl (sF f a) (Al f a) (Ao f a) (sF f b) (Al f b) (Ao f b) (HI hf a) (HI hf b) (LX hf a) (LX hf b);have hss:=fun zn=>bJt (m:=m) hf (sF f a) (Al f a) (Ao f a) (sF f b) (Al f b) (Ao f b) zn;have p9:=fun zn=>aI9 hf hm (D0 (sF f a) (Al f a) (Ao f a) (sF f b) (Al f b) (Ao f b)).1 (D0 (sF f a) (Al f a) (Ao f a) (sF f b) (Al f b) (Ao f b)).2.1 (D0 (sF f a) (Al f a) (Ao f a) (sF f b) (Al f b) (Ao f b)).2.2 zn hbd.1 hbd.2;generalize D0 (sF f a) (Al f a) (Ao f a) (sF f b) (Al f b) (Ao f b)=D at *
       simp only[bb,ba,cond_false,HN p3,HH p3,HN p4,HH p4,cond_true,Z7 p6,YF p6,Z7 p7,YF p7,av,bDQ p8,bAZ p8,ak,ar];by_cases hz:Al f a=0/\Al f b=0/\sF f a=sF f b
       ·have hg:((decide (Al f a=0)&&decide (Al f b=0))&&(sF f a==sF f b))=true:=by
         rw[decide_eq_true hz.1,decide_eq_true hz.2.1,hz.2.2];cases sF f b<;>rfl
        have p10:=p9 (sF f a);have hs2:=hss (sF f a) (by rw[if_pos hz]);simp only[hs2]at p10;simp only[hg,cond_true,aFg p10,aEi p10]
       ·have hg:((decide (Al f a=0)&&decide (Al f b=0))&&(sF f a==sF f b))=false:=by
         cases hh:((decide (Al f a=0)&&decide (Al f b=0))&&(sF f a==sF f b))with
         |false=>rfl
         |true=>
          exfalso;simp only[ah,decide_eq_true_eq,beq_iff_eq]at hh;exact hz ⟨hh.1.1,hh.1.2,hh.2⟩
        have p10:=p9 (m==4);have hs2:=hss (m==4) (by rw[if_neg hz]);simp only[hs2]at p10;simp only[hg,cond_false,aFg p10,aEi p10,cond_true]
    ·rw[if_neg (fun h=>hcb h.2),decide_eq_false hcb];cases decide (Ah f a=0)<;>rfl
   ·rw[if_neg (fun h=>hca h.1),decide_eq_false hca];rfl
  ·rw[if_neg hm]at p0⊢;simp only[Z6 p0,YE p0];rfl
 ·rw[if_neg hf]at p0⊢;simp only[Z6 p0,YE p0];rfl
theorem aWD{f:Int}{a:Nat}(h:Ah f a=0):dK (f,(a:Int),())=some ((DK f a:Int),()):=by
 obtain⟨hf,h0⟩:=Fs h;show xX D7.pre D7.F f a=_;unfold xX;have h2:=DT hf;have h3:=EI hf;have p0:=aJa hf true;have e0:Bs f true=2^(fW f-1):=rfl;simp only[aQW p0,aOK p0,cond_true,e0];rw[aTs (by omega) (by rw[js (by omega)];exact h0)];have e:(if a<2^(fW f-1)then a+2^(fW f-1)else a-2^(fW f-1))=DK f a:=by
  have hp:=aE2 h;have hl:=iR (f:=f) a;unfold DK;unfold CA at hp⊢;cases hs:sF f a<;>rw[hs]at hp<;>simp only[cond_true,cond_false,bb,au]at hp⊢
  ·rw[if_pos (by omega)];omega
  ·rw[if_neg (by omega)];omega
 rw[e]
def Jz(f m:Int)(a b:Nat):Int×Int×Int×Unit:=HB f m a (if Ah f b=0 then DK f b else b)
theorem aP2{f:Int}{b:Nat}(h:Ah f b=0):DK f b<2^64:=WL (uS (Fs h).1 b)
theorem aWB(f m:Int){a b:Nat}(ha:a<2^64)(hb:b<2^64):XF (f,m,(a:Int),(b:Int),())=some (Jz f m a b):=by
 show xS B7.pre B7.F CQ.pre CQ.F TK.pre TK.F Gy.pre Gy.F f m a b=_;unfold xS Jz;have pA:=aBo f m ha hb;by_cases hf:Fm f
 ·have p0:=fS hf;have p1:=jL hf hb;have h2:=DT hf;have e0:((fW f:Int)==0)=false:=AG _ (by omega);simp only[WO p0,Ww p0,cond_true,e0,k9 p1,jV p1,av,bc];by_cases h:Ah f b=0
  ·have p2:=aWD h;have p3:=aBo f m ha (aP2 h);rw[if_pos h,decide_eq_true h];simp only[bb,cond_false,bDh p2,bAq p2,cond_true,vD p3,t7 p3]
  ·rw[if_neg h,decide_eq_false h];simp only[au,vD pA,t7 pA,cond_true]
 ·have p0:=aI6 hf;have h:¬Ah f b=0:=by rw[aNi hf];decide
  rw[if_neg h];simp only[WO p0,Ww p0,cond_true,beq_self_eq_true,cond_false,au,bd,av,vD pA,t7 pA]
end VL
namespace VL
open Go Vx
theorem aBA{f:Int}{a:Nat}(h:Ah f a=0):gF (f,(a:Int),())=some (sF f a,(eF f a:Int),(mF f a:Int),0,()):=by
 obtain⟨hf,h0⟩:=Fs h;have ha:=WL h;show t98 Aw.pre Aw.F DR.pre DR.F f a=_;unfold t98;have p0:=K8 f a ha;have p2:=aBx hf a ha;have hr1:decide (0<=f)=true:=decide_eq_true hf.1;have hr2:decide (f<((4:Nat):Int))=true:=decide_eq_true hf.2;simp only[aFz hf,hr1,hr2,Jw p0,Jl p0,aFh p2,aEj p2,h,cond_true,bne_self_eq_false,cond_false]
theorem aI7{f:Int}{a:Nat}(h:Ah f a=0):fV (f,Cq f,(a:Int),())=some ((sF f a,(Al f a:Int),Ao f a,()),()):=by
 obtain⟨hf,h0⟩:=Fs h;show zZ Ck.pre Ck.F f (Cq f) a=_;unfold zZ;have h1:=CV hf;have h3:=E8 hf;have h4:=Ly hf;have hE:=jE hf a;have hM:=Jp f a;have hPp:2^(fP f-1)<=2^52:=ai (by decide) (by omega);have p0:=aBA h;have r1:(Cq f).2.1=(fP f:Int):=rfl;have r2:(Cq f).2.2.1=1-(fX f:Int):=rfl;have e0:aa .i64 ((fP f:Int)-1)=((fP f-1:Nat):Int):=AJ _ (by omega);have e1:aa .i64 (aa .i64 ((1-(fX f:Int))-(fP f:Int))+1)=1-(fX f:Int)-(fP f:Int)+1:=by
  rw[Av (n:=_-(fP f:Int)) (by omega),Av (by omega)]
 have e2:aa .i64 (eF f a:Int)=(eF f a:Int):=Av (by omega);have e3:Bj .u64 1 ((fP f-1:Nat):Int)=((2^(fP f-1):Nat):Int):=Ph (by omega);have e4:Ak .u64 (mF f a:Int) ((2^(fP f-1):Nat):Int)=((mF f a+2^(fP f-1):Nat):Int):=by
  have:=O8 (a:=mF f a) (b:=1) (k:=fP f-1) hM (by omega);rwa [fx]at this
 simp only[aFk p0,aEm p0,cond_true,r1,r2,e0,e1,e2,e3,e4,AF];by_cases hz:eF f a=0
 ·have hg:decide ((eF f a:Int)>0)=false:=decide_eq_false (by omega);have hm:Al f a=mF f a:=by unfold Al;rw[if_pos hz]
  have hx:Ao f a=1-(fX f:Int)-(fP f:Int)+1:=by unfold Ao;rw[if_pos hz,kx]
  rw[hg,cond_false,hm,hx]
 ·have hg:decide ((eF f a:Int)>0)=true:=decide_eq_true (by omega);have hm:Al f a=mF f a+2^(fP f-1):=by unfold Al;rw[if_neg hz]
  have hx:aa .i64 ((1-(fX f:Int)-(fP f:Int)+1)+aa .i64 ((eF f a:Int)-1))=Ao f a:=by
   unfold Ao;rw[if_neg hz,Av (n:=(eF f a:Int)-1) (by omega),Av (by omega)]
  rw[hg,cond_true,hm,hx]
theorem aDE(f:Int)(a:Nat):(Cm f a==2||Cm f a==9)=Ax f a:=by
 unfold Cm Ax;cases eF f a==AH f<;>cases eF f a==0<;>cases mF f a==0<;>cases sF f a<;>cases mF f a/2^(fP f-2)!=0<;>rfl
theorem aZg(f:Int)(a b:Nat):((Ax f a&&Ax f b)&&(Cm f a !=Cm f b))=((Ax f a&&Ax f b)&&!(sF f a==sF f b)):=by
 unfold Cm Ax;cases eF f a==AH f<;>cases mF f a==0<;>cases eF f b==AH f<;>cases mF f b==0<;>first|rfl|(cases sF f a<;>cases sF f b<;>rfl)
theorem aBn(f m:Int){a b:Nat}(ha:a<2^64)(hb:b<2^64):dH (f,m,(a:Int),(b:Int),())=some (HB f m a b):=by
 show xT As.pre As.F By.pre By.F Bp.pre Bp.F Uv.pre Uv.F Uu.pre Uu.F f m a b=_;unfold xT HB;by_cases hf:Fm f
 ·rw[if_pos hf];have p0:=IZ hf;simp only[C2 p0,CZ p0,cond_true,bne_self_eq_false,cond_false];by_cases hm:0<=m/\m<=5
  ·have hmm:(decide (m<0)||decide (m>5))=false:=by
    rw[decide_eq_false (p:=m<0) (by omega),decide_eq_false (p:=m>5) (by omega)];rfl
   rw[if_pos hm,hmm,cond_false];have c4:∀x:Nat,Ah f x≠0->Ah f x=4:=fun x h=>by
    unfold Ah at h⊢;rw[if_pos hf]at h⊢;split at h
    ·exact absurd rfl h
    ·rename_i h1;rw[if_neg h1]
   by_cases hca:Ah f a=0
   ·have p1:=pX ha hca;by_cases hcb:Ah f b=0
    ·have p2:=pX hb hcb;rw[if_pos ⟨hca,hcb⟩];have p3:=pZ hf;have p4:=aI7 hca;have p5:=aI7 hcb;have p6:=aXa hf hm (sF f a) (Al f a) (Ao f a) (sF f b) (Al f b) (Ao f b) (HI hf a) (HI hf b) (LX hf a) (LX hf b);simp only[Vb p1,U0 p1,Vb p2,U0 p2,cond_true,bne_self_eq_false,cond_false,vJ p3,uD p3,aQV p4,aOJ p4,aQV p5,aOJ p5,bDP p6,bAY p6,aDE,aZg];unfold Wc;rw[←tD,←tD,←tC,←tC];generalize((Ax f a&&Ax f b)&&!(sF f a==sF f b))=w1;generalize Ax f a=w2;generalize Ax f b=w3;generalize(Cm f a==0)=x1;generalize(Cm f b==0)=x2;generalize(Cm f a==1)=x3;generalize(Cm f b==1)=x4;cases x1<;>cases x2<;>cases x3<;>cases x4<;>cases w1<;>cases w2<;>cases w3<;>rfl
    ·have p2:=aBt hb hcb;rw[if_neg (fun h=>hcb h.2)];have hne:(Ah f b !=0)=true:=by simpa using hcb
     simp only[Vb p1,U0 p1,Vb p2,U0 p2,cond_true,bne_self_eq_false,cond_false,hne];rw[c4 b hcb]
   ·have p1:=aBt ha hca;rw[if_neg (fun h=>hca h.1)];have hne:(Ah f a !=0)=true:=by simpa using hca
    simp only[Vb p1,U0 p1,cond_true,hne];rw[c4 a hca]
  ·rw[if_neg hm];have:(decide (m<0)||decide (m>5))=true:=by
    by_cases h:m<0
    ·rw[decide_eq_true h];rfl
    ·rw[decide_eq_true (p:=m>5) (by omega),bd]
   rw[this];rfl
 ·rw[if_neg hf];have p0:=K9 hf;simp only[C2 p0,CZ p0];rfl
theorem aWA(f m:Int){a b:Nat}(ha:a<2^64)(hb:b<2^64):dG (f,m,(a:Int),(b:Int),())=some (Jz f m a b):=by
 show xR Aw.pre Aw.F Fp.pre Fp.F FR.pre FR.F f m a b=_;unfold xR Jz;have p0:=K8 f b hb;by_cases h:Ah f b=0
 ·have p1:=aW9 h;have p2:=aBn f m ha (aP2 h);rw[if_pos h];simp only[Jw p0,Jl p0,h,beq_self_eq_true,cond_true,bDO p1,bAX p1,aFd p2,aEf p2]
 ·have p2:=aBn f m ha hb;have hne:(Ah f b==0)=false:=by simpa using h
  rw[if_neg h];simp only[Jw p0,Jl p0,cond_true,hne,cond_false,aFd p2,aEf p2]
end VL
namespace VL
open Go Vx
theorem aOW(f:Int)(neg:Bool):Dn f neg=BC f+Bs f neg:=by
 unfold Dn BC AH;rw[be]
theorem iU(f:Int)(s:Bool)(x:Nat):x+Bs f s=CA f s x:=by
 unfold CA Bs;cases s<;>rfl
theorem uI{f:Int}(hf:Fm f):BC f=(2*fX f+1)*2^(fP f-1):=by
 unfold BC AH;rw[←tT hf,be]
theorem bBU{f:Int}(hf:Fm f){a:Nat}(h:Cl f a<=BC f):nan f a=false:=by
 unfold nan;rw[aDO hf,aEJ hf];by_cases he:Cl f a/2^(fP f-1)=AH f
 ·have hdm:=cp (Cl f a) (2^(fP f-1));rw[he]at hdm;unfold BC at h;have:Cl f a%2^(fP f-1)=0:=by omega
  rw[this];simp
 ·simp[he]
def Dq(f m:Int)(neg:Bool)(n:Nat)(e:Int):Nat×Nat:=
 if AA n e>fX f then((if JC m neg then BC f else BC f-1),20)
 else
  let q:=B1 f (AA n e)
  let u:=BB m neg n e q false
  if q+Ae u-1>fX f then((if JC m neg then BC f else BC f-1),20)
  else((q-(1-(fX f:Int)-fP f+1)).toNat*2^(fP f-1)+u,
   if Dj n e q false=0 then 0 else if DW f m neg n e false then 24 else 16)
theorem aEw{f:Int}(hf:Fm f):1<=BC f:=by
 rw[uI hf];exact ij (by omega) (af _)
theorem aMV{f m:Int}(hf:Fm f)(neg:Bool):UL f m neg=CA f neg (if JC m neg then BC f else BC f-1):=by
 have:=aEw hf;unfold UL;rw[aOW,←iU];split<;>omega
theorem Vg{f:Int}(hf:Fm f)(m:Int)(neg:Bool)(n:Nat)(e:Int):AP f m neg n e false=(CA f neg (Dq f m neg n e).1,(Dq f m neg n e).2):=by
 unfold AP Dq;by_cases h:AA n e>fX f
 ·rw[if_pos h,if_pos h,aMV hf]
 ·rw[if_neg h,if_neg h];dsimp only;by_cases h2:B1 f (AA n e)+(Ae (BB m neg n e (B1 f (AA n e)) false):Int)-1>fX f
  ·rw[if_pos h2,if_pos h2,aMV hf]
  ·rw[if_neg h2,if_neg h2];dsimp only;rw[iU]
theorem bBq(f:Int)(hf:Fm f)(t:Int)(ht:¬t>fX f):t-(fP f:Int)+1<=B1 f t/\1-(fX f:Int)-(fP f:Int)+1<=B1 f t/\B1 f t<=(fX f:Int)-(fP f:Int)+1:=by
 have:=Ji hf;unfold B1;split<;>refine⟨?_,?_,?_⟩<;>omega
theorem bHR{f m:Int}(hf:Fm f){neg:Bool}{n:Nat}{e:Int}(h1:¬AA n e>fX f)(h2:¬B1 f (AA n e)+(Ae (BB m neg n e (B1 f (AA n e)) false):Int)-1>fX f):
  (B1 f (AA n e)-(1-(fX f:Int)-fP f+1)).toNat*2^(fP f-1)+BB m neg n e (B1 f (AA n e)) false<BC f:=by
 obtain⟨g1,g2,g3⟩:=bBq f hf _ h1;have hu:=aDJ (m:=m) (neg:=neg) hf g1;generalize B1 f (AA n e)=q at *
 generalize BB m neg n e q false=u at *
 have hP:=CV hf;have hX:=Ji hf;have hpp:=af (fP f-1);have h2p:2^fP f=2*2^(fP f-1):=by rw[←il,ki,js (by omega)]
 rw[uI hf];obtain⟨k,hk⟩:=cn (show 0<=q-(1-(fX f:Int)-(fP f:Int)+1) by omega);rw[hk,ab];rcases ay u (2^fP f)with h|h
 ·have hk2:k+2<=2*fX f+1:=by omega
  have:=aw (2^(fP f-1)) hk2;rw[ce]at this;omega
 ·have hb:fP f+1<=Ae u:=Jc h;have hk2:k+3<=2*fX f+1:=by omega
  have:=aw (2^(fP f-1)) hk2;rw[ce]at this;omega
theorem lI{f:Int}(hf:Fm f)(m:Int)(neg:Bool)(n:Nat)(e:Int):(Dq f m neg n e).1<=BC f:=by
 unfold Dq;by_cases h:AA n e>fX f
 ·rw[if_pos h];dsimp only;split<;>omega
 ·rw[if_neg h];dsimp only;by_cases h2:B1 f (AA n e)+(Ae (BB m neg n e (B1 f (AA n e)) false):Int)-1>fX f
  ·rw[if_pos h2];dsimp only;split<;>omega
  ·rw[if_neg h2];exact Nat.le_of_lt (bHR hf h h2)
def WE(m:Int):Int:=if m=3 then 4 else if m=4 then 3 else m
theorem bA0{m:Int}(hm:0<=m/\m<=5)(neg odd:Bool)(r:Nat):C9 (WE m) (!neg) odd r=C9 m neg odd r:=by
 rcases uM hm with rfl|rfl|rfl|rfl|rfl|rfl<;>cases neg<;>rfl
theorem bJI{m:Int}(hm:0<=m/\m<=5)(neg:Bool):JC (WE m) (!neg)=JC m neg:=by
 rcases uM hm with rfl|rfl|rfl|rfl|rfl|rfl<;>cases neg<;>rfl
theorem aNu{m:Int}(hm:0<=m/\m<=5)(neg:Bool)(n:Nat)(e q:Int)(more:Bool):BB (WE m) (!neg) n e q more=BB m neg n e q more:=by
 unfold BB;rw[bA0 hm]
theorem bJA{f m:Int}(hm:0<=m/\m<=5)(neg:Bool)(n:Nat)(e:Int)(more:Bool):DW f (WE m) (!neg) n e more↔DW f m neg n e more:=by
 unfold DW;rw[aNu hm]
theorem bHS{f m:Int}(hm:0<=m/\m<=5)(neg:Bool)(n:Nat)(e:Int):Dq f (WE m) (!neg) n e=Dq f m neg n e:=by
 unfold Dq;simp only[bJI hm,aNu hm,bJA hm]
theorem vW(f:Int)(s:Bool):Bs f s=CA f s 0:=by
 rw[←iU,cz]
theorem bJp{f m:Int}(hf:Fm f)(hm:0<=m/\m<=5)(nx:Bool)(X:Nat)(ex:Int)(ny:Bool)(Y:Nat)(ey:Int):
  ∃s s' x g,Dy f m nx X ex ny Y ey=(CA f s x,g)/\Dy f (WE m) (!nx) X ex (!ny) Y ey=(CA f s' x,g)/\x<=BC f/\(s'=!s∨x=0):=by
 unfold Dy;dsimp only;generalize(if ex<=ey then ex else ey)=e;generalize X*2^(ex-e).toNat=a;generalize Y*2^(ey-e).toNat=b;have hr:∀neg n,AP f (WE m) (!neg) n e false=(CA f (!neg) (Dq f m neg n e).1,(Dq f m neg n e).2):=fun neg n=>by
  rw[Vg hf,bHS hm]
 by_cases hn:nx=ny
 ·subst hn;rw[if_pos rfl,if_pos rfl];by_cases h0:a+b=0
  ·rw[if_pos h0,if_pos h0];exact⟨nx,!nx,0,0,by rw[vW],by rw[vW],dp _,.inr rfl⟩
  ·rw[if_neg h0,if_neg h0];exact⟨nx,!nx,_,_,Vg hf _ _ _ _,hr _ _,lI hf _ _ _ _,.inl rfl⟩
 ·have hn2:¬((!nx)=(!ny)):=fun h=>hn (by cases nx<;>cases ny<;>first|rfl|cases h);rw[if_neg hn,if_neg hn2];by_cases h1:a=b
  ·rw[if_pos h1,if_pos h1];exact⟨_,_,0,0,by rw[vW],by rw[vW],dp _,.inr rfl⟩
  ·rw[if_neg h1,if_neg h1];by_cases h2:b<a
   ·rw[if_pos h2,if_pos h2];exact⟨nx,!nx,_,_,Vg hf _ _ _ _,hr _ _,lI hf _ _ _ _,.inl rfl⟩
   ·rw[if_neg h2,if_neg h2];exact⟨ny,!ny,_,_,Vg hf _ _ _ _,hr _ _,lI hf _ _ _ _,.inl rfl⟩
theorem aEv{f:Int}(hf:Fm f):BC f<2^(fW f-1):=by have:=aOY hf;omega
theorem bBJ{f:Int}(s:Bool){x:Nat}(hx:x<2^(fW f-1)):AD f (CA f s x)=bif s then -(x:Int)else x:=by
 unfold AD;rw[aEM s hx,aPX s hx]
theorem bHW{f m:Int}(hf:Fm f){a:Nat}(h:Ah f a=0)(hfin:eF f a≠AH f)(h0:Al f a≠0):AP f m (sF f a) (Al f a) (Ao f a) false=(a,0):=by
 have hP:=CV hf;have hX:=Ji hf;have hpp:=af (fP f-1);have h2p:2^fP f=2*2^(fP f-1):=by rw[←il,ki,js (by omega)]
 have hM:=Jp f a;have hEl:eF f a<AH f:=Nat.lt_of_le_of_ne (aNN a) hfin;have hfull:AH f=2*fX f+1:=by unfold AH;rw[←tT hf]
 have habs:=OH hf a;have hpat:=aE2 h;rw[Vg hf];have key:Dq f m (sF f a) (Al f a) (Ao f a)=(Cl f a,0):=by
  have hbits:∃t,AA (Al f a) (Ao f a)=t/\t<=fX f/\B1 f t=Ao f a/\Ao f a+(Ae (Al f a):Int)-1=t:=by
   refine⟨_,rfl,?_,?_,rfl⟩
   ·unfold AA Ao;by_cases he:eF f a=0
    ·have hm:Al f a=mF f a:=by unfold Al;rw[if_pos he]
     have:=CS (n:=Al f a) (k:=fP f-1) (by rw[hm];exact hM);rw[if_pos he];omega
    ·have hm:Al f a=mF f a+2^(fP f-1):=by unfold Al;rw[if_neg he]
     have:=CS (n:=Al f a) (k:=fP f) (by rw[hm];omega);rw[if_neg he];omega
   ·unfold B1 AA Ao;by_cases he:eF f a=0
    ·have hm:Al f a=mF f a:=by unfold Al;rw[if_pos he]
     have hb:=CS (n:=Al f a) (k:=fP f-1) (by rw[hm];exact hM);rw[if_pos he,if_pos (by omega)];omega
    ·have hm:Al f a=mF f a+2^(fP f-1):=by unfold Al;rw[if_neg he]
     have hb:=CS (n:=Al f a) (k:=fP f) (by rw[hm];omega);have hb2:=Jc (n:=Al f a) (k:=fP f-1) (by rw[hm];omega);rw[if_neg he];by_cases h1:eF f a=1
     ·rw[h1];split<;>omega
     ·rw[if_neg (by omega)];omega
  obtain⟨t,ht,ht2,hlow,htb⟩:=hbits;have hcut:Dj (Al f a) (Ao f a) (Ao f a) false=0:=by rw[OO,aD (li _)]
  have hcn:BB m (sF f a) (Al f a) (Ao f a) (Ao f a) false=Al f a:=by
   unfold BB;rw[if_neg (fun hh=>hh.1 hcut),WR (li _),mz];simp
  unfold Dq;rw[ht,if_neg (by omega),hlow];dsimp only;rw[hcn,if_neg (by omega),hcut,if_pos rfl];congr 1;rw[habs];unfold Ao Al;by_cases he:eF f a=0
  ·rw[if_pos he,if_pos he,he,dz,kx,mz];simp
  ·rw[if_neg he,if_neg he];rw[show(1-(fX f:Int)-(fP f:Int)+1+((eF f a:Int)-1)-(1-(fX f:Int)-(fP f:Int)+1)).toNat=eF f a-1 by omega];obtain⟨k,hk⟩:∃k,eF f a=k+1:=⟨eF f a-1,by omega⟩
   rw[hk,Nat.add_sub_cancel,bw,fy,be k];omega
 rw[key];dsimp only;rw[←hpat]
end VL
namespace VL
open Go Vx
def qm(f:Int):Int:=1-(fX f:Int)-(fP f:Int)+1
def CY(m:Int)(neg:Bool)(n j:Nat):Nat:=if B9 (n%2^j) j≠0/\C9 m neg (decide (n/2^j%2=1)) (B9 (n%2^j) j)=true then n/2^j+1 else n/2^j
def Ft(f m:Int)(neg:Bool)(n:Nat):Nat:=if n<2^fP f then n else(Ae n-fP f)*2^(fP f-1)+CY m neg n (Ae n-fP f)
def kL(f m:Int)(neg:Bool):Nat:=if JC m neg then BC f else BC f-1
theorem Wh(m:Int)(neg:Bool)(n j:Nat):n/2^j<=CY m neg n j/\CY m neg n j<=n/2^j+1:=by
 unfold CY;split<;>omega
theorem vL{f:Int}(hf:Fm f){n:Nat}(h:¬n<2^fP f):1<=Ae n-fP f/\2^(fP f-1)<=n/2^(Ae n-fP f)/\n/2^(Ae n-fP f)<2^fP f:=by
 have hP:=CV hf;have hb:=Jc (n:=n) (k:=fP f) (by omega);obtain⟨j,hj⟩:∃j,Ae n=fP f+j:=⟨Ae n-fP f,by omega⟩
 have h1:=FU n;have h2:=Lr (n:=n) (by have:=af (fP f);omega);rw[hj]at h1 h2⊢;rw[jg];refine⟨by omega,?_,?_⟩
 ·rw[go (af _),←bi];refine ga (ai (by decide) ?_) h2;omega
 ·rw[bv (af _),←bi];exact h1
theorem aAn{f:Int}(hf:Fm f):2^fP f=2*2^(fP f-1):=by
 have hP:=CV hf;rw[←il,ki,js (by omega)]
theorem aFw{f:Int}(hf:Fm f)(m:Int)(neg:Bool){n:Nat}(h0:n≠0):
  Dq f m neg n (qm f)=if BC f<=Ft f m neg n then(kL f m neg,20)else(Ft f m neg n,if n<2^fP f then 0 else if B9 (n%2^(Ae n-fP f)) (Ae n-fP f)=0 then 0 else 16):=by
 have hP:=CV hf;have hX:=Ji hf;have h2p:=aAn hf;have hpp:=af (fP f-1);have hinf:=uI hf;have hb1:=Yn h0;have htop:AA n (qm f)=qm f+(Ae n:Int)-1:=rfl;have hqm:qm f=1-(fX f:Int)-(fP f:Int)+1:=rfl;unfold Dq;by_cases h:n<2^fP f
 ·have hb:=CS h;have hlow:B1 f (AA n (qm f))=qm f:=by unfold B1;split<;>omega
  have hmu:Ft f m neg n=n:=by unfold Ft;rw[if_pos h]
  have hcut:Dj n (qm f) (qm f) false=0:=by rw[OO,aD (li _)]
  have hcn:BB m neg n (qm f) (qm f) false=n:=by
   unfold BB;rw[if_neg (fun hh=>hh.1 hcut),WR (li _),mz];simp
  have hlt:2*2^(fP f-1)<=(2*fX f+1)*2^(fP f-1):=aw _ (by omega);rw[if_neg (show ¬AA n (qm f)>fX f by omega),hlow,hmu,if_neg (show ¬BC f<=n by omega)];dsimp only;rw[hcn,if_neg (show ¬qm f+(Ae n:Int)-1>fX f by omega),hcut,if_pos rfl,if_pos h,←hqm,mz];simp
 ·obtain⟨hj1,hq1,hq2⟩:=vL hf h;have hblen:(Ae n:Int)=(fP f:Int)+((Ae n-fP f:Nat):Int):=by omega
  obtain⟨hc1,hc2⟩:=Wh m neg n (Ae n-fP f);have hmu:Ft f m neg n=(Ae n-fP f)*2^(fP f-1)+CY m neg n (Ae n-fP f):=by unfold Ft;rw[if_neg h]
  rw[hmu,if_neg h];have hlow:B1 f (AA n (qm f))=qm f+((Ae n-fP f:Nat):Int):=by unfold B1;rw[if_neg (by omega)];omega
  have htiny:¬DW f m neg n (qm f) false:=fun hh=>by have:=hh.1;omega
  have hcr:Dj n (qm f) (qm f+((Ae n-fP f:Nat):Int)) false=B9 (n%2^(Ae n-fP f)) (Ae n-fP f):=by
   rw[OO,aC (by omega),show(qm f+((Ae n-fP f:Nat):Int)-qm f).toNat=Ae n-fP f by omega]
  have hcn:BB m neg n (qm f) (qm f+((Ae n-fP f:Nat):Int)) false=CY m neg n (Ae n-fP f):=by
   unfold BB CY;rw[hcr,WQ (by omega),show(qm f+((Ae n-fP f:Nat):Int)-qm f).toNat=Ae n-fP f by omega]
  rw[hlow];dsimp only;rw[hcn,hcr,show(qm f+((Ae n-fP f:Nat):Int)-(1-(fX f:Int)-(fP f:Int)+1)).toNat=Ae n-fP f by omega];generalize Ae n-fP f=j at *
  generalize CY m neg n j=u at *
  generalize n/2^j=Q at *
  by_cases ht:AA n (qm f)>fX f
  ·have hj2:2*fX f+1<=j+1:=by omega
   have:=aw (2^(fP f-1)) hj2;rw[ce j,fx]at this;rw[if_pos ht,if_pos (show BC f<=j*2^(fP f-1)+u by omega)];rfl
  ·rw[if_neg ht];rcases ay u (2^fP f)with hu|hu
   ·have hbu:=CS hu;have hj2:j+2<=2*fX f+1:=by omega
    have:=aw (2^(fP f-1)) hj2;rw[ce]at this;rw[if_neg (show ¬qm f+(j:Int)+(Ae u:Int)-1>fX f by omega),if_neg (show ¬BC f<=j*2^(fP f-1)+u by omega),if_neg htiny]
   ·have hbu:=Jc hu;have hbu2:=CS (n:=u) (k:=fP f+1) (by rw[dj];omega);by_cases hj2:j+3<=2*fX f+1
    ·have:=aw (2^(fP f-1)) hj2;rw[ce]at this;rw[if_neg (show ¬qm f+(j:Int)+(Ae u:Int)-1>fX f by omega),if_neg (show ¬BC f<=j*2^(fP f-1)+u by omega),if_neg htiny]
    ·have hj3:2*fX f+1<=j+2:=by omega
     have:=aw (2^(fP f-1)) hj3;rw[ce j]at this;rw[if_pos (show qm f+(j:Int)+(Ae u:Int)-1>fX f by omega),if_pos (show BC f<=j*2^(fP f-1)+u by omega)];rfl
theorem aY0{n k:Nat}(h:n<=k):Ae n<=Ae k:=CS (bl h (FU k))
theorem aZe{r r' j:Nat}(h:r<=r'):B9 r j<=B9 r' j:=by
 unfold B9;generalize 2^(j-1)=H;by_cases h0:r=0
 ·rw[if_pos h0];exact dp _
 rw[if_neg h0,if_neg (show ¬r'=0 by omega)];by_cases h1:r'<H
 ·rw[if_pos (show r<H by omega),if_pos h1];exact bu _
 rw[if_neg h1];by_cases h2:r'=H
 ·rw[if_pos h2];split
  ·decide
  ·rw[if_pos (by omega)];exact bu _
 ·rw[if_neg h2];split
  ·decide
  ·split<;>decide
theorem aZd(r j:Nat):B9 r j<=3:=by
 unfold B9;split
 ·decide
 ·split
  ·decide
  ·split<;>decide
theorem bJH{m:Int}(hm:0<=m/\m<=5)(neg odd:Bool){c c':Nat}(h:c<=c')(hc':c'<=3)(hu:c≠0/\C9 m neg odd c=true):c'≠0/\C9 m neg odd c'=true:=by
 obtain⟨h0,h1⟩:=hu;refine⟨by omega,?_⟩;rcases(show c=1∨c=2∨c=3 by omega)with rfl|rfl|rfl<;>rcases(show c'=1∨c'=2∨c'=3 by omega)with rfl|rfl|rfl<;>rcases uM hm with rfl|rfl|rfl|rfl|rfl|rfl<;>cases neg<;>cases odd<;>first|rfl|(exfalso;omega)|(revert h1;decide)
theorem aZk{m:Int}(hm:0<=m/\m<=5)(neg:Bool){n k j:Nat}(h:n<=k):CY m neg n j<=CY m neg k j:=by
 have hq:n/2^j<=k/2^j:=Nat.div_le_div_right h;have h1:=Wh m neg n j;have h2:=Wh m neg k j;rcases ay (n/2^j) (k/2^j)with hlt|hge
 ·omega
 ·have he:n/2^j=k/2^j:=by omega
  have hr:n%2^j<=k%2^j:=by
   have a1:=cp n (2^j);have a2:=cp k (2^j);rw[he]at a1;omega
  unfold CY;rw[he];have hu:=bJH hm neg (decide (k/2^j%2=1)) (aZe (j:=j) hr) (aZd _ _);split
  ·rename_i hh;rw[if_pos (hu hh)];omega
  ·split<;>omega
theorem bBN{f m:Int}(hf:Fm f)(hm:0<=m/\m<=5)(neg:Bool){n k:Nat}(h:n<=k):Ft f m neg n<=Ft f m neg k:=by
 have h2p:=aAn hf;unfold Ft;by_cases h1:n<2^fP f
 ·by_cases h2:k<2^fP f
  ·rw[if_pos h1,if_pos h2];exact h
  ·obtain⟨hj1,hq1,_⟩:=vL hf h2;have hc:=(Wh m neg k (Ae k-fP f)).1;have:=aw (2^(fP f-1)) hj1;rw[if_pos h1,if_neg h2];omega
 ·have h2:¬k<2^fP f:=by omega
  obtain⟨hj1,hq1,hq2⟩:=vL hf h1;obtain⟨hj1',hq1',hq2'⟩:=vL hf h2;have hc:=Wh m neg n (Ae n-fP f);have hc':=Wh m neg k (Ae k-fP f);have hb:=aY0 h;rw[if_neg h1,if_neg h2];rcases ay (Ae n-fP f) (Ae k-fP f)with hlt|hge
  ·have:=aw (2^(fP f-1)) hlt;rw[ki,ce]at this;omega
  ·have he:Ae n-fP f=Ae k-fP f:=by omega
   rw[he];have:=aZk hm neg (j:=Ae k-fP f) h;omega
def WD(f m:Int)(neg:Bool)(n:Nat):Nat:=if n=0 then 0 else(Dq f m neg n (qm f)).1
def WM(f m:Int)(S:Int):Int:=if S<0 then -(WD f m true S.natAbs:Int)else(WD f m false S.natAbs:Int)
theorem aPR{f m:Int}(hf:Fm f)(hm:0<=m/\m<=5)(neg:Bool){n k:Nat}(h:n<=k):WD f m neg n<=WD f m neg k:=by
 unfold WD;by_cases h0:n=0
 ·rw[if_pos h0];exact dp _
 ·rw[if_neg h0,if_neg (by omega),aFw hf m neg h0,aFw hf m neg (by omega)];have hmm:=bBN hf hm neg h;have hp:=aEw hf;unfold kL;by_cases h1:BC f<=Ft f m neg n
  ·rw[if_pos h1,if_pos (show BC f<=Ft f m neg k by omega)];exact bu _
  ·rw[if_neg h1];by_cases h2:BC f<=Ft f m neg k
   ·rw[if_pos h2];dsimp only;split<;>omega
   ·rw[if_neg h2];exact hmm
theorem bCU{f m:Int}(hf:Fm f)(hm:0<=m/\m<=5){S T:Int}(h:S<=T):WM f m S<=WM f m T:=by
 unfold WM;by_cases hS:S<0
 ·rw[if_pos hS];by_cases hT:T<0
  ·rw[if_pos hT];have:=aPR hf hm true (n:=T.natAbs) (k:=S.natAbs) (by omega);omega
  ·rw[if_neg hT];omega
 ·rw[if_neg hS,if_neg (by omega)];have:=aPR hf hm false (n:=S.natAbs) (k:=T.natAbs) (by omega);omega
end VL
namespace VL
open Go Vx
def iT(f m:Int)(a b:Nat):Nat×Nat:=bif Bk f a||Bk f b then(Co f,1)else bif nan f a||nan f b then(Co f,0)else bif(Ax f a&&Ax f b)&&!(sF f a==sF f b)then(Co f,1)else bif Ax f a then(a,0)else bif Ax f b then(b,0)else Dy f m (sF f a) (Al f a) (Ao f a) (sF f b) (Al f b) (Ao f b)
theorem aYE(f m:Int)(a b:Nat):Wc f m a b=(((iT f m a b).1:Int),((iT f m a b).2:Int),0,()):=by
 unfold Wc iT;cases Bk f a||Bk f b<;>cases nan f a||nan f b<;>cases(Ax f a&&Ax f b)&&!(sF f a==sF f b)<;>cases Ax f a<;>cases Ax f b<;>rfl
theorem bJs{f m:Int}(hf:Fm f)(hm:0<=m/\m<=5)(nx:Bool)(X:Nat)(ex:Int)(ny:Bool)(Y:Nat)(ey:Int):
  ∃s x g,Dy f m nx X ex ny Y ey=(CA f s x,g)/\x<=BC f:=by
 obtain⟨s,_,x,g,h,_,h2,_⟩:=bJp hf hm nx X ex ny Y ey;exact⟨s,x,g,h,h2⟩
theorem aO5{f:Int}{a:Nat}(h:Ax f a=true):nan f a=false:=by
 unfold Ax at h;unfold nan;simp only[ah,beq_iff_eq]at h;simp[h.2]
theorem aYD{f m:Int}(hf:Fm f)(hm:0<=m/\m<=5){a b:Nat}(ha:Ah f a=0)(hb:Ah f b=0):Ah f (iT f m a b).1=0:=by
 have hn:=(kO hf).2;unfold iT;cases Bk f a||Bk f b
 ·cases nan f a||nan f b
  ·cases(Ax f a&&Ax f b)&&!(sF f a==sF f b)
   ·cases Ax f a
    ·cases Ax f b
     ·obtain⟨s,x,g,h,hx⟩:=bJs hf hm (sF f a) (Al f a) (Ao f a) (sF f b) (Al f b) (Ao f b);simp only[cond_false];rw[h];exact uL hf _ (bl hx (aEv hf))
     ·exact hb
    ·exact ha
   ·exact hn
  ·exact hn
 ·exact hn
theorem bCS{f:Int}(hf:Fm f){a:Nat}(h:AD f a≠0):Al f a≠0:=fun hm=>by
 have habs:Cl f a≠0:=fun h0=>h (by unfold AD;rw[h0];cases sF f a<;>rfl)
 have hpp:=af (fP f-1)
 unfold Al at hm
 split at hm
 ·rename_i he
  exact habs ((aTt hf a).2 ⟨he,hm⟩)
 ·omega
end VL
namespace VL
open Go Vx
def vI(f:Int)(neg:Bool)(X:Nat)(e:Int):Int:=bif neg then -((X*2^(e-qm f).toNat:Nat):Int)else((X*2^(e-qm f).toNat:Nat):Int)
theorem aRb{f:Int}(hf:Fm f)(m:Int)(neg:Bool){N:Nat}(hN:N≠0){e:Int}(he:qm f<=e):
  AP f m neg N e false=(CA f neg (Dq f m neg (N*2^(e-qm f).toNat) (qm f)).1,(Dq f m neg (N*2^(e-qm f).toNat) (qm f)).2):=by
 have h:=WU (f:=f) (m:=m) (neg:=neg) hf hN (e-qm f).toNat (qm f);rw[show qm f+((e-qm f).toNat:Int)=e by omega]at h;rw[←h,Vg hf]
end VL
namespace VL
open Go Vx
theorem lY(f:Int)(a:Nat):qm f<=Ao f a:=by
 unfold Ao qm;split<;>omega
def sl(V:Nat->Int)(i:Nat):List Int:=[if 0<i then V 0 else 0,if 1<i then V 1 else 0,if 2<i then V 2 else 0,if 3<i then V 3 else 0,if 4<i then V 4 else 0,if 5<i then V 5 else 0]
end VL
namespace VL
open Go Vx
def vA(f:Int)(a:Nat):Int:=vI f (sF f a) (Al f a) (Ao f a)
theorem bCV(f m:Int):WM f m 0=0:=by
 unfold WM WD;rw[if_neg (by omega)];rfl
theorem aME{f:Int}(hf:Fm f){a:Nat}(h:Cl f a=0):Al f a=0:=by
 have h0:=(aTt hf a).1 h;unfold Al;rw[if_pos h0.1];exact h0.2
theorem aRs{f:Int}(hf:Fm f){a:Nat}(ha:Ah f a=0)(fa:eF f a≠AH f):AD f a=WM f 0 (vA f a):=by
 by_cases h0:Al f a=0
 ·have hv:vA f a=0:=by
   unfold vA vI;rw[h0,ej];cases sF f a<;>rfl
  rw[hv,bCV];by_cases hp:AD f a=0
  ·exact hp
  ·exact absurd h0 (bCS hf hp)
 ·have hr:=bHW (m:=0) hf ha fa h0;rw[aRb hf 0 (sF f a) h0 (lY f a)]at hr;have h1:CA f (sF f a) (Dq f 0 (sF f a) (Al f a*2^(Ao f a-qm f).toNat) (qm f)).1=a:=congrArg Prod.fst hr;have hn0:Al f a*2^(Ao f a-qm f).toNat≠0:=Nat.ne_of_gt (ij (by omega) (af _));have hle:=lI hf 0 (sF f a) (Al f a*2^(Ao f a-qm f).toNat) (qm f);have h2:AD f a=AD f (CA f (sF f a) (Dq f 0 (sF f a) (Al f a*2^(Ao f a-qm f).toNat) (qm f)).1):=by rw[h1]
  rw[h2,bBJ _ (bl hle (aEv hf))];unfold vA vI WM WD;generalize Al f a*2^(Ao f a-qm f).toNat=n at *
  cases sF f a
  ·simp only[cond_false];rw[if_neg (show ¬((n:Int)<0) by omega),pg,if_neg hn0]
  ·simp only[cond_true];rw[if_pos (show(-(n:Int)<0) by omega),Int.natAbs_neg,pg,if_neg hn0]
theorem aQo(f:Int)(a:Nat):(AD f a).natAbs=Cl f a:=by
 unfold AD;cases sF f a<;>simp
theorem bIU{f:Int}(hf:Fm f){a b:Nat}(h:AD f a=AD f b):vA f a=vA f b:=by
 have habs:Cl f a=Cl f b:=by rw[←aQo,←aQo,h]
 by_cases h0:Cl f a=0
 ·have e1:=aME hf h0;have e2:=aME hf (habs▸h0);unfold vA vI;rw[e1,e2,ej,ej];cases sF f a<;>cases sF f b<;>rfl
 ·have hs:sF f a=sF f b:=by
   unfold AD at h;rw[habs]at h h0;cases h1:sF f a<;>cases h2:sF f b<;>rw[h1,h2]at h<;>simp only[cond_true,cond_false]at h<;>first|rfl|omega
  have he:eF f a=eF f b:=by rw[aDO hf,aDO hf,habs]
  have hm:mF f a=mF f b:=by rw[aEJ hf,aEJ hf,habs]
  unfold vA Al Ao;rw[hs,he,hm]
end VL
namespace VL
open Go Vx
def tz(n:Nat):Nat:=if n=0 then 0 else if n%2=1 then 0 else tz (n/2)+1
termination_by n
decreasing_by omega
theorem aTo:∀(t k:Nat),tz (2^t*(2*k+1))=t
 |0,k=>by
  rw[tz,gz,fx,if_neg (by omega),if_pos (by omega)]
 |t+1,k=>by
  have e:2^(t+1)*(2*k+1)=2*(2^t*(2*k+1)):=by rw[dj,be (2^t) 2,bh]
  have hp:0<2^t*(2*k+1):=ij (af t) (by omega)
  have ih:=aTo t k
  rw[e]
  generalize 2^t*(2*k+1)=n at *
  rw[tz,if_neg (by omega),if_neg (by omega),show 2*n/2=n by omega,ih]
theorem aAp{n:Nat}(h:n≠0):∃k,n=2^tz n*(2*k+1):=by
 obtain⟨t,k,e⟩:=aTm (x:=n) (by omega);refine⟨k,?_⟩;have:=aTo t k;rw[←e]at this;rw[this];exact e
abbrev Dya:=Ab (.pair (.bool) (.pair (.slice (.int .u64)) (.pair (.int .i64) (.unit))))
def dy(s:Bool)(n:Nat)(e:Int):Dya:=(s,Dw n,e,())
theorem aZG:dy false 0 0=(false,[],0,()):=by unfold dy;rw[Ff]
end VL
namespace VL
open Go Vx
theorem aXn(a b:List Nat)(ha:∀x∈a,x<2^64)(hb:∀x∈b,x<2^64)(hla:a.length<=1000000)(hab:a.length=b.length):
  qK ((Wd a,(Wd b,((a.length:Int)-1,()))),())=some (if nv (2^64) a=nv (2^64) b then .inl ((),())else .inr (((if nv (2^64) a<nv (2^64) b then(-1:Int)else 1),()),())):=by
 have key:=CW (aPq Am.pre Am.F) (fun x=>(x.1.2.2.1+1).toNat)
  (fun x=>∃j:Nat,j<=a.length/\nv (2^64) (a.drop j)=nv (2^64) (b.drop j)/\x=((Wd a,(Wd b,((j:Int)-1,()))),()))
  (fun _=>if nv (2^64) a=nv (2^64) b then .inl ((),())else .inr (((if nv (2^64) a<nv (2^64) b then(-1:Int)else 1),()),())) ?_ ((Wd a,(Wd b,((a.length:Int)-1,()))),())
  ⟨a.length,bu _,by rw[ii,hab,ii],rfl⟩
 ·exact key
 intro L x hx hL;obtain⟨j,hj,hd,rfl⟩:=hx;unfold YR;rcases j with _|i
 ·have e1:decide ((((0:Nat):Int)-1)>=0)=false:=rfl;rw[jv,jv]at hd;simp only[e1,cond_false,if_pos hd]
 ·have e0:(((i+1:Nat):Int)-1)=(i:Int):=by omega
  have e2:aa .i64 ((i:Int)-1)=(i:Int)-1:=Av (by omega);have e3:decide ((i:Int)>=0)=true:=decide_eq_true (by omega);simp(disch:=omega) only[e0,e2,e3,Ba,AY,Bb,AV,AJ,Be,AX,AW,A7,A6,A5,A4,A2,A1,A9,A8,A3,AU,AF,AR,AG,AL,AT,ab,ap,cond_true,cond_false,ax,az,bf,ak,ar,bb,au,ba,av,bd,bc,bg,Az,BN];rcases fi (a.getD i 0) (b.getD i 0)with h|h|h
  ·have hr:=LV (by decide) ha (by omega) (by omega) hd h;simp(disch:=omega) only[Ba,AY,Bb,AV,AJ,Be,AX,AW,A7,A6,A5,A4,A2,A1,A9,A8,A3,AU,AF,AR,AG,AL,AT,ab,ap,cond_true,cond_false,ax,az,bf,ak,ar,bb,au,ba,av,bd,bc,bg];rw[if_neg (by omega),if_pos hr]
  ·simp(disch:=omega) only[Ba,AY,Bb,AV,AJ,Be,AX,AW,A7,A6,A5,A4,A2,A1,A9,A8,A3,AU,AF,AR,AG,AL,AT,ab,ap,cond_true,cond_false,ax,az,bf,ak,ar,bb,au,ba,av,bd,bc,bg];refine hL _ ⟨i,by omega,?_,rfl⟩ (by simp only[ab];omega);rw[LH _ a i (by omega),LH _ b i (by omega),hd,h]
  ·have hr:=LV (by decide) hb (by omega) (by omega) hd.symm h;simp(disch:=omega) only[Ba,AY,Bb,AV,AJ,Be,AX,AW,A7,A6,A5,A4,A2,A1,A9,A8,A3,AU,AF,AR,AG,AL,AT,ab,ap,cond_true,cond_false,ax,az,bf,ak,ar,bb,au,ba,av,bd,bc,bg];rw[if_neg (by omega),if_neg (by omega)]
theorem XB{x:Nat}(hx:x<(2^64)^5000):VF (Dw x,())=some (Dw x,()):=by
 have:=EH (dg (2^64) x) (D1 hx).2;rw[OP (by decide)]at this;exact this
theorem aBk{x y:Nat}(hx:x<(2^64)^5000)(hy:y<(2^64)^5000):cR (Dw x,Dw y,())=some (if x=y then 0 else if x<y then -1 else 1,()):=by
 show wX Am.pre Am.F qK (Dw x) (Dw y)=_;unfold wX;have p0:=XB hx;have p1:=XB hy;have hX:=D1 hx;have hY:=D1 hy;have hlx:=hX.2;simp only[Dx p0,Du p0,Dx p1,Du p1,cond_true];clear p0 p1;rcases fi (dg (2^64) x).length (dg (2^64) y).length with h|h|h
 ·have hr:=jA (by decide) h;unfold Dw;simp(disch:=omega) only[Ba,AY,Bb,AV,AJ,Be,AX,AW,A7,A6,A5,A4,A2,A1,A9,A8,A3,AU,AF,AR,AG,AL,AT,ab,ap,cond_true,cond_false,ax,az,bf,ak,ar,bb,au,ba,av,bd,bc,bg,Az];rw[if_neg (by omega),if_pos hr]
 ·have hw:=aXn _ _ hX.1 hY.1 hlx h;rw[C1,C1]at hw;have e2:aa .i64 (((dg (2^64) x).length:Int)-1)=((dg (2^64) x).length:Int)-1:=Av (by omega);unfold Dw;simp(disch:=omega) only[Ba,AY,Bb,AV,AJ,Be,AX,AW,A7,A6,A5,A4,A2,A1,A9,A8,A3,AU,AF,AR,AG,AL,AT,ab,ap,cond_true,cond_false,ax,az,bf,ak,ar,bb,au,ba,av,bd,bc,bg,Az,e2,hw];by_cases he:x=y
  ·rw[if_pos he,if_pos he];first|rfl|skip
  ·rw[if_neg he,if_neg he];first|rfl|skip
 ·have hr:=jA (by decide) h;unfold Dw;simp(disch:=omega) only[Ba,AY,Bb,AV,AJ,Be,AX,AW,A7,A6,A5,A4,A2,A1,A9,A8,A3,AU,AF,AR,AG,AL,AT,ab,ap,cond_true,cond_false,ax,az,bf,ak,ar,bb,au,ba,av,bd,bc,bg,Az];rw[if_neg (by omega),if_neg (by omega)]
theorem lL{out a:List Nat}{i v:Nat}(hol:out.length=i)(h:i<a.length):(out++a.drop i).set i v=(out++[v])++a.drop (i+1):=by
 rw[gd _ _ (by omega),hol,gy,fd h,jt,fg];rfl
theorem bA3{out a:List Nat}{i:Nat}(hol:out.length=i):(out++a.drop i).getD i 0=a.getD i 0:=by
 rw[al,cj (by omega),hol,gy,du,cu,←al]
theorem aXf(a b:List Nat)(ha:∀x∈a,x<2^64)(hb:∀x∈b,x<2^64)(hla:a.length<=1000000)(hba:b.length<=a.length)(hv:nv (2^64) b<=nv (2^64) a):
  gG (((a.length:Int),(Wd b,((0:Int),((0:Int),((),()))))),(Wd a,()))=some (.inl (((),()),(Wd (pd (2^64) a.length (nv (2^64) a-nv (2^64) b)),()))):=by
 have key:=CW (aPi Cg.pre Cg.F BE.pre BE.F Am.pre Am.F) (fun x=>a.length-x.1.2.2.2.1.toNat)
  (fun x=>∃(i:Nat) (out:List Nat) (c:Nat),i<=a.length/\out.length=i/\(∀x∈out,x<2^64)/\c<=1/\nv (2^64) (a.take i)+(2^64)^i*c=nv (2^64) (b.take i)+nv (2^64) out /\
   x=(((a.length:Int),(Wd b,((c:Int),((i:Int),((),()))))),(Wd (out++a.drop i),())))
  (fun _=>.inl (((),()),(Wd (pd (2^64) a.length (nv (2^64) a-nv (2^64) b)),()))) ?_ (((a.length:Int),(Wd b,((0:Int),((0:Int),((),()))))),(Wd a,()))
  ⟨0,[],0,dp _,rfl,(fun x hx=>by simp at hx),by decide,by simp[nv],rfl⟩
 ·exact key
 intro L x hx hL;obtain⟨i,out,c,hi,hol,hod,hc,hov,rfl⟩:=hx;unfold YJ;rcases ay i a.length with hlt|hge
 ·have hxa:=B3 (by decide) ha i;have hxb:=B3 (by decide) hb i;have hna:=Da (2^64) a i;have hnb:=Da (2^64) b i;have hzb:b.length<=i->b.getD i 0=0:=fun h=>by rw[al,df h];rfl
  have hset:=fun v=>lL (v:=v) hol hlt;have hlen:(out++a.drop i).length=a.length:=by simp;omega
  have hget:=bA3 (a:=a) hol;generalize hda:a.getD i 0=da at *
  generalize hdb:b.getD i 0=db at *
  have hgo:∀c' v:Nat,c'<=1->v<2^64->da+2^64*c'=db+c+v->L (((a.length:Int),(Wd b,((c':Int),(((i+1:Nat):Int),((),()))))),(Wd (out++[v]++a.drop (i+1)),()))=_:=fun c' v h1 h2 h3=>
   hL _ ⟨i+1,out++[v],c',by omega,by simp;omega,I8 hod h2,h1,by
    rw[hna,hnb,LI,hol,dj];exact aPW hov h3,rfl⟩ (by simp only[ab];omega)
  have hgo2:=hgo (if da<db+c then 1 else 0) ((da+2^64-db-c)%2^64) (by split<;>omega) (ca _ (by decide)) (by split<;>omega);have hF:=lR da db c hc hxa hxb;have hP:=lS (da:Int) (db:Int) c hc;rcases ay i b.length with hib|hib
  ·simp(disch:=omega) only[Ba,AY,Bb,AV,AJ,Be,AX,AW,A7,A6,A5,A4,A2,A1,A9,A8,A3,AU,AF,AR,AG,AL,AT,ab,ap,cond_true,cond_false,ax,az,bf,ak,ar,bb,au,ba,av,bd,bc,bg,Az,BN,hdb,hget,hF,hP,hlen,Dt,hset];exact hgo2
  ·have h0:=hzb hib;rw[h0]at hF hP;simp(disch:=omega) only[Ba,AY,Bb,AV,AJ,Be,AX,AW,A7,A6,A5,A4,A2,A1,A9,A8,A3,AU,AF,AR,AG,AL,AT,ab,ap,cond_true,cond_false,ax,az,bf,ak,ar,bb,au,ba,av,bd,bc,bg,Az,BN,hget];have hF':BE.F ((da:Int),((0:Int),((c:Int),())))=_:=hF;have hP':BE.pre ((da:Int),((0:Int),((c:Int),())))=true:=hP;rw[h0]at hgo2;simp(disch:=omega) only[Ba,AY,Bb,AV,AJ,Be,AX,AW,A7,A6,A5,A4,A2,A1,A9,A8,A3,AU,AF,AR,AG,AL,AT,ab,ap,cond_true,cond_false,ax,az,bf,ak,ar,bb,au,ba,av,bd,bc,bg,hF',hP',hlen,Dt,hset];exact hgo2
 ·have e:i=a.length:=by omega
  subst e;rw[dq,cm hba]at hov;have hlt:=CX (B:=2^64) (by decide) out hod;rw[hol]at hlt;have hc0:(2^64)^a.length*c=0:=by
   rcases(show c=0∨c=1 by omega)with h|h
   ·rw[h,dz]
   ·rw[h,fy]at hov;omega
  have ho:=U7 (B:=2^64) (v:=nv (2^64) a-nv (2^64) b) (by decide) hod hol (by omega);rw[ii,dl];simp(disch:=omega) only[Ba,AY,Bb,AV,AJ,Be,AX,AW,A7,A6,A5,A4,A2,A1,A9,A8,A3,AU,AF,AR,AG,AL,AT,ab,ap,cond_true,cond_false,ax,az,bf,ak,ar,bb,au,ba,av,bd,bc,bg,Az];rw[←ho]
theorem aHt(l:List Nat)(hl:Ws l):VA (Wd l,())=some (Dw (nv (2^64) l),()):=by
 show wE Am.pre Am.F (Wd l)=_;unfold wE;have p0:=EH l hl.2;have hle:=(DN l).1;have h2:=hl.2;have e3:decide ((((An l).length:Nat):Int)*8<=140737488355328)=true:=decide_eq_true (by omega);simp(disch:=omega) only[Ba,AY,Bb,AV,AJ,Be,AX,AW,A7,A6,A5,A4,A2,A1,A9,A8,A3,AU,AF,AR,AG,AL,AT,ab,ap,cond_true,cond_false,ax,az,bf,ak,ar,bb,au,ba,av,bd,bc,bg,Dx p0,Du p0,Az,e3,List.length_replicate,List.drop_replicate,gy];rw[cm (by rw[Az];exact bu _),iv,dl,Ga (by decide) l hl.1];rfl
theorem aWl{x y:Nat}(hx:x<(2^64)^5000)(h:y<=x):cS (Dw x,Dw y,())=some (Dw (x-y),0,()):=by
 show wY TA.pre TA.F DC.pre DC.F B5.pre B5.F CO.pre CO.F Am.pre Am.F Xp.pre Xp.F (Dw x) (Dw y)=_;unfold wY;have hy:y<(2^64)^5000:=bl h hx;have p0:=aBk hx hy;have p1:=aHt (dg (2^64) x) (D1 hx);rw[C1]at p1;have p1:VA (Dw x,())=some (Dw x,()):=p1;have p2:=XB hy;have z1:decide ((if x=y then(0:Int)else if x<y then -1 else 1)<0)=false:=by
  by_cases he:x=y
  ·rw[if_pos he];rfl
  ·rw[if_neg he,if_neg (by omega)];rfl
 have hX:=D1 hx;have hY:=D1 hy;have hlx:=hX.2;have p3:cF (Dw x,Dw y,())=some (Dw (x-y),()):=by
  show wH Cg.pre Cg.F BE.pre BE.F Am.pre Am.F gG (Dw x) (Dw y)=_;unfold wH;have hw:=aXf (dg (2^64) x) (dg (2^64) y) hX.1 hY.1 hlx (aDL (by decide) h) (by rw[C1,C1];exact h);rw[C1,C1]at hw;have q1:=aHw (pd (2^64) (dg (2^64) x).length (x-y)) (by rw[Dp];exact hlx);have hlt:=i9 (B:=2^64) (by decide) x;rw[Ga (by decide) _ (HK (by decide) _ _),HL (by decide) _ _ (by omega)]at q1;rw[show(Dw x).length=(dg (2^64) x).length from Az _];rw[show gG ((((dg (2^64) x).length:Int),(Dw y,((0:Int),((0:Int),((),()))))),(Dw x,()))=_ from hw];show(bif Cg.pre (Wd (pd (2^64) (dg (2^64) x).length (x-y)),())then some (Cg.F (Wd (pd (2^64) (dg (2^64) x).length (x-y)),()))else none)=_;simp only[aQt q1,aOi q1,cond_true];rfl
 simp only[aE9 p0,aEb p0,cond_true,z1,cond_false,aE7 p1,aD9 p1,Dx p2,Du p2,bC0 p3,aZ9 p3]
def od(s:Bool)(n:Nat)(e:Int):Bool×Nat×Int:=if n=0 then(false,0,0)else(s,n/2^tz n,e+tz n)
def Yt(t:Bool×Nat×Int):Dya:=dy t.1 t.2.1 t.2.2
theorem WJ(s:Bool)(n:Nat)(e:Int):(od s n e=(false,0,0)/\n=0)∨((od s n e).1=s/\(od s n e).2.1%2=1/\n≠0/\n=2^tz n*(od s n e).2.1/\(od s n e).2.2=e+tz n):=by
 unfold od;by_cases h:n=0
 ·rw[if_pos h];exact .inl ⟨rfl,h⟩
 ·right;rw[if_neg h];obtain⟨k,hk⟩:=aAp h;have hd:n/2^tz n=2*k+1:=by
   have:=im (2*k+1) (af (tz n));rw[←hk]at this;exact this
  dsimp only;rw[hd];exact⟨rfl,by omega,h,hk,rfl⟩
theorem aFU{n k:Nat}(h:n<2^k)(h0:n≠0):tz n<k:=by
 obtain⟨j,hj⟩:=aAp h0;have h1:2^tz n*1<=2^tz n*(2*j+1):=cd _ (by omega);exact(cv (a:=2) (by decide)).1 (by omega)
theorem aYU{n k:Nat}(h:n<2^k)(hk:k<=64*2000):n<(2^64)^2000:=by
 rw[DL];exact ao h (ai (by decide) hk)
theorem aBj{x y:Nat}(hx:x<(2^64)^5000)(hy:y<(2^64)^5000):VC (Dw x,Dw y,())=some (Dw (x+y),()):=by
 have h1:(dg (2^64) x).length<=5000:=Ea (by decide) _ _ hx;have h2:(dg (2^64) y).length<=5000:=Ea (by decide) _ _ hy;have:=aHD (dg (2^64) x) (dg (2^64) y) (D1 hx) (D1 hy) (by rw[OP (by decide)];omega) (by rw[OP (by decide)];omega);rw[C1,C1]at this;exact this
end VL
namespace VL
open Go Vx
theorem nO{x:Nat}(h0:x≠0)(h:x<2^64):Dw x=(x:Int)::[]:=by
 unfold Dw;rw[EC (by decide) (by omega),bo h,cg h,DJ];rfl
theorem aIq{f:Int}{a:Nat}(h:Ah f a=0)(hfin:eF f a≠AH f):eD (f,(a:Int),())=some (Yt (od (sF f a) (Al f a) (Ao f a)),0,()):=by
 obtain⟨hf,h0⟩:=Fs h;have ha:=WL h;show yI Aw.pre Aw.F DR.pre DR.F B2.pre B2.F Cu.pre Cu.F f a=_;unfold yI;have h1:=CV hf;have h2:=DT hf;have h3:=EI hf;have h4:=Ly hf;have h5:=E8 hf;have h6:=Ji hf;have hE:=jE hf a;have hM:=Jp f a;have hPp:2^(fP f-1)<=2^52:=ai (by decide) (by omega);have hpp:=af (fP f-1);have p0:=K8 f a ha;have p1:=qC (fW f-fP f) (by omega);have p2:=aBx hf a ha;have hr1:decide (0<=f)=true:=decide_eq_true hf.1;have hr2:decide (f<((4:Nat):Int))=true:=decide_eq_true hf.2;have r1:(Cq f).1=(fW f:Int):=rfl;have r2:(Cq f).2.1=(fP f:Int):=rfl;have r3:(Cq f).2.2.1=1-(fX f:Int):=rfl;have e1:aa .i64 ((fW f:Int)-(fP f:Int))=((fW f-fP f:Nat):Int):=AV _ _ (by omega);have e2:aa .i64 ((fP f:Int)-1)=((fP f-1:Nat):Int):=AJ _ (by omega);have e3:Bj .u64 1 ((fP f-1:Nat):Int)=((2^(fP f-1):Nat):Int):=Ph (by omega);have e4:Ak .u64 (mF f a:Int) ((2^(fP f-1):Nat):Int)=((mF f a+2^(fP f-1):Nat):Int):=by
  have:=O8 (a:=mF f a) (b:=1) (k:=fP f-1) hM (by omega);rwa [fx]at this
 have hfl:(((eF f a:Nat):Int)==((2^(fW f-fP f)-1:Nat):Int))=false:=by
  rw[LG];exact beq_eq_false_iff_ne.2 hfin
 have ew:∀z:Int,-1000000<=z/\z<=1000000->aa .i64 z=z:=fun z hz=>Av (by omega);simp only[aFz hf,r1,r2,r3,hr1,hr2,Jw p0,Jl p0,aFh p2,aEj p2,h,cond_true,bne_self_eq_false,cond_false,e1,e2,e3,e4,vK p1,uE p1,hfl,AF];by_cases hz:eF f a=0
 ·have hg:(((eF f a:Nat):Int)==0)=true:=AR _ hz;have hm:Al f a=mF f a:=by unfold Al;rw[if_pos hz]
  have hx:Ao f a=1-(fX f:Int)-(fP f:Int)+1:=by unfold Ao;rw[if_pos hz,kx]
  rw[hg,cond_true,hm,hx];by_cases hm0:mF f a=0
  ·rw[AR _ hm0,cond_true];unfold od Yt;rw[if_pos hm0,aZG]
  ·obtain⟨k,hk⟩:=aAp hm0;have htl:=aFU (n:=mF f a) (k:=53) (by omega) hm0;have p3:=aBy (t:=tz (mF f a)) (k:=k) (by omega);rw[←hk]at p3;have hq:mF f a/2^tz (mF f a)≠0:=by
    have:=im (2*k+1) (af (tz (mF f a)));rw[←hk]at this;omega
   have hql:=ee (mF f a) (2^tz (mF f a));rw[AG _ hm0,cond_false];simp only[aFi p3,aEk p3,cond_true,AF,DM (mF f a) (tz (mF f a)) (by omega)];rw[←nO hq (by omega)];unfold od Yt dy;rw[if_neg hm0];rw[ew 1 (by omega),ew (1-1) (by omega),ew (1-1+_) (by omega),ew (1-1+_-_) (by omega),ew (1-1+_-_+1) (by omega),ew _ (by omega)];rw[show(1:Int)-1+(1-(fX f:Int))-(fP f:Int)+1+(tz (mF f a):Int)=1-(fX f:Int)-(fP f:Int)+1+(tz (mF f a):Int) by omega]
 ·have hg:(((eF f a:Nat):Int)==0)=false:=AG _ hz;have hm:Al f a=mF f a+2^(fP f-1):=by unfold Al;rw[if_neg hz]
  have hx:Ao f a=1-(fX f:Int)-(fP f:Int)+1+((eF f a:Int)-1):=by unfold Ao;rw[if_neg hz]
  rw[hg,cond_false,hm,hx];have hm0:mF f a+2^(fP f-1)≠0:=by omega
  have hml:mF f a+2^(fP f-1)<2^54:=by omega
  generalize mF f a+2^(fP f-1)=n at *
  obtain⟨k,hk⟩:=aAp hm0;have htl:=aFU hml hm0;have p3:=aBy (t:=tz n) (k:=k) (by rw[←hk];omega);rw[←hk]at p3;have hq:n/2^tz n≠0:=by
   have:=im (2*k+1) (af (tz n));rw[←hk]at this;omega
  have hql:=ee n (2^tz n);rw[AG _ hm0,cond_false];simp only[aFi p3,aEk p3,cond_true,AF,DM n (tz n) (by omega)];rw[←nO hq (by omega)];unfold od Yt dy;rw[if_neg hm0];rw[ew (eF f a:Int) (by omega),ew ((eF f a:Int)-1) (by omega),ew ((eF f a:Int)-1+_) (by omega),ew ((eF f a:Int)-1+_-_) (by omega),ew ((eF f a:Int)-1+_-_+1) (by omega),ew _ (by omega)];rw[show(eF f a:Int)-1+(1-(fX f:Int))-(fP f:Int)+1+(tz n:Int)=1-(fX f:Int)-(fP f:Int)+1+((eF f a:Int)-1)+(tz n:Int) by omega]
theorem aP7(s:Bool){n:Nat}(e:Int)(hn:n<2^53)(he:-2000<=e/\e<=2000):(od s n e).2.1<2^53/\-2500<=(od s n e).2.2/\(od s n e).2.2<=2500:=by
 rcases WJ s n e with⟨h,_⟩|⟨_,h2,h3,h4,h5⟩
 ·rw[h];exact⟨af _,by dsimp only;omega,by dsimp only;omega⟩
 ·have hle:(od s n e).2.1<=n:=by
   have:=iu (od s n e).2.1 (af (tz n));omega
  have:=aFU hn h3;refine⟨by omega,by omega,by omega⟩
end VL
namespace VL
open Go Vx
theorem aQ1{f:Int}(hf:Fm f):qm f<=0:=by
 have:=Ji hf;have:=CV hf;unfold qm;omega
end VL
namespace VL
open Go Vx
def Bd(f:Int)(n:Nat)(e:Int):Prop:=qm f<=e/\e<=6000/\n*2^(e-qm f).toNat<2^5000
theorem Bd.lt{f:Int}{n:Nat}{e:Int}(h:Bd f n e):n<2^5000:=by
 have:=gj n (af (e-qm f).toNat);exact bl this h.2.2
theorem Bd.od{f:Int}(hf:Fm f){n:Nat}{e:Int}(s:Bool)(h:Bd f n e):Bd f (VL.od s n e).2.1 (VL.od s n e).2.2:=by
 rcases WJ s n e with⟨hz,_⟩|⟨_,h2,h3,h4,h5⟩
 ·rw[hz];exact⟨aQ1 hf,by dsimp only;omega,by dsimp only;rw[ej];exact af _⟩
 ·have hle:2^(tz n+(e-qm f).toNat)<=n*2^(e-qm f).toNat:=by
   rw[bi];refine aw _ ?_;have:=gj (2^tz n) (show 0<(VL.od s n e).2.1 by omega);omega
  have hlt:=(cv (a:=2) (by decide)).1 (bl hle h.2.2);have hq:=aQ1 hf;have h1:=h.1;refine⟨by omega,by omega,?_⟩;have e1:(VL.od s n e).2.1*2^((VL.od s n e).2.2-qm f).toNat=n*2^(e-qm f).toNat:=by
   rw[h5,show(e+(tz n:Int)-qm f).toNat=tz n+(e-qm f).toNat by omega,bi,←bh,be _ (2^tz n),←h4]
  rw[e1];exact h.2.2
end VL
namespace VL
open Go Vx
theorem bBH{f:Int}(hf:Fm f)(a:Nat):Al f a<2^fP f:=by
 have h1:=Jp f a;have h2:=aAn hf;have hpp:=af (fP f-1);unfold Al;split<;>omega
end VL
namespace VL
open Go Vx
structure Hid (p:Prop):Prop where
 out:p
end VL
namespace VL
open Go Vx
theorem lM{l:List Nat}{j v:Nat}(hj:j<l.length)(h:l.getD j 0=v):l.set j v=l:=by
 rw[al,bq hj,Option.getD_some]at h;subst h;exact List.set_getElem_self hj
end VL
namespace VL
open Go Vx
theorem Jb{n k:Nat}(h:n<2^k)(hk:k<=64*5000):n<(2^64)^5000:=by
 rw[DL];exact ao h (ai (by decide) hk)
theorem aTz(n:Nat):((((Dw n).length:Nat):Int)==0)=decide (n=0):=by
 by_cases h:n=0
 ·subst h;rw[Ff];rfl
 ·rw[decide_eq_false h];exact AG _ (by have:=nN h;omega)
end VL
namespace VL
open Go Vx
def aNl(far n:Int):Int:=if(if far<n then far else n)>-far then(if far<n then far else n)else -far
def bIV(f m:Int)(a:Nat)(n:Int):DenS ML:=if ¬Fm f then(0,0,2,())else if m<0∨m>5 then(0,0,3,())else if Ah f a≠0 then(0,0,Ah f a,())else bif nan f a then((Co f:Int),(bif Bk f a then 1 else 0),0,())else if eF f a=AH f∨Cl f a=0 then((a:Int),0,0,())else(((AP f m (sF f a) (Al f a) (Ao f a+aNl 5000 n) false).1:Int),((AP f m (sF f a) (Al f a) (Ao f a+aNl 5000 n) false).2:Int),0,())
end VL
namespace VL
open Go Vx
theorem iQ{x:Nat}(h:x<2^64):BS .u64 (x:Int) 4294967295=((x%2^32:Nat):Int):=UK (n:=32) h (by decide)
theorem WX(x:Nat):AQ .u64 (x:Int) 32=((x/2^32:Nat):Int):=by
 have h:=aRw (a:=(x:Int)) 32 (by decide);rw[show((32:Nat):Int)=32 from rfl]at h;rw[h];norm_cast
theorem bBP{x0 x1 y0 y1:Nat}(h0:x0<2^32)(h1:x1<2^32)(k0:y0<2^32)(k1:y1<2^32):
  ((x1*y1%2^64+(x1*y0%2^64+x0*y0%2^64/2^32)%2^64/2^32)%2^64+((x1*y0%2^64+x0*y0%2^64/2^32)%2^64%2^32+x0*y1%2^64)%2^64/2^32)%2^64=(x0+2^32*x1)*(y0+2^32*y1)/2^64:=by
 have b00:x0*y0<=(2^32-1)*(2^32-1):=ic (by omega) (by omega);have b01:x0*y1<=(2^32-1)*(2^32-1):=ic (by omega) (by omega);have b10:x1*y0<=(2^32-1)*(2^32-1):=ic (by omega) (by omega);have b11:x1*y1<=(2^32-1)*(2^32-1):=ic (by omega) (by omega);have e1:x0*(2^32*y1)=2^32*(x0*y1):=gc _ _ _;have e2:2^32*x1*y0=2^32*(x1*y0):=bh _ _ _;have e3:2^32*x1*(2^32*y1)=2^64*(x1*y1):=by
  rw[bh,gc x1,←bh]
 rw[ce,bw,bw,e1,e2,e3];generalize x0*y0=a at *
 generalize x0*y1=b at *
 generalize x1*y0=c at *
 generalize x1*y1=d at *
 have ha:a%2^64=a:=bo (by omega);have hb:b%2^64=b:=bo (by omega);have hc:c%2^64=c:=bo (by omega);have hd:d%2^64=d:=bo (by omega);rw[ha,hb,hc,hd];have ht:(c+a/2^32)%2^64=c+a/2^32:=bo (by omega);rw[ht];generalize hT:c+a/2^32=t;have hw:(t%2^32+b)%2^64=t%2^32+b:=bo (by omega);rw[hw];have hq:(d+t/2^32)%2^64=d+t/2^32:=bo (by omega);rw[hq];omega
theorem aBp{x y:Nat}(hx:x<2^64)(hy:y<2^64):dI ((x:Int),(y:Int),())=some (((x*y/2^64:Nat):Int),((x*y%2^64:Nat):Int),()):=by
 show xV (x:Int) (y:Int)=_;unfold xV;dsimp only;rw[iQ hx,iQ hy,WX x,WX y];have hm:∀z:Nat,z%2^64<2^64:=fun z=>ca _ (by decide);have am:∀z:Nat,BS .u64 ((z%2^64:Nat):Int) 4294967295=((z%2^64%2^32:Nat):Int):=fun z=>iQ (hm z);have wm:∀a b:Nat,aa .u64 ((a:Int)*(b:Int))=((a*b%2^64:Nat):Int):=fun a b=>by rw[←ka];exact aAs _
 have wa:∀a b:Nat,aa .u64 ((a:Int)+(b:Int))=(((a+b)%2^64:Nat):Int):=fun a b=>by rw[←nt];exact aAs _
 simp only[wm,wa,WX,am];have e:=bBP (x0:=x%2^32) (x1:=x/2^32) (y0:=y%2^32) (y1:=y/2^32) (by omega) (by omega) (by omega) (by omega);rw[ja,ja]at e;rw[e]
theorem aWC{x y:Nat}(hx:x<2^64)(hy:y<2^64):dJ ((x:Int),(y:Int),())=some (Wi (x*y),()):=by
 show xW Bo.pre Bo.F (x:Int) (y:Int)=_;unfold xW;have p:=aBp hx hy;simp only[aFe p,aEg p,cond_true];rfl
def AM(f:Int)(a:Nat):Bool:=eF f a==0&&mF f a==0
theorem aNn{f:Int}(hf:Fm f)(a:Nat):(Cm f a==5||Cm f a==6)=AM f a:=by
 have hp:=Wu hf;have hne:(eF f a==AH f&&eF f a==0)=false:=by
  cases h:eF f a==AH f
  ·rfl
  ·have:=beq_iff_eq.1 h;rw[az,this];exact beq_eq_false_iff_ne.2 (by omega)
 unfold Cm AM;cases h1:eF f a==AH f<;>cases h2:eF f a==0<;>rw[h1,h2]at hne<;>cases mF f a==0<;>cases sF f a<;>cases mF f a/2^(fP f-2)!=0<;>first|rfl|cases hne
theorem bJU{f:Int}(hf:Fm f){a:Nat}(h:eF f a=0):
  aa .i64 (aa .i64 (aa .i64 (aa .i64 (aa .i64 (1:Int)-1)+(1-(fX f:Int)))-(fP f:Int))+1)=Ao f a:=by
 have h3:=E8 hf;have h4:=Ly hf;unfold Ao;rw[if_pos h,show aa .i64 (1:Int)=1 from rfl,Av (n:=(1:Int)-1) (by omega),Av (n:=(1:Int)-1+(1-(fX f:Int))) (by omega),Av (n:=(1:Int)-1+(1-(fX f:Int))-(fP f:Int)) (by omega),Av (by omega)];omega
theorem bJT{f:Int}(hf:Fm f){a:Nat}(h:eF f a≠0):
  aa .i64 (aa .i64 (aa .i64 (aa .i64 (aa .i64 (eF f a:Int)-1)+(1-(fX f:Int)))-(fP f:Int))+1)=Ao f a:=by
 have h3:=E8 hf;have h4:=Ly hf;have hE:=jE hf a;unfold Ao;rw[if_neg h,Av (n:=(eF f a:Int)) (by omega),Av (n:=(eF f a:Int)-1) (by omega),Av (n:=(eF f a:Int)-1+(1-(fX f:Int))) (by omega),Av (n:=(eF f a:Int)-1+(1-(fX f:Int))-(fP f:Int)) (by omega),Av (by omega)];omega
theorem bBI{f:Int}(hf:Fm f)(a:Nat):Ak .u64 (mF f a:Int) (Bj .u64 1 (aa .i64 ((fP f:Int)-1)))=((mF f a+2^(fP f-1):Nat):Int):=by
 have h1:=CV hf;have h3:=E8 hf;have hM:=Jp f a;have hPp:2^(fP f-1)<=2^52:=ai (by decide) (by omega);have e0:aa .i64 ((fP f:Int)-1)=((fP f-1:Nat):Int):=AJ _ (by omega);have e3:Bj .u64 1 ((fP f-1:Nat):Int)=((2^(fP f-1):Nat):Int):=Ph (by omega);rw[e0,e3];have:=O8 (a:=mF f a) (b:=1) (k:=fP f-1) hM (by omega);rwa [fx]at this
theorem aH3{f:Int}{a:Nat}(h:Ah f a=0):XH (f,Cq f,(a:Int),())=some ((Cm f a,sF f a,(Al f a:Int),Ao f a,()),0,()):=by
 obtain⟨hf,h0⟩:=Fs h;have ha:=WL h;show aH By.pre By.F Ck.pre Ck.F f (Cq f) a=_;unfold aH;have p1:=pX ha h;have p2:=aBA h;have h1:=CV hf;have h3:=E8 hf;have r1:(Cq f).2.1=(fP f:Int):=rfl;have r2:(Cq f).2.2.1=1-(fX f:Int):=rfl;have e0:decide (0<=aa .i64 ((fP f:Int)-1))=true:=by
  rw[AJ _ (by omega)];exact AF _
 simp only[Vb p1,U0 p1,aFk p2,aEm p2,cond_true,bne_self_eq_false,cond_false,r1,r2,e0];by_cases hz:eF f a=0
 ·rw[AR _ hz,cond_true,bJU hf hz];have hm:Al f a=mF f a:=by unfold Al;rw[if_pos hz]
  rw[hm]
 ·rw[AG _ hz,cond_false,bJT hf hz,bBI hf];have hm:Al f a=mF f a+2^(fP f-1):=by unfold Al;rw[if_neg hz]
  rw[hm]
theorem aH2{f:Int}{a:Nat}(ha:a<2^64)(h:Ah f a≠0):XH (f,Cq f,(a:Int),())=some ((0,false,0,0,()),Ah f a,()):=by
 show aH By.pre By.F Ck.pre Ck.F f (Cq f) a=_;unfold aH;have p1:=aBt ha h;have e:(Ah f a !=0)=true:=bne_iff_ne.2 h;simp only[Vb p1,U0 p1,cond_true,e]
def WF(f m:Int)(a b:Nat):Int×Int×Int×Unit:=bif nan f a||nan f b then((Co f:Int),(bif Bk f a||Bk f b then 1 else 0),0,())else bif(Ax f a&&AM f b)||(AM f a&&Ax f b)then((Co f:Int),1,0,())else bif Ax f a||Ax f b then((Dn f (!(sF f a==sF f b)):Int),0,0,())else bif AM f a||AM f b then((Bs f (!(sF f a==sF f b)):Int),0,0,())else(((AP f m (!(sF f a==sF f b)) (Al f a*Al f b) (Ao f a+Ao f b) false).1:Int),((AP f m (!(sF f a==sF f b)) (Al f a*Al f b) (Ao f a+Ao f b) false).2:Int),0,())
def Jr(f m:Int)(a b:Nat):Int×Int×Int×Unit:=if ¬Fm f then(0,0,2,())else if m<0∨m>5 then(0,0,3,())else if Ah f a≠0 then(0,0,Ah f a,())else if Ah f b≠0 then(0,0,Ah f b,())else WF f m a b
theorem EO{f:Int}{a:Nat}(h:AM f a=false):Al f a≠0:=by
 unfold AM at h;unfold Al;by_cases hz:eF f a=0
 ·rw[if_pos hz];intro hm;rw[hz,hm]at h;cases h
 ·rw[if_neg hz];have:=af (fP f-1);omega
theorem aWJ(f m:Int){a b:Nat}(ha:a<2^64)(hb:b<2^64):dV (f,m,(a:Int),(b:Int),())=some (Jr f m a b):=by
 show yA As.pre As.F TM.pre TM.F TN.pre TN.F Bp.pre Bp.F TO.pre TO.F CR.pre CR.F TP.pre TP.F B4.pre B4.F EG.pre EG.F Ch.pre Ch.F f m a b=_;unfold yA Jr;dsimp only;by_cases hf:¬Fm f
 ·have p0:=K9 hf;rw[if_pos hf];simp only[C2 p0,CZ p0,cond_true];rfl
 have hf:=ji.1 hf;have p0:=IZ hf;rw[if_neg (show ¬¬Fm f from fun h=>h hf)];simp only[C2 p0,CZ p0,cond_true,bne_self_eq_false,cond_false];by_cases hm:m<0∨m>5
 ·rw[if_pos hm];have:(decide (m<0)||decide (m>5))=true:=by rcases hm with h|h<;>simp[h]
  rw[this,cond_true]
 rw[if_neg hm];have hm':0<=m/\m<=5:=by omega
 have:(decide (m<0)||decide (m>5))=false:=by simp;omega
 rw[this,cond_false];by_cases hca:Ah f a≠0
 ·have p1:=aH2 ha hca;have e:(Ah f a !=0)=true:=bne_iff_ne.2 hca;rw[if_pos hca];simp only[vE p1,t8 p1,cond_true,e]
 have hca:=ji.1 hca;have p1:=aH3 hca;rw[if_neg (show ¬Ah f a≠0 from fun h=>h hca)];simp only[vE p1,t8 p1,cond_true,bne_self_eq_false,cond_false];by_cases hcb:Ah f b≠0
 ·have p2:=aH2 hb hcb;have e:(Ah f b !=0)=true:=bne_iff_ne.2 hcb;rw[if_pos hcb];simp only[vE p2,t8 p2,cond_true,e]
 have hcb:=ji.1 hcb;have p2:=aH3 hcb;rw[if_neg (show ¬Ah f b≠0 from fun h=>h hcb)];have n351:∀(c:Int) (s:Bool) (n e:Int),dS ((c,s,n,e,()),())=some ((c==1||c==0),()):=fun _ _ _ _=>rfl;have n352:∀(c:Int) (s:Bool) (n e:Int),dT ((c,s,n,e,()),())=some ((c==2||c==9),()):=fun _ _ _ _=>rfl;have n353:∀(c:Int) (s:Bool) (n e:Int),dU ((c,s,n,e,()),())=some ((c==5||c==6),()):=fun _ _ _ _=>rfl;have q1:=n351 (Cm f a) (sF f a) (Al f a:Int) (Ao f a);have q2:=n351 (Cm f b) (sF f b) (Al f b:Int) (Ao f b);have q3:=n352 (Cm f a) (sF f a) (Al f a:Int) (Ao f a);have q4:=n352 (Cm f b) (sF f b) (Al f b:Int) (Ao f b);have q5:=n353 (Cm f a) (sF f a) (Al f a:Int) (Ao f a);have q6:=n353 (Cm f b) (sF f b) (Al f b:Int) (Ao f b);rw[tC]at q1 q2;rw[aDE]at q3 q4;rw[aNn hf]at q5 q6;have s:=!(sF f a==sF f b);have p3:=pZ hf;have p4:=aBz hf (!(sF f a==sF f b));have p5:=cH hf (!(sF f a==sF f b));have ma:=HI hf a;have mb:=HI hf b;have xa:=LX hf a;have xb:=LX hf b;have hprod:Al f a*Al f b<2^128:=ao (Nat.mul_lt_mul'' ma mb) (by decide);have p6:=aWC (x:=Al f a) (y:=Al f b) (fq ma (by decide)) (fq mb (by decide));have p7:=cL hf hm' (!(sF f a==sF f b)) (Al f a*Al f b) hprod (Ao f a+Ao f b) (by omega) false (fun h=>by cases h);have ew:aa .i64 (Ao f a+Ao f b)=Ao f a+Ao f b:=Av (by omega);simp only[vE p2,t8 p2,cond_true,bne_self_eq_false,cond_false,aQE q1,aOt q1,aQE q2,aOt q2,aQF q3,aOu q3,aQF q4,aOu q4,aQG q5,aOv q5,aQG q6,aOv q6,vJ p3,uD p3,aFj p4,aEl p4,kV p5,jP p5,bDg p6,bAp p6,ew,kW p7,jQ p7,av,tD];unfold WF;cases h1:nan f a||nan f b
 ·simp only[cond_false];cases h2:Ax f a&&AM f b||AM f a&&Ax f b
  ·simp only[cond_false];cases h3:Ax f a||Ax f b
   ·simp only[cond_false];cases h4:AM f a||AM f b
    ·simp only[cond_false];simp only[Bool.or_eq_false_iff]at h4;rw[if_neg (Nat.mul_ne_zero (EO h4.1) (EO h4.2))]
    ·simp only[cond_true]
   ·simp only[cond_true]
  ·simp only[cond_true]
 ·simp only[cond_true];cases Bk f a||Bk f b<;>rfl
end VL
namespace VL
open Go Vx
theorem aZO(n:Nat):∃r,r*r<=n/\n<(r+1)*(r+1):=by
 induction n with
 |zero=>exact⟨0,by decide,by decide⟩
 |succ n ih=>
  obtain⟨r,h1,h2⟩:=ih;by_cases h:n+1<(r+1)*(r+1)
  ·exact⟨r,by omega,h⟩
  ·refine⟨r+1,by omega,?_⟩;have:(r+1+1)*(r+1+1)=(r+1)*(r+1)+2*(r+1)+1:=by
    rw[bw (r+1+1),ce (r+1) 1 (r+1)];omega
   omega
def uK(n:Nat):Nat:=Classical.choose (aZO n)
def aRe(f m:Int)(X:Nat)(E:Int):Nat×Nat:=if uK X*uK X=X then AP f m false (uK X) E false else AP f m false (2*uK X+1) (E-1) false
end VL
namespace VL
open Go Vx
def O7(f:Int)(l:List Nat):Bool:=l.all fun a=>Ah f a==0
theorem aDA{f:Int}(hf:Fm f)(a:Nat):Ah f a=0∨Ah f a=4:=by
 unfold Ah;rw[if_pos hf];split<;>simp
def Fr(f m:Int)(l:List Nat):Int:=if ¬Fm f then 2 else if m<0∨m>5 then 3 else bif O7 f l then 0 else 4
def aRf(f m:Int)(n:Nat)(e:Int):Nat×Nat:=if e%2=1 then aRe f m (n*2*2^200) ((e-1)/2-100)else aRe f m (n*2^200) (e/2-100)
def bI6(f m:Int)(a:Nat):Int×Int×Int×Unit:=if Fr f m [a]≠0 then(0,0,Fr f m [a],())else bif nan f a then((Co f:Int),(bif Bk f a then 1 else 0),0,())else bif sF f a&&!AM f a then((Co f:Int),1,0,())else bif AM f a||Ax f a then((a:Int),0,0,())else(((aRf f m (Al f a) (Ao f a)).1:Int),((aRf f m (Al f a) (Ao f a)).2:Int),0,())
end VL
namespace VL
open Go Vx
theorem aND{q r yn1 yn0 u u1:Nat}(hq:q*yn1+r=u):(2^32*r+u1<q*yn0)↔u*2^32+u1<q*(yn1*2^32+yn0):=by
 rw[bw,←bh,←hq,ce];omega
theorem aNA{q r yn1 yn0 u u1:Nat}(hq:q*yn1+r=u)(hr:r<2^32)(h0:yn0<2^32)(hu1:u1<2^32)(hlt:u<yn1*2^32+yn0):
  (decide ((q:Int)>=4294967296)||decide (aa .u64 ((q:Int)*(yn0:Int))>aa .u64 (aa .u64 ((4294967296:Int)*(r:Int))+(u1:Int))))=decide (u*2^32+u1<q*(yn1*2^32+yn0)):=by
 rcases ay q (2^32)with h|h
 ·have hm:q*yn0<=(2^32-1)*(2^32-1):=ic (by omega) (by omega);have e1:aa .u64 ((q:Int)*(yn0:Int))=((q*yn0:Nat):Int):=lW _ _ (by omega);have e2:aa .u64 ((4294967296:Int)*(r:Int))=((2^32*r:Nat):Int):=lW (2^32) r (by omega);have e3:aa .u64 (((2^32*r:Nat):Int)+(u1:Int))=((2^32*r+u1:Nat):Int):=Dz _ _ (by omega);have e4:decide ((q:Int)>=4294967296)=false:=decide_eq_false (by omega);rw[e1,e2,e3,e4,bc,fj,decide_eq_true_eq,decide_eq_true_eq,←aND hq];omega
 ·have e4:decide ((q:Int)>=4294967296)=true:=decide_eq_true (by omega);have hm:2^32*(yn1*2^32+yn0)<=q*(yn1*2^32+yn0):=aw _ h;rw[e4,av,decide_eq_true (by omega)]
theorem aNC{yn1 yn0 u u1:Nat}(hy:0<yn1)(hu1:u1<2^32):u*2^32+u1<(u/yn1+1)*(yn1*2^32+yn0):=by
 have h1:u<(u/yn1+1)*yn1:=by
  have:=Nat.lt_div_mul_add hy (a:=u);rw[ce,fx];exact this
 rw[bw,←bh];omega
theorem aNB{q r yn1 yn0 u u1:Nat}(hq:q*yn1+r=u)(h:u*2^32+u1<q*(yn1*2^32+yn0)):1<=q/\(q-1)*yn1+(r+yn1)=u:=by
 have h1:1<=q:=by
  rcases br q with h0|h0
  ·rw[h0,ej]at h;omega
  ·exact h0
 refine⟨h1,?_⟩;obtain⟨p,rfl⟩:∃p,q=p+1:=⟨q-1,by omega⟩
 rw[ce,fx]at hq;rw[show p+1-1=p by omega];omega
theorem aNz{q r yn1 yn0 u u1:Nat}(hq:q*yn1+r=u)(hr:2^32<=r)(h0:yn0<2^32)(hlt:u<yn1*2^32+yn0):q*(yn1*2^32+yn0)<=u*2^32+u1:=by
 have h1:q*yn1<2^32*yn1:=by omega
 have h2:q<2^32:=lb h1;have h3:q*yn0<=2^32*(2^32-1):=ic (by omega) (by omega);have h4:¬2^32*r+u1<q*yn0:=by omega
 rw[aND hq]at h4;omega
theorem tJ{a b q:Nat}(h1:q*b<=a)(h2:a<(q+1)*b):a/b=q:=Nat.div_eq_of_lt_le h1 h2
theorem aXx{u u1 yn0 yn1:Nat}(h0:yn0<2^32)(h1:yn1<2^32)(hy:0<yn1)(hu1:u1<2^32)(hlt:u<yn1*2^32+yn0)(u0 y s:Int):
  qU ((((u%yn1:Nat):Int),((u:Int),((u1:Int),((yn0:Int),((yn1:Int),(((u/yn1:Nat):Int),(u0,(y,(s,()))))))))),()) =
   some (.inl (((u:Int),((u1:Int),((yn0:Int),((yn1:Int),((((u*2^32+u1)/(yn1*2^32+yn0):Nat):Int),(u0,(y,(s,())))))))),())):=by
 have key:=CW (aPA B6.pre B6.F) (fun x=>x.1.2.2.2.2.2.1.toNat)
  (fun x=>∃q r:Nat,q*yn1+r=u/\r<2^32/\u*2^32+u1<(q+1)*(yn1*2^32+yn0)/\x=(((r:Int),((u:Int),((u1:Int),((yn0:Int),((yn1:Int),((q:Int),(u0,(y,(s,()))))))))),()))
  (fun _=>.inl (((u:Int),((u1:Int),((yn0:Int),((yn1:Int),((((u*2^32+u1)/(yn1*2^32+yn0):Nat):Int),(u0,(y,(s,())))))))),())) ?_ _
  ⟨u/yn1,u%yn1,by rw[be];exact cp u yn1,fq (ca _ hy) h1,aNC hy hu1,rfl⟩
 ·exact key
 intro L x hx hL;obtain⟨q,r,hq,hr,hup,rfl⟩:=hx;unfold Y1;have hqu:q<=u:=by
  have:=gj q hy;omega
 dsimp only;rw[aNA hq hr h0 hu1 hlt];by_cases hc:u*2^32+u1<q*(yn1*2^32+yn0)
 ·obtain⟨d1,d2⟩:=aNB hq hc;have e1:aa .u64 ((q:Int)-1)=((q-1:Nat):Int):=by rw[DO (by omega)];omega
  have e2:aa .u64 ((r:Int)+(yn1:Int))=((r+yn1:Nat):Int):=Dz _ _ (by omega);rw[decide_eq_true hc,cond_true,e1,e2];by_cases hb:2^32<=r+yn1
  ·have e3:decide (((r+yn1:Nat):Int)>=4294967296)=true:=decide_eq_true (by omega);rw[e3,cond_true];have:=aNz (u1:=u1) d2 hb h0 hlt;rw[tJ this (by rw[show q-1+1=q by omega];exact hc)]
  ·have e3:decide (((r+yn1:Nat):Int)>=4294967296)=false:=decide_eq_false (by omega);rw[e3,cond_false];exact hL _ ⟨q-1,r+yn1,d2,by omega,by rw[show q-1+1=q by omega];exact hc,rfl⟩ (by simp only[ab];omega)
 ·rw[decide_eq_false hc,cond_false,tJ (by omega) hup]
theorem aXy{u u1 yn0 yn1:Nat}(h0:yn0<2^32)(h1:yn1<2^32)(hy:0<yn1)(hu1:u1<2^32)(hlt:u<yn1*2^32+yn0)(q1 y s:Int):
  qV (((yn0:Int),(((u%yn1:Nat):Int),((yn1:Int),(q1,((u:Int),((u1:Int),(((u/yn1:Nat):Int),(y,(s,()))))))))),()) =
   some (.inl ((q1,((u:Int),((u1:Int),((((u*2^32+u1)/(yn1*2^32+yn0):Nat):Int),(y,(s,())))))),())):=by
 have key:=CW (aPB B6.pre B6.F) (fun x=>x.1.2.2.2.2.2.2.1.toNat)
  (fun x=>∃q r:Nat,q*yn1+r=u/\r<2^32/\u*2^32+u1<(q+1)*(yn1*2^32+yn0)/\x=(((yn0:Int),((r:Int),((yn1:Int),(q1,((u:Int),((u1:Int),((q:Int),(y,(s,()))))))))),()))
  (fun _=>.inl ((q1,((u:Int),((u1:Int),((((u*2^32+u1)/(yn1*2^32+yn0):Nat):Int),(y,(s,())))))),())) ?_ _
  ⟨u/yn1,u%yn1,by rw[be];exact cp u yn1,fq (ca _ hy) h1,aNC hy hu1,rfl⟩
 ·exact key
 intro L x hx hL;obtain⟨q,r,hq,hr,hup,rfl⟩:=hx;unfold Y2;have hqu:q<=u:=by
  have:=gj q hy;omega
 dsimp only;rw[aNA hq hr h0 hu1 hlt];by_cases hc:u*2^32+u1<q*(yn1*2^32+yn0)
 ·obtain⟨d1,d2⟩:=aNB hq hc;have e1:aa .u64 ((q:Int)-1)=((q-1:Nat):Int):=by rw[DO (by omega)];omega
  have e2:aa .u64 ((r:Int)+(yn1:Int))=((r+yn1:Nat):Int):=Dz _ _ (by omega);rw[decide_eq_true hc,cond_true,e1,e2];by_cases hb:2^32<=r+yn1
  ·have e3:decide (((r+yn1:Nat):Int)>=4294967296)=true:=decide_eq_true (by omega);rw[e3,cond_true];have:=aNz (u1:=u1) d2 hb h0 hlt;rw[tJ this (by rw[show q-1+1=q by omega];exact hc)]
  ·have e3:decide (((r+yn1:Nat):Int)>=4294967296)=false:=decide_eq_false (by omega);rw[e3,cond_false];exact hL _ ⟨q-1,r+yn1,d2,by omega,by rw[show q-1+1=q by omega];exact hc,rfl⟩ (by simp only[ab];omega)
 ·rw[decide_eq_false hc,cond_false,tJ (by omega) hup]
theorem aZx{A y u32 u1 u0 q1 r1 q0 r0:Nat}(hA:A=(u32*2^32+u1)*2^32+u0)(h1:u32*2^32+u1=q1*y+r1)(h2:r1*2^32+u0=q0*y+r0)(hr:r0<y):
  A/y=q1*2^32+q0/\A%y=r0:=by
 have e:A=(q1*2^32+q0)*y+r0:=by
  rw[hA,h1,ce,ce,ju];omega
 have hy:0<y:=by omega
 rw[e,be _ y];exact⟨by rw[kf hy,cg hr,cu],by rw[kg,bo hr]⟩
theorem bI4(U X:Nat):U*2^64+X=(U*2^32+X/2^32)*2^32+X%2^32:=by omega
theorem orL{a b k:Nat}(ha:a<2^k)(h:b*2^k+a<2^64):Ak .u64 ((b*2^k:Nat):Int) (a:Int)=((b*2^k+a:Nat):Int):=by
 rw[kT (by omega) (by omega)];congr 1;have:=Nat.two_pow_add_eq_or_of_lt ha b;rw[be b,←this]
theorem aHZ{n:Nat}(hn:n<2^64):dL ((n:Int),())=some (((64-Ae n:Nat):Int),()):=by
 show xY CB.pre CB.F (n:Int)=_;unfold xY;have p0:=aHM n hn;have hb:=CS hn;have e:aa .i64 ((64:Int)-(Ae n:Int))=((64-Ae n:Nat):Int):=by rw[Av (by omega)];omega
 simp only[aQB p0,aOq p0,cond_true,e]
theorem aH0{hi lo y:Nat}(hlo:lo<2^64)(hy:y<2^64)(hlt:hi<y):
  dM ((hi:Int),(lo:Int),(y:Int),())=some ((((hi*2^64+lo)/y:Nat):Int),(((hi*2^64+lo)%y:Nat):Int),()):=by
 have hy0:0<y:=by omega
 show xZ B6.pre B6.F qU qV (hi:Int) (lo:Int) (y:Int)=_;unfold xZ;have hbl:=CS hy;have hbl1:=Yn (n:=y) (by omega);have p0:=aHZ hy;generalize hs:64-Ae y=s at *
 have e9:aa .u64 (s:Int)=(s:Int):=JF _ (by omega);have e10:aa .u64 ((64:Int)-(s:Int))=((64-s:Nat):Int):=by rw[DO (by omega)];omega
 have g0:((y:Int)==0)=false:=AG _ (by omega);have g1:decide ((y:Int)<=(hi:Int))=false:=decide_eq_false (by omega);have g2:((y:Int)!=0)=true:=AL _ (by omega);dsimp only;simp only[g0,g1,g2,cond_false,cond_true,aQC p0,aOr p0,e9,e10];by_cases hh:hi=0
 ·subst hh;have e1:(((0:Nat):Int)==0)=true:=rfl;rw[e1,cond_true,lF _ _ hlo hy0,ej,cz];rfl
 have e1:((hi:Int)==0)=false:=AG _ hh;rw[e1,cond_false];have hp:=af s;have hyl:=Lr (n:=y) (by omega);have hyu:=FU y;have hY1:y*2^s<2^64:=by
  have:y*2^s<2^Ae y*2^s:=ck hyu hp;rw[←bi,show Ae y+s=64 by omega]at this;exact this
 have hY2:2^63<=y*2^s:=by
  have:2^(Ae y-1)*2^s<=y*2^s:=aw _ hyl;rw[←bi,show Ae y-1+s=63 by omega]at this;exact this
 have hH:hi*2^s<y*2^s:=ck hlt hp;have hlos:lo/2^(64-s)<2^s:=by
  rw[bv (af _),←bi,show s+(64-s)=64 by omega];exact hlo
 have e264:2^64=2^s*2^(64-s):=by rw[←bi];congr 1;omega
 have hU:hi*2^s+lo/2^(64-s)<y*2^s:=by
  have h1:(hi+1)*2^s<=y*2^s:=aw _ hlt;rw[ce,fx]at h1;omega
 have hsc:(hi*2^64+lo)*2^s=(hi*2^s+lo/2^(64-s))*2^64+lo*2^s%2^64:=by
  have h1:lo*2^s=lo*2^s/2^64*2^64+lo*2^s%2^64:=by
   have:=cp (lo*2^s) (2^64);omega
  have h2:lo*2^s/2^64=lo/2^(64-s):=by
   rw[e264,be lo,Nat.mul_div_mul_left _ _ hp]
  rw[h2]at h1;rw[ce,ce,ju];omega
 have s1:=HP hi s (by omega);have s2:=DM lo (64-s) (by omega);have s3:=HP y s (by omega);have s4:=HP lo s (by omega);rw[bo (by omega)]at s1 s3;have hY32:y*2^s/2^32*2^32+y*2^s%2^32=y*2^s:=by omega
 have hdiv:(hi*2^64+lo)*2^s/(y*2^s)=(hi*2^64+lo)/y:=Nat.mul_div_mul_right _ _ hp;have hmod:(hi*2^64+lo)*2^s%(y*2^s)=(hi*2^64+lo)%y*2^s:=Nat.mul_mod_mul_right _ _ _;have hX:lo*2^s%2^64<2^64:=ca _ (by decide);have s5:=orL (b:=hi) hlos (by omega);rw[s1,s2,s3,s4,s5];have hq64:(hi*2^64+lo)/y<2^64:=by
  rw[bv hy0];have:(hi+1)*2^64<=y*2^64:=aw _ hlt;omega
 rw[hsc]at hdiv hmod;generalize hi*2^s+lo/2^(64-s)=U at *
 generalize lo*2^s%2^64=X at *
 generalize hYd:y*2^s=Y at *
 rw[WX Y,WX X,iQ hY1,iQ hX];have hYY1:Y/2^32<2^32:=by omega
 have hYY0:Y%2^32<2^32:=by omega
 have hYp:0<Y/2^32:=by omega
 have g3:(((Y/2^32:Nat):Int)!=0)=true:=AL _ (by omega);have hrem:∀V:Nat,V<2^64->aa .u64 ((V:Int)-aa .u64 (((V/(Y/2^32):Nat):Int)*((Y/2^32:Nat):Int)))=((V%(Y/2^32):Nat):Int):=fun V hV=>by
  have hdm:=cp V (Y/2^32);rw[be]at hdm;rw[lW _ _ (by omega)];generalize V/(Y/2^32)*(Y/2^32)=z at *
  generalize V%(Y/2^32)=w at *
  rw[DO (by omega)];omega
 rw[g3,cond_true,lF _ _ (by omega) hYp,hrem U (by omega)];have w1:=aXx hYY0 hYY1 hYp (show X/2^32<2^32 by omega) (u:=U) (by omega) ((X%2^32:Nat):Int) (Y:Int) (s:Int);rw[w1,hY32];show(bif(((Y/2^32:Nat):Int)!=0)then _ else _)=_;rw[g3,cond_true];dsimp only;have hd1:=cp (U*2^32+X/2^32) Y;have hr1:=ca (U*2^32+X/2^32) (show 0<Y by omega);have hq1:(U*2^32+X/2^32)/Y<2^32:=by
  rw[bv (by omega)];have:(U+1)*2^32<=Y*2^32:=aw _ hU;omega
 have hrem2:∀a b c q r:Nat,a*2^32+b=Y*q+r->r<Y->aa .u64 (aa .u64 (aa .u64 ((a:Int)*4294967296)+(b:Int))-aa .u64 ((q:Int)*(Y:Int)))=(r:Int):=fun a b _ q r h1 h2=>by
  have e:(q:Int)*(Y:Int)=((Y*q:Nat):Int):=by rw[ka,Int.mul_comm]
  rw[e];generalize Y*q=z at *
  show((((a:Int)*4294967296)%18446744073709551616+(b:Int))%18446744073709551616-((z:Int)%18446744073709551616))%18446744073709551616=(r:Int)
  omega
 rw[hrem2 U (X/2^32) 0 _ _ hd1.symm hr1];clear w1;obtain⟨q1,hQ1⟩:∃q,q=(U*2^32+X/2^32)/Y:=⟨_,rfl⟩
 obtain⟨r1,hR1⟩:∃q,q=(U*2^32+X/2^32)%Y:=⟨_,rfl⟩
 rw[←hQ1]at hd1 hq1;rw[←hR1]at hd1 hr1;rw[←hQ1,←hR1];rw[lF _ _ (by omega) hYp,hrem r1 (by omega)];have w2:=aXy hYY0 hYY1 hYp (show X%2^32<2^32 by omega) (u:=r1) (by omega) (q1:Int) (Y:Int) (s:Int);rw[w2,hY32];show some (_,(_,()))=_;dsimp only;have hd2:=cp (r1*2^32+X%2^32) Y;have hr2:=ca (r1*2^32+X%2^32) (show 0<Y by omega);have hq2:(r1*2^32+X%2^32)/Y<2^32:=by
  rw[bv (by omega)];have:(r1+1)*2^32<=Y*2^32:=aw _ hr1;omega
 rw[hrem2 r1 (X%2^32) 0 _ _ hd2.symm hr2];obtain⟨q0,hQ0⟩:∃q,q=(r1*2^32+X%2^32)/Y:=⟨_,rfl⟩
 obtain⟨r0,hR0⟩:∃q,q=(r1*2^32+X%2^32)%Y:=⟨_,rfl⟩
 rw[←hQ0]at hd2 hq2;rw[←hR0]at hd2 hr2;rw[←hQ0,←hR0];obtain⟨f1,f2⟩:=aZx (A:=U*2^64+X) (y:=Y) (u32:=U) (u1:=X/2^32) (u0:=X%2^32) (bI4 U X) (by rw[be q1];exact hd1.symm) (by rw[be q0];exact hd2.symm) hr2;rw[hdiv]at f1;rw[hmod]at f2;have e5:aa .u64 (aa .u64 ((q1:Int)*4294967296)+(q0:Int))=(((hi*2^64+lo)/y:Nat):Int):=by
  rw[f1];show((((q1:Int)*4294967296)%18446744073709551616)+(q0:Int))%18446744073709551616=_;omega
 have e6:AQ .u64 (r0:Int) (s:Int)=(((hi*2^64+lo)%y:Nat):Int):=by
  rw[DM _ _ (by omega),←f2,jd _ hp]
 rw[e5,e6]
end VL
namespace VL
open Go Vx
theorem O4{D Y:Type}{Φ:{R:Type}->(D->Option R)->(Y->Option R)->D->Option R}(hp:Bt Φ)(μ:D->Nat)(I:D->Prop)(Q:Y->Prop)
  (h:∀(L:D->Option Y) x,I x->(∀x',I x'->μ x'<μ x->∃y,L x'=some y/\Q y)->∃y,Φ L some x=some y/\Q y):∀x,I x->∃y,Bn (fun L=>Φ L some) x=some y/\Q y:=by
 have key:∀m x,I x->μ x<m->∃y,C0 (fun L=>Φ L some) m x=some y/\Q y:=by
  intro m;induction m with
  |zero=>intro x _ h;omega
  |succ m ih=>
   intro x hx hm;simp only[C0];exact h _ x hx fun x' hx' hlt=>ih x' hx' (by omega)
 intro x hx;obtain⟨y,hy,hQ⟩:=key (μ x+1) x hx (by omega);exact⟨y,aO8 hp hy,hQ⟩
theorem LP(i:Nat):(2^64)^(i+1)=(2^64)^i*2^64:=dj ..
theorem W3{A us C:List Nat}{i:Nat}(h:i<us.length):(Wd (A++us++C)).getD (A.length+i) 0=((us.getD i 0:Nat):Int):=by
 rw[BN];congr 1;rw[al,al,fg,cj (by omega),jg,List.getElem?_append_left h]
theorem aAq{A us C:List Nat}{i v:Nat}(h:i<us.length):(Wd (A++us++C)).set (A.length+i) (v:Int)=Wd (A++us.set i v++C):=by
 rw[Dt];congr 1;rw[fg,gd _ _ (by omega),jg,List.set_append_left _ _ h,←fg]
theorem tI{out us:List Nat}{i:Nat}(hol:out.length=i)(hi:i<us.length):(out++us.drop i).getD i 0=us.getD i 0:=by
 rw[al,al,cj (by omega),hol,gy,du,cu]
theorem bBR{x y c:Nat}(hx:x<2^64)(hy:y<2^64)(hc:c<2^64):
  x*y+c=2^64*(x*y/2^64+(x*y%2^64+c)/2^64)+(x*y%2^64+c)%2^64/\x*y/2^64+(x*y%2^64+c)/2^64<2^64:=by
 have:x*y<=(2^64-1)*(2^64-1):=ic (by omega) (by omega);generalize x*y=z at *
 omega
theorem aRz{d l b:Nat}(hd:d<2^64)(hl:l<2^64)(hb:b<=1):
  (d+2^64-l-b)%2^64+l+b=d+2^64*(if d<l+b then 1 else 0)/\(d+2^64-l-b)%2^64<2^64/\(if d<l+b then 1 else 0)<=1:=by
 split<;>omega
theorem bJz{P U V O x y c b d o l c' b':Nat}(h:O+x*V=U+P*(c+b))(h1:x*y+c=2^64*c'+l)(h2:o+l+b=d+2^64*b'):
  O+P*o+x*(V+P*y)=U+P*d+P*2^64*(c'+b'):=by
 have h3:P*(c+b+o+x*y)=P*(d+2^64*(c'+b')):=by
  congr 1;omega
 rw[bw P,bw P,bw P d,←bh P (2^64)]at h3;rw[bw x,gc x P y];omega
theorem aWE(A us C v:List Nat)(hlen:us.length=v.length+1)(hu:∀x∈us,x<2^64)(hv:∀x∈v,x<2^64)(hn:v.length<=1000000){x:Nat}(hx:x<2^64):
  ∃out:List Nat,out.length=us.length/\(∀z∈out,z<2^64)/\nv (2^64) out+x*nv (2^64) v=nv (2^64) us+(if nv (2^64) us<x*nv (2^64) v then(2^64)^us.length else 0) /\
   dN ((Wd (A++us++C),(A.length,us.length)),(Wd v,((x:Int),())))=some (Wd (A++out++C),decide (nv (2^64) us<x*nv (2^64) v),()):=by
 show ∃out:List Nat,_/\_/\_/\x5 Bo.pre Bo.F AC.pre AC.F BE.pre BE.F qW (Wd (A++us++C),(A.length,us.length)) (Wd v) (x:Int)=_;have key:=O4 (aPC Bo.pre Bo.F AC.pre AC.F BE.pre BE.F) (fun s=>v.length-s.1.2.2.2.1.toNat)
  (fun s=>∃(i:Nat) (out:List Nat) (c b:Nat),i<=v.length/\out.length=i/\(∀z∈out,z<2^64)/\c<2^64/\b<=1/\nv (2^64) out+x*nv (2^64) (v.take i)=nv (2^64) (us.take i)+(2^64)^i*(c+b) /\
   s=(((v.length:Int),(Wd v,((x:Int),((i:Int),(Wd v,((A.length,us.length),((c:Int),((b:Int),())))))))),(Wd (A++(out++us.drop i)++C),())))
  (fun y=>∃(out:List Nat) (c b:Nat),out.length=v.length/\(∀z∈out,z<2^64)/\c<2^64/\b<=1/\nv (2^64) out+x*nv (2^64) v=nv (2^64) (us.take v.length)+(2^64)^v.length*(c+b) /\
   y=.inl ((Wd v,((A.length,us.length),((c:Int),((b:Int),())))),(Wd (A++(out++us.drop v.length)++C),()))) ?_
  (((v.length:Int),(Wd v,((x:Int),((0:Int),(Wd v,((A.length,us.length),((0:Int),((0:Int),())))))))),(Wd (A++us++C),()))
  ⟨0,[],0,0,dp _,rfl,(fun z hz=>by simp at hz),by decide,by decide,by simp[nv],rfl⟩
 ·obtain⟨y,hy,out,c,b,k1,k2,k3,k4,k5,rfl⟩:=key;have hy:qW (((v.length:Int),(Wd v,((x:Int),((0:Int),(Wd v,((A.length,us.length),((0:Int),((0:Int),())))))))),(Wd (A++us++C),()))=_:=hy;have hlt:v.length<us.length:=by omega
  have hwl:(out++us.drop v.length).length=us.length:=by simp[k1];omega
  have hdg:=tI (us:=us) k1 hlt;have hg:=W3 (A:=A) (C:=C) (us:=out++us.drop v.length) (i:=v.length) (by omega);rw[hdg]at hg;have hst:=fun z=>aAq (A:=A) (C:=C) (us:=out++us.drop v.length) (i:=v.length) (v:=z) (by omega);have hsd:=fun z=>lL (a:=us) (v:=z) k1 hlt;have hd:=B3 (by decide) hu v.length;obtain⟨w1,w2,w3⟩:=aRz (d:=us.getD v.length 0) (l:=c) (b:=b) hd k3 k4;have q1:=lR (us.getD v.length 0) c b k4 hd k3;have q2:=lS ((us.getD v.length 0:Nat):Int) (c:Int) b k4;have hnx:=Da (2^64) us v.length;rw[cm (show us.length<=v.length+1 by omega)]at hnx;have hnil:us.drop (v.length+1)=[]:=jl (by omega);unfold x5;dsimp only;rw[Az,hy];have e0:decide ((0:Int)<=(v.length:Int))=true:=decide_eq_true (by omega);have e1:decide ((v.length:Int)<(us.length:Int))=true:=decide_eq_true (by omega);dsimp only[Bi,Bg];simp only[e0,e1,ax,cond_true,Az,ab,hg,q2,q1,hst,hsd,hnil,dl];generalize us.getD v.length 0=d at *
  generalize(d+2^64-c-b)%2^64=o at *
  have hO:nv (2^64) (out++[o])+x*nv (2^64) v=nv (2^64) us+(2^64)^us.length*(if d<c+b then 1 else 0):=by
   rw[LI,k1,hnx,hlen,LP];have h3:(2^64)^v.length*(o+c+b)=(2^64)^v.length*(d+2^64*(if d<c+b then 1 else 0)):=by rw[w1]
   rw[bw,bw,bw _ d,←bh _ (2^64)]at h3;rw[bw]at k5;omega
  have hod:=I8 k2 w2;have hOl:=CX (B:=2^64) (by decide) (out++[o]) hod;have hol:(out++[o]).length=us.length:=by simp[k1];omega
  rw[hol]at hOl;by_cases hb:d<c+b
  ·rw[if_pos hb,fy]at hO;have hlt2:nv (2^64) us<x*nv (2^64) v:=by omega
   refine⟨out++[o],hol,hod,by rw[if_pos hlt2];exact hO,?_⟩;rw[if_pos hb,decide_eq_true hlt2];rfl
  ·rw[if_neg hb,dz,cu]at hO;have hlt2:¬nv (2^64) us<x*nv (2^64) v:=by omega
   refine⟨out++[o],hol,hod,by rw[if_neg hlt2,cu];exact hO,?_⟩;rw[if_neg hb,decide_eq_false hlt2];rfl
 intro L s hs hL;obtain⟨i,out,c,b,hi,hol,hod,hc,hb,hinv,rfl⟩:=hs;unfold Y3;rcases ay i v.length with hlt|hge
 ·have hy:=B3 (by decide) hv i;have hd:=B3 (by decide) hu i;have hnv:=Da (2^64) v i;have hnu:=Da (2^64) us i;have hwl:(out++us.drop i).length=us.length:=by simp[hol];omega
  have hdg:=tI (us:=us) hol (by omega);have hg:=W3 (A:=A) (C:=C) (us:=out++us.drop i) (i:=i) (by omega);rw[hdg]at hg;have hst:=fun z=>aAq (A:=A) (C:=C) (us:=out++us.drop i) (i:=i) (v:=z) (by omega);have hsd:=fun z=>lL (a:=us) (v:=z) hol (by omega);have hgv:(Wd v).getD i 0=((v.getD i 0:Nat):Int):=BN v i;generalize v.getD i 0=y at *
  generalize us.getD i 0=d at *
  have p0:=aBp hx hy;obtain⟨m1,m2⟩:=bBR hx hy hc;have q1:=Yj (x*y%2^64) c 0;have q2:=Yk ((x*y%2^64:Nat):Int) (c:Int) 0 (by decide);rw[cu]at q1;have hl:(x*y%2^64+c)%2^64<2^64:=ca _ (by decide);have e5:=Dz (x*y/2^64) ((x*y%2^64+c)/2^64) m2;generalize x*y/2^64+(x*y%2^64+c)/2^64=c' at *
  generalize hlq:(x*y%2^64+c)%2^64=l at *
  obtain⟨w1,w2,w3⟩:=aRz (d:=d) (l:=l) (b:=b) hd hl hb;have r1:=lR d l b hb hd hl;have r2:=lS (d:Int) (l:Int) b hb;generalize(d+2^64-l-b)%2^64=o at *
  generalize(if d<l+b then 1 else 0)=b' at *
  have hstep:=bJz (P:=(2^64)^i) hinv m1 w1;have e0:decide ((i:Int)<(v.length:Int))=true:=decide_eq_true (by omega);have e1:decide ((0:Int)<=(i:Int))=true:=decide_eq_true (by omega);have e2:decide ((i:Int)<((us.length:Nat):Int))=true:=decide_eq_true (by omega);have e3:aa .i64 ((i:Int)+1)=((i+1:Nat):Int):=by rw[Av (by omega)];omega
  have z0:((0:Nat):Int)=0:=rfl;rw[z0]at q1 q2;dsimp only;simp only[e0,e1,e2,e3,cond_true,ax,Az,ab,hgv,hg,aFe p0,aEg p0,q1,q2,r1,r2,e5,hst,hsd];refine hL _ ⟨i+1,out++[o],c',b',by omega,by simp[hol],I8 hod w2,m2,w3,?_,rfl⟩ (by simp only[ab];omega);rw[LI,hol,hnv,hnu,LP];exact hstep
 ·have e:i=v.length:=by omega
  subst e;have e0:decide ((v.length:Int)<(v.length:Int))=false:=decide_eq_false (by omega);simp only[e0,cond_false];rw[dq]at hinv;exact⟨_,rfl,out,c,b,hol,hod,hc,hb,hinv,rfl⟩
end VL
namespace VL
open Go Vx
theorem aMT{P U V O y c d:Nat}(h:O+P*c=U+V):O+P*((d+y+c)%2^64)+P*2^64*((d+y+c)/2^64)=U+P*d+(V+P*y):=by
 have h1:P*((d+y+c)%2^64+2^64*((d+y+c)/2^64))=P*(d+y+c):=by rw[ja]
 rw[bw,bw P (d+y),bw,←bh P (2^64)]at h1;omega
theorem aWF(A us C v:List Nat)(hlen:us.length=v.length+1)(hu:∀x∈us,x<2^64)(hv:∀x∈v,x<2^64)(hn:v.length<=1000000):
  ∃out:List Nat,out.length=us.length/\(∀z∈out,z<2^64)/\nv (2^64) out+(if(2^64)^us.length<=nv (2^64) us+nv (2^64) v then(2^64)^us.length else 0)=nv (2^64) us+nv (2^64) v /\
   dO ((Wd (A++us++C),(A.length,us.length)),(Wd v,()))=some (Wd (A++out++C),decide ((2^64)^us.length<=nv (2^64) us+nv (2^64) v),()):=by
 show ∃out:List Nat,_/\_/\_/\x6 AC.pre AC.F qX (Wd (A++us++C),(A.length,us.length)) (Wd v)=_;have key:=O4 (aPD AC.pre AC.F) (fun s=>v.length-s.1.2.2.1.toNat)
  (fun s=>∃(i:Nat) (out:List Nat) (c:Nat),i<=v.length/\out.length=i/\(∀z∈out,z<2^64)/\c<=1/\nv (2^64) out+(2^64)^i*c=nv (2^64) (us.take i)+nv (2^64) (v.take i) /\
   s=(((v.length:Int),(Wd v,((i:Int),(Wd v,((A.length,us.length),((c:Int),())))))),(Wd (A++(out++us.drop i)++C),())))
  (fun y=>∃(out:List Nat) (c:Nat),out.length=v.length/\(∀z∈out,z<2^64)/\c<=1/\nv (2^64) out+(2^64)^v.length*c=nv (2^64) (us.take v.length)+nv (2^64) v /\
   y=.inl ((Wd v,((A.length,us.length),((c:Int),()))),(Wd (A++(out++us.drop v.length)++C),()))) ?_
  (((v.length:Int),(Wd v,((0:Int),(Wd v,((A.length,us.length),((0:Int),())))))),(Wd (A++us++C),()))
  ⟨0,[],0,dp _,rfl,(fun z hz=>by simp at hz),by decide,by simp[nv],rfl⟩
 ·obtain⟨y,hy,out,c,k1,k2,k3,k5,rfl⟩:=key;have hy:qX (((v.length:Int),(Wd v,((0:Int),(Wd v,((A.length,us.length),((0:Int),())))))),(Wd (A++us++C),()))=_:=hy;have hlt:v.length<us.length:=by omega
  have hwl:(out++us.drop v.length).length=us.length:=by simp[k1];omega
  have hdg:=tI (us:=us) k1 hlt;have hg:=W3 (A:=A) (C:=C) (us:=out++us.drop v.length) (i:=v.length) (by omega);rw[hdg]at hg;have hst:=fun z=>aAq (A:=A) (C:=C) (us:=out++us.drop v.length) (i:=v.length) (v:=z) (by omega);have hsd:=fun z=>lL (a:=us) (v:=z) k1 hlt;have hd:=B3 (by decide) hu v.length;have q1:=Yj (us.getD v.length 0) 0 c;have q2:=Yk ((us.getD v.length 0:Nat):Int) ((0:Nat):Int) c k3;have z0:((0:Nat):Int)=0:=rfl;rw[z0]at q1 q2;have hnx:=Da (2^64) us v.length;rw[cm (show us.length<=v.length+1 by omega)]at hnx;have hnil:us.drop (v.length+1)=[]:=jl (by omega);unfold x6;dsimp only;rw[Az,hy];have e0:decide ((0:Int)<=(v.length:Int))=true:=decide_eq_true (by omega);have e1:decide ((v.length:Int)<(us.length:Int))=true:=decide_eq_true (by omega);dsimp only[Bi,Bg];simp only[e0,e1,ax,cond_true,Az,ab,hg,q2,q1,hst,hsd,hnil,dl];have hstep:=aMT (P:=(2^64)^v.length) (y:=0) (d:=us.getD v.length 0) k5;generalize us.getD v.length 0=d at *
  have ho:(d+0+c)%2^64<2^64:=ca _ (by decide);have hO:nv (2^64) (out++[(d+0+c)%2^64])+(2^64)^us.length*((d+0+c)/2^64)=nv (2^64) us+nv (2^64) v:=by
   rw[LI,k1,hnx,hlen,LP];rw[dz]at hstep;omega
  have hod:=I8 k2 ho;have hOl:=CX (B:=2^64) (by decide) (out++[(d+0+c)%2^64]) hod;have hol:(out++[(d+0+c)%2^64]).length=us.length:=by simp[k1];omega
  rw[hol]at hOl;by_cases hb:(d+0+c)/2^64=1
  ·rw[hb,fy]at hO;have hlt2:(2^64)^us.length<=nv (2^64) us+nv (2^64) v:=by omega
   refine⟨out++[(d+0+c)%2^64],hol,hod,by rw[if_pos hlt2];exact hO,?_⟩;rw[hb,decide_eq_true hlt2];rfl
  ·have hb0:(d+0+c)/2^64=0:=by omega
   rw[hb0,dz,cu]at hO;have hlt2:¬(2^64)^us.length<=nv (2^64) us+nv (2^64) v:=by omega
   refine⟨out++[(d+0+c)%2^64],hol,hod,by rw[if_neg hlt2,cu];exact hO,?_⟩;rw[hb0,decide_eq_false hlt2];rfl
 intro L s hs hL;obtain⟨i,out,c,hi,hol,hod,hc,hinv,rfl⟩:=hs;unfold Y4;rcases ay i v.length with hlt|hge
 ·have hy:=B3 (by decide) hv i;have hd:=B3 (by decide) hu i;have hnv:=Da (2^64) v i;have hnu:=Da (2^64) us i;have hwl:(out++us.drop i).length=us.length:=by simp[hol];omega
  have hdg:=tI (us:=us) hol (by omega);have hg:=W3 (A:=A) (C:=C) (us:=out++us.drop i) (i:=i) (by omega);rw[hdg]at hg;have hst:=fun z=>aAq (A:=A) (C:=C) (us:=out++us.drop i) (i:=i) (v:=z) (by omega);have hsd:=fun z=>lL (a:=us) (v:=z) hol (by omega);have hgv:(Wd v).getD i 0=((v.getD i 0:Nat):Int):=BN v i;generalize v.getD i 0=y at *
  generalize us.getD i 0=d at *
  have q1:=Yj d y c;have q2:=Yk (d:Int) (y:Int) c hc;have ho:(d+y+c)%2^64<2^64:=ca _ (by decide);have hc':(d+y+c)/2^64<=1:=by omega
  have hstep:=aMT (P:=(2^64)^i) (y:=y) (d:=d) hinv;have e0:decide ((i:Int)<(v.length:Int))=true:=decide_eq_true (by omega);have e1:decide ((0:Int)<=(i:Int))=true:=decide_eq_true (by omega);have e2:decide ((i:Int)<((us.length:Nat):Int))=true:=decide_eq_true (by omega);have e3:aa .i64 ((i:Int)+1)=((i+1:Nat):Int):=by rw[Av (by omega)];omega
  dsimp only;simp only[e0,e1,e2,e3,cond_true,ax,Az,ab,hgv,hg,q1,q2,hst,hsd];refine hL _ ⟨i+1,out++[(d+y+c)%2^64],(d+y+c)/2^64,by omega,by simp[hol],I8 hod ho,hc',?_,rfl⟩ (by simp only[ab];omega);rw[LI,hol,hnv,hnu,LP];exact hstep
 ·have e:i=v.length:=by omega
  subst e;have e0:decide ((v.length:Int)<(v.length:Int))=false:=decide_eq_false (by omega);simp only[e0,cond_false];rw[dq]at hinv;exact⟨_,rfl,out,c,hol,hod,hc,hinv,rfl⟩
theorem aXA(A C v:List Nat){k U:Nat}(hk:k=v.length+1)(hv:∀x∈v,x<2^64)(hn:v.length<=1000000)(us:List Nat)(g:Nat)(hlen:us.length=k)(hu:∀x∈us,x<2^64)(hg:g<2^64)
  (hinv:nv (2^64) us+g*nv (2^64) v=U+(2^64)^k) :
  ∃out:List Nat,out.length=k/\(∀z∈out,z<2^64)/\nv (2^64) out=U%nv (2^64) v /\
   gK ((((g:Int),((A.length,k),(Wd v,()))),(Wd (A++us++C),())):Gq.D)=some (.inl ((((U/nv (2^64) v:Nat):Int),()),(Wd (A++out++C),()))):=by
 have key:=O4 (aPE Bq.pre Bq.F Bo.pre Bo.F AC.pre AC.F Ct.pre Ct.F C6.pre C6.F) (fun s=>s.1.1.toNat)
  (fun s=>∃(us:List Nat) (g:Nat),us.length=k/\(∀x∈us,x<2^64)/\g<2^64/\nv (2^64) us+g*nv (2^64) v=U+(2^64)^k /\
   s=(((g:Int),((A.length,k),(Wd v,()))),(Wd (A++us++C),())))
  (fun y=>∃out:List Nat,out.length=k/\(∀z∈out,z<2^64)/\nv (2^64) out=U%nv (2^64) v/\y=.inl ((((U/nv (2^64) v:Nat):Int),()),(Wd (A++out++C),()))) ?_
  (((g:Int),((A.length,k),(Wd v,()))),(Wd (A++us++C),())) ⟨us,g,hlen,hu,hg,hinv,rfl⟩
 ·obtain⟨y,hy,out,k1,k2,k3,rfl⟩:=key;exact⟨out,k1,k2,k3,hy⟩
 clear hinv hg hu hlen us g;intro L s hs hL;obtain⟨us,g,hlen,hu,hg,hinv,rfl⟩:=hs;unfold Y5;obtain⟨out,o1,o2,o3,o4⟩:=aWF A us C v (by omega) hu hv hn;rw[hlen]at o1 o3 o4;have hul:=CX (B:=2^64) (by decide) us hu;rw[hlen]at hul;have hg1:1<=g:=by
  rcases br g with h|h
  ·rw[h,ej]at hinv;omega
  ·exact h
 obtain⟨p,rfl⟩:∃p,g=p+1:=⟨g-1,by omega⟩
 rw[ce,fx]at hinv;have e1:aa .u64 (((p+1:Nat):Int)-1)=(p:Int):=by rw[DO (by omega)];omega
 dsimp only;rw[bDj o4,bAs o4,cond_true,e1];dsimp only;by_cases hc:(2^64)^k<=nv (2^64) us+nv (2^64) v
 ·rw[if_pos hc]at o3;rw[decide_eq_true hc,cond_true];have hV:nv (2^64) out<nv (2^64) v:=by omega
  have hd:U=nv (2^64) v*p+nv (2^64) out:=by rw[be];omega
  have hpos:0<nv (2^64) v:=by omega
  refine⟨_,rfl,out,o1,o2,?_,?_⟩
  ·rw[hd,kg,bo hV]
  ·rw[hd,kf hpos,cg hV,cu]
 ·rw[if_neg hc]at o3;rw[decide_eq_false hc,cond_false];exact hL _ ⟨out,p,o1,o2,by omega,by omega,rfl⟩ (by simp only[ab];omega)
theorem bBo{h l r w:Nat}(hl:l<2^64)(hw:w<2^64):(decide ((h:Int)<(r:Int))||(((h:Int)==(r:Int))&&decide ((l:Int)<=(w:Int))))=decide (h*2^64+l<=r*2^64+w):=by
 rw[fj,dv,ah,decide_eq_true_eq,decide_eq_true_eq,decide_eq_true_eq,beq_iff_eq];omega
theorem aZK{U V P v1 v2 u2 u0 g rest:Nat}(hP:0<P)(hV:(v1*2^64+v2)*P<=V)(hU:U<(u2*2^64+u0+1)*P)(hg:g*v1+rest=u2)(h:¬g*v2<=rest*2^64+u0):U/V<g:=by
 rcases ay (U/V) g with h1|h1
 ·exact h1
 ·exfalso;have h2:g*V<=U:=ga (aw V h1) (lk U V);have h3:g*((v1*2^64+v2)*P)<=g*V:=cd g hV;rw[←bh]at h3;have h4:=lb (bl (ga h3 h2) hU);rw[bw,←bh]at h4;rw[←hg,ce]at h4;omega
theorem aZL{U V P v1 v2 u2 u0:Nat}(hP:0<P)(h1:0<v1)(hV:(v1*2^64+v2)*P<=V)(hU:U<(u2*2^64+u0+1)*P)(hu0:u0<2^64):U/V<=u2/v1:=by
 rw[go h1];have h2:U/V*V<=U:=lk U V;have h3:U/V*((v1*2^64+v2)*P)<=U/V*V:=cd _ hV;rw[←bh]at h3;have h4:=lb (bl (ga h3 h2) hU);rw[bw,←bh]at h4;omega
theorem aTn{v:List Nat}{n:Nat}(hn:v.length=n+2):(v.getD (n+1) 0*2^64+v.getD n 0)*(2^64)^n<=nv (2^64) v:=by
 have h1:=Da (2^64) v n;have h2:=Da (2^64) v (n+1);rw[cm (by omega)]at h2;rw[h2,h1,LP,ce,be _ ((2^64)^n),be (v.getD n 0),bh,be (2^64) (v.getD (n+1) 0)];omega
theorem aTf{u:List Nat}{n:Nat}(hu:∀x∈u,x<2^64)(hn:u.length=n+3):nv (2^64) u<((u.getD (n+2) 0*2^64+u.getD (n+1) 0)*2^64+u.getD n 0+1)*(2^64)^n:=by
 have h0:=kR hu n;have h1:=Da (2^64) u n;have h2:=Da (2^64) u (n+1);have h3:=Da (2^64) u (n+2);rw[cm (show u.length<=n+2+1 by omega)]at h3;rw[h3,h2,h1];rw[show(2^64)^(n+2)=(2^64)^n*2^64*2^64 by rw[show n+2=n+1+1 by omega,LP,LP],LP];generalize(2^64)^n=P at *
 generalize u.getD (n+2) 0=a;generalize u.getD (n+1) 0=b;generalize u.getD n 0=c;rw[be (_+1) P,bw,bw,ce,bw,fy];have e1:P*(a*2^64*2^64)=P*2^64*2^64*a:=by rw[bh P,bh P,bh a,be a]
 have e2:P*(b*2^64)=P*2^64*b:=by rw[bh P,be b]
 rw[e1,e2];omega
end VL
end
