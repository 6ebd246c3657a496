/- Part 8 of the proof. What is proved: symbolic execution of the functions, proved sound; what each function of the program computes, and that every run ends with it; what these functions compute, in plain numbers. Conditions: each theorem bears its own. -/
import Derived.Test.YthajbkcpnbiobaaGreatDoorVxG7
import Ieee.Arith
import Derived.ProofKit
import Derived.LaidMore
import Derived.OpenShut
import Derived.Stop.Joined
import GoSem.ClaimJoined
set_option linter.all false
set_option exponentiation.threshold 1000000
noncomputable section
open Array renaming getElem?_eq_some_iff->de
open BitVec renaming ofInt->cq
open Bool renaming and_eq_true->ah,and_false->ar,and_self->ax,and_true->bf,eq_iff_iff->fj,false_and->ak,false_or->bc,not_false->au,not_true->bb,or_comm->qt,or_eq_false_iff->gx,or_eq_true->dv,or_false->bg,or_self->ba,or_true->bd,true_and->az,true_or->av
open Classical renaming not_not->ji
open Go.IntKind renaming wrap->aa
open Go.Value renaming okWide->oh
open Go.World renaming cell?->qc,cells?_some->pp
open Int renaming eq_ofNat_of_zero_le->cn,lt_or_le->qv,natCast_mul->ka,toNat->ag,toNat_natCast->ab,toNat_zero->ap
open List renaming all_cons->mm,all_nil->qu,append_nil->dl,drop_drop->ql,drop_eq_getElem_cons->fd,drop_length->ii,drop_zero->jv,getD_eq_getElem?_getD->al,getElem?_append_left->co,getElem?_eq_getElem->bq,getElem?_eq_some_iff->bj,getElem_mem->jn,length_map->jy,length_replicate->gg,length_set->iy,mem_append->cy,mem_cons->dc,mem_of_mem_drop->ld,mem_of_mem_take->fh,mem_replicate->ph,mem_singleton->kp,replicate->aq,set_append_left->ml,set_append_right->gd,take_append_drop->kw,take_length->dq,take_succ_eq_append_getElem->jw
open Nat renaming add_comm->iq,add_mul->ce,add_zero->cu,div_add_mod->cp,div_div_eq_div_mul->dk,div_eq_of_lt->cg,div_le_self->ee,div_lt_iff_lt_mul->bv,div_one->nk,eq_zero_or_pos->br,le_div_iff_mul_le->go,le_mul_of_pos_left->iu,le_mul_of_pos_right->gj,le_of_lt_succ->po,le_refl->bu,le_trans->ga,lt_of_le_of_lt->bl,lt_of_lt_of_le->ao,lt_or_ge->ay,lt_trans->fq,min_eq_left->gn,min_eq_right->lg,mod_eq_of_lt->bo,mod_lt->ca,mod_one->ou,mul_add->bw,mul_add_div->kf,mul_add_mod->kg,mul_assoc->bh,mul_comm->be,mul_div_cancel->jd,mul_div_cancel_left->im,mul_div_mul_right->ky,mul_le_mul->ic,mul_le_mul_left->cd,mul_le_mul_right->aw,mul_left_comm->gc,mul_lt_mul_of_pos_right->ck,mul_mod_mul_right->fm,mul_ne_zero->kd,mul_one->fy,mul_pos->ij,mul_right_comm->ju,mul_zero->dz,ne_of_gt->ku,one_mul->fx,pos_of_ne_zero->nc,pow_add->bi,pow_le_pow_right->ai,pow_lt_pow_iff_right->cv,pow_lt_pow_right->bt,pow_mul->fw,pow_one->ov,pow_pos->gw,pow_succ->dj,pow_zero->gz,shiftLeft_eq->jo,two_pow_pos->af,zero_add->cz,zero_le->dp,zero_mul->ej
open Option.some renaming inj->ks,injEq->ae
open Prod.mk renaming injEq->cw
namespace VL
open Go Vx
theorem aXz(A us C v:List Nat){n:Nat}(hvl:v.length=n+2)(hlen:us.length=n+3)(hu:∀x∈us,x<2^64)(hv:∀x∈v,x<2^64)(hn:v.length<=1000000)
  (hV0:0<v.getD (n+1) 0) (g rest:Nat) (hg:g<2^64) (hr:rest<2^64) (hinv:g*v.getD (n+1) 0+rest=us.getD (n+2) 0*2^64+us.getD (n+1) 0) (hq:nv (2^64) us/nv (2^64) v<=g) :
  ∃g':Nat,g'<2^64/\nv (2^64) us/nv (2^64) v<=g' /\
   qY ((((g:Int),((rest:Int),((v.length:Int),((A.length,us.length),(Wd v,()))))),(Wd (A++us++C),())):Gr.D)=some (.inl (((A.length,us.length),(Wd v,((g':Int),()))),(Wd (A++us++C),()))):=by
 have key:=O4 (aPF Bq.pre Bq.F Bo.pre Bo.F AC.pre AC.F Ct.pre Ct.F C6.pre C6.F) (fun s=>s.1.1.toNat)
  (fun s=>∃(g rest:Nat),g<2^64/\rest<2^64/\g*v.getD (n+1) 0+rest=us.getD (n+2) 0*2^64+us.getD (n+1) 0/\nv (2^64) us/nv (2^64) v<=g /\
   s=(((g:Int),((rest:Int),((v.length:Int),((A.length,us.length),(Wd v,()))))),(Wd (A++us++C),())))
  (fun y=>∃g':Nat,g'<2^64/\nv (2^64) us/nv (2^64) v<=g'/\y=.inl (((A.length,us.length),(Wd v,((g':Int),()))),(Wd (A++us++C),()))) ?_
  (((g:Int),((rest:Int),((v.length:Int),((A.length,us.length),(Wd v,()))))),(Wd (A++us++C),())) ⟨g,rest,hg,hr,hinv,hq,rfl⟩
 ·obtain⟨y,hy,g',k1,k2,rfl⟩:=key;exact⟨g',k1,k2,hy⟩
 clear hinv hg hr hq g rest;intro L s hs hL;obtain⟨g,rest,hg,hr,hinv,hq,rfl⟩:=hs;unfold Y6;have hv1:=B3 (by decide) hv (n+1);have hv2:=B3 (by decide) hv n;have hu0:=B3 (by decide) hu n;have g1:(Wd v).getD (n+1) 0=((v.getD (n+1) 0:Nat):Int):=BN v _;have g2:(Wd v).getD n 0=((v.getD n 0:Nat):Int):=BN v _;have g3:=W3 (A:=A) (C:=C) (us:=us) (i:=n) (by omega);have e11:aa .i64 ((v.length:Int)-2)=(n:Int):=by rw[Av (by omega)];omega
 have e12:aa .i64 ((v.length:Int)-1)=((n+1:Nat):Int):=by rw[Av (by omega)];omega
 have p0:=aBp hg hv2;have e0:decide ((0:Int)<=(n:Int))=true:=decide_eq_true (by omega);have e1:decide ((n:Int)<(v.length:Int))=true:=decide_eq_true (by omega);have e2:decide ((n:Int)<(us.length:Int))=true:=decide_eq_true (by omega);have e3:decide ((0:Int)<=((n+1:Nat):Int))=true:=decide_eq_true (by omega);have e4:decide (((n+1:Nat):Int)<(v.length:Int))=true:=decide_eq_true (by omega);have hlo:g*v.getD n 0%2^64<2^64:=ca _ (by decide);have hlex:=bBo (h:=g*v.getD n 0/2^64) (r:=rest) hlo hu0;rw[show g*v.getD n 0/2^64*2^64+g*v.getD n 0%2^64=g*v.getD n 0 by omega]at hlex;dsimp only;simp only[e11,e12,e0,e1,e2,e3,e4,ax,av,cond_true,Az,ab,g1,g2,g3,aFe p0,aEg p0,hlex];by_cases hc:g*v.getD n 0<=rest*2^64+us.getD n 0
 ·rw[decide_eq_true hc,cond_true];exact⟨_,rfl,g,hg,hq,rfl⟩
 ·rw[decide_eq_false hc,cond_false];have hdn:=aZK (gw (by decide)) (aTn hvl) (aTf hu hlen) hinv hc;have hg1:1<=g:=bl (dp _) hdn;obtain⟨p,rfl⟩:∃p,g=p+1:=⟨g-1,by omega⟩
  have e5:aa .u64 (((p+1:Nat):Int)-1)=(p:Int):=by rw[DO (by omega)];omega
  have q1:=Yj rest (v.getD (n+1) 0) 0;have q2:=Yk (rest:Int) ((v.getD (n+1) 0:Nat):Int) 0 (by decide);have z0:((0:Nat):Int)=0:=rfl;rw[z0]at q1 q2;simp only[q1,q2,cond_true,e5];by_cases hb:(rest+v.getD (n+1) 0+0)/2^64=0
  ·have e6:((((rest+v.getD (n+1) 0+0)/2^64:Nat):Int)!=0)=false:=by rw[hb];rfl
   rw[e6,cond_false];have hs:(rest+v.getD (n+1) 0+0)%2^64=rest+v.getD (n+1) 0:=by omega
   rw[hs];refine hL _ ⟨p,rest+v.getD (n+1) 0,by omega,by omega,?_,po hdn,rfl⟩ (by simp only[ab];omega);rw[ce,fx]at hinv;omega
  ·have e6:((((rest+v.getD (n+1) 0+0)/2^64:Nat):Int)!=0)=true:=AL _ hb;rw[e6,cond_true];exact⟨_,rfl,p,by omega,po hdn,rfl⟩
theorem aWG(A us C v:List Nat){n:Nat}(hvl:v.length=n+2)(hlen:us.length=n+3)(hu:∀x∈us,x<2^64)(hv:∀x∈v,x<2^64)(hn:v.length<=1000000)
  (hlt:nv (2^64) us<nv (2^64) v*2^64) :
  ∃out:List Nat,out.length=us.length/\(∀z∈out,z<2^64)/\nv (2^64) out=nv (2^64) us%nv (2^64) v /\
   dP ((Wd (A++us++C),(A.length,us.length)),(Wd v,()))=some (Wd (A++out++C),((nv (2^64) us/nv (2^64) v:Nat):Int),()):=by
 show ∃out:List Nat,_/\_/\_/\x7 Bq.pre Bq.F Bo.pre Bo.F AC.pre AC.F Ct.pre Ct.F C6.pre C6.F qY gK (Wd (A++us++C),(A.length,us.length)) (Wd v)=_;have hVp:0<nv (2^64) v:=by omega
 have hq64:nv (2^64) us/nv (2^64) v<2^64:=by rw[bv hVp,be];exact hlt
 have hv1:=B3 (by decide) hv (n+1);have hu2:=B3 (by decide) hu (n+2);have hu1:=B3 (by decide) hu (n+1);have hu0:=B3 (by decide) hu n;have CI:∀g:Nat,g<2^64->nv (2^64) us/nv (2^64) v<=g ->
   ∃out:List Nat,out.length=us.length/\(∀z∈out,z<2^64)/\nv (2^64) out=nv (2^64) us%nv (2^64) v /\
    (bif Ct.pre ((Wd (A++us++C),(A.length,us.length)),(Wd v,((g:Int),())))then
     (bif(Ct.F ((Wd (A++us++C),(A.length,us.length)),(Wd v,((g:Int),())))).2.1 then
      (Vx.Bi (gK (((g:Int),((A.length,us.length),(Wd v,()))),((Ct.F ((Wd (A++us++C),(A.length,us.length)),(Wd v,((g:Int),())))).1,()))) fun y5=>
      Vx.Bg y5 (fun y6=>some (y6.2.1,y6.1)) (fun _=>none))
     else some ((Ct.F ((Wd (A++us++C),(A.length,us.length)),(Wd v,((g:Int),())))).1,((g:Int),())))
    else none)=(some (Wd (A++out++C),(((nv (2^64) us/nv (2^64) v:Nat):Int),())):Option (LK.B FA×DenS Kv)):=by
  intro g hg hq;obtain⟨out,o1,o2,o3,o4⟩:=aWE A us C v (by omega) hu hv hn hg;have hpr:Ct.pre ((Wd (A++us++C),(A.length,us.length)),(Wd v,((g:Int),())))=true:=bDi o4;have hfr:Ct.F ((Wd (A++us++C),(A.length,us.length)),(Wd v,((g:Int),())))=(Wd (A++out++C),decide (nv (2^64) us<g*nv (2^64) v),()):=bAr o4;rw[hpr,hfr];rw[cond_true];by_cases hb:nv (2^64) us<g*nv (2^64) v
  ·rw[if_pos hb]at o3;obtain⟨out2,u1,u2,u3,u4⟩:=aXA A C v (k:=us.length) (U:=nv (2^64) us) (by omega) hv hn out g o1 o2 hg o3;refine⟨out2,u1,u2,u3,?_⟩;dsimp only;rw[decide_eq_true hb,cond_true,u4]
  ·rw[if_neg hb,cu]at o3;have h1:nv (2^64) us/nv (2^64) v=g:=by
    have:g<=nv (2^64) us/nv (2^64) v:=by rw[go hVp];omega
    exact Nat.le_antisymm hq this
   have h2:nv (2^64) out=nv (2^64) us%nv (2^64) v:=by
    have:=cp (nv (2^64) us) (nv (2^64) v);rw[h1,be]at this;omega
   refine⟨out,o1,o2,h2,?_⟩;dsimp only;rw[decide_eq_false hb,cond_false,h1]
 have g1:(Wd v).getD (n+1) 0=((v.getD (n+1) 0:Nat):Int):=BN v _;have g2:=W3 (A:=A) (C:=C) (us:=us) (i:=n+2) (by omega);have g3:=W3 (A:=A) (C:=C) (us:=us) (i:=n+1) (by omega);have e10:aa .i64 ((v.length:Int)-1)=((n+1:Nat):Int):=by rw[Av (by omega)];omega
 have e0:decide ((0:Int)<=(v.length:Int))=true:=decide_eq_true (by omega);have e1:decide ((v.length:Int)<(us.length:Int))=true:=decide_eq_true (by omega);have e2:decide ((0:Int)<=((n+1:Nat):Int))=true:=decide_eq_true (by omega);have e3:decide (((n+1:Nat):Int)<(v.length:Int))=true:=decide_eq_true (by omega);have e4:decide (((n+1:Nat):Int)<(us.length:Int))=true:=decide_eq_true (by omega);have evl:v.length=n+2:=hvl;have g2':(Wd (A++us++C)).getD (A.length+v.length) 0=((us.getD (n+2) 0:Nat):Int):=by rw[evl];exact g2
 unfold x7;dsimp only;simp only[Az,ab,e10,g1,g2',g3,e0,e1,e2,e3,e4,ax,cond_true];by_cases hc:us.getD (n+2) 0<v.getD (n+1) 0
 ·have e5:decide (((us.getD (n+2) 0:Nat):Int)<((v.getD (n+1) 0:Nat):Int))=true:=decide_eq_true (by omega);have p0:=aH0 hu1 hv1 hc;simp only[e5,cond_true,aQD p0,aOs p0];have hgl:(us.getD (n+2) 0*2^64+us.getD (n+1) 0)/v.getD (n+1) 0<2^64:=by
   rw[bv (by omega)];have:(us.getD (n+2) 0+1)*2^64<=v.getD (n+1) 0*2^64:=aw _ hc;rw[ce,fx]at this;rw[be (2^64)];omega
  have hrl:(us.getD (n+2) 0*2^64+us.getD (n+1) 0)%v.getD (n+1) 0<2^64:=fq (ca _ (by omega)) hv1;have hst:=aZL (gw (n:=n) (show 0<2^64 by decide)) (show 0<v.getD (n+1) 0 by omega) (aTn hvl) (aTf hu hlen) hu0;obtain⟨g',k1,k2,k3⟩:=aXz A us C v hvl hlen hu hv hn (by omega) _ _ hgl hrl (by rw[be];exact cp _ _) hst;rw[k3];obtain⟨out,o1,o2,o3,o4⟩:=CI g' k1 k2;exact⟨out,o1,o2,o3,o4⟩
 ·have e5:decide (((us.getD (n+2) 0:Nat):Int)<((v.getD (n+1) 0:Nat):Int))=false:=decide_eq_false (by omega);simp only[e5,cond_false];obtain⟨out,o1,o2,o3,o4⟩:=CI (2^64-1) (by decide) (Nat.le_pred_of_lt hq64);exact⟨out,o1,o2,o3,o4⟩
end VL
namespace VL
open Go Vx
theorem aY4{X Q d r a B:Nat}(hX:X=Q*d+r):X*B+a=(Q*B+(r*B+a)/d)*d+(r*B+a)%d:=by
 have h1:=cp (r*B+a) d;rw[hX,ce,ce,ju,be ((r*B+a)/d) d];omega
theorem aXl(l:List Nat)(hl:∀x∈l,x<2^64)(hn:l.length<=1000000){d:Nat}(hd:0<d)(hd2:d<2^64):
  ∃qs:List Nat,qs.length=l.length/\(∀x∈qs,x<2^64)/\nv (2^64) qs=nv (2^64) l/d /\
   gH ((((d:Int),(((l.length:Int)-1),((),((0:Int),())))),(Wd l,())):Gp.D)=some (.inl (((),(((nv (2^64) l%d:Nat):Int),())),(Wd qs,()))):=by
 have key:=O4 (aPo Bq.pre Bq.F Am.pre Am.F) (fun s=>(s.1.2.1+1).toNat)
  (fun s=>∃(k:Nat) (qs:List Nat) (r:Nat),k<=l.length/\qs.length+k=l.length/\(∀x∈qs,x<2^64)/\r<d/\nv (2^64) (l.drop k)=nv (2^64) qs*d+r /\
   s=(((d:Int),(((k:Int)-1),((),((r:Int),())))),(Wd (l.take k++qs),())))
  (fun y=>∃qs:List Nat,qs.length=l.length/\(∀x∈qs,x<2^64)/\nv (2^64) qs=nv (2^64) l/d/\y=.inl (((),(((nv (2^64) l%d:Nat):Int),())),(Wd qs,()))) ?_
  (((d:Int),(((l.length:Int)-1),((),((0:Int),())))),(Wd l,()))
  ⟨l.length,[],0,bu _,by simp,(fun z hz=>by simp at hz),hd,by simp[nv],by simp⟩
 ·obtain⟨y,hy,qs,k1,k2,k3,rfl⟩:=key;exact⟨qs,k1,k2,k3,hy⟩
 intro L s hs hL;obtain⟨k,qs,r,hk,hql,hqd,hr,hinv,rfl⟩:=hs;unfold YP;rcases k with _|i
 ·have e0:decide ((((0:Nat):Int)-1)>=0)=false:=rfl;dsimp only;rw[e0,cond_false];rw[jv]at hinv;have hdv:nv (2^64) l/d=nv (2^64) qs:=by rw[hinv,be,kf hd,cg hr,cu]
  have hmd:nv (2^64) l%d=r:=by rw[hinv,be,kg,bo hr]
  exact⟨_,rfl,qs,by omega,hqd,hdv.symm,by rw[hmd,List.take_zero,List.nil_append]⟩
 ·have ei:(((i+1:Nat):Int)-1)=(i:Int):=by omega
  have ha:=B3 (by decide) hl i;have hg:(Wd (l.take (i+1)++qs)).getD i 0=((l.getD i 0:Nat):Int):=by
   rw[BN];congr 1;rw[al,al,co (by simp;omega),List.getElem?_take_of_lt (by omega)]
  have hdn:=LH (2^64) l i (by omega);have hset:∀z:Nat,(Wd (l.take (i+1)++qs)).set i (z:Int)=Wd (l.take i++(z::qs)):=fun z=>by
   rw[Dt,ml _ _ (by simp;omega),jw (show i<l.length by omega),gd _ _ (by simp;omega)];have:i-(l.take i).length=0:=by simp;omega
   rw[this];simp
  have hlen:(Wd (l.take (i+1)++qs)).length=l.length:=by rw[Az];simp;omega
  generalize l.getD i 0=a at *
  have p0:=aH0 (hi:=r) ha hd2 hr;have e0:decide ((i:Int)>=0)=true:=decide_eq_true (by omega);have e1:decide ((0:Int)<=(i:Int))=true:=decide_eq_true (by omega);have e2:decide ((i:Int)<(l.length:Int))=true:=decide_eq_true (by omega);have e3:aa .i64 ((i:Int)-1)=(i:Int)-1:=Av (by omega);dsimp only;simp only[ei,e0,e1,e2,e3,hlen,ax,cond_true,ab,hg,aQD p0,aOs p0,hset];have hq:(r*2^64+a)/d<2^64:=by
   rw[bv hd];have:(r+1)*2^64<=d*2^64:=aw _ hr;rw[be (2^64)];omega
  refine hL _ ⟨i,(r*2^64+a)/d::qs,(r*2^64+a)%d,by omega,by simp;omega,?_,ca _ hd,?_,rfl⟩ (by dsimp only;omega)
  ·intro x hx;rcases dc.1 hx with rfl|hx
   ·exact hq
   ·exact hqd x hx
  ·have:=aY4 (B:=2^64) (a:=a) hinv;rw[hdn];show a+2^64*_=((r*2^64+a)/d+2^64*nv (2^64) qs)*d+_;rw[be (2^64) (nv (2^64) qs),iq ((r*2^64+a)/d),←this];omega
theorem aFT{l:List Nat}(h:∀x∈l,x<2^64):Wd (An l)=Dw (nv (2^64) l):=by
 unfold Dw;rw[Ga (by decide) l h]
theorem aWj{a:Nat}(ha:a<(2^64)^5000){d:Nat}(hd:0<d)(hd2:d<2^64):cQ (Dw a,(d:Int),())=some (Dw (a/d),((a%d:Nat):Int),()):=by
 show wU Bq.pre Bq.F Am.pre Am.F gH (Dw a) (d:Int)=_;unfold wU;have hw:=D1 ha;obtain⟨qs,k1,k2,k3,k4⟩:=aXl (dg (2^64) a) hw.1 hw.2 hd hd2;rw[C1]at k3 k4;have hl:(dg (2^64) a).length<=1000000:=hw.2;have e0:aa .i64 (((Dw a).length:Int)-1)=(((dg (2^64) a).length:Int)-1):=by
  unfold Dw;rw[Az,Av (by omega)]
 have p0:=EH qs (by omega);rw[e0];have k4:gH ((((d:Int),((((dg (2^64) a).length:Int)-1),((),((0:Int),())))),(Dw a,())):Gp.D)=_:=k4;rw[k4];show(bif Am.pre (Wd qs,())then some ((Am.F (Wd qs,())).1,(((a%d:Nat):Int),()))else none)=_;simp only[Dx p0,Du p0,cond_true,aFT k2,k3]
theorem aXB(v:List Nat){n:Nat}(hvl:v.length=n+2)(hv:∀x∈v,x<2^64)(hn:v.length<=900000){X:Nat}(Q:Nat)(hQ:Q<=50000)(s:Int)(us:List Nat)(hus:us.length=Q+n+2)
  (hud:∀x∈us,x<2^64) (hX:nv (2^64) us=X) (hlt:X<nv (2^64) v*(2^64)^Q) :
  ∃qs us':List Nat,qs.length=Q/\(∀x∈qs,x<2^64)/\nv (2^64) qs=X/nv (2^64) v/\us'.length=Q+n+2/\(∀x∈us',x<2^64)/\nv (2^64) us'=X%nv (2^64) v /\
   gL (((Wd v,(((Q:Int)-1),((),((),((v.length:Int),(s,())))))),(Wd us,(Wd (aq Q 0),()))):Gs.D)=some (.inl (((),((),((v.length:Int),(s,())))),(Wd us',(Wd qs,())))):=by
 have hV0:0<nv (2^64) v:=by
  rcases br (nv (2^64) v)with h|h
  ·rw[h,ej]at hlt;omega
  ·exact h
 have hVl:=CX (B:=2^64) (by decide) v hv;have key:=O4 (aPG DC.pre DC.F EX.pre EX.F B5.pre B5.F CO.pre CO.F FS.pre FS.F B6.pre B6.F DE.pre DE.F EZ.pre EZ.F Am.pre Am.F CP.pre CP.F) (fun s=>(s.1.2.1+1).toNat)
  (fun x=>∃(k:Nat) (qs us:List Nat),k<=Q/\qs.length+k=Q/\(∀x∈qs,x<2^64)/\us.length=Q+n+2/\(∀x∈us,x<2^64)/\nv (2^64) us<nv (2^64) v*(2^64)^k /\
   X=nv (2^64) qs*(2^64)^k*nv (2^64) v+nv (2^64) us /\
   x=((Wd v,(((k:Int)-1),((),((),((v.length:Int),(s,())))))),(Wd us,(Wd (aq k 0++qs),()))))
  (fun y=>∃qs us':List Nat,qs.length=Q/\(∀x∈qs,x<2^64)/\nv (2^64) qs=X/nv (2^64) v/\us'.length=Q+n+2/\(∀x∈us',x<2^64)/\nv (2^64) us'=X%nv (2^64) v /\
   y=.inl (((),((),((v.length:Int),(s,())))),(Wd us',(Wd qs,())))) ?_
  ((Wd v,(((Q:Int)-1),((),((),((v.length:Int),(s,())))))),(Wd us,(Wd (aq Q 0),())))
  ⟨Q,[],us,bu _,by simp,(fun z hz=>by simp at hz),hus,hud,by rw[hX];exact hlt,by simp[nv,hX],by simp⟩
 ·obtain⟨y,hy,qs,us',k1,k2,k3,k4,k5,k6,rfl⟩:=key;exact⟨qs,us',k1,k2,k3,k4,k5,k6,hy⟩
 clear hlt hX hud hus us;intro L x hx hL;obtain⟨k,qs,us,hk,hql,hqd,hus,hud,hlt,hinv,rfl⟩:=hx;unfold Y7;rcases k with _|j
 ·have e0:decide ((((0:Nat):Int)-1)>=0)=false:=rfl;dsimp only;rw[e0,cond_false];rw[gz,fy]at hlt hinv;have hdv:X/nv (2^64) v=nv (2^64) qs:=by rw[hinv,be,kf hV0,cg hlt,cu]
  have hmd:X%nv (2^64) v=nv (2^64) us:=by rw[hinv,be,kg,bo hlt]
  exact⟨_,rfl,qs,us,by omega,hqd,hdv.symm,hus,hud,hmd.symm,by simp⟩
 ·have ei:(((j+1:Nat):Int)-1)=(j:Int):=by omega
  have hjl:j+(n+3)<=us.length:=by omega
  have hsplit:us=us.take j++(us.drop j).take (n+3)++us.drop (j+(n+3)):=by
   rw[List.append_assoc,←ql,kw,kw]
  have hAl:(us.take j).length=j:=by simp;omega
  have hwl:((us.drop j).take (n+3)).length=n+3:=by simp;omega
  have hAd:∀x∈us.take j,x<2^64:=fun x hx=>hud x (fh hx);have hwd:∀x∈(us.drop j).take (n+3),x<2^64:=fun x hx=>hud x (ld (fh hx));have hCd:∀x∈us.drop (j+(n+3)),x<2^64:=fun x hx=>hud x (ld hx);have hCl:(us.drop (j+(n+3))).length+j+(n+3)=us.length:=by simp;omega
  generalize us.take j=A at *
  generalize(us.drop j).take (n+3)=w at *
  generalize us.drop (j+(n+3))=C at *
  subst hsplit;have hAlt:=CX (B:=2^64) (by decide) A hAd;have hval:∀w:List Nat,w.length=n+3->nv (2^64) (A++w++C)=nv (2^64) A+(2^64)^j*nv (2^64) w+(2^64)^(j+(n+3))*nv (2^64) C:=fun w hw=>by
   rw[U6,U6,hAl,show(A++w).length=j+(n+3) by simp[hAl,hw]]
  have hPj:=gw (n:=j) (show 0<2^64 by decide);have hv1:=hval w hwl;rw[hAl]at hAlt;have hC0:nv (2^64) C=0:=by
   rcases br (nv (2^64) C)with h|h
   ·exact h
   ·exfalso;have h1:(2^64)^(j+(n+3))*1<=(2^64)^(j+(n+3))*nv (2^64) C:=cd _ h;have h2:nv (2^64) v*(2^64)^(j+1)<=(2^64)^(n+2)*(2^64)^(j+1):=aw _ (by rw[hvl]at hVl;omega);rw[←bi,show n+2+(j+1)=j+(n+3) by omega]at h2;omega
  rw[hC0,dz,cu]at hv1;have hwlt:nv (2^64) w<nv (2^64) v*2^64:=by
   have h1:(2^64)^j*nv (2^64) w<(2^64)^j*(nv (2^64) v*2^64):=by
    rw[LP,←bh]at hlt;rw[gc,←bh];omega
   exact Nat.lt_of_mul_lt_mul_left h1
  obtain⟨out,o1,o2,o3,o4⟩:=aWG A w C v hvl hwl hwd hv (by omega) hwlt;rw[hAl,hwl]at o4;have hout:out.length=n+3:=by omega
  have hv2:=hval out hout;rw[hC0,dz,cu,o3]at hv2;have hdm:=cp (nv (2^64) w) (nv (2^64) v);have hml:=ca (nv (2^64) w) hV0;have hq64:nv (2^64) w/nv (2^64) v<2^64:=by rw[bv hV0,be];exact hwlt
  have e0:decide ((j:Int)>=0)=true:=decide_eq_true (by omega);have e1:decide ((0:Int)<=(j:Int))=true:=decide_eq_true (by omega);have e3:aa .i64 (aa .i64 ((j:Int)+(v.length:Int))+1)=((j+(n+3):Nat):Int):=by
   rw[Av (n:=(j:Int)+_) (by omega),Av (by omega)];omega
  have e4:decide ((j:Int)<=((j+(n+3):Nat):Int))=true:=decide_eq_true (by omega);have e5:decide ((((j+(n+3):Nat):Int))<=((Wd (A++w++C)).length:Int))=true:=decide_eq_true (by rw[Az];simp;omega);have e6:decide ((j:Int)<((Wd (aq (j+1) 0++qs)).length:Int))=true:=decide_eq_true (by rw[Az];simp;omega);have e7:aa .i64 ((j:Int)-1)=(j:Int)-1:=Av (by omega);have hset:∀z:Nat,(Wd (aq (j+1) 0++qs)).set j (z:Int)=Wd (aq j 0++(z::qs)):=fun z=>by
   rw[Dt,ml _ _ (by simp),List.replicate_succ',gd _ _ (by simp)];simp
  have e8:j+(n+3)-j=n+3:=by omega
  dsimp only;simp only[ei,e0,e1,e3,e4,e5,e6,e7,ax,cond_true,ab,e8];rw[bDk o4,bAt o4,cond_true];dsimp only;rw[hset];refine hL _ ⟨j,nv (2^64) w/nv (2^64) v::qs,A++out++C,by omega,by simp;omega,?_,by simp;omega,?_,?_,?_,rfl⟩ (by dsimp only;omega)
  ·intro x hx;rcases dc.1 hx with rfl|hx
   ·exact hq64
   ·exact hqd x hx
  ·intro x hx;rcases cy.1 hx with hx|hx
   ·rcases cy.1 hx with hx|hx
    ·exact hAd x hx
    ·exact o2 x hx
   ·exact hCd x hx
  ·rw[hv2];have:(2^64)^j*(nv (2^64) w%nv (2^64) v+1)<=(2^64)^j*nv (2^64) v:=cd _ hml;rw[bw,fy]at this;rw[be (nv (2^64) v)];omega
  ·rw[hv2,hinv,hv1];show _=(nv (2^64) w/nv (2^64) v+2^64*nv (2^64) qs)*(2^64)^j*nv (2^64) v+_;have h1:(2^64)^j*nv (2^64) w=(2^64)^j*(nv (2^64) v*(nv (2^64) w/nv (2^64) v))+(2^64)^j*(nv (2^64) w%nv (2^64) v):=by rw[←bw,hdm]
   rw[h1,LP,ce,ce];generalize nv (2^64) w/nv (2^64) v=q;generalize nv (2^64) v=V;generalize(2^64)^j=P;have h2:nv (2^64) qs*(P*2^64)*V=2^64*nv (2^64) qs*P*V:=by rw[be P,←bh,be (nv (2^64) qs)]
   have h3:P*(V*q)=q*P*V:=by rw[be V,←bh,be P]
   rw[h2,h3];omega
end VL
namespace VL
open Go Vx
theorem aZs{x k:Nat}(h:(2^64)^k<=x):k<(dg (2^64) x).length:=by
 have:=i9 (B:=2^64) (by decide) x;exact(cv (a:=2^64) (by decide)).1 (bl h this)
theorem aZt{x:Nat}(h0:x≠0):∃t,(dg (2^64) x).getD ((dg (2^64) x).length-1) 0=t/\t≠0/\t<2^64/\Ae x=64*((dg (2^64) x).length-1)+Ae t/\0<(dg (2^64) x).length:=by
 have hl:0<(dg (2^64) x).length:=by rw[EC (by decide) (by omega)];simp
 have ht:=OP (B:=2^64) (by decide) x;have h1:=W1 (dg (2^64) x) (by rw[ht];exact hl);have h2:=aMY (Lw (B:=2^64) (by decide) x) (by rw[ht];exact hl);rw[ht]at h1 h2;rw[C1]at h2;exact⟨_,rfl,h1,B3 (by decide) (Lw (by decide) x) _,h2,hl⟩
theorem Z1(k:Nat):(2^64)^k=2^(64*k):=(fw ..).symm
theorem aWH{a b:Nat}(ha:a<(2^64)^4000)(hb:b<(2^64)^4000)(h0:b≠0):dQ (Dw a,Dw b,())=some (Dw (a/b),Dw (a%b),()):=by
 have up:∀{x:Nat},x<(2^64)^4000->x<(2^64)^5000:=fun h=>ao h (ai (by decide) (by decide));show x8 DC.pre DC.F EX.pre EX.F B5.pre B5.F CO.pre CO.F FS.pre FS.F B6.pre B6.F DE.pre DE.F EZ.pre EZ.F Am.pre Am.F CP.pre CP.F gL (Dw a) (Dw b)=_;unfold x8;have pa:=XB (up ha);have pb:=XB (up hb);have pc:=aBk (up ha) (up hb);have wa:=D1 (up ha);have wb:=D1 (up hb);have hla:(dg (2^64) a).length<=4000:=Ea (by decide) _ _ ha;have hlb:(dg (2^64) b).length<=4000:=Ea (by decide) _ _ hb;have pcopy:=aHt (dg (2^64) a) wa;rw[C1]at pcopy;have pcopy:VA (Dw a,())=some (Dw a,()):=pcopy;obtain⟨t,ht,ht0,ht64,hbt,hlp⟩:=aZt h0;have hLen:∀x:Nat,(Dw x).length=(dg (2^64) x).length:=fun x=>Az _;have hGet:∀(x i:Nat),(Dw x).getD i 0=(((dg (2^64) x).getD i 0:Nat):Int):=fun x i=>BN _ _;dsimp only;simp only[Dx pa,Du pa,Dx pb,Du pb,aE9 pc,aEb pc,cond_true];by_cases hlt:a<b
 ·have e0:decide ((if a=b then(0:Int)else if a<b then -1 else 1)<0)=true:=by rw[if_neg (by omega),if_pos hlt];rfl
  simp only[e0,cond_true,aE7 pcopy,aD9 pcopy];rw[cg hlt,bo hlt,Ff]
 have e0:decide ((if a=b then(0:Int)else if a<b then -1 else 1)<0)=false:=by
  rw[if_neg hlt];split<;>rfl
 simp only[e0,cond_false];by_cases h1:(dg (2^64) b).length=1
 ·have e1:(((Dw b).length:Int)==1)=true:=by rw[hLen,h1];rfl
  have hb64:b<2^64:=by
   have:=i9 (B:=2^64) (by decide) b;rw[h1,ov]at this;exact this
  have e2:decide ((0:Int)<((Dw b).length:Int))=true:=by rw[hLen,h1];rfl
  have e3:(Dw b).getD (ag 0) 0=(b:Int):=by rw[ap,Pp,bo hb64]
  have p0:=aWj (up ha) (nc h0) hb64;have hr:a%b<b:=ca _ (nc h0);have p1:=EH [a%b] (by simp);rw[aFT (by intro x hx;rw[kp]at hx;omega),show nv (2^64) [a%b]=a%b by simp[nv]]at p1;have p1:VF ((((a%b:Nat):Int)::[]),())=_:=p1;simp only[e1,e2,e3,cond_true,aE7 pcopy,aD9 pcopy,bC4 p0,bAd p0,Dx p1,Du p1]
 have e1:(((Dw b).length:Int)==1)=false:=by
  rw[hLen];exact Wy _ _ (by omega)
 simp only[e1,cond_false];obtain⟨n,hn⟩:∃n,(dg (2^64) b).length=n+2:=⟨(dg (2^64) b).length-2,by omega⟩
 have hab:(dg (2^64) b).length<=(dg (2^64) a).length:=aDL (by decide) (by omega);obtain⟨Q,hQ⟩:∃Q,(dg (2^64) a).length+1=Q+n+2:=⟨(dg (2^64) a).length+1-(n+2),by omega⟩
 rw[show(dg (2^64) b).length-1=n+1 by omega]at ht hbt;have hbl:=CS ht64;have hbl1:=Yn ht0;generalize hs:64-Ae t=s at *
 have p327:=aHZ ht64;rw[hs]at p327;have hub:=FU b;have hlob:=Lr h0;have hp:=af s;have hV1:b*2^s<2^(64*(n+2)):=by
  have h2:b*2^s<2^Ae b*2^s:=ck hub hp;rw[←bi,show Ae b+s=64*(n+2) by omega]at h2;exact h2
 have hV2:2^(64*(n+2)-1)<=b*2^s:=by
  have h2:2^(Ae b-1)*2^s<=b*2^s:=aw _ hlob;rw[←bi,show Ae b-1+s=64*(n+2)-1 by omega]at h2;exact h2
 have hvlen:(dg (2^64) (b*2^s)).length=n+2:=by
  have h2:(dg (2^64) (b*2^s)).length<=n+2:=Ea (by decide) _ _ (by rw[Z1];exact hV1);have h3:=aZs (x:=b*2^s) (k:=n+1) (by
   rw[Z1];exact ga (ai (by decide) (by omega)) hV2)
  omega
 have hA:a*2^s<2^(64*(dg (2^64) a).length+s):=by
  have h2:=i9 (B:=2^64) (by decide) a;rw[Z1]at h2;rw[bi];exact ck h2 hp
 have hulen:(dg (2^64) (a*2^s)).length<=Q+n+2:=Ea (by decide) _ _ (by
  rw[Z1];exact ao hA (ai (by decide) (by omega)))
 have hstart:a*2^s<b*2^s*(2^64)^Q:=by
  have h2:2^(64*(n+2)-1)*2^(64*Q)<=b*2^s*2^(64*Q):=aw _ hV2;rw[←bi]at h2;rw[Z1];exact ao (ao hA (ai (by decide) (by omega))) h2
 have pv:=aBm (dg (2^64) b) wb s (by rw[OP (by decide)];omega);have pu:=aBm (dg (2^64) a) wa s (by rw[OP (by decide)];omega);rw[C1]at pv pu;have pv:VI (Dw b,(s:Int),())=some (Dw (b*2^s),()):=pv;have pu:VI (Dw a,(s:Int),())=some (Dw (a*2^s),()):=pu;have e17:aa .i64 (((Dw b).length:Int)-1)=((n+1:Nat):Int):=by rw[hLen,Av (by omega)];omega
 have e18:aa .i64 (((Dw a).length:Int)+1)=((Q+n+2:Nat):Int):=by rw[hLen,Av (by omega)];omega
 have eg:(Dw b).getD (ag ((n+1:Nat):Int)) 0=(t:Int):=by rw[ab,hGet,ht]
 have e2:(decide ((0:Int)<=((n+1:Nat):Int))&&decide (((n+1:Nat):Int)<((Dw b).length:Int)))=true:=by
  rw[hLen,decide_eq_true (by omega),decide_eq_true (by omega)];rfl
 have e3:(decide ((0:Int)<=((Q+n+2:Nat):Int))&&decide (((Q+n+2:Nat):Int)*8<=140737488355328))=true:=by
  rw[decide_eq_true (by omega),decide_eq_true (by omega)];rfl
 generalize hud:dg (2^64) (a*2^s)++aq (Q+n+2-(dg (2^64) (a*2^s)).length) 0=us;have husl:us.length=Q+n+2:=by rw[←hud,List.length_append,gg];omega
 have hus:∀x∈us,x<2^64:=by
  rw[←hud];intro x hx;rcases cy.1 hx with hx|hx
  ·exact Lw (by decide) _ x hx
  ·have:=(ph.1 hx).2;omega
 have husv:nv (2^64) us=a*2^s:=by rw[←hud,U6,uW,dz,cu,C1]
 have hrow:(Dw (a*2^s)).take (aq (ag ((Q+n+2:Nat):Int)) (0:Int)).length++(aq (ag ((Q+n+2:Nat):Int)) (0:Int)).drop (Dw (a*2^s)).length=Wd us:=by
  rw[ab,gg,NT,hLen,aXK,List.drop_replicate];unfold Dw;rw[gN,List.take_of_length_le hulen,←hud];unfold Wd;rw[List.map_append]
 have e11:aa .i64 (((Wd us).length:Int)-((Dw (b*2^s)).length:Int))=(Q:Int):=by
  rw[Az,husl,hLen,hvlen,Av (by omega)];omega
 have e4:(decide ((0:Int)<=(Q:Int))&&decide ((Q:Int)*8<=140737488355328))=true:=by
  rw[decide_eq_true (by omega),decide_eq_true (by omega)];rfl
 have e5:aa .i64 (((aq (ag (Q:Int)) (0:Int)).length:Int)-1)=(Q:Int)-1:=by
  rw[ab,gg,Av (by omega)]
 obtain⟨qs,us',k1,k2,k3,k4,k5,k6,k7⟩:=aXB (dg (2^64) (b*2^s)) hvlen (Lw (by decide) _) (by omega) (X:=a*2^s) Q (by omega) (s:Int) us husl hus husv (by rw[C1];exact hstart);rw[C1]at k3 k6;rw[ky _ _ hp]at k3;rw[fm]at k6;have k7:gL (((Dw (b*2^s),(((Q:Int)-1),((),((),(((Dw (b*2^s)).length:Int),((s:Int),())))))),(Wd us,((aq (ag (Q:Int)) (0:Int)),()))):Gs.D)=some (.inl (((),((),(((n+2:Nat):Int),((s:Int),())))),(Wd us',(Wd qs,())))):=by
  rw[ab,NT,hLen];rw[hvlen]at k7⊢;exact k7
 simp only[e17,eg,aQC p327,aOr p327,aFc pv,aEe pv,aFc pu,aEe pu,e18,e2,e3,cond_true,hrow,e11,e4,e5];rw[k7];dsimp only[Bi,Bg];have pq:=EH qs (by omega);rw[aFT k2,k3]at pq;have hnl:nv (2^64) (us'.take (n+2))=a%b*2^s:=by
  have h2:=LJ (2^64) us' (n+2) (by omega);have h3:nv (2^64) (us'.drop (n+2))=0:=by
   rcases br (nv (2^64) (us'.drop (n+2)))with h|h
   ·exact h
   ·exfalso;have h4:(2^64)^(n+2)*1<=(2^64)^(n+2)*nv (2^64) (us'.drop (n+2)):=cd _ h;have h5:a%b*2^s<b*2^s:=ck (ca _ (nc h0)) hp;rw[Z1]at h4 h2;omega
  rw[h3,dz,cu]at h2;rw[←h2,k6]
 have pr:=aHI (us'.take (n+2)) ⟨fun x hx=>k5 x (fh hx),by simp;omega⟩ s (by omega);rw[hnl,jd _ hp]at pr;have pr:XA (Wd (us'.take (n+2)),(s:Int),())=some (Dw (a%b),()):=pr;have e6:(decide ((0:Int)<=((n+2:Nat):Int))&&decide (((n+2:Nat):Int)<=((Wd us').length:Int)))=true:=by
  rw[Az,k4,decide_eq_true (by omega),decide_eq_true (by omega)];rfl
 have e7:((Wd us').take (ag ((n+2:Nat):Int))).drop (ag 0)=Wd (us'.take (n+2)):=by
  rw[ab,ap,gN,jv]
 simp only[Dx pq,Du pq,e6,e7,aQA pr,aOp pr,cond_true]
theorem bA6{l:List (List Nat)}(hl:∀x∈l,x.length<=1024)(hn:l.length<=1000000):Uz (l.map Wd,())=some (false,()):=by
 have:=aHN l (fun x hx=>by have:=hl x hx;omega) hn;rw[this,decide_eq_true (fun x hx=>ga (DN x).1 (hl x hx))];rfl
theorem aWI{a b:Nat}(ha:a<(2^64)^1024)(hb:b<(2^64)^1024)(h0:b≠0):dR (Dw a,Dw b,())=some (Dw (a/b),Dw (a%b),0,()):=by
 have up:∀{x:Nat},x<(2^64)^1024->x<(2^64)^4000:=fun h=>ao h (ai (by decide) (by decide));have up5:∀{x:Nat},x<(2^64)^1024->x<(2^64)^5000:=fun h=>ao h (ai (by decide) (by decide));show x9 EY.pre EY.F Am.pre Am.F TL.pre TL.F (Dw a) (Dw b)=_;unfold x9;have p0:=bA6 (l:=[dg (2^64) a,dg (2^64) b]) (by
  intro x hx;rcases dc.1 hx with rfl|hx
  ·exact Ea (by decide) _ _ ha
  ·rw[kp]at hx;rw[hx];exact Ea (by decide) _ _ hb) (by simp)
 have p0:Uz ((Dw a::Dw b::[]),())=some (false,()):=p0;have p1:=XB (up5 hb);have p2:=aWH (up ha) (up hb) h0;have e0:(((Dw b).length:Int)==0)=false:=by rw[aTz,decide_eq_false h0]
 simp only[aFb p0,aEd p0,Dx p1,Du p1,bDl p2,bAu p2,cond_true,cond_false,e0]
end VL
namespace VL
open Go Vx
theorem aPU{l:List Nat}{i v B:Nat}(h:∀x∈l,x<B)(hv:v<B):∀x∈l.set i v,x<B:=fun x hx=>by
 rcases List.mem_or_eq_of_mem_set hx with h1|h1
 ·exact h x h1
 ·omega
end VL
namespace VL
open Go Vx
theorem aP{f:Int}(hf:Fm f)(a:Nat):-1100<=Ao f a/\Ao f a<=1100:=by
 have h1:=aNN (f:=f) a;have e:AH f=2*fX f+1:=by unfold AH;rw[←tT hf]
 have h2:=Ly hf;have h3:=E8 hf;have h4:=CV hf;unfold Ao;split<;>omega
theorem W6(f:Int)(a:Nat):((Al f a:Int)==0)=AM f a:=by
 cases hz:AM f a
 ·exact AG _ (EO hz)
 ·unfold AM at hz;rw[ah,beq_iff_eq,beq_iff_eq]at hz;unfold Al;rw[if_pos hz.1,hz.2];rfl
end VL
namespace VL
open Go Vx
theorem bCX(i:Nat):(2^32)^(i+1)=(2^32)^i*2^32:=dj ..
theorem bHM(n k:Nat):(aq n 0).getD k 0=0:=by
 rw[al,List.getElem?_replicate];split<;>rfl
end VL
namespace VL
open Go Vx
def ZS(f m:Int)(neg:Bool)(d n:Nat):Nat:=(Ae n-fP f-d)*2^(fP f-1)+CY m neg n (Ae n-fP f-d+d)
theorem bDZ{f:Int}(hf:Fm f)(d n:Nat):n/2^(Ae n-fP f-d+d)<2^fP f:=by
 rw[bv (af _),←bi];exact ao (FU n) (ai (by decide) (by omega))
theorem bDX{f:Int}(hf:Fm f){d n:Nat}(h0:n≠0)(hJ:fP f+d<=Ae n):2^(fP f-1)<=n/2^(Ae n-fP f-d+d):=by
 have hP:=CV hf;rw[go (af _),←bi];exact ga (ai (by decide) (by omega)) (Lr h0)
theorem bHT{f:Int}(hf:Fm f)(m:Int)(neg:Bool){n:Nat}(h0:n≠0)(d:Nat):
  Dq f m neg n (qm f-d)=if BC f<=ZS f m neg d n then(kL f m neg,20)else(ZS f m neg d n,if B9 (n%2^(Ae n-fP f-d+d)) (Ae n-fP f-d+d)=0 then 0 else if DW f m neg n (qm f-d) false then 24 else 16):=by
 have hP:=CV hf;have hX:=Ji hf;have h2p:=aAn hf;have hpp:=af (fP f-1);have hinf:=uI hf;have hb1:=Yn h0;have htop:AA n (qm f-d)=qm f-d+(Ae n:Int)-1:=rfl;have hqm:qm f=1-(fX f:Int)-(fP f:Int)+1:=rfl;have hqt:=bDZ hf d n;have hql:=bDX hf (d:=d) h0;have hlow:B1 f (AA n (qm f-d))=qm f+((Ae n-fP f-d:Nat):Int):=by unfold B1;split<;>omega
 obtain⟨hc1,hc2⟩:=Wh m neg n (Ae n-fP f-d+d);have hcr:Dj n (qm f-d) (qm f+((Ae n-fP f-d:Nat):Int)) false=B9 (n%2^(Ae n-fP f-d+d)) (Ae n-fP f-d+d):=by
  rw[OO];rcases br (Ae n-fP f-d+d)with hz|hz
  ·rw[aD (by omega),hz,gz,ou];rfl
  ·rw[aC (by omega),show(qm f+((Ae n-fP f-d:Nat):Int)-(qm f-d)).toNat=Ae n-fP f-d+d by omega]
 have hcn:BB m neg n (qm f-d) (qm f+((Ae n-fP f-d:Nat):Int)) false=CY m neg n (Ae n-fP f-d+d):=by
  have hqe:GR n (qm f-d) (qm f+((Ae n-fP f-d:Nat):Int))=n/2^(Ae n-fP f-d+d):=by
   rcases br (Ae n-fP f-d+d)with hz|hz
   ·rw[WR (by omega),hz,show(qm f-(d:Int)-(qm f+((Ae n-fP f-d:Nat):Int))).toNat=0 by omega,gz,fy,nk]
   ·rw[WQ (by omega),show(qm f+((Ae n-fP f-d:Nat):Int)-(qm f-d)).toNat=Ae n-fP f-d+d by omega]
  unfold BB CY;rw[hcr,hqe]
 unfold Dq;rw[hlow];dsimp only;rw[hcn,hcr,show(qm f+((Ae n-fP f-d:Nat):Int)-(1-(fX f:Int)-(fP f:Int)+1)).toNat=Ae n-fP f-d by omega];have hmu:ZS f m neg d n=(Ae n-fP f-d)*2^(fP f-1)+CY m neg n (Ae n-fP f-d+d):=rfl;rw[hmu];have hJd:fP f+d<=Ae n∨Ae n-fP f-d=0:=by omega
 have hJb:(Ae n:Int)-fP f-d<=((Ae n-fP f-d:Nat):Int):=by omega
 have hJe:fP f+d<=Ae n->(Ae n:Int)=fP f+d+((Ae n-fP f-d:Nat):Int):=by omega
 generalize CY m neg n (Ae n-fP f-d+d)=u at *
 generalize n/2^(Ae n-fP f-d+d)=Q at *
 generalize B9 (n%2^(Ae n-fP f-d+d)) (Ae n-fP f-d+d)=c at *
 generalize Ae n-fP f-d=j at *
 by_cases ht:AA n (qm f-d)>fX f
 ·have hj2:2*fX f+1<=j+1:=by omega
  have:=aw (2^(fP f-1)) hj2;rw[ce j,fx]at this;have hql:=hql (by omega);rw[if_pos ht,if_pos (show BC f<=j*2^(fP f-1)+u by omega)];rfl
 ·rw[if_neg ht];have hj0:j+1<=2*fX f:=by
   rcases hJd with h|h
   ·have:=hJe h;omega
   ·omega
  rcases ay u (2^fP f)with hu|hu
  ·have hbu:=CS hu;have hj2:j+2<=2*fX f+1:=by omega
   have:=aw (2^(fP f-1)) hj2;rw[ce]at this;rw[if_neg (show ¬qm f+(j:Int)+(Ae u:Int)-1>fX f by omega),if_neg (show ¬BC f<=j*2^(fP f-1)+u by omega)]
  ·have hbu:=Jc hu;have hbu2:=CS (n:=u) (k:=fP f+1) (by rw[dj];omega);by_cases hj2:j+3<=2*fX f+1
   ·have:=aw (2^(fP f-1)) hj2;rw[ce]at this;rw[if_neg (show ¬qm f+(j:Int)+(Ae u:Int)-1>fX f by omega),if_neg (show ¬BC f<=j*2^(fP f-1)+u by omega)]
   ·have hj3:2*fX f+1<=j+2:=by omega
    have:=aw (2^(fP f-1)) hj3;rw[ce j]at this;rw[if_pos (show qm f+(j:Int)+(Ae u:Int)-1>fX f by omega),if_pos (show BC f<=j*2^(fP f-1)+u by omega)];rfl
def pv(f:Int)(x:Nat):Nat:=Al f x*2^(Ao f x-qm f).toNat
end VL
namespace VL
open Go Vx
def VV(f:Int)(x:Nat):Nat:=Al f x*2^(Ao f x+2600).toNat
end VL
namespace VL
open Go Vx
theorem aRc{f m:Int}{neg:Bool}{N k:Nat}{E:Int}(hf:Fm f)(hn:N/2^k≠0)(hm:N%2^k≠0->fP f+1<=Ae (N/2^k)):AP f m neg (N/2^k) (E+k) (decide (N%2^k≠0))=AP f m neg N E false:=by
 have ht:=aTi (E:=E) hn;have htd:AA (N/2^k) (E+k)=E+k+(Ae (N/2^k):Int)-1:=rfl;have hq1:N%2^k≠0->E+k<B1 f (AA N E):=fun h=>by
  have:=hm h;unfold B1;split<;>omega
 have hq2:N%2^k≠0->E+k<AA N E-fP f+1:=fun h=>by
  have:=hm h;omega
 have hti:DW f m neg (N/2^k) (E+k) (decide (N%2^k≠0))=DW f m neg N E false:=by
  unfold DW;rw[ht,tH hq2]
 unfold AP;simp only[ht,tH hq1,(aDK hq1).2,hti]
theorem aQ9{f m:Int}{neg:Bool}{N k:Nat}{E:Int}(hf:Fm f)(hb:fP f+1<=Ae (N/2^k)):AP f m neg (N/2^k) E true=AP f m neg (2*N+1) (E-k-1) false:=by
 have hP:=CV hf;have e1:(2*N+1)/2^(k+1)=N/2^k:=by
  rw[dj,be (2^k),←dk,show(2*N+1)/2=N by omega]
 have e2:(2*N+1)%2^(k+1)≠0:=by
  rw[dj,be (2^k),Nat.mod_mul];omega
 have h0:N/2^k≠0:=fun h=>by
  rw[h]at hb;have:Ae 0=0:=rfl;omega
 have:=aRc (f:=f) (m:=m) (neg:=neg) (N:=2*N+1) (k:=k+1) (E:=E-k-1) hf (by rw[e1];exact h0) (fun _=>by rw[e1];exact hb);rw[e1,decide_eq_true e2,show E-k-1+((k+1:Nat):Int)=E by omega]at this;exact this
def Jx(f m:Int)(neg:Bool)(R:Nat)(E:Int)(more:Bool):Nat×Nat:=if more=true then AP f m neg (2*R+1) (E-1) false else AP f m neg R E false
theorem aQ8{f m:Int}{neg:Bool}(hf:Fm f){R:Nat}{E:Int}{more:Bool}(hb:more=true->fP f+1<=Ae R):AP f m neg R E more=Jx f m neg R E more:=by
 unfold Jx;cases more
 ·rw[if_neg (by decide)]
 ·have:=aQ9 (f:=f) (m:=m) (neg:=neg) (N:=R) (k:=0) (E:=E) hf (by rw[gz,nk];exact hb rfl);rw[gz,nk]at this;rw[if_pos rfl,this];congr 1;omega
theorem bHU{f m:Int}{neg:Bool}(hf:Fm f){R k:Nat}{E:Int}{more:Bool}(hb:fP f+1<=Ae (R/2^k)):Jx f m neg (R/2^k) (E+k) (more||decide (R%2^k≠0))=Jx f m neg R E more:=by
 have h0:R/2^k≠0:=fun h=>by
  rw[h]at hb;have:Ae 0=0:=rfl;omega
 rw[←aQ8 hf (fun _=>hb)];unfold Jx;cases more
 ·rw[if_neg (by decide),bc];exact aRc hf h0 fun _=>hb
 ·rw[if_pos rfl,av];have:=aQ9 (f:=f) (m:=m) (neg:=neg) (N:=R) (k:=k) (E:=E+k) hf hb;rw[this,show E+(k:Int)-(k:Int)-1=E-1 by omega]
def FW(f m:Int)(neg:Bool)(n k:Nat)(e:Int):Nat×Nat:=Jx f m neg (n*2^300/k) (e-300) (decide (n*2^300%k≠0))
theorem bD1{n k:Nat}(hk:0<k)(t:Nat):(n*2^t/k)/2^t=n/k/\(n%k≠0↔(n*2^t%k≠0∨(n*2^t/k)%2^t≠0)):=by
 have hpp:=af t;have h1:(n*2^t/k)/2^t=n/k:=by
  rw[dk,be k,←dk,jd _ hpp]
 refine⟨h1,?_⟩;have a1:=cp (n*2^t) k;have a2:=cp (n*2^t/k) (2^t);have a3:=cp n k;rw[h1]at a2;generalize n*2^t%k=r at *
 generalize hQ:n*2^t/k=Q at *
 generalize Q%2^t=u at *
 generalize n%k=w at *
 generalize n/k=q at *
 have e:k*u+r=w*2^t:=by
  have h2:(k*q+w)*2^t=k*(2^t*q+u)+r:=by rw[a3,a2,a1]
  rw[ce,bw,ju,bh k,←bh k]at h2;omega
 constructor
 ·intro hw;rcases br r with hr|hr
  ·right;intro hu;rw[hu,hr,dz]at e;have:=ij (show 0<w by omega) hpp;omega
  ·left;omega
 ·intro h hw;rw[hw,ej]at e;rcases h with h|h
  ·omega
  ·have:=ij hk (show 0<u by omega);omega
theorem jB{f m:Int}{neg:Bool}(hf:Fm f){n k:Nat}(hn:n≠0)(hk:0<k)(e:Int){s:Nat}(hs:s<=300)(h:n*2^s%k≠0->fP f+1<=Ae (n*2^s/k)):
  Jx f m neg (n*2^s/k) (e-s) (decide (n*2^s%k≠0))=FW f m neg n k e:=by
 obtain⟨t,ht⟩:∃t,s+t=300:=⟨300-s,by omega⟩
 have e300:n*2^300=n*2^s*2^t:=by rw[bh,←bi,ht]
 obtain⟨q1,q2⟩:=bD1 (n:=n*2^s) hk t;unfold FW;rw[e300];by_cases hex:n*2^s%k=0
 ·have hq:n*2^s=k*(n*2^s/k):=by have:=cp (n*2^s) k;omega
  have hq0:n*2^s/k≠0:=fun h0=>by
   rw[h0,dz]at hq;exact kd hn (ku (af s)) hq
  have h1:n*2^s*2^t/k=(n*2^s/k)*2^t:=by
   rw[hq,bh k,im _ hk,im _ hk]
  have h2:n*2^s*2^t%k=0:=by
   rw[hq,bh k,Nat.mul_mod_right]
  rw[h1,h2,hex];unfold Jx;rw[if_neg (by decide),if_neg (by decide),WU hf hq0];congr 1;omega
 ·have hb:=h hex;have:=bHU (f:=f) (m:=m) (neg:=neg) hf (R:=n*2^s*2^t/k) (k:=t) (E:=e-300) (more:=decide (n*2^s*2^t%k≠0)) (by rw[q1];exact hb);rw[←this,q1,show e-300+(t:Int)=e-s by omega];congr 1;rw[fj,dv,decide_eq_true_eq,decide_eq_true_eq,decide_eq_true_eq];exact q2
def Wj(f m:Int)(a b:Nat):Int×Int×Int×Unit:=bif nan f a||nan f b then((Co f:Int),(bif Bk f a||Bk f b then 1 else 0),0,())else bif(Ax f a&&Ax f b)||(AM f a&&AM f b)then((Co f:Int),1,0,())else bif Ax f a then((Dn f (!(sF f a==sF f b)):Int),0,0,())else bif AM f b then((Dn f (!(sF f a==sF f b)):Int),2,0,())else bif Ax f b||AM f a then((Bs f (!(sF f a==sF f b)):Int),0,0,())else(((FW f m (!(sF f a==sF f b)) (Al f a) (Al f b) (Ao f a-Ao f b)).1:Int),((FW f m (!(sF f a==sF f b)) (Al f a) (Al f b) (Ao f a-Ao f b)).2:Int),0,())
def Jg(f m:Int)(a b:Nat):Int×Int×Int×Unit:=if ¬Fm f then(0,0,2,())else if m<0∨m>5 then(0,0,3,())else if Ah f a≠0 then(0,0,Ah f a,())else if Ah f b≠0 then(0,0,Ah f b,())else Wj f m a b
end VL
namespace VL
open Go Vx
def Bc(c:Int)(n:Nat)(e:Int):Prop:=c<=e/\e<=6000/\n*2^(e-c).toNat<2^5000
theorem Bc.lt{c:Int}{n:Nat}{e:Int}(h:Bc c n e):n<2^5000:=by
 have:=gj n (af (e-c).toNat);exact bl this h.2.2
theorem Bc.od{c:Int}(hc:-4000<=c/\c<=0){n:Nat}{e:Int}(s:Bool)(h:Bc c n e):Bc c (VL.od s n e).2.1 (VL.od s n e).2.2:=by
 rcases WJ s n e with⟨hz,_⟩|⟨_,h2,h3,h4,h5⟩
 ·rw[hz];exact⟨hc.2,by dsimp only;omega,by dsimp only;rw[ej];exact af _⟩
 ·have hle:2^(tz n+(e-c).toNat)<=n*2^(e-c).toNat:=by
   rw[bi];refine aw _ ?_;have:=gj (2^tz n) (show 0<(VL.od s n e).2.1 by omega);omega
  have hlt:=(cv (a:=2) (by decide)).1 (bl hle h.2.2);have hq:=hc.2;have h1:=h.1;refine⟨by omega,by omega,?_⟩;have e1:(VL.od s n e).2.1*2^((VL.od s n e).2.2-c).toNat=n*2^(e-c).toNat:=by
   rw[h5,show(e+(tz n:Int)-c).toNat=tz n+(e-c).toNat by omega,bi,←bh,be _ (2^tz n),←h4]
  rw[e1];exact h.2.2
end VL
namespace VL
open Go Vx
structure Beside (f:Int) (R d:Nat) (more:Bool) (B:Nat) (inex:Bool) (r:Int->Nat×Nat):Prop where
 CI:B+1<BC f
 pos:B≠0
 low:pv f B*2^d<=R
 high:R<pv f (B+1)*2^d
 ex:inex=(more||decide (pv f B*2^d≠R))
 any:∀m,0<=m/\m<=5->((r m).1=B∨(inex=true/\(r m).1=B+1))/\(r m).2=(bif inex then 16 else 0)
 down:(r 4).1=B
 up:(r 3).1=B+(bif inex then 1 else 0)
end VL
namespace VL
open Go Vx
theorem aXC{f:Int}(hf:Fm f)(l:List Nat)(hl:∀a∈l,a<2^64)(hlen:l.length<1000):
  qZ (((l.length:Int),(Wd l,(f,((0:Int),())))),())=some (bif O7 f l then .inl ((),())else .inr (((4:Int),()),())):=by
 have key:=CW (aPH As.pre As.F Aw.pre Aw.F) (fun x=>l.length-x.1.2.2.2.1.toNat)
  (fun x=>∃i:Nat,i<=l.length/\O7 f (l.take i)=true/\x=(((l.length:Int),(Wd l,(f,((i:Int),())))),()))
  (fun _=>bif O7 f l then .inl ((),())else .inr (((4:Int),()),())) ?_ _ ⟨0,dp _,rfl,rfl⟩
 ·exact key
 intro L x hx hL;obtain⟨i,hi,hok,rfl⟩:=hx;unfold Y8;rcases ay i l.length with hlt|hge
 ·have hg:l.getD i 0=l[i]:=by simp[al,hlt]
  have hmem:l[i]∈l:=jn hlt;have ha:=hl _ hmem;have p0:=K8 f l[i] ha;have e0:decide ((i:Int)<(l.length:Int))=true:=decide_eq_true (by omega);have e1:(decide ((0:Int)<=(i:Int))&&decide ((i:Int)<((Wd l).length:Int)))=true:=by rw[Az,decide_eq_true (by omega),decide_eq_true (by omega)];rfl
  have e2:(Wd l).getD (ag (i:Int)) 0=((l[i]:Nat):Int):=by rw[ab,BN,hg]
  have e3:aa .i64 ((i:Int)+1)=((i+1:Nat):Int):=by rw[Av (by omega)];omega
  have htk:l.take (i+1)=l.take i++[l[i]]:=by rw[jw hlt]
  dsimp only;simp only[e0,e1,e2,e3,cond_true,Jw p0,Jl p0];by_cases hc:Ah f l[i]=0
  ·rw[hc,bne_self_eq_false,cond_false];refine hL _ ⟨i+1,by omega,?_,rfl⟩ (by simp only[ab];omega);unfold O7 at hok⊢;rw[htk,List.all_append,hok,mm,hc];rfl
  ·have h4:Ah f l[i]=4:=(aDA hf _).resolve_left hc;have hno:O7 f l=false:=by
    unfold O7;rw[List.all_eq_false];exact⟨l[i],hmem,by rw[h4];decide⟩
   rw[h4,hno];rfl
 ·have e:i=l.length:=by omega
  subst e;rw[dq]at hok;have e0:decide ((l.length:Int)<(l.length:Int))=false:=decide_eq_false (by omega);simp only[e0,cond_false];rw[hok];rfl
theorem aWK(f m:Int)(l:List Nat)(hl:∀a∈l,a<2^64)(hlen:l.length<1000):XJ (f,m,Wd l,())=some (Fr f m l,()):=by
 show yB As.pre As.F Aw.pre Aw.F qZ f m (Wd l)=_;unfold yB Fr;by_cases hf:Fm f
 ·have p0:=IZ hf;rw[if_neg (show ¬¬Fm f from fun h=>h hf)];simp only[C2 p0,CZ p0,cond_true,bne_self_eq_false,cond_false];by_cases hm:m<0∨m>5
  ·rw[if_pos hm];have:(decide (m<0)||decide (m>5))=true:=by rcases hm with h|h<;>simp[h]
   rw[this,cond_true]
  ·rw[if_neg hm];have:(decide (m<0)||decide (m>5))=false:=by
    rw[decide_eq_false (by omega),decide_eq_false (by omega)];rfl
   rw[this,cond_false,Az,aXC hf l hl hlen];cases O7 f l<;>rfl
 ·have p0:=K9 hf;rw[if_pos hf];simp only[C2 p0,CZ p0,cond_true];rfl
theorem aH5{f:Int}{a:Nat}(h:Ah f a=0):dX (f,(a:Int),())=some ((nan f a,Bk f a,Ax f a,AM f a,sF f a,()),()):=by
 show yC By.pre By.F Ck.pre Ck.F f a=_;unfold yC;obtain⟨hf,_⟩:=Fs h;have p0:=pX (WL h) h;have p1:=aBA h;simp only[Vb p0,U0 p0,aFk p1,aEm p1,cond_true];rw[tC,tD,qt (Cm f a==9),aDE,qt (Cm f a==6),aNn hf]
theorem aH6{f:Int}(hf:Fm f)(x:Int):dY (f,x,())=some ((Co f:Int),x,0,()):=by
 show yD Bp.pre Bp.F f x=_;unfold yD;have p0:=pZ hf;simp only[vJ p0,uD p0,cond_true]
theorem aZo(N:Nat){k:Nat}(hk:0<k):(k<=2*(N%k)->2*N/k=2*(N/k)+1/\2*N%k=2*(N%k)-k)/\(2*(N%k)<k->2*N/k=2*(N/k)/\2*N%k=2*(N%k)):=by
 have h1:=cp N k;have h2:=ca N hk;generalize N/k=q at *
 generalize N%k=r at *
 constructor
 ·intro h;have e:2*N=k*(2*q+1)+(2*r-k):=by
   rw[bw,fy,gc k 2 q];omega
  rw[e,kf hk,kg,cg (by omega),bo (by omega)];exact⟨rfl,rfl⟩
 ·intro h;have e:2*N=k*(2*q)+2*r:=by
   rw[gc k 2 q];omega
  rw[e,kf hk,kg,cg (by omega),bo (by omega)];exact⟨rfl,rfl⟩
theorem bDW{n k D s:Nat}(hk0:0<k)(hk:k<2^64)(hn0:n≠0)(h:Ae (n*2^s/k)<D):s<64+D/\n*2^s<2^(64+D):=by
 have h1:n*2^s/k<2^D:=ao (FU _) (ai (by decide) (by omega));have h2:n*2^s<2^D*k:=(bv hk0).1 h1;have h3:2^D*k<=2^D*2^64:=cd _ (by omega);rw[←bi]at h3;have h4:1*2^s<=n*2^s:=aw _ (by omega);rw[fx]at h4;have h5:2^s<2^(D+64):=by omega
 have h6:=(cv (a:=2) (by decide)).1 h5;rw[iq 64 D];exact⟨h6,by omega⟩
theorem aXD{n k D s0:Nat}(hk0:0<k)(hk:k<2^64)(hn0:n≠0)(hn:n<2^64)(hD:D<=100)(hs0:s0<=64):
  ∃s:Nat,s<=64+D/\(n*2^s%k≠0->D<=Ae (n*2^s/k)) /\
   rA (((D:Int),(Dw k,(Dw (n*2^s0%k),((),((),()))))),((false,([],((0:Int),(false,())))),((false,(Dw (n*2^s0/k),(-(s0:Int),(false,())))),()))) =
    some (.inl ((Dw (n*2^s%k),((),((),()))),((false,([],((0:Int),(false,())))),((false,(Dw (n*2^s/k),(-(s:Int),(false,())))),())))):=by
 have key:=O4 (aPI D6.pre D6.F E0.pre E0.F Cj.pre Cj.F B5.pre B5.F D5.pre D5.F Dr.pre Dr.F) (fun x=>(300+x.2.2.1.2.2.1).toNat)
  (fun x=>∃s:Nat,s<=64+D/\x=(((D:Int),(Dw k,(Dw (n*2^s%k),((),((),()))))),((false,([],((0:Int),(false,())))),((false,(Dw (n*2^s/k),(-(s:Int),(false,())))),()))))
  (fun y=>∃s:Nat,s<=64+D/\(n*2^s%k≠0->D<=Ae (n*2^s/k))/\y=.inl ((Dw (n*2^s%k),((),((),()))),((false,([],((0:Int),(false,())))),((false,(Dw (n*2^s/k),(-(s:Int),(false,())))),())))) ?_
  _ ⟨s0,by omega,rfl⟩
 ·obtain⟨y,hy,s,k1,k2,rfl⟩:=key;exact⟨s,k1,k2,hy⟩
 intro L x hx hL;obtain⟨s,hs,rfl⟩:=hx;unfold Y9;have hr:=ca (n*2^s) hk0;have hN:n*2^s<2^(64+(64+D)):=by
  rw[bi];exact ao (ck hn (af s)) (cd _ (ai (by decide) hs))
 have hq:n*2^s/k<2^(64+(64+D)):=bl (ee _ _) hN;have hqb:=Jb hq (by omega);have hrb:=Jb (fq hr hk) (by decide);have hkb:=Jb hk (by decide);have p0:=VD hqb;have e2s:2*(n*2^s)=n*2^(s+1):=by rw[dj];ac_rfl
 obtain⟨d1,d2⟩:=aZo (n*2^s) hk0;rw[e2s]at d1 d2;have hstop:=bDW (n:=n) (k:=k) (D:=D) (s:=s) hk0 hk hn0;have gen:=hL;dsimp only at gen⊢;generalize hQ:n*2^s/k=q at *
 generalize hR:n*2^s%k=r at *
 simp only[WN p0,Wv p0,cond_true];by_cases hgo:Ae q<D/\r≠0
 ·obtain⟨g1,g2⟩:=hgo;have hs1:=(hstop g1).1;rw[decide_eq_true (show(Ae q:Int)<(D:Int) by omega),LZ g2];have p1:=aBj hqb hqb;have p2:=aBj hrb hrb;have h65:r+r<2^65:=by
   have:(2:Nat)^65=2*2^64:=by decide
   omega
  have hrr:=Jb h65 (by decide);have hqq:q+q<2^(65+(64+D)):=by
   have:(2:Nat)^(65+(64+D))=2*2^(64+(64+D)):=by rw[show 65+(64+D)=(64+(64+D))+1 by omega,dj,be]
   omega
  have p3:=aBk hrr hkb;have ew:aa .i64 (-(s:Int)-1)=-((s+1:Nat):Int):=by rw[Av (by omega)];omega
  simp only[ax,cond_true,Pb p1,OY p1,Pb p2,OY p2,aE9 p3,aEb p3,ew];have hμ:(300 + -((s+1:Nat):Int)).toNat<(300 + -(s:Int)).toNat:=by omega
  by_cases hge:k<=2*r
  ·obtain⟨f1,f2⟩:=d1 hge;have p4:=aWl hrr (show k<=r+r by omega);have p5:=aBj (Jb hqq (by omega)) (show 1<(2^64)^5000 from Jb (k:=1) (by decide) (by decide));rw[aTA]at p5;have eg:decide ((if r+r=k then(0:Int)else if r+r<k then -1 else 1)>=0)=true:=by
    by_cases h:r+r=k
    ·rw[if_pos h];rfl
    ·rw[if_neg h,if_neg (by omega)];rfl
   rw[eg];simp only[cond_true,bC5 p4,bAe p4,Pb p5,OY p5];refine gen _ ⟨s+1,by omega,?_⟩ hμ;rw[f1,f2,show 2*q+1=q+q+1 by omega,show 2*r-k=r+r-k by omega]
  ·obtain⟨f1,f2⟩:=d2 (by omega);have eg:decide ((if r+r=k then(0:Int)else if r+r<k then -1 else 1)>=0)=false:=by
    rw[if_neg (by omega),if_pos (by omega)];rfl
   rw[eg];simp only[cond_false];refine gen _ ⟨s+1,by omega,?_⟩ hμ;rw[f1,f2,show 2*q=q+q by omega,show 2*r=r+r by omega]
 ·have e:(decide ((Ae q:Int)<(D:Int))&&decide (((Dw r).length:Int)>0))=false:=by
   by_cases g1:Ae q<D
   ·have g2:r=0:=ji.1 fun h=>hgo ⟨g1,h⟩;rw[g2,Ff];exact ar _
   ·rw[decide_eq_false (show ¬(Ae q:Int)<(D:Int) by omega),ak]
  rw[e,cond_false];refine⟨_,rfl,s,hs,?_,?_⟩
  ·intro h;rw[hR]at h;rw[hQ];by_cases g1:Ae q<D
   ·exact absurd ⟨g1,h⟩ hgo
   ·omega
  ·rw[hQ,hR]
theorem aWL{n k D:Nat}(hk0:k≠0)(hk:k<2^64)(hn0:n≠0)(hn:n<2^64)(hD:D<=100):
  ∃s:Nat,s<=64+D/\(n*2^s%k≠0->D<=Ae (n*2^s/k)) /\
   dZ (Dw n,Dw k,(D:Int),())=some ((false,Dw (n*2^s/k),(-(s:Int)),decide (n*2^s%k≠0),()),()):=by
 have bk:=CS hk;have bn:=CS hn;have p0:=VD (Jb hk (by decide));have p1:=VD (Jb hn (by decide));obtain⟨s0,hs0,hsl⟩:∃s0:Nat,(if(Ae k:Int)-(Ae n:Int)-1>0 then(Ae k:Int)-(Ae n:Int)-1 else 0)=(s0:Int)/\s0<=64:=by
  by_cases h:(Ae k:Int)-(Ae n:Int)-1>0
  ·exact⟨Ae k-Ae n-1,by rw[if_pos h];omega,by omega⟩
  ·exact⟨0,by rw[if_neg h];rfl,by omega⟩
 obtain⟨s,k1,k2,k3⟩:=aXD (D:=D) (s0:=s0) (by omega) hk hn0 hn hD hsl;refine⟨s,k1,k2,?_⟩;show yE D6.pre D6.F E0.pre E0.F Cj.pre Cj.F B5.pre B5.F D5.pre D5.F Dr.pre Dr.F rA (Dw n) (Dw k) D=_;unfold yE;have hN:n*2^s0<2^128:=by
  rw[show(128:Nat)=64+64 from rfl,bi];exact ao (ck hn (af s0)) (cd _ (ai (by decide) hsl))
 have hN':n*2^s0<(2^64)^1024:=ao hN (by rw[←fw];exact ai (by decide) (by decide));have hk':k<(2^64)^1024:=ao hk (by rw[←fw];exact ai (by decide) (by decide));have p2:=aHL (dg (2^64) n) (D1 (Jb hn (by decide))) s0 (by omega) (by rw[C1];exact hN');rw[C1]at p2;have p2:VG (Dw n,(s0:Int),())=_:=p2;have p3:=aWI hN' hk' hk0;have w1:aa .i64 ((Ae k:Int)-(Ae n:Int))=(Ae k:Int)-(Ae n:Int):=Av (by omega);have w2:aa .i64 ((Ae k:Int)-(Ae n:Int)-1)=(Ae k:Int)-(Ae n:Int)-1:=Av (by omega);have w3:aa .i64 (0-(s0:Int))=-(s0:Int):=by rw[Av (by omega)];omega
 simp only[WN p0,Wv p0,WN p1,Wv p1,cond_true,w1,w2,hs0,kY p2,jS p2,bDm p3,bAv p3,w3,k3];show some _=_;congr 4;by_cases h:n*2^s%k=0
 ·rw[h,Ff];rfl
 ·rw[LZ h,decide_eq_true h]
theorem aHl{n:Nat}(hn:n<(2^64)^5000):Xs (Dw n,())=some (Dw n,()):=by
 have p0:=aHm (dg (2^64) n) (D1 hn);rw[C1]at p0;exact p0
theorem aWM{f m:Int}(hf:Fm f)(hm:0<=m/\m<=5)(neg:Bool){n k:Nat}(hk0:k≠0)(hk:k<2^64)(hn0:n≠0)(hn:n<2^64){e:Int}(he:-40000<=e/\e<=40000):
  d0 (f,m,neg,Dw n,Dw k,e,())=some (((FW f m neg n k e).1:Int),((FW f m neg n k e).2:Int),0,()):=by
 show yF FN.pre FN.F Ci.pre Ci.F IW.pre IW.F TT.pre TT.F FO.pre FO.F f m neg (Dw n) (Dw k) e=_;unfold yF;have hP:=DT hf;have hP2:=E8 hf;have p0:=aHp hf hm;have p1:=aHl (Jb hk (by decide));have p2:=aHl (Jb hn (by decide));obtain⟨s,k1,k2,p3⟩:=aWL (D:=fP f+3) hk0 hk hn0 hn (by omega);have hN:n*2^s<2^(64+s):=by
  rw[bi];exact ck hn (af s)
 have hq:n*2^s/k<2^(64+s):=bl (ee _ _) hN;have p4:=aHr neg (n*2^s/k) (e-s) (decide (n*2^s%k≠0)) f m hf (aYU hq (by omega)) (by omega);rw[aQ8 hf (fun h=>by have:=k2 (of_decide_eq_true h);omega),jB hf hn0 (by omega) e (by omega) (fun h=>by have:=k2 h;omega)]at p4;have r1:(Cq f).2.1=(fP f:Int):=rfl;have w1:aa .i64 ((fP f:Int)+3)=((fP f+3:Nat):Int):=by rw[Av (by omega)];omega
 have w2:aa .i64 (-(s:Int)+e)=e-s:=by rw[Av (by omega)];omega
 have l1:(Dw n).length=1:=by rw[nO hn0 hn];rfl
 have l2:(Dw k).length=1:=by rw[nO hk0 hk];rfl
 have w3:decide (aa .i64 (((1:Nat):Int)+((1:Nat):Int))>1024)=false:=by decide
 have w4:(decide (e<(-(40000:Int)))||decide (e>(40000:Int)))=false:=by rw[decide_eq_false (by omega),decide_eq_false (by omega)];rfl
 have w5:((((1:Nat):Int))==(0:Int))=false:=by decide
 simp only[aQr p0,aOg p0,bne_self_eq_false,cond_true,cond_false,aE6 p1,aD8 p1,aE6 p2,aD8 p2,l1,l2,w3,w4,w5,r1,w1,bDp p3,bAy p3,w2,aQs p4,aOh p4]
theorem aZw{f m:Int}{neg:Bool}(hf:Fm f){n k t u:Nat}(hn0:n≠0)(hk0:k≠0)(hn:n*2^t<2^53)(hk:k*2^u<2^53)(e:Int):
  FW f m neg (n*2^t) (k*2^u) e=FW f m neg n k (e+t-u):=by
 have hP:=E8 hf;have ht:t<53:=by
  have:1*2^t<=n*2^t:=aw _ (by omega);exact(cv (a:=2) (by decide)).1 (by omega)
 have hu:u<53:=by
  have:1*2^u<=k*2^u:=aw _ (by omega);exact(cv (a:=2) (by decide)).1 (by omega)
 obtain⟨s,hs⟩:∃s,s+u=120+t:=⟨120+t-u,by omega⟩
 have hk1:0<k:=by omega
 have hup:=af u;have e1:n*2^t*2^120=n*2^s*2^u:=by
  rw[bh,bh,←bi,←bi,hs,iq]
 have hbig:fP f+1<=Ae (n*2^s/k):=by
  apply Jc;rw[go hk1];have h1:2^fP f*(k*2^u)<=2^53*2^53:=ic (ai (by decide) hP) (by omega);have h2:1*2^(120+t)<=n*2^(120+t):=aw _ (by omega);have h3:(2:Nat)^53*2^53<=2^(120+t):=by rw[←bi];exact ai (by decide) (by omega)
  have h4:2^fP f*k*2^u<=n*2^s*2^u:=by
   rw[bh,bh n,←bi,hs];omega
  exact Nat.le_of_mul_le_mul_right h4 hup
 have a1:=jB (f:=f) (m:=m) (neg:=neg) hf (n:=n*2^t) (k:=k*2^u) (kd hn0 (ku (af t))) (ij hk1 hup) e (s:=120) (by decide)
  (by rw[e1,ky _ _ hup];exact fun _=>hbig)
 have a2:=jB (f:=f) (m:=m) (neg:=neg) hf hn0 hk1 (e+t-u) (s:=s) (by omega) (fun _=>hbig);rw[←a1,←a2,e1,ky _ _ hup,fm,show e-((120:Nat):Int)=e+(t:Int)-(u:Int)-(s:Int) by omega];congr 1;rw[fj,decide_eq_true_eq,decide_eq_true_eq];constructor
 ·intro h hc;rw[hc,ej]at h;exact h rfl
 ·intro h;exact kd h (by omega)
theorem aZv{f m:Int}{neg:Bool}(hf:Fm f)(s s':Bool){n k:Nat}(hn0:n≠0)(hk0:k≠0)(hn:n<2^53)(hk:k<2^53)(x y:Int):
  FW f m neg (od s n x).2.1 (od s' k y).2.1 ((od s n x).2.2-(od s' k y).2.2)=FW f m neg n k (x-y):=by
 rcases WJ s n x with⟨_,h⟩|⟨_,h2,_,h4,h5⟩
 ·exact absurd h hn0
 rcases WJ s' k y with⟨_,h⟩|⟨_,g2,_,g4,g5⟩
 ·exact absurd h hk0
 generalize(od s n x).2.1=n1 at *
 generalize(od s' k y).2.1=k1 at *
 rw[h5,g5];rw[be]at h4 g4;have:=aZw (f:=f) (m:=m) (neg:=neg) hf (n:=n1) (k:=k1) (t:=tz n) (u:=tz k) (by omega) (by omega) (by rw[←h4];exact hn) (by rw[←g4];exact hk) (x-y);rw[←h4,←g4]at this;rw[this];congr 1;omega
theorem vY{f:Int}{a:Nat}(h:Bk f a=true):nan f a=true:=by
 cases hn:nan f a
 ·rw[Pj hn]at h;exact absurd h (by decide)
 ·rfl
theorem aDT{f:Int}{a:Nat}(h1:nan f a=false)(h2:Ax f a=false):eF f a≠AH f:=fun he=>by
 unfold nan at h1
 unfold Ax at h2
 rw[he]at h1 h2
 simp at h1 h2
 exact h2 h1
theorem aWN(f m:Int){a b:Nat}(ha:a<2^64)(hb:b<2^64):eB (f,m,(a:Int),(b:Int),())=some (Jg f m a b):=by
 show yG TQ.pre TQ.F TR.pre TR.F TS.pre TS.F CR.pre CR.F B4.pre B4.F DP.pre DP.F TU.pre TU.F f m a b=_;unfold yG Jg;have p0:=aWK f m [a,b] (fun c hc=>by
  rcases dc.1 hc with rfl|hc
  ·exact ha
  ·rw[kp]at hc;omega) (show(2:Nat)<1000 by decide)
 have p0:XJ (f,m,((a:Int)::((b:Int)::[])),())=_:=p0;simp only[bDo p0,bAx p0,cond_true];clear p0;unfold Fr;by_cases hf:¬Fm f
 ·rw[if_pos hf,if_pos hf];rfl
 have hf:=ji.1 hf;rw[if_neg (show ¬¬Fm f from fun h=>h hf),if_neg (show ¬¬Fm f from fun h=>h hf)];by_cases hm:m<0∨m>5
 ·rw[if_pos hm,if_pos hm];rfl
 rw[if_neg hm,if_neg hm];have hm':0<=m/\m<=5:=by omega
 have ho:O7 f [a,b]=(Ah f a==0&&(Ah f b==0&&true)):=rfl;rw[ho];by_cases hca:Ah f a≠0
 ·have h4:=(aDA hf a).resolve_left hca;rw[if_pos hca,h4];rfl
 have hca:=ji.1 hca;rw[if_neg (fun h=>h hca),hca];by_cases hcb:Ah f b≠0
 ·have h4:=(aDA hf b).resolve_left hcb;rw[if_pos hcb,h4];rfl
 have hcb:=ji.1 hcb;rw[if_neg (fun h=>h hcb),hcb];have e0:((bif((0:Int)==0&&((0:Int)==0&&true))then(0:Int)else 4)!=0)=false:=rfl;rw[e0,cond_false];have p1:=aH5 hca;have p2:=aH5 hcb;have p3:=aH6 hf 0;have p4:=aH6 hf 1;have p5:=aBz hf (!(sF f a==sF f b));have p6:=cH hf (!(sF f a==sF f b));have ma:=HI hf a;have mb:=HI hf b;have xa:=LX hf a;have xb:=LX hf b;simp only[aQI p1,aOx p1,aQI p2,aOx p2,cond_true,aQJ p3,aOy p3,aQJ p4,aOy p4,aFj p5,aEl p5,kV p6,jP p6];unfold Wj;cases sa:Bk f a
 ·cases sb:Bk f b
  ·simp only[ba,cond_false];cases na:nan f a
   ·cases nb:nan f b
    ·simp only[ba,cond_false];cases hi:Ax f a&&Ax f b||AM f a&&AM f b
     ·simp only[cond_false];cases ia:Ax f a
      ·simp only[cond_false];cases zb:AM f b
       ·simp only[cond_false];cases iz:Ax f b||AM f a
        ·simp only[cond_false];rw[gx]at iz;have q1:=aIq hca (aDT na ia);have q2:=aIq hcb (aDT nb iz.1);have mza:=EO iz.2;have mzb:=EO zb;obtain⟨o1,o2,o3⟩:=aP7 (sF f a) (n:=Al f a) (Ao f a) ma xa;obtain⟨o4,o5,o6⟩:=aP7 (sF f b) (n:=Al f b) (Ao f b) mb xb;have n1:(od (sF f a) (Al f a) (Ao f a)).2.1≠0:=by
          rcases WJ (sF f a) (Al f a) (Ao f a)with⟨_,h⟩|⟨_,h2,_,_,_⟩
          ·exact absurd h mza
          ·omega
         have n2:(od (sF f b) (Al f b) (Ao f b)).2.1≠0:=by
          rcases WJ (sF f b) (Al f b) (Ao f b)with⟨_,h⟩|⟨_,h2,_,_,_⟩
          ·exact absurd h mzb
          ·omega
         have q3:=aWM hf hm' (!(sF f a==sF f b)) (n:=(od (sF f a) (Al f a) (Ao f a)).2.1) (k:=(od (sF f b) (Al f b) (Ao f b)).2.1) n2 (by omega) n1 (by omega) (e:=(od (sF f a) (Al f a) (Ao f a)).2.2-(od (sF f b) (Al f b) (Ao f b)).2.2) (by omega);rw[aZv hf _ _ mza mzb ma mb]at q3;have w1:aa .i64 ((od (sF f a) (Al f a) (Ao f a)).2.2-(od (sF f b) (Al f b) (Ao f b)).2.2)=(od (sF f a) (Al f a) (Ao f a)).2.2-(od (sF f b) (Al f b) (Ao f b)).2.2:=Av (by omega);have d1:∀t:Bool×Nat×Int,(Yt t).2.1=Dw t.2.1:=fun _=>rfl;have d2:∀t:Bool×Nat×Int,(Yt t).2.2.1=t.2.2:=fun _=>rfl;simp only[aQK q1,aOz q1,aQK q2,aOz q2,cond_true,d1,d2,w1,bDq q3,bAz q3]
        ·rfl
       ·rfl
      ·rfl
     ·rfl
    ·rfl
   ·cases nb:nan f b<;>rfl
  ·have nb:=vY sb;rw[nb,bd,bd];rfl
 ·have na:=vY sa;rw[na];rfl
end VL
namespace VL
open Go Vx
theorem aEx{w:Int}(hw:Fm w)(s:Bool):Ah w (Dn w s)=0/\nan w (Dn w s)=false/\Ax w (Dn w s)=true/\AM w (Dn w s)=false/\sF w (Dn w s)=s:=by
 rcases Cs hw with rfl|rfl|rfl|rfl<;>cases s<;>decide +kernel
theorem aTu{w:Int}(hw:Fm w)(s:Bool):Ah w (Bs w s)=0/\nan w (Bs w s)=false/\Ax w (Bs w s)=false/\AM w (Bs w s)=true/\sF w (Bs w s)=s/\Al w (Bs w s)=0:=by
 rcases Cs hw with rfl|rfl|rfl|rfl<;>cases s<;>decide +kernel
def same(f w:Int)(a x:Nat):Prop:=Ah f a=0/\Ah w x=0/\nan w x=nan f a/\Ax w x=Ax f a/\AM w x=AM f a/\(nan f a=false->sF w x=sF f a)/\(nan f a=false->Ax f a=false->VV w x=VV f a)
end VL
namespace VL
open Go Vx
theorem aFx{w:Int}(hw:Fm w)(m:Int)(s:Bool)(N:Nat)(E:Int):Ah w (AP w m s N E false).1=0:=by
 rw[Vg hw];have h1:=lI hw m s N E;have h2:=aEv hw;exact uL hw s (by omega)
end VL
namespace VL
open Go Vx
def bBa(f m:Int)(a:Nat)(tell:Bool):Int×Int×Int×Unit:=if Fr f m [a]≠0 then(0,0,Fr f m [a],())else bif nan f a then((Co f:Int),(bif Bk f a then 1 else 0),0,())else bif Ax f a||AM f a||decide (0<=Ao f a)then((a:Int),0,0,())else((if BB m (sF f a) (Al f a) (Ao f a) 0 false=0 then(Bs f (sF f a):Int)else((AP f m (sF f a) (BB m (sF f a) (Al f a) (Ao f a) 0 false) 0 false).1:Int)),(bif decide (Dj (Al f a) (Ao f a) 0 false≠0)&&tell then 16 else 0),0,())
def uN(k:Int):Nat:=if k=0 then 2^31-1 else if k=1 then 2^63-1 else if k=2 then 2^32-1 else 2^64-1
def i2(k:Int):Nat:=if k=0 then 2^31 else if k=1 then 2^63 else 0
def aEP(x:Nat):Nat:=(2^64-x)%2^64
def aO2(k:Int)(neg:Bool)(u:Nat)(other:Bool):Int×Int×Int×Unit:=bif neg then(if u>i2 k then((aEP (i2 k):Int),1,0,())else((aEP u:Int),(bif other then 16 else 0),0,()))else(if u>uN k then((uN k:Int),1,0,())else((u:Int),(bif other then 16 else 0),0,()))
def bJC(f m k:Int)(a:Nat):Int×Int×Int×Unit:=if Fr f m []≠0 then(0,0,Fr f m [],())else if k<0∨k>3 then(0,0,9,())else if Ah f a≠0 then(0,0,Ah f a,())else bif nan f a||(Ax f a&&!sF f a)then((uN k:Int),1,0,())else bif Ax f a then((aEP (i2 k):Int),1,0,())else if Ao f a<0 then aO2 k (sF f a) (BB m (sF f a) (Al f a) (Ao f a) 0 false) (decide (Dj (Al f a) (Ao f a) 0 false≠0))else aO2 k (sF f a) (Al f a*2^(Ao f a).toNat) false
def aZ1(f m k:Int)(x:Nat):Int×Int×Int×Unit:=
 if Fr f m []≠0 then(0,0,Fr f m [],())
 else if k<0∨k>3 then(0,0,9,())
 else
  let neg:=decide (0<i2 k)&&decide (2^63<=x)
  let n:=bif neg then 2^64-x else x
  if n>(bif neg then i2 k else uN k)then(0,0,7,())
  else if n=0 then(0,0,0,())else(((AP f m neg n 0 false).1:Int),((AP f m neg n 0 false).2:Int),0,())
end VL
namespace VL
open Go Vx
def fv(f:Int)(a:Nat):Int:=bif nan f a||Ax f a then 0 else vA f a
def bBb(f:Int)(a b:Nat):Bool:=(Ax f a&&AM f b)||(Ax f b&&AM f a)
def pv2(f:Int)(a b:Nat):Int:=bif Ax f a||Ax f b then 0 else fv f a*fv f b
def bJn(f m c:Int)(s t:Bool)(S T:Int):Int×Int×Int×Unit:=if S+T=0 then((Bs f (bif(S==0&&T==0)&&(s==t)then s else m==4):Int),0,0,())else(((AP f m (decide (S+T<0)) (S+T).natAbs c false).1:Int),((AP f m (decide (S+T<0)) (S+T).natAbs c false).2:Int),0,())
def aZS(f m:Int)(a b c:Nat):Int×Int×Int×Unit:=bif(Bk f a||Bk f b||Bk f c)||(!(nan f a||nan f b)&&bBb f a b)then((Co f:Int),1,0,())else bif nan f a||nan f b||nan f c then((Co f:Int),0,0,())else bif((Ax f a||Ax f b)&&Ax f c)&&!((!(sF f a==sF f b))==sF f c)then((Co f:Int),1,0,())else bif Ax f a||Ax f b then((Dn f (!(sF f a==sF f b)):Int),0,0,())else bif Ax f c then((Dn f (sF f c):Int),0,0,())else bJn f m (qm f+qm f) (!(sF f a==sF f b)) (sF f c) (pv2 f a b) (fv f c*(2^(qm f-(qm f+qm f)).toNat:Nat))
def aZR(f m:Int)(a b c:Nat):Int×Int×Int×Unit:=if Fr f m [a,b,c]≠0 then(0,0,Fr f m [a,b,c],())else aZS f m a b c
end VL
namespace VL
open Go Vx
def vR(f:Int)(a b:Nat):Int×Int×Bool×Int×Unit:=if Fr f 0 [a,b]≠0 then(0,0,true,Fr f 0 [a,b],())else bif Bk f a||Bk f b then((Co f:Int),1,true,0,())else bif nan f a||nan f b then((Co f:Int),0,true,0,())else bif Ax f a||AM f b then((Co f:Int),1,true,0,())else bif Ax f b||AM f a then((a:Int),0,true,0,())else(0,0,false,0,())
def wA(X:Nat)(ex ey:Int):Nat:=X*2^(ex-min ex ey).toNat
def wB(Y:Nat)(ex ey:Int):Nat:=Y*2^(ey-min ex ey).toNat
def bHK(A B:Nat)(WH:Bool):Bool×Nat×Nat:=if(WH&&(decide (2*(A%B)>B)||(decide (2*(A%B)=B)&&decide (A/B%2=1))))=true then(true,B-A%B,A/B+1)else(false,A%B,A/B)
def bHL(f:Int)(a b:Nat)(WH:Bool):Int×Int×Int×Int×Unit:=let e:=min (Ao f a) (Ao f b);let t:=bHK (wA (Al f a) (Ao f a) (Ao f b)) (wB (Al f b) (Ao f a) (Ao f b)) WH;((if t.2.1=0 then(Bs f (sF f a):Int)else((AP f 2 (bif t.1 then !sF f a else sF f a) t.2.1 e false).1:Int)),((t.2.2%8:Nat):Int),0,0,())
def vQ(f:Int)(a b:Nat)(WH:Bool):Int×Int×Int×Int×Unit:=bif(vR f a b).2.2.1 then((vR f a b).1,0,(vR f a b).2.1,(vR f a b).2.2.2.1,())else bHL f a b WH
end VL
namespace VL
open Go Vx
def aNq(f w m:Int)(a:Nat):Int:=if ¬(Fm f/\Fm w)then 2 else if m<0∨m>5 then 3 else Ah f a
def aZi(f w m:Int)(a:Nat):Int×Int×Int×Unit:=if aNq f w m a≠0 then(0,0,aNq f w m a,())else bif nan f a then((Co w:Int),(bif Bk f a then 1 else 0),0,())else bif Ax f a then((Dn w (sF f a):Int),0,0,())else bif AM f a then((Bs w (sF f a):Int),0,0,())else(((AP w m (sF f a) (Al f a) (Ao f a) false).1:Int),((AP w m (sF f a) (Al f a) (Ao f a) false).2:Int),0,())
def aNr(f:Int)(a b:Nat):Int×Int×Unit:=if Ah f a≠0 then(0,Ah f a,())else if Ah f b≠0 then(0,Ah f b,())else((CA f (sF f b) (Cl f a):Int),0,())
end VL
namespace VL
open Go Vx
def aZc(f:Int)(a:Nat):Int×Int×Int×Unit:=if Ah f a=0 then(aa .u64 (Cm f a),0,0,())else(0,0,Ah f a,())
def bBX(f:Int)(a:Nat):Int×Int×Int×Unit:=if Ah f a=0 then((DK f a:Int),0,0,())else(0,0,Ah f a,())
def aYC(f:Int)(a:Nat):Int×Int×Int×Unit:=((KZ.F (f,(a:Int),())).1,0,(KZ.F (f,(a:Int),())).2.1,())
def DX(m op f:Int)(a b c:Nat):Int×Int×Int×Unit:=if op=1 then HB f m a b else if op=2 then Jz f m a b else if op=3 then Jr f m a b else if op=4 then Jg f m a b else if op=5 then bI6 f m a else if op=6 then aZR f m a b c else if op=7 then((vQ f a b true).1,(vQ f a b true).2.2)else if op=8 then((vQ f a b false).1,(vQ f a b false).2.2)else if op=9 then bBa f m a true else if op=10 then aZi f (aa .i64 (c:Int)) m a else if op=11 then bJC f m (aa .i64 (c:Int)) a else if op=12 then aZ1 f m (aa .i64 (c:Int)) a else if op=13 then aQn f a b false else if op=14 then aQn f a b true else if op=15 then(aa .u64 (tE f a b false).1,(tE f a b false).2)else if op=16 then(aa .u64 (tE f a b true).1,(tE f a b true).2)else if op=17 then bJd f a 1 else if op=18 then bIV f m a (aa .i64 (b:Int))else if op=19 then aZc f a else if op=20 then bBX f a else if op=21 then aYC f a else if op=22 then((aNr f a b).1,0,(aNr f a b).2)else(0,0,0,())
abbrev Ask:=Ab (.pair (.int .i64) (.pair (.int .i64) (.pair (.int .u64) (.pair (.int .u64) (.pair (.int .u64) .unit)))))
def Vn(w:Option (Nat×List Nat))(k:Ask)(y:DenS En):Prop:=KX.pre w (k,())=true/\KX.F w (k,())=y
theorem tK{w:Option (Nat×List Nat)}{k:Ask}{y:DenS En}{p:Bool}{v:DenS En}(h1:KX.pre w (k,())=p)(h2:KX.F w (k,())=v)(h3:p=true)(h4:v=y):Vn w k y:=⟨h1.trans h3,h2.trans h4⟩
theorem Vh{op:Int}(h1:1<=op)(h2:op<=22){n:Int}{w:Option (Nat×List Nat)}(h:(GA.F ()).1.getD op.toNat ((0:Int),none,())=(n,w,())):NS (op,())=some ((n,w,()),0,()):=by
 show aI GA.pre GA.F op=_;unfold aI;have hp:GA.pre ()=true:=by kernel_rfl
 have hl:(GA.F ()).1.length=23:=by kernel_rfl
 rw[hp,hl,h,decide_eq_false (show ¬op<1 by omega),decide_eq_false (show ¬op>=((23:Nat):Int) by omega),decide_eq_true (show(0:Int)<=op by omega),decide_eq_true (show op<((23:Nat):Int) by omega)];rfl
theorem bHX{op:Int}(h:op<1∨op>22):NS (op,())=some (((0:Int),none,()),190,()):=by
 show aI GA.pre GA.F op=_;unfold aI;have hp:GA.pre ()=true:=by kernel_rfl
 have hl:(GA.F ()).1.length=23:=by kernel_rfl
 have:(decide (op<1)||decide (op>=((23:Nat):Int)))=true:=by rw[dv,decide_eq_true_eq,decide_eq_true_eq];omega
 rw[hp,hl,this];rfl
theorem aAo{g:Nat}{k:Ask}{p:Bool}{y:DenS MN}(h1:Ty.pre (some (g,[])) (k.2.1,k.1,k.2.2.1,k.2.2.2.1,())=p)(h2:Ty.F (some (g,[])) (k.2.1,k.1,k.2.2.1,k.2.2.2.1,())=y)(h3:p=true):eC (k,g,())=some y:=by
 show yH Ty.pre Ty.F k g=_;unfold yH;dsimp only;rw[h1,h2,h3];rfl
theorem bJN(m f:Int){a b:Nat}(ha:a<2^64)(hb:b<2^64)(c:Int):
  Vn (some (192,[158+2])) (m,f,(a:Int),(b:Int),c,()) (HB f m a b)/\Vn (some (192,[159+2])) (m,f,(a:Int),(b:Int),c,()) (Jz f m a b) /\
  Vn (some (192,[160+2])) (m,f,(a:Int),(b:Int),c,()) (Jr f m a b)/\Vn (some (192,[161+2])) (m,f,(a:Int),(b:Int),c,()) (Jg f m a b):=by
 have p1:=aBn f m ha hb;have p2:=aWA f m ha hb;have p3:=aWJ f m ha hb;have p4:=aWN f m ha hb;have q1:=aAo (g:=158) (k:=(m,f,(a:Int),(b:Int),c,())) (p:=FR.pre (f,m,(a:Int),(b:Int),())) (y:=FR.F (f,m,(a:Int),(b:Int),())) (by kernel_rfl) (by kernel_rfl) (aFd p1);have q2:=aAo (g:=159) (k:=(m,f,(a:Int),(b:Int),c,())) (p:=NL.pre (f,m,(a:Int),(b:Int),())) (y:=NL.F (f,m,(a:Int),(b:Int),())) (by kernel_rfl) (by kernel_rfl) (bDe p2);have q3:=aAo (g:=160) (k:=(m,f,(a:Int),(b:Int),c,())) (p:=NM.pre (f,m,(a:Int),(b:Int),())) (y:=NM.F (f,m,(a:Int),(b:Int),())) (by kernel_rfl) (by kernel_rfl) (bDn p3);have q4:=aAo (g:=161) (k:=(m,f,(a:Int),(b:Int),c,())) (p:=NN.pre (f,m,(a:Int),(b:Int),())) (y:=NN.F (f,m,(a:Int),(b:Int),())) (by kernel_rfl) (by kernel_rfl) (bDr p4);rw[aEf p1]at q1;rw[bAn p2]at q2;rw[bAw p3]at q3;rw[bAA p4]at q4;exact⟨tK (p:=Ds.pre ((m,f,(a:Int),(b:Int),c,()),158,())) (v:=Ds.F ((m,f,(a:Int),(b:Int),c,()),158,())) (by kernel_rfl) (by kernel_rfl) (vF q1) (t9 q1),
  tK (p:=Ds.pre ((m,f,(a:Int),(b:Int),c,()),159,())) (v:=Ds.F ((m,f,(a:Int),(b:Int),c,()),159,())) (by kernel_rfl) (by kernel_rfl) (vF q2) (t9 q2),
  tK (p:=Ds.pre ((m,f,(a:Int),(b:Int),c,()),160,())) (v:=Ds.F ((m,f,(a:Int),(b:Int),c,()),160,())) (by kernel_rfl) (by kernel_rfl) (vF q3) (t9 q3),
  tK (p:=Ds.pre ((m,f,(a:Int),(b:Int),c,()),161,())) (v:=Ds.F ((m,f,(a:Int),(b:Int),c,()),161,())) (by kernel_rfl) (by kernel_rfl) (vF q4) (t9 q4)⟩
end VL
namespace VL
open Go Vx
def C7(x:Int):Bool:=iZ .i64 x 31==0
def LD(v:Int×Int×Int×Unit):Int:=if v.1<0∨v.1>5 then 3 else if(C7 v.2.1&&C7 v.2.2.1)=true then 0 else 7
theorem aIK(x:Int):XK (x,())=some (C7 x,()):=rfl
theorem aWO(v:Int×Int×Int×Unit):XL (v,())=some (LD v,()):=by
 show yJ T3.pre T3.F v=_;unfold yJ LD;have p:=aIK v.2.1;have q:XK v.2.2=some (C7 v.2.2.1,()):=aIK v.2.2.1;rw[aQL p,aOA p,aQL q,aOA q];by_cases h:v.1<0∨v.1>5
 ·have:(decide (v.1<0)||decide (v.1>5))=true:=by rw[dv,decide_eq_true_eq,decide_eq_true_eq];exact h
  rw[this,if_pos h];rfl
 ·have:(decide (v.1<0)||decide (v.1>5))=false:=by
   rw[decide_eq_false (show ¬v.1<0 by omega),decide_eq_false (show ¬v.1>5 by omega)];rfl
  rw[this,if_neg h];cases C7 v.2.1<;>cases C7 v.2.2.1<;>rfl
def GM(f:Int):List Nat->Int
 | []=>0
 |a::l=>if Ah f a≠0 then Ah f a else GM f l
abbrev R5:=Int×Int×Int×Int×Int×Unit
theorem aXE(R:R5)(op:Int)(l:List Nat)(hl:∀a∈l,a<2^64)(hlen:l.length<1000):
  rB (((l.length:Int),Wd l,(0:Int),op,(),()),(),R,())=some (if GM R.2.1 l=0 then .inl ((op,(),()),(),R,())else .inr ((GM R.2.1 l,()),())):=by
 have key:=CW (aPJ As.pre As.F Aw.pre Aw.F) (fun x=>l.length-x.1.2.2.1.toNat)
  (fun x=>∃i:Nat,i<=l.length/\GM R.2.1 (l.drop i)=GM R.2.1 l/\x=(((l.length:Int),Wd l,(i:Int),op,(),()),(),R,()))
  (fun _=>if GM R.2.1 l=0 then .inl ((op,(),()),(),R,())else .inr ((GM R.2.1 l,()),())) ?_ _ ⟨0,dp _,rfl,rfl⟩
 ·exact key
 intro L x hx hL;obtain⟨i,hi,hok,rfl⟩:=hx;unfold ZH;rcases ay i l.length with hlt|hge
 ·have hg:l.getD i 0=l[i]:=by simp[al,hlt]
  have ha:=hl _ (jn hlt);have p0:=K8 R.2.1 l[i] ha;have e0:decide ((i:Int)<(l.length:Int))=true:=decide_eq_true (by omega);have e1:(decide ((0:Int)<=(i:Int))&&decide ((i:Int)<((Wd l).length:Int)))=true:=by rw[Az,decide_eq_true (by omega),decide_eq_true (by omega)];rfl
  have e2:(Wd l).getD (ag (i:Int)) 0=((l[i]:Nat):Int):=by rw[ab,BN,hg]
  have e3:aa .i64 ((i:Int)+1)=((i+1:Nat):Int):=by rw[Av (by omega)];omega
  rw[fd hlt,GM]at hok;dsimp only;simp only[e0,e1,e2,e3,cond_true,Jw p0,Jl p0];by_cases hc:Ah R.2.1 l[i]=0
  ·rw[if_neg (fun h=>h hc)]at hok;rw[hc,bne_self_eq_false,cond_false];exact hL _ ⟨i+1,by omega,hok,rfl⟩ (by simp only[ab];omega)
  ·rw[if_pos hc]at hok;have:(Ah R.2.1 l[i]!=0)=true:=by rw[bne_iff_ne];exact hc
   rw[this,←hok,if_neg hc];rfl
 ·have e:i=l.length:=by omega
  subst e;rw[ii]at hok;have e0:decide ((l.length:Int)<(l.length:Int))=false:=decide_eq_false (by omega);simp only[e0,cond_false];rw[←hok];rfl
def aDn(a c:Int):Bool:=(((aa .i64 c)==0)&&((aa .u64 (aa .i64 (aa .i32 a)))!=a))||(((aa .i64 c)==2)&&((AQ .u64 a 32)!=0))
def ON(f op:Int)(n a b c:Nat):Int:=if ¬Fm f then 2 else if op=10/\c>3 then 2 else if(op=11∨op=12)/\c>3 then 9 else if GM f ([a,b,c].take n)≠0 then GM f ([a,b,c].take n)else if(op==12&&aDn a c)=true then 4 else 0
theorem aNj(op:Int)(c:Nat){d:Bool}(hd:d=decide ((c:Int)>3))(t:Int)(v:Option (Int×Unit))(hv:v=some (t,())):
  (bif op==10 then(bif d then some (2,())else v)else bif op==11 then(bif op==11 then(bif d then some (9,())else v)else v)else bif op==12 then(bif d then some (9,())else v)else v) =
  some (if op=10/\c>3 then 2 else if(op=11∨op=12)/\c>3 then 9 else t,()):=by
 rw[hd,hv];by_cases h:c>3
 ·rw[decide_eq_true (show(c:Int)>3 by omega)];by_cases h1:op=10
  ·subst h1;rw[if_pos ⟨rfl,h⟩];rfl
  ·rw[beq_false_of_ne h1,if_neg (fun x=>h1 x.1)];by_cases h2:op=11
   ·subst h2;rw[if_pos ⟨.inl rfl,h⟩];rfl
   ·by_cases h3:op=12
    ·subst h3;rw[if_pos ⟨.inr rfl,h⟩];rfl
    ·rw[beq_false_of_ne h2,beq_false_of_ne h3,if_neg (fun x=>x.1.elim h2 h3)];rfl
 ·rw[decide_eq_false (show ¬(c:Int)>3 by omega),if_neg (fun x=>h x.2),if_neg (fun x=>h x.2)];cases op==10<;>cases op==11<;>cases op==12<;>rfl
theorem aWP(m f op:Int)(w:Option (Nat×List Nat)){n a b c:Nat}(hn:n<=3)(ha:a<2^64)(hb:b<2^64)(hc:c<2^64):
  eG (op,((n:Int),w,()),(m,f,(a:Int),(b:Int),(c:Int),()),())=some (ON f op n a b c,()):=by
 show yK As.pre As.F Aw.pre Aw.F rB op ((n:Int),w,()) (m,f,(a:Int),(b:Int),(c:Int),())=_;have e3:((((a:Int)::((b:Int)::((c:Int)::[]))).take (ag (n:Int))).drop (ag (0:Int)))=Wd ([a,b,c].take n):=by
  have:n=0∨n=1∨n=2∨n=3:=by omega
  rcases this with rfl|rfl|rfl|rfl<;>rfl
 have e2:((decide ((0:Int)<=(n:Int)))&&(decide ((n:Int)<=((((a:Int)::((b:Int)::((c:Int)::[]))).length:Nat):Int))))=true:=by
  rw[decide_eq_true (show(0:Int)<=(n:Int) by omega),decide_eq_true (show((n:Int)<=((((a:Int)::((b:Int)::((c:Int)::[]))).length:Nat):Int))from by show(n:Int)<=3;omega)];rfl
 have hW:=aXE (m,f,(a:Int),(b:Int),(c:Int),()) op ([a,b,c].take n) (by intro x hx;have:=fh hx;simp at this;omega) (by rw[List.length_take];show min n 3<1000;omega);unfold yK ON;dsimp only;by_cases hA:GM f ([a,b,c].take n)=0
 ·rw[if_pos hA]at hW;rw[e3,e2,Az,hW];by_cases hf:Fm f
  ·have p0:=IZ hf;rw[C2 p0,CZ p0,if_neg (show ¬¬Fm f from fun h=>h hf)];refine aNj op c rfl _ (bif op==12 then(bif aDn a c then some (4,())else some (0,()))else some (0,())) ?_;rw[if_neg (fun h=>h hA)];cases op==12<;>cases aDn (a:Int) c<;>rfl
  ·have p0:=K9 hf;rw[C2 p0,CZ p0,if_pos hf];rfl
 ·rw[if_neg hA]at hW;rw[e3,e2,Az,hW];by_cases hf:Fm f
  ·have p0:=IZ hf;rw[C2 p0,CZ p0,if_neg (show ¬¬Fm f from fun h=>h hf)];refine aNj op c rfl _ (some (GM f ([a,b,c].take n),())) ?_;rw[if_pos hA]
  ·have p0:=K9 hf;rw[C2 p0,CZ p0,if_pos hf];rfl
def WT(op:Int):Nat:=(NO.F (op,())).1.1.toNat
def Lt(v:Int×Int×Int×Unit)(op f:Int)(a b c:Nat):Int:=if LD v≠0 then LD v else if op<1∨op>22 then 190 else if ON f op (WT op) a b c≠0 then ON f op (WT op) a b c else(DX v.1 op f a b c).2.2.1
abbrev Out:=Int×Int×Int×(Int×Int×Int×Unit)×Unit
def bJW:Out:=(0,0,0,(0,0,0,()),())
def aDs(v:Int×Int×Int×Unit)(y:Int×Int×Int×Unit):Out:=if BS .i64 y.2.1 v.2.2.1≠0 then(0,y.2.1,BS .i64 (BS .i64 y.2.1 v.2.2.1) (aa .i64 (0-BS .i64 y.2.1 v.2.2.1)),v,())else(y.1,y.2.1,0,(v.1,Ak .i64 v.2.1 y.2.1,v.2.2),())
def WV(v:Int×Int×Int×Unit)(op f:Int)(a b c:Nat):Out×Int×Unit:=if Lt v op f a b c≠0 then(bJW,Lt v op f a b c,())else(aDs v (DX v.1 op f a b c),0,())
theorem aWR(v:Int×Int×Int×Unit)(op f:Int){a b c:Nat}(ha:a<2^64)(hb:b<2^64)(hc:c<2^64)
  (hw:1<=op->op<=22->∃n w,NS (op,())=some ((n,w,()),0,())/\0<=n/\n<=3/\Vn w (v.1,f,(a:Int),(b:Int),(c:Int),()) (DX v.1 op f a b c)) :
  UA (v,op,f,(a:Int),(b:Int),(c:Int),())=some (WV v op f a b c):=by
 show yL T4.pre T4.F NO.pre NO.F T5.pre T5.F KX.pre KX.F v op f a b c=_;unfold yL WV;dsimp only;have p0:XL ((v.1,v.2),())=some (LD v,()):=aWO v;rw[bDs p0,bAB p0,cond_true];by_cases hg:LD v=0
 ·have hz:((LD v:Int)!=0)=false:=by rw[hg];rfl
  rw[hz,cond_false];by_cases ho:op<1∨op>22
  ·have p1:=bHX ho;have he:Lt v op f a b c=190:=by unfold Lt;rw[if_neg (fun h=>h hg),if_pos ho]
   rw[aQM p1,uA p1,he];rfl
  ·obtain⟨n,w,p1,hn0,hn3,hd1,hd2⟩:=hw (by omega) (by omega);obtain⟨k,rfl⟩:=cn hn0;have hk:WT op=k:=by unfold WT;rw[uA p1];rfl
   have p2:=aWP v.1 f op w (n:=k) (Int.ofNat_le.1 hn3) ha hb hc;have he:Lt v op f a b c=if ON f op k a b c≠0 then ON f op k a b c else(DX v.1 op f a b c).2.2.1:=by
    unfold Lt;rw[if_neg (fun h=>h hg),if_neg ho,hk]
   rw[he,aQM p1,uA p1,cond_true];dsimp only;rw[bne_self_eq_false,cond_false,bDu p2,bAD p2,cond_true];dsimp only;by_cases hc0:ON f op k a b c=0
   ·rw[hc0,bne_self_eq_false,cond_false,hd1,hd2,cond_true,if_neg (show ¬((0:Int)≠0) by decide)];by_cases hr:(DX v.1 op f a b c).2.2.1=0
    ·rw[hr,bne_self_eq_false,cond_false,if_neg (show ¬((0:Int)≠0) by decide)];unfold aDs;by_cases ht:BS .i64 (DX v.1 op f a b c).2.1 v.2.2.1=0
     ·rw[ht,bne_self_eq_false,cond_false,if_neg (show ¬((0:Int)≠0) by decide)]
     ·rw[if_pos ht,bne_iff_ne.2 ht];rfl
    ·rw[if_pos hr,bne_iff_ne.2 hr];rfl
   ·rw[if_pos hc0,if_pos hc0,bne_iff_ne.2 hc0];rfl
 ·have he:Lt v op f a b c=LD v:=by unfold Lt;rw[if_pos hg]
  rw[he,if_pos hg,bne_iff_ne.2 hg];rfl
end VL
namespace VL
open Go Vx
theorem bJM(m f:Int){op:Int}(h:op=1∨op=2∨op=3∨op=4){a b c:Nat}(ha:a<2^64)(hb:b<2^64):
  ∃n w,NS (op,())=some ((n,w,()),0,())/\0<=n/\n<=3/\Vn w (m,f,(a:Int),(b:Int),(c:Int),()) (DX m op f a b c):=by
 obtain⟨w1,w2,w3,w4⟩:=bJN m f ha hb (c:Int);rcases h with rfl|rfl|rfl|rfl
 ·exact⟨2,some (192,[158+2]),Vh (by decide) (by decide) (by kernel_rfl),by decide,by decide,w1⟩
 ·exact⟨2,some (192,[159+2]),Vh (by decide) (by decide) (by kernel_rfl),by decide,by decide,w2⟩
 ·exact⟨2,some (192,[160+2]),Vh (by decide) (by decide) (by kernel_rfl),by decide,by decide,w3⟩
 ·exact⟨2,some (192,[161+2]),Vh (by decide) (by decide) (by kernel_rfl),by decide,by decide,w4⟩
theorem aWQ(v:Int×Int×Int×Unit){op:Int}(h:op=1∨op=2∨op=3∨op=4)(f:Int){a b c:Nat}(ha:a<2^64)(hb:b<2^64)(hc:c<2^64):
  UA (v,op,f,(a:Int),(b:Int),(c:Int),())=some (WV v op f a b c):=aWR v op f ha hb hc (fun _ _=>bJM v.1 f h ha hb)
theorem vO{op n:Int}{w:Option (Nat×List Nat)}(p:NS (op,())=some ((n,w,()),0,())):WT op=n.toNat:=by
 unfold WT;rw[uA p]
theorem bHJ{op:Int}(h:op=1∨op=2∨op=3∨op=4):WT op=2:=by
 rcases h with rfl|rfl|rfl|rfl
 ·exact vO (n:=2) (w:=some (192,[158+2])) (Vh (by decide) (by decide) (by kernel_rfl))
 ·exact vO (n:=2) (w:=some (192,[159+2])) (Vh (by decide) (by decide) (by kernel_rfl))
 ·exact vO (n:=2) (w:=some (192,[160+2])) (Vh (by decide) (by decide) (by kernel_rfl))
 ·exact vO (n:=2) (w:=some (192,[161+2])) (Vh (by decide) (by decide) (by kernel_rfl))
end VL
namespace VL
open Go Vx
def M4(f:Int)(y:Int×Int×Int×Unit):Prop:=∃x:Nat,y.1=(x:Int)/\Ah f x=0/\y.2.2.1=0
theorem M5{f:Int}{c:Bool}{x y:Int×Int×Int×Unit}(hx:M4 f x)(hy:M4 f y):M4 f (bif c then x else y):=by
 cases c
 ·exact hy
 ·exact hx
theorem Hh{f:Int}{x:Nat}{g:Int}(h:Ah f x=0):M4 f ((x:Int),g,0,()):=⟨x,rfl,h,rfl⟩
theorem aMJ{f m:Int}(hf:Fm f)(hm:0<=m/\m<=5){a b:Nat}(ha:Ah f a=0)(hb:Ah f b=0):M4 f (HB f m a b):=by
 unfold HB;rw[if_pos hf,if_pos hm,if_pos ⟨ha,hb⟩,aYE];exact Hh (aYD hf hm ha hb)
theorem bJj{f m:Int}(hf:Fm f)(hm:0<=m/\m<=5){a b:Nat}(ha:Ah f a=0)(hb:Ah f b=0):M4 f (Jz f m a b):=by
 unfold Jz;rw[if_pos hb];exact aMJ hf hm ha (uS hf b)
theorem bBQ{f m:Int}(hf:Fm f)(hm:0<=m/\m<=5){a b:Nat}(ha:Ah f a=0)(hb:Ah f b=0):M4 f (Jr f m a b):=by
 unfold Jr;rw[if_neg (show ¬¬Fm f from fun h=>h hf),if_neg (by omega),if_neg (fun h=>h ha),if_neg (fun h=>h hb)];unfold WF;exact M5 (Hh (kO hf).2) (M5 (Hh (kO hf).2) (M5 (Hh (aEx hf _).1) (M5 (Hh (aTu hf _).1) (Hh (aFx hf _ _ _ _)))))
theorem aZz{f m:Int}(hf:Fm f)(hm:0<=m/\m<=5){a b:Nat}(ha:Ah f a=0)(hb:Ah f b=0):M4 f (Jg f m a b):=by
 unfold Jg;rw[if_neg (show ¬¬Fm f from fun h=>h hf),if_neg (by omega),if_neg (fun h=>h ha),if_neg (fun h=>h hb)];unfold Wj;refine M5 (Hh (kO hf).2) (M5 (Hh (kO hf).2) (M5 (Hh (aEx hf _).1) (M5 (Hh (aEx hf _).1) (M5 (Hh (aTu hf _).1) (Hh ?_)))));unfold FW Jx;split
 ·exact aFx hf _ _ _ _
 ·exact aFx hf _ _ _ _
def GT(op:Int):Prop:=op=1∨op=2∨op=3∨op=4
theorem aZX{f m:Int}(hf:Fm f)(hm:0<=m/\m<=5){op:Int}(h:GT op){a b:Nat}(ha:Ah f a=0)(hb:Ah f b=0):M4 f (DX m op f a b 0):=by
 rcases h with rfl|rfl|rfl|rfl
 ·exact aMJ hf hm ha hb
 ·exact bJj hf hm ha hb
 ·exact bBQ hf hm ha hb
 ·exact aZz hf hm ha hb
theorem Yq{f:Int}(hf:Fm f){a:Nat}(ha:Ah f a=0):a<2^64:=by
 have h1:=(Fs ha).2;have h2:fW f<=64:=EI hf;exact ao h1 (ai (by decide) h2)
def Aq(f m op:Int)(a b:Nat):Nat:=(DX m op f a b 0).1.toNat
def Ap(f m op:Int)(a b:Nat):Int:=(DX m op f a b 0).2.1
theorem Vk{f m:Int}(hf:Fm f)(hm:0<=m/\m<=5){op:Int}(h:GT op){a b:Nat}(ha:Ah f a=0)(hb:Ah f b=0):
  Ah f (Aq f m op a b)=0/\(DX m op f a b 0).1=((Aq f m op a b:Nat):Int)/\(DX m op f a b 0).2.2.1=0:=by
 obtain⟨x,h1,h2,h3⟩:=aZX hf hm h ha hb;have e:Aq f m op a b=x:=by unfold Aq;rw[h1];rfl
 rw[e];exact⟨h2,h1,h3⟩
theorem bH1{f m:Int}(hf:Fm f)(hm:0<=m/\m<=5){op:Int}(h:GT op){a b:Nat}(ha:Ah f a=0)(hb:Ah f b=0):
  WV (m,0,0,()) op f a b 0=((((Aq f m op a b:Nat):Int),Ap f m op a b,0,(m,Ak .i64 0 (Ap f m op a b),0,()),()),0,()):=by
 obtain⟨h1,h2,h3⟩:=Vk hf hm h ha hb;have hc:ON f op 2 a b 0=0:=by
  unfold ON;have hop:¬op=10/\¬op=11/\¬op=12:=by unfold GT at h;omega
  have hA:GM f ([a,b,0].take 2)=0:=by
   show(if Ah f a≠0 then Ah f a else if Ah f b≠0 then Ah f b else 0)=0;rw[if_neg (fun x=>x ha),if_neg (fun x=>x hb)]
  rw[if_neg (show ¬¬Fm f from fun h=>h hf),if_neg (fun x=>hop.1 x.1),if_neg (fun x=>x.1.elim hop.2.1 hop.2.2),if_neg (fun x=>x hA),beq_false_of_ne hop.2.2];rfl
 have hg:LD (m,0,0,())=0:=by
  unfold LD;rw[if_neg (by show ¬(m<0∨m>5);omega)];have h0:C7 0=true:=by decide +kernel
  show(if(C7 0&&C7 0)=true then(0:Int)else 7)=0;rw[h0];rfl
 have he:Lt (m,0,0,()) op f a b 0=0:=by
  unfold Lt;rw[if_neg (fun x=>x hg),if_neg (by unfold GT at h;omega),bHJ h,if_neg (fun x=>x hc)];exact h3
 unfold WV;rw[if_neg (fun x=>x he)];unfold aDs;have hz:BS .i64 (DX m op f a b 0).2.1 0=0:=by
  unfold BS;have:cq 64 (0:Int)=0#64:=rfl;show aa .i64 ((cq 64 (DX m op f a b 0).2.1 &&& cq 64 0).toNat:Int)=0;rw[this,BitVec.and_zero];rfl
 have hz':¬(BS .i64 (DX (m,(0:Int),(0:Int),()).1 op f a b 0).2.1 (m,(0:Int),(0:Int),()).2.2.1≠0):=fun x=>x hz;rw[if_neg hz'];dsimp only;rw[h2];rfl
abbrev St3:=Int×Int×Int×Unit
theorem pV{f m:Int}(hf:Fm f)(hm:0<=m/\m<=5)(g:Int){op:Int}(h:GT op){a b:Nat}(ha:Ah f a=0)(hb:Ah f b=0):
  eH ((f,m,g,()),op,(a:Int),(b:Int),())=some ((f,m,Ak .i64 g (Ap f m op a b),()),((Aq f m op a b:Nat):Int),()):=by
 have p:UA ((m,0,0,()),op,f,(a:Int),(b:Int),((0:Nat):Int),())=_:=aWQ (m,0,0,()) h f (Yq hf ha) (Yq hf hb) (by decide);rw[bH1 hf hm h ha hb]at p;have p':UA ((m,0,0,()),op,f,(a:Int),(b:Int),(0:Int),())=_:=p;show yM T6.pre T6.F (f,m,g,()) op (a:Int) (b:Int)=_;unfold yM;dsimp only;simp only[bDv p',bAE p',cond_true]
end VL
namespace VL
open Go Vx
abbrev BD:=Nat×Nat
def cI(x:BD):Int×Int×Unit:=((x.1:Int),(x.2:Int),())
def EK(f:Int)(x:BD):Prop:=Ah f x.1=0/\Ah f x.2=0
section
variable {f m:Int}(hf:Fm f)(hm:0<=m/\m<=5)(g:Int)
include hf hm
theorem K6{a b:Nat}(ha:Ah f a=0)(hb:Ah f b=0):eI ((f,m,g,()),(a:Int),(b:Int),())=some ((f,m,Ak .i64 g (Ap f m 3 a b),()),((Aq f m 3 a b:Nat):Int),()):=by
 have p:=pV hf hm g (op:=3) (.inr (.inr (.inl rfl))) ha hb;show yN Df.pre Df.F (f,m,g,()) (a:Int) (b:Int)=_;unfold yN;dsimp only;simp only[vG p,uB p,cond_true]
theorem aIR{a b:Nat}(ha:Ah f a=0)(hb:Ah f b=0):eJ ((f,m,g,()),(a:Int),(b:Int),())=some ((f,m,Ak .i64 g (Ap f m 2 a b),()),((Aq f m 2 a b:Nat):Int),()):=by
 have p:=pV hf hm g (op:=2) (.inr (.inl rfl)) ha hb;show yO Df.pre Df.F (f,m,g,()) (a:Int) (b:Int)=_;unfold yO;dsimp only;simp only[vG p,uB p,cond_true]
theorem eM{a b:Nat}(ha:Ah f a=0)(hb:Ah f b=0):eK ((f,m,g,()),(a:Int),(b:Int),())=some ((f,m,Ak .i64 g (Ap f m 1 a b),()),((Aq f m 1 a b:Nat):Int),()):=by
 have p:=pV hf hm g (op:=1) (.inl rfl) ha hb;show yP Df.pre Df.F (f,m,g,()) (a:Int) (b:Int)=_;unfold yP;dsimp only;simp only[vG p,uB p,cond_true]
theorem aIU{a b:Nat}(ha:Ah f a=0)(hb:Ah f b=0):eO ((f,m,g,()),(a:Int),(b:Int),())=some ((f,m,Ak .i64 g (Ap f m 4 a b),()),((Aq f m 4 a b:Nat):Int),()):=by
 have p:=pV hf hm g (op:=4) (.inr (.inr (.inr rfl))) ha hb;show yT Df.pre Df.F (f,m,g,()) (a:Int) (b:Int)=_;unfold yT;dsimp only;simp only[vG p,uB p,cond_true]
end
section
variable (f m:Int)
def O9(g:Int):List (Int×Nat×Nat)->Int
 | []=>g
 |s::l=>O9 (Ak .i64 g (Ap f m s.1 s.2.1 s.2.2)) l
def WZ(x y:BD):BD:=(Aq f m 1 x.1 y.1,Aq f m 1 x.2 y.2)
def v6(x y:BD):List (Int×Nat×Nat):=[(1,x.1,y.1),(1,x.2,y.2)]
def Vc(x y:BD):BD:=(Aq f m 2 (Aq f m 3 x.1 y.1) (Aq f m 3 x.2 y.2),Aq f m 1 (Aq f m 3 x.1 y.2) (Aq f m 3 x.2 y.1))
def lA(x y:BD):List (Int×Nat×Nat):=[(3,x.1,y.1),(3,x.2,y.2),(3,x.1,y.2),(3,x.2,y.1),(2,Aq f m 3 x.1 y.1,Aq f m 3 x.2 y.2),(1,Aq f m 3 x.1 y.2,Aq f m 3 x.2 y.1)]
def aA(y:BD):Nat:=Aq f m 1 (Aq f m 3 y.1 y.1) (Aq f m 3 y.2 y.2)
def aFp(x y:BD):Nat:=Aq f m 1 (Aq f m 3 x.1 y.1) (Aq f m 3 x.2 y.2)
def aFq(x y:BD):Nat:=Aq f m 2 (Aq f m 3 x.2 y.1) (Aq f m 3 x.1 y.2)
def Ve(x y:BD):BD:=(Aq f m 4 (aFp f m x y) (aA f m y),Aq f m 4 (aFq f m x y) (aA f m y))
def lE(x y:BD):List (Int×Nat×Nat):=[(3,y.1,y.1),(3,y.2,y.2),(1,Aq f m 3 y.1 y.1,Aq f m 3 y.2 y.2),(3,x.1,y.1),(3,x.2,y.2),(1,Aq f m 3 x.1 y.1,Aq f m 3 x.2 y.2),(3,x.2,y.1),(3,x.1,y.2),(2,Aq f m 3 x.2 y.1,Aq f m 3 x.1 y.2),(4,aFp f m x y,aA f m y),(4,aFq f m x y,aA f m y)]
end
theorem LW{f m:Int}(hf:Fm f)(hm:0<=m/\m<=5){a b:Nat}(ha:Ah f a=0)(hb:Ah f b=0):Ah f (Aq f m 1 a b)=0:=(Vk hf hm (.inl rfl) ha hb).1
theorem v0{f m:Int}(hf:Fm f)(hm:0<=m/\m<=5){a b:Nat}(ha:Ah f a=0)(hb:Ah f b=0):Ah f (Aq f m 2 a b)=0:=(Vk hf hm (.inr (.inl rfl)) ha hb).1
theorem DY{f m:Int}(hf:Fm f)(hm:0<=m/\m<=5){a b:Nat}(ha:Ah f a=0)(hb:Ah f b=0):Ah f (Aq f m 3 a b)=0:=(Vk hf hm (.inr (.inr (.inl rfl))) ha hb).1
theorem v4{f m:Int}(hf:Fm f)(hm:0<=m/\m<=5){a b:Nat}(ha:Ah f a=0)(hb:Ah f b=0):Ah f (Aq f m 4 a b)=0:=(Vk hf hm (.inr (.inr (.inr rfl))) ha hb).1
theorem aWV{f m:Int}(hf:Fm f)(hm:0<=m/\m<=5)(g:Int){x y:BD}(hx:EK f x)(hy:EK f y):
  eR ((f,m,g,()),cI x,cI y,())=some ((f,m,O9 f m g (v6 x y),()),cI (WZ f m x y),())/\EK f (WZ f m x y):=by
 refine⟨?_,LW hf hm hx.1 hy.1,LW hf hm hx.2 hy.2⟩;have p1:=eM hf hm g hx.1 hy.1;have p2:=eM hf hm (Ak .i64 g (Ap f m 1 x.1 y.1)) hx.2 hy.2;show yX Es.pre Es.F (f,m,g,()) (cI x) (cI y)=_;unfold yX cI;dsimp only;simp only[kZ p1,jT p1,kZ p2,jT p2,cond_true];rfl
theorem aWT{f m:Int}(hf:Fm f)(hm:0<=m/\m<=5)(g:Int){x y:BD}(hx:EK f x)(hy:EK f y):
  eN ((f,m,g,()),cI x,cI y,())=some ((f,m,O9 f m g (lA f m x y),()),cI (Vc f m x y),())/\EK f (Vc f m x y):=by
 have q1:=DY hf hm hx.1 hy.1;have q2:=DY hf hm hx.2 hy.2;have q3:=DY hf hm hx.1 hy.2;have q4:=DY hf hm hx.2 hy.1;refine⟨?_,v0 hf hm q1 q2,LW hf hm q3 q4⟩;have p1:=K6 hf hm g hx.1 hy.1;have p2:=K6 hf hm (Ak .i64 g (Ap f m 3 x.1 y.1)) hx.2 hy.2;have p3:=K6 hf hm (Ak .i64 (Ak .i64 g (Ap f m 3 x.1 y.1)) (Ap f m 3 x.2 y.2)) hx.1 hy.2;have p4:=K6 hf hm (Ak .i64 (Ak .i64 (Ak .i64 g (Ap f m 3 x.1 y.1)) (Ap f m 3 x.2 y.2)) (Ap f m 3 x.1 y.2)) hx.2 hy.1;have p5:=aIR hf hm (Ak .i64 (Ak .i64 (Ak .i64 (Ak .i64 g (Ap f m 3 x.1 y.1)) (Ap f m 3 x.2 y.2)) (Ap f m 3 x.1 y.2)) (Ap f m 3 x.2 y.1)) q1 q2;have p6:=eM hf hm (Ak .i64 (Ak .i64 (Ak .i64 (Ak .i64 (Ak .i64 g (Ap f m 3 x.1 y.1)) (Ap f m 3 x.2 y.2)) (Ap f m 3 x.1 y.2)) (Ap f m 3 x.2 y.1)) (Ap f m 2 (Aq f m 3 x.1 y.1) (Aq f m 3 x.2 y.2))) q3 q4;show yQ GB.pre GB.F GC.pre GC.F Es.pre Es.F (f,m,g,()) (cI x) (cI y)=_;unfold yQ cI;dsimp only;simp only[LQ p1,LB p1,LQ p2,LB p2,LQ p3,LB p3,LQ p4,LB p4,aQN p5,aOB p5,kZ p6,jT p6,cond_true];rfl
end VL
namespace VL
open Go Vx
theorem aXI(a b p:List Nat)(ha:∀x∈a,x<2^32)(hb:∀x∈b,x<2^32)(hn:b.length<=100000){i:Nat}(hi:i<a.length)(hal:a.length<=100000)(hpl:i+b.length<=p.length)(hpn:p.length<=300000)(hpd:∀z∈p,z<2^32)
  (hz:∀k,i+b.length<=k->p.getD k 0=0) :
  ∃(p':List Nat) (c:Nat),p'.length=p.length/\(∀z∈p',z<2^32)/\c<2^32/\nv (2^32) p'+(2^32)^(i+b.length)*c=nv (2^32) p+(2^32)^i*(a.getD i 0*nv (2^32) b)/\(∀k,i+b.length<=k->p'.getD k 0=0) /\
   UD (((0:Int),((0:Int),((i:Int),(Wd a,(Wd b,((),())))))),(Wd p,()))=some (.inl (((c:Int),((i:Int),(Wd a,(Wd b,((),()))))),(Wd p',()))):=by
 have hx:=B3 (by decide) ha i;have hga:(Wd a).getD i 0=((a.getD i 0:Nat):Int):=BN a i;generalize a.getD i 0=x at *
 have key:=O4 (aPN Ar.pre Ar.F) (fun s=>b.length-s.1.1.toNat)
  (fun s=>∃(j:Nat) (p':List Nat) (c:Nat),j<=b.length/\p'.length=p.length/\(∀z∈p',z<2^32)/\c<2^32/\nv (2^32) p'+(2^32)^(i+j)*c=nv (2^32) p+(2^32)^i*(x*nv (2^32) (b.take j))/\(∀k,i+b.length<=k->p'.getD k 0=0) /\
   s=(((j:Int),((c:Int),((i:Int),(Wd a,(Wd b,((),())))))),(Wd p',())))
  (fun y=>∃(p':List Nat) (c:Nat),p'.length=p.length/\(∀z∈p',z<2^32)/\c<2^32/\nv (2^32) p'+(2^32)^(i+b.length)*c=nv (2^32) p+(2^32)^i*(x*nv (2^32) b)/\(∀k,i+b.length<=k->p'.getD k 0=0) /\
   y=.inl (((c:Int),((i:Int),(Wd a,(Wd b,((),()))))),(Wd p',()))) ?_
  (((0:Int),((0:Int),((i:Int),(Wd a,(Wd b,((),())))))),(Wd p,()))
  ⟨0,p,0,dp _,rfl,hpd,by decide,by simp[nv],hz,rfl⟩
 ·obtain⟨y,hy,p',c,k1,k2,k3,k4,k5,rfl⟩:=key;exact⟨p',c,k1,k2,k3,k4,k5,hy⟩
 intro L s hs hL;obtain⟨j,q,c,hj,hql,hqd,hc,hinv,hqz,rfl⟩:=hs;unfold ZL;rcases ay j b.length with hlt|hge
 ·have hy:=B3 (by decide) hb j;have hp:=B3 (by decide) hqd (i+j);have hnb:=Da (2^32) b j;have hgb:(Wd b).getD j 0=((b.getD j 0:Nat):Int):=BN b j;have hgq:(Wd q).getD (i+j) 0=((q.getD (i+j) 0:Nat):Int):=BN q _;have hst:=fun z=>ZW (2^32) q (i+j) z (by omega);generalize b.getD j 0=y at *
  generalize hqe:q.getD (i+j) 0=d at *
  have hxy:x*y<=(2^32-1)*(2^32-1):=ic (by omega) (by omega);have f1:=lW x y (by omega);have f2:=Dz d (x*y) (by omega);have f3:=Dz (d+x*y) c (by omega);have f4:=WP (d+x*y+c) (by omega);have f5:=Pm (d+x*y+c);have hl:(d+x*y+c)%2^32<2^32:=ca _ (by decide);have hh:(d+x*y+c)/2^32<2^32:=by omega
  have e0:decide ((j:Int)<(b.length:Int))=true:=decide_eq_true (by omega);have e1:decide ((0:Int)<=(j:Int))=true:=decide_eq_true (by omega);have e2:aa .i64 ((i:Int)+(j:Int))=((i+j:Nat):Int):=by rw[Av (by omega)];omega
  have e3:aa .i64 ((j:Int)+1)=((j+1:Nat):Int):=by rw[Av (by omega)];omega
  have e4:decide ((0:Int)<=((i+j:Nat):Int))=true:=decide_eq_true (by omega);have e5:decide ((0:Int)<=(i:Int))=true:=decide_eq_true (by omega);have e6:decide ((i:Int)<(a.length:Int))=true:=decide_eq_true (by omega);have e7:decide (((i+j:Nat):Int)<(q.length:Int))=true:=decide_eq_true (by omega);dsimp only;simp only[e0,e1,e2,e3,e4,e5,e6,e7,cond_true,ax,Az,ab,hga,hgb,hgq,f1,f2,f3,f4,f5,Dt];refine hL _ ⟨j+1,q.set (i+j) ((d+x*y+c)%2^32),(d+x*y+c)/2^32,by omega,by rw[iy];exact hql,aPU hqd hl,hh,?_,?_,rfl⟩ (by simp only[ab];omega)
  ·have h1:=hst ((d+x*y+c)%2^32);rw[hnb,show i+(j+1)=i+j+1 by omega,bCX,bw x,bw ((2^32)^i),gc x,←bh ((2^32)^i) ((2^32)^j),←bi];have h2:(2^32)^(i+j)*(d+x*y+c)=(2^32)^(i+j)*(2^32*((d+x*y+c)/2^32)+(d+x*y+c)%2^32):=by rw[cp]
   generalize(d+x*y+c)%2^32=o at *
   generalize(d+x*y+c)/2^32=c' at *
   generalize x*y=z at *
   rw[bw,bw,bw,←bh ((2^32)^(i+j)) (2^32)]at h2;omega
  ·intro k hk;rw[jX (by omega)];exact hqz k hk
 ·have e:j=b.length:=by omega
  subst e;have e0:decide ((b.length:Int)<(b.length:Int))=false:=decide_eq_false (by omega);dsimp only;simp only[Az,e0,cond_false];rw[dq]at hinv;exact⟨_,rfl,q,c,hql,hqd,hc,hinv,hqz,rfl⟩
theorem aXH(a b:List Nat)(ha:∀x∈a,x<2^32)(hb:∀x∈b,x<2^32)(hna:a.length<=100000)(hnb:b.length<=100000):
  ∃p:List Nat,p.length=a.length+b.length/\(∀z∈p,z<2^32)/\nv (2^32) p=nv (2^32) a*nv (2^32) b /\
   rD (((Wd a,(Wd b,((0:Int),((),())))),(Wd (aq (a.length+b.length) 0),())):Gt.D)=some (.inl (((),()),(Wd p,()))):=by
 have key:=O4 (aPM Ar.pre Ar.F UD) (fun s=>a.length-s.1.2.2.1.toNat)
  (fun s=>∃(i:Nat) (p:List Nat),i<=a.length/\p.length=a.length+b.length/\(∀z∈p,z<2^32)/\nv (2^32) p=nv (2^32) (a.take i)*nv (2^32) b/\(∀k,i+b.length<=k->p.getD k 0=0) /\
   s=((Wd a,(Wd b,((i:Int),((),())))),(Wd p,())))
  (fun y=>∃p:List Nat,p.length=a.length+b.length/\(∀z∈p,z<2^32)/\nv (2^32) p=nv (2^32) a*nv (2^32) b/\y=.inl (((),()),(Wd p,()))) ?_
  ((Wd a,(Wd b,((0:Int),((),())))),(Wd (aq (a.length+b.length) 0),()))
  ⟨0,aq (a.length+b.length) 0,dp _,by simp,(fun z hz=>by have:=(ph.1 hz).2;omega),by rw[uW];simp[nv],(fun k _=>bHM _ _),rfl⟩
 ·obtain⟨y,hy,p,k1,k2,k3,rfl⟩:=key;exact⟨p,k1,k2,k3,hy⟩
 intro L s hs hL;obtain⟨i,p,hi,hpl,hpd,hinv,hz,rfl⟩:=hs;unfold ZK;rcases ay i a.length with hlt|hge
 ·have hna':=Da (2^32) a i;obtain⟨p',c,k1,k2,k3,k4,k5,k6⟩:=aXI a b p ha hb hnb (i:=i) hlt hna (by omega) (by omega) hpd hz;have e0:decide ((i:Int)<(a.length:Int))=true:=decide_eq_true (by omega);have e2:aa .i64 ((i:Int)+(b.length:Int))=((i+b.length:Nat):Int):=by rw[Av (by omega)];omega
  have e3:aa .i64 ((i:Int)+1)=((i+1:Nat):Int):=by rw[Av (by omega)];omega
  have e4:decide ((0:Int)<=((i+b.length:Nat):Int))=true:=decide_eq_true (by omega);have e5:decide (((i+b.length:Nat):Int)<(p'.length:Int))=true:=decide_eq_true (by omega);have hgp:(Wd p').getD (i+b.length) 0=((0:Nat):Int):=by rw[BN,k5 _ (bu _)]
  have f1:aa .u64 (((0:Nat):Int)+(c:Int))=(c:Int):=by rw[Dz 0 c (by omega),cz]
  dsimp only;simp only[e0,cond_true,Az];rw[k6];dsimp only[Bi,Bg];simp only[e2,e3,e4,e5,ax,cond_true,Az,ab,hgp,f1,Dt];refine hL _ ⟨i+1,p'.set (i+b.length) c,by omega,by rw[iy];omega,aPU k2 k3,?_,?_,rfl⟩ (by simp only[ab];omega)
  ·have h1:=ZW (2^32) p' (i+b.length) c (by omega);rw[k5 _ (bu _),dz,cu]at h1;rw[h1,k4,hinv,hna',ce,bh]
  ·intro k hk;rw[jX (by omega)];exact k5 k (by omega)
 ·have e:i=a.length:=by omega
  subst e;have e0:decide ((a.length:Int)<(a.length:Int))=false:=decide_eq_false (by omega);simp only[Az,e0,cond_false];rw[dq]at hinv;exact⟨_,rfl,p,hpl,hpd,hinv,rfl⟩
theorem aWZ{x y:Nat}(hx:x<2^5000)(hy:y<2^5000):eZ (Dh x,Dh y,())=some (Dh (x*y),()):=by
 have l1:(dg (2^32) x).length<=160:=Ea (by decide) 160 x (ao hx (by rw[←fw];exact ai (by decide) (by decide)));have l2:(dg (2^32) y).length<=160:=Ea (by decide) 160 y (ao hy (by rw[←fw];exact ai (by decide) (by decide)));obtain⟨p,k1,k2,k3,k4⟩:=aXH (dg (2^32) x) (dg (2^32) y) (Lw (by decide) x) (Lw (by decide) y) (by omega) (by omega);rw[Fu,Fu]at k3;show zD Ar.pre Ar.F rD UD (Wd (dg (2^32) x)) (Wd (dg (2^32) y))=_;unfold zD;have p0:=VE (l:=p) ⟨k2,by omega⟩ k3;have e0:aa .i64 (((dg (2^32) x).length:Int)+((dg (2^32) y).length:Int))=(((dg (2^32) x).length+(dg (2^32) y).length:Nat):Int):=by rw[Av (by omega)];omega
 have e1:(decide ((0:Int)<=(((dg (2^32) x).length+(dg (2^32) y).length:Nat):Int))&&decide ((((dg (2^32) x).length+(dg (2^32) y).length:Nat):Int)*8<=140737488355328))=true:=by
  rw[decide_eq_true (by omega),decide_eq_true (by omega)];rfl
 dsimp only;rw[Az,Az,e0,e1,cond_true,ab,NT,k4];dsimp only[Bi,Bg];simp only[Va p0,UZ p0,cond_true]
end VL
namespace VL
open Go Vx
theorem stM{f m:Int}(hf:Fm f)(hm:0<=m/\m<=5){a b:Nat}(ha:Ah f a=0)(hb:Ah f b=0):DX m 3 f a b 0=WF f m a b:=by
 show Jr f m a b=_;unfold Jr;rw[if_neg (show ¬¬Fm f from fun h=>h hf),if_neg (by omega),if_neg (fun h=>h ha),if_neg (fun h=>h hb)]
theorem stD{f m:Int}(hf:Fm f)(hm:0<=m/\m<=5){a b:Nat}(ha:Ah f a=0)(hb:Ah f b=0):DX m 4 f a b 0=Wj f m a b:=by
 show Jg f m a b=_;unfold Jg;rw[if_neg (show ¬¬Fm f from fun h=>h hf),if_neg (by omega),if_neg (fun h=>h ha),if_neg (fun h=>h hb)]
end VL
namespace VL
open Go Vx
def Ev(m:Int):Prop:=m≠3/\m≠4
section
variable {f m:Int}(hf:Fm f)(hm:0<=m/\m<=5)
include hf hm
end
section
variable {f m:Int}(hf:Fm f)(hm:0<=m/\m<=5)(he:Ev m)
include hf hm he
end
theorem aTv{f:Int}(hf:Fm f){a:Nat}(h:AM f a=true):Ax f a=false/\nan f a=false:=by
 unfold AM at h;rw[ah,beq_iff_eq,beq_iff_eq]at h;have:=Wu hf;unfold Ax nan;rw[h.1,beq_false_of_ne (show(0:Nat)≠AH f by omega)];exact⟨rfl,rfl⟩
end VL
namespace VL
open Go Vx
theorem aWU{f m:Int}(hf:Fm f)(hm:0<=m/\m<=5)(g:Int){x y:BD}(hx:EK f x)(hy:EK f y):
  eP ((f,m,g,()),cI x,cI y,())=some ((f,m,O9 f m g (lE f m x y),()),cI (Ve f m x y),())/\EK f (Ve f m x y):=by
 have q1:=DY hf hm hy.1 hy.1;have q2:=DY hf hm hy.2 hy.2;have q3:=LW hf hm q1 q2;have q4:=DY hf hm hx.1 hy.1;have q5:=DY hf hm hx.2 hy.2;have q6:=LW hf hm q4 q5;have q7:=DY hf hm hx.2 hy.1;have q8:=DY hf hm hx.1 hy.2;have q9:=v0 hf hm q7 q8;have q10:=v4 hf hm q6 q3;have q11:=v4 hf hm q9 q3;refine⟨?_,q10,q11⟩;have p1:=K6 hf hm g hy.1 hy.1;have p2:=K6 hf hm (Ak .i64 g (Ap f m 3 y.1 y.1)) hy.2 hy.2;have p3:=eM hf hm (Ak .i64 (Ak .i64 g (Ap f m 3 y.1 y.1)) (Ap f m 3 y.2 y.2)) q1 q2;have p4:=K6 hf hm (Ak .i64 (Ak .i64 (Ak .i64 g (Ap f m 3 y.1 y.1)) (Ap f m 3 y.2 y.2)) (Ap f m 1 (Aq f m 3 y.1 y.1) (Aq f m 3 y.2 y.2))) hx.1 hy.1;have p5:=K6 hf hm (Ak .i64 (Ak .i64 (Ak .i64 (Ak .i64 g (Ap f m 3 y.1 y.1)) (Ap f m 3 y.2 y.2)) (Ap f m 1 (Aq f m 3 y.1 y.1) (Aq f m 3 y.2 y.2))) (Ap f m 3 x.1 y.1)) hx.2 hy.2;have p6:=eM hf hm (Ak .i64 (Ak .i64 (Ak .i64 (Ak .i64 (Ak .i64 g (Ap f m 3 y.1 y.1)) (Ap f m 3 y.2 y.2)) (Ap f m 1 (Aq f m 3 y.1 y.1) (Aq f m 3 y.2 y.2))) (Ap f m 3 x.1 y.1)) (Ap f m 3 x.2 y.2)) q4 q5;have p7:=K6 hf hm (Ak .i64 (Ak .i64 (Ak .i64 (Ak .i64 (Ak .i64 (Ak .i64 g (Ap f m 3 y.1 y.1)) (Ap f m 3 y.2 y.2)) (Ap f m 1 (Aq f m 3 y.1 y.1) (Aq f m 3 y.2 y.2))) (Ap f m 3 x.1 y.1)) (Ap f m 3 x.2 y.2)) (Ap f m 1 (Aq f m 3 x.1 y.1) (Aq f m 3 x.2 y.2))) hx.2 hy.1;have p8:=K6 hf hm (Ak .i64 (Ak .i64 (Ak .i64 (Ak .i64 (Ak .i64 (Ak .i64 (Ak .i64 g (Ap f m 3 y.1 y.1)) (Ap f m 3 y.2 y.2)) (Ap f m 1 (Aq f m 3 y.1 y.1) (Aq f m 3 y.2 y.2))) (Ap f m 3 x.1 y.1)) (Ap f m 3 x.2 y.2)) (Ap f m 1 (Aq f m 3 x.1 y.1) (Aq f m 3 x.2 y.2))) (Ap f m 3 x.2 y.1)) hx.1 hy.2;have p9:=aIR hf hm (Ak .i64 (Ak .i64 (Ak .i64 (Ak .i64 (Ak .i64 (Ak .i64 (Ak .i64 (Ak .i64 g (Ap f m 3 y.1 y.1)) (Ap f m 3 y.2 y.2)) (Ap f m 1 (Aq f m 3 y.1 y.1) (Aq f m 3 y.2 y.2))) (Ap f m 3 x.1 y.1)) (Ap f m 3 x.2 y.2)) (Ap f m 1 (Aq f m 3 x.1 y.1) (Aq f m 3 x.2 y.2))) (Ap f m 3 x.2 y.1)) (Ap f m 3 x.1 y.2)) q7 q8;have p10:=aIU hf hm (Ak .i64 (Ak .i64 (Ak .i64 (Ak .i64 (Ak .i64 (Ak .i64 (Ak .i64 (Ak .i64 (Ak .i64 g (Ap f m 3 y.1 y.1)) (Ap f m 3 y.2 y.2)) (Ap f m 1 (Aq f m 3 y.1 y.1) (Aq f m 3 y.2 y.2))) (Ap f m 3 x.1 y.1)) (Ap f m 3 x.2 y.2)) (Ap f m 1 (Aq f m 3 x.1 y.1) (Aq f m 3 x.2 y.2))) (Ap f m 3 x.2 y.1)) (Ap f m 3 x.1 y.2)) (Ap f m 2 (Aq f m 3 x.2 y.1) (Aq f m 3 x.1 y.2))) q6 q3;have p11:=aIU hf hm (Ak .i64 (Ak .i64 (Ak .i64 (Ak .i64 (Ak .i64 (Ak .i64 (Ak .i64 (Ak .i64 (Ak .i64 (Ak .i64 g (Ap f m 3 y.1 y.1)) (Ap f m 3 y.2 y.2)) (Ap f m 1 (Aq f m 3 y.1 y.1) (Aq f m 3 y.2 y.2))) (Ap f m 3 x.1 y.1)) (Ap f m 3 x.2 y.2)) (Ap f m 1 (Aq f m 3 x.1 y.1) (Aq f m 3 x.2 y.2))) (Ap f m 3 x.2 y.1)) (Ap f m 3 x.1 y.2)) (Ap f m 2 (Aq f m 3 x.2 y.1) (Aq f m 3 x.1 y.2))) (Ap f m 4 (Aq f m 1 (Aq f m 3 x.1 y.1) (Aq f m 3 x.2 y.2)) (Aq f m 1 (Aq f m 3 y.1 y.1) (Aq f m 3 y.2 y.2)))) q9 q3;show yU Es.pre Es.F GB.pre GB.F GC.pre GC.F T8.pre T8.F (f,m,g,()) (cI x) (cI y)=_;unfold yU cI;dsimp only;simp only[LQ p1,LB p1,LQ p2,LB p2,kZ p3,jT p3,LQ p4,LB p4,LQ p5,LB p5,kZ p6,jT p6,LQ p7,LB p7,LQ p8,LB p8,aQN p9,aOB p9,aQP p10,aOD p10,aQP p11,aOD p11,cond_true];rfl
abbrev XI:=Int×Int×Unit
def BT(f:Int)(l:List BD):Bool:=l.all fun x=>Ah f x.1==0&&Ah f x.2==0
theorem aXF(s:St3)(l:List BD)(hl:∀x∈l,x.1<2^64/\x.2<2^64)(hlen:l.length<2^63):
  gM (((l.length:Int),l.map cI,(),(0:Int),()),s,())=some (if BT s.1 l=true then .inl ((),s,())else .inr (((4:Int),()),s,())):=by
 have key:=CW (aPK Aw.pre Aw.F) (fun x=>l.length-x.1.2.2.2.1.toNat)
  (fun x=>∃i:Nat,i<=l.length/\BT s.1 (l.drop i)=BT s.1 l/\x=(((l.length:Int),l.map cI,(),(i:Int),()),s,()))
  (fun _=>if BT s.1 l=true then .inl ((),s,())else .inr (((4:Int),()),s,())) ?_ _ ⟨0,dp _,rfl,rfl⟩
 ·exact key
 intro L x hx hL;obtain⟨i,hi,hok,rfl⟩:=hx;unfold ZI;rcases ay i l.length with hlt|hge
 ·have hg:(l.map cI).getD i ((0:Int),(0:Int),())=cI l[i]:=by simp[al,hlt]
  obtain⟨h1,h2⟩:=hl _ (jn hlt);have p0:=K8 s.1 l[i].1 h1;have p1:=K8 s.1 l[i].2 h2;have e0:decide ((i:Int)<(l.length:Int))=true:=decide_eq_true (by omega);have e2:decide ((0:Int)<=(i:Int))=true:=decide_eq_true (by omega);have e1:decide ((i:Int)<(((l.map cI).length:Nat):Int))=true:=by rw[jy];exact e0
  have e3:aa .i64 ((i:Int)+1)=((i+1:Nat):Int):=by rw[Av (by omega)];omega
  have hN:L (((l.length:Int),l.map cI,(),((i+1:Nat):Int),()),s,())=some (if BT s.1 (l.drop (i+1))=true then .inl ((),s,())else .inr (((4:Int),()),s,()))∨BT s.1 (l.drop (i+1))≠BT s.1 l:=by
   by_cases h:BT s.1 (l.drop (i+1))=BT s.1 l
   ·left;rw[h];exact hL _ ⟨i+1,by omega,h,rfl⟩ (by simp only[ab];omega)
   ·exact .inr h
  rw[fd hlt]at hok;have hok':((Ah s.1 l[i].1==0&&Ah s.1 l[i].2==0)&&BT s.1 (l.drop (i+1)))=BT s.1 l:=hok;dsimp only;simp only[e0,e1,e2,e3,ab,hg,cI,Jw p0,Jl p0,Jw p1,Jl p1,cond_true,av,ax];by_cases c1:Ah s.1 l[i].1=0
  ·by_cases c2:Ah s.1 l[i].2=0
   ·rw[c1,c2]at hok' ⊢;have h3:BT s.1 (l.drop (i+1))=BT s.1 l:=hok';rcases hN with hN|hN
    ·simp only[bne_self_eq_false,ba,cond_false];rw[hN,h3]
    ·exact absurd h3 hN
   ·rw[beq_false_of_ne c2,ar,ak]at hok';rw[←hok',c1,bne_self_eq_false,bc,bne_iff_ne.2 c2];rfl
  ·rw[beq_false_of_ne c1,ak,ak]at hok';rw[←hok',bne_iff_ne.2 c1];rfl
 ·have e:i=l.length:=by omega
  subst e;rw[ii]at hok;have e0:decide ((l.length:Int)<(l.length:Int))=false:=decide_eq_false (by omega);simp only[e0,cond_false];rw[←hok];rfl
theorem aBq(s:St3)(l:List BD)(hl:∀x∈l,x.1<2^64/\x.2<2^64)(hlen:l.length<2^63):
  UB (s,l.map cI,())=some (s,(if BT s.1 l=true then(0:Int)else 4),()):=by
 show yR Aw.pre Aw.F gM s (l.map cI)=_;unfold yR;have hw:=aXF s l hl hlen;rw[jy];have hw':gM (((l.length:Int),l.map cI,(),(0:Int),()),(s.1,s.2),())=_:=hw;rw[hw'];by_cases h:BT s.1 l=true
 ·rw[if_pos h,if_pos h];all_goals rfl
 ·rw[if_neg h,if_neg h];all_goals rfl
def EB(w:BD->BD->BD)(k:BD->BD->List (Int×Nat×Nat))(f m:Int)(x y:BD):XI×Int×Int×Unit:=if ¬Fm f then((0,0,()),0,2,())else if m<0∨m>5 then((0,0,()),0,3,())else if ¬BT f [x,y]=true then((0,0,()),0,4,())else(cI (w x y),O9 f m 0 (k x y),0,())
theorem Yx{f:Int}{x y:BD}(h:BT f [x,y]=true):EK f x/\EK f y:=by
 simp only[BT,mm,qu,bf,ah,beq_iff_eq]at h;exact⟨h.1,h.2⟩
theorem O6{m:Int}:(decide (m<0)||decide (m>5))=decide (m<0∨m>5):=by rw[Bool.decide_or]
theorem aWW(f m:Int){x y:BD}(hx:x.1<2^64/\x.2<2^64)(hy:y.1<2^64/\y.2<2^64):eU (f,m,cI x,cI y,())=some (EB (WZ f m) v6 f m x y):=by
 show yY Ub.pre Ub.F As.pre As.F Et.pre Et.F f m (cI x) (cI y)=_;unfold yY EB;by_cases hf:Fm f
 ·have p0:=IZ hf;rw[if_neg (show ¬¬Fm f from fun h=>h hf)];by_cases hm:m<0∨m>5
  ·rw[if_pos hm];dsimp only;simp only[C2 p0,CZ p0,cond_true,bne_self_eq_false,cond_false,O6,decide_eq_true hm]
  ·rw[if_neg hm];have p1:UB ((f,m,0,()),(cI x::cI y::[]),())=_:=aBq (f,m,0,()) [x,y] (by intro z hz;simp at hz;rcases hz with rfl|rfl<;>assumption) (by show 2<2^63;decide);by_cases hF:BT f [x,y]=true
   ·rw[if_neg (fun h=>h hF)];rw[if_pos hF]at p1;obtain⟨ox,oy⟩:=Yx hF;obtain⟨p2,_⟩:=aWV hf (m:=m) (by omega) 0 ox oy;unfold cI at p1 p2⊢;dsimp only at p1 p2⊢;simp only[C2 p0,CZ p0,cond_true,bne_self_eq_false,cond_false,O6,decide_eq_false hm,Z4 p1,YC p1,bDz p2,bAI p2]
   ·rw[if_pos hF];rw[if_neg hF]at p1;unfold cI at p1⊢;dsimp only at p1⊢;simp only[C2 p0,CZ p0,cond_true,bne_self_eq_false,cond_false,O6,decide_eq_false hm,Z4 p1,YC p1];rfl
 ·have p0:=K9 hf;rw[if_pos hf];dsimp only;simp only[C2 p0,CZ p0,cond_true];rfl
theorem aIT(f m:Int){x y:BD}(hx:x.1<2^64/\x.2<2^64)(hy:y.1<2^64/\y.2<2^64):VJ (f,m,cI x,cI y,())=some (EB (Vc f m) (lA f m) f m x y):=by
 show yS T7.pre T7.F As.pre As.F Et.pre Et.F f m (cI x) (cI y)=_;unfold yS EB;by_cases hf:Fm f
 ·have p0:=IZ hf;rw[if_neg (show ¬¬Fm f from fun h=>h hf)];by_cases hm:m<0∨m>5
  ·rw[if_pos hm];dsimp only;simp only[C2 p0,CZ p0,cond_true,bne_self_eq_false,cond_false,O6,decide_eq_true hm]
  ·rw[if_neg hm];have p1:UB ((f,m,0,()),(cI x::cI y::[]),())=_:=aBq (f,m,0,()) [x,y] (by intro z hz;simp at hz;rcases hz with rfl|rfl<;>assumption) (by show 2<2^63;decide);by_cases hF:BT f [x,y]=true
   ·rw[if_neg (fun h=>h hF)];rw[if_pos hF]at p1;obtain⟨ox,oy⟩:=Yx hF;obtain⟨p2,_⟩:=aWT hf (m:=m) (by omega) 0 ox oy;unfold cI at p1 p2⊢;dsimp only at p1 p2⊢;simp only[C2 p0,CZ p0,cond_true,bne_self_eq_false,cond_false,O6,decide_eq_false hm,Z4 p1,YC p1,bDw p2,bAF p2]
   ·rw[if_pos hF];rw[if_neg hF]at p1;unfold cI at p1⊢;dsimp only at p1⊢;simp only[C2 p0,CZ p0,cond_true,bne_self_eq_false,cond_false,O6,decide_eq_false hm,Z4 p1,YC p1];rfl
 ·have p0:=K9 hf;rw[if_pos hf];dsimp only;simp only[C2 p0,CZ p0,cond_true];rfl
theorem aIV(f m:Int){x y:BD}(hx:x.1<2^64/\x.2<2^64)(hy:y.1<2^64/\y.2<2^64):VK (f,m,cI x,cI y,())=some (EB (Ve f m) (lE f m) f m x y):=by
 show yV T9.pre T9.F As.pre As.F Et.pre Et.F f m (cI x) (cI y)=_;unfold yV EB;by_cases hf:Fm f
 ·have p0:=IZ hf;rw[if_neg (show ¬¬Fm f from fun h=>h hf)];by_cases hm:m<0∨m>5
  ·rw[if_pos hm];dsimp only;simp only[C2 p0,CZ p0,cond_true,bne_self_eq_false,cond_false,O6,decide_eq_true hm]
  ·rw[if_neg hm];have p1:UB ((f,m,0,()),(cI x::cI y::[]),())=_:=aBq (f,m,0,()) [x,y] (by intro z hz;simp at hz;rcases hz with rfl|rfl<;>assumption) (by show 2<2^63;decide);by_cases hF:BT f [x,y]=true
   ·rw[if_neg (fun h=>h hF)];rw[if_pos hF]at p1;obtain⟨ox,oy⟩:=Yx hF;obtain⟨p2,_⟩:=aWU hf (m:=m) (by omega) 0 ox oy;unfold cI at p1 p2⊢;dsimp only at p1 p2⊢;simp only[C2 p0,CZ p0,cond_true,bne_self_eq_false,cond_false,O6,decide_eq_false hm,Z4 p1,YC p1,bDx p2,bAG p2]
   ·rw[if_pos hF];rw[if_neg hF]at p1;unfold cI at p1⊢;dsimp only at p1⊢;simp only[C2 p0,CZ p0,cond_true,bne_self_eq_false,cond_false,O6,decide_eq_false hm,Z4 p1,YC p1];rfl
 ·have p0:=K9 hf;rw[if_pos hf];dsimp only;simp only[C2 p0,CZ p0,cond_true];rfl
end VL
namespace VL
open Go Vx
theorem aw1:EB (Vc 2 0) (lA 2 0) 2 0 (1065353216,1073741824) (1065353216,1073741824)=(((3225419776:Int),(1082130432:Int),()),0,0,()):=by
 unfold EB;rw[if_neg (show ¬¬Fm 2 by decide),if_neg (by decide),if_neg (show ¬¬BT 2 [(1065353216,1073741824),(1065353216,1073741824)]=true by decide +kernel)];kernel_rfl
theorem aw2:EB (Ve 2 0) (lE 2 0) 2 0 (1065353216,1073741824) (1065353216,1065353216)=(((1069547520:Int),(1056964608:Int),()),0,0,()):=by
 unfold EB;rw[if_neg (show ¬¬Fm 2 by decide),if_neg (by decide),if_neg (show ¬¬BT 2 [(1065353216,1073741824),(1065353216,1065353216)]=true by decide +kernel)];kernel_rfl
theorem aYR:eQ ()=some (true,()):=by
 show yW GD.pre GD.F GE.pre GE.F=_;have p1:VJ (2,0,cI (1065353216,1073741824),cI (1065353216,1073741824),())=_:=aIT 2 0 (x:=(1065353216,1073741824)) (y:=(1065353216,1073741824)) (by decide) (by decide);have p2:VK (2,0,cI (1065353216,1073741824),cI (1065353216,1065353216),())=_:=aIV 2 0 (x:=(1065353216,1073741824)) (y:=(1065353216,1065353216)) (by decide) (by decide);rw[aw1]at p1;rw[aw2]at p2;have q1:VJ ((2:Int),(0:Int),((1065353216:Int),(1073741824:Int),()),((1065353216:Int),(1073741824:Int),()),())=_:=p1;have q2:VK ((2:Int),(0:Int),((1065353216:Int),(1073741824:Int),()),((1065353216:Int),(1065353216:Int),()),())=_:=p2;unfold yW;dsimp only;simp only[aQO q1,aOC q1,aQQ q2,aOE q2,cond_true];rfl
end VL
namespace VL
open Go Vx
theorem aXb{f:Int}(hf:Fm f){a:Nat}(h:Ah f a=0):
  VM ((if eF f a=AH f then(mF f a !=0,(mF f a !=0)&&(mF f a/2^(fP f-2)==0),mF f a==0,sF f a,(false,[],0,()),())
   else(false,false,false,sF f a,(sF f a,Dh (Al f a),Ao f a,()),())),())=some (AM f a,()):=by
 by_cases hE:eF f a=AH f
 ·rw[if_pos hE];have hz:AM f a=false:=by
   have:=Wu hf;unfold AM;rw[hE,beq_false_of_ne (show AH f≠0 by omega)];rfl
  rw[hz];show aK _=_;unfold aK;dsimp only;cases h0:mF f a==0<;>simp[bne,h0]
 ·rw[if_neg hE,aBw];have:=W6 f a;rw[←this];congr 2;by_cases h0:Al f a=0
  ·rw[h0];rfl
  ·rw[decide_eq_false h0,beq_false_of_ne (by omega)]
abbrev bB:=Bool×List Int×Int×Unit
def kS(f:Int)(a:Nat):bB:=if eF f a=AH f then(false,[],0,())else(sF f a,Dh (Al f a),Ao f a,())
abbrev op(f:Int)(a:Nat):Bool×Bool×Bool×Bool×bB×Unit:=(nan f a,Bk f a,Ax f a,sF f a,kS f a,())
theorem qA{f:Int}(hf:Fm f){a:Nat}(h:Ah f a=0):XU (f,(a:Int),())=some (op f a,()):=by
 have p:=aBu hf h;unfold op kS;by_cases hE:eF f a=AH f
 ·rw[if_pos hE]at p⊢;obtain⟨v1,v2,v3⟩:=UX hE;rw[p,v1,v2,v3];rfl
 ·rw[if_neg hE]at p⊢;obtain⟨v1,v2,v3⟩:=Ju hE;rw[p,v1,v2,v3]
theorem qB{f:Int}(hf:Fm f){a:Nat}(h:Ah f a=0):VM (op f a,())=some (AM f a,()):=by
 have p:=aXb hf h;unfold op kS;by_cases hE:eF f a=AH f
 ·rw[if_pos hE]at p⊢;obtain⟨v1,v2,v3⟩:=UX hE;rw[←p,v1,v2,v3];rfl
 ·rw[if_neg hE]at p⊢;obtain⟨v1,v2,v3⟩:=Ju hE;rw[←p,v1,v2,v3]
theorem bJO(b:BitVec 64):cq 64 (aa .i64 (b.toNat:Int))=b:=by
 apply BitVec.eq_of_toNat_eq;rw[BitVec.toNat_ofInt];have hb:=b.isLt;show((if(true&&decide ((b.toNat:Int)%2^64>=2^63))=true then(b.toNat:Int)%2^64-2^64 else(b.toNat:Int)%2^64)%((2^64:Nat):Int)).toNat=b.toNat;split
 ·rename_i h;have h3:=of_decide_eq_true h;have h4:(b.toNat:Int)%2^64>=2^63:=h3;omega
 ·rename_i h;have h4:¬(b.toNat:Int)%2^64>=2^63:=fun h5=>h (decide_eq_true h5);omega
end VL
namespace VL
open Go Vx
def prd(f:Int)(a b:Nat):Bool×Bool×Bool×Bool×Bool×bB×Unit:=bif(Ax f a&&AM f b)||(AM f a&&Ax f b)then(true,(nan f a||nan f b),(Bk f a||Bk f b),false,(!(sF f a==sF f b)),(false,[],0,()),())else bif nan f a||nan f b then(false,(nan f a||nan f b),(Bk f a||Bk f b),false,(!(sF f a==sF f b)),(false,[],0,()),())else bif Ax f a||Ax f b then(false,(nan f a||nan f b),(Bk f a||Bk f b),true,(!(sF f a==sF f b)),(false,[],0,()),())else(false,(nan f a||nan f b),(Bk f a||Bk f b),false,(!(sF f a==sF f b)),((!(sF f a==sF f b)),Dh (Al f a*Al f b),Ao f a+Ao f b,()),())
theorem uZ{f:Int}{a:Nat}(h1:nan f a=false)(h2:Ax f a=false):kS f a=(sF f a,Dh (Al f a),Ao f a,()):=by
 unfold kS;rw[if_neg (aDT h1 h2)]
theorem ZR{f:Int}(hf:Fm f)(a:Nat):Al f a<2^53:=ao (bBH hf a) (ai (by decide) (E8 hf))
theorem aW0{f:Int}(hf:Fm f){a b:Nat}(ha:Ah f a=0)(hb:Ah f b=0):fA (op f a,op f b,())=some (prd f a b,()):=by
 show zE EA.pre EA.F Uf.pre Uf.F (op f a) (op f b)=_;unfold zE prd;have q1:=qB hf ha;have q2:=qB hf hb;have m1:=ZR hf a;have m2:=ZR hf b;have x1:=aP hf a;have x2:=aP hf b;dsimp only[op]at q1 q2⊢;simp only[Z7 q1,YF q1,Z7 q2,YF q2,cond_true,av];cases h1:(Ax f a&&AM f b)||(AM f a&&Ax f b)
 ·cases h2:nan f a||nan f b
  ·cases h3:Ax f a||Ax f b
   ·rw[gx]at h2 h3;have hp:(2:Nat)^53<2^5000:=bt (by decide) (by decide);have p:=aWZ (x:=Al f a) (y:=Al f b) (by omega) (by omega);rw[uZ h2.1 h3.1,uZ h2.2 h3.2];have e:aa .i64 (Ao f a+Ao f b)=Ao f a+Ao f b:=Av (by omega);simp only[cond_false,bDD p,bAM p,cond_true,e]
   ·rfl
  ·rfl
 ·rfl
theorem bCI(g x:Int):Ak .i64 (Ak .i64 g x) 0=Ak .i64 g x:=by
 have e:∀x y:Int,cq 64 (Ak .i64 x y)=cq 64 x ||| cq 64 y:=fun x y=>bJO _;show aa .i64 ((cq 64 (Ak .i64 g x) ||| cq 64 0).toNat:Int)=aa .i64 ((cq 64 g ||| cq 64 x).toNat:Int);rw[e,show cq 64 0=0#64 from rfl,BitVec.or_zero]
def RG(g:Int):Prop:=Ak .i64 g 0=g
theorem KW(g x:Int):RG (Ak .i64 g x):=bCI g x
section
variable {f m:Int}(hf:Fm f)(hm:0<=m/\m<=5)
include hf hm
theorem eW(g:Int){a b:Nat}(ha:Ah f a=0)(hb:Ah f b=0):eV ((f,m,g,()),(a:Int),(b:Int),())=some ((f,m,Ak .i64 g (Ap f m 1 a b),()),((Aq f m 1 a b:Nat):Int),()):=by
 have p:XG (f,m,(a:Int),(b:Int),())=some (DX m 1 f a b 0):=aBo f m (Yq hf ha) (Yq hf hb);have h:=(Vk hf hm (.inl rfl) ha hb).2.1;show zA Gy.pre Gy.F (f,m,g,()) (a:Int) (b:Int)=_;unfold zA;dsimp only;simp only[vD p,t7 p,cond_true,h];rfl
theorem aIW(g:Int){a b:Nat}(ha:Ah f a=0)(hb:Ah f b=0):fC ((f,m,g,()),(a:Int),(b:Int),())=some ((f,m,Ak .i64 g (Ap f m 2 a b),()),((Aq f m 2 a b:Nat):Int),()):=by
 have p:XF (f,m,(a:Int),(b:Int),())=some (DX m 2 f a b 0):=aWB f m (Yq hf ha) (Yq hf hb);have h:=(Vk hf hm (.inr (.inl rfl)) ha hb).2.1;show zG TJ.pre TJ.F (f,m,g,()) (a:Int) (b:Int)=_;unfold zG;dsimp only;simp only[bDf p,bAo p,cond_true,h];rfl
theorem K7{g:Int}(hg:RG g){a b:Nat}(ha:Ah f a=0)(hb:Ah f b=0):fB ((f,m,g,()),(a:Int),(b:Int),())=some ((f,m,Ak .i64 g (Ap f m 3 a b),()),((Aq f m 3 a b:Nat):Int),()):=by
 have p1:=qA hf ha;have p2:=qA hf hb;have p3:=aW0 hf ha hb;have p4:=aBv hf;have p5:=aBl hf (!(sF f a==sF f b));have m1:=ZR hf a;have m2:=ZR hf b;have x1:=aP hf a;have x2:=aP hf b;unfold Aq Ap;rw[stM hf hm ha hb];show zF Ey.pre Ey.F Ug.pre Ug.F Ez.pre Ez.F Er.pre Er.F GK.pre GK.F (f,m,g,()) (a:Int) (b:Int)=_;unfold zF WF;dsimp only at p1 p2 p3⊢;simp only[HN p1,HH p1,HN p2,HH p2,bDE p3,bAN p3,cond_true];unfold prd;cases hn:nan f a||nan f b
 ·have hs:(Bk f a||Bk f b)=false:=by
   rw[gx]at hn⊢;exact⟨Pj hn.1,Pj hn.2⟩
  cases h1:(Ax f a&&AM f b)||(AM f a&&Ax f b)
  ·cases h3:Ax f a||Ax f b
   ·have hmm:Al f a*Al f b<2^6000:=by
     have:=Nat.mul_lt_mul'' m1 m2;refine fq this ?_;rw[←bi];exact bt (by decide) (by decide)
    have p6:=aI9 hf hm (!(sF f a==sF f b)) (Al f a*Al f b) (Ao f a+Ao f b) (!(sF f a==sF f b)) hmm (by omega);simp only[cond_false,hs,ba,aFg p6,aEi p6,cond_true];have z1:=W6 f a;have z2:=W6 f b;cases hz:AM f a||AM f b
    ·rw[gx]at hz;have n1:=EO hz.1;have n2:=EO hz.2;rw[if_neg (kd n1 n2)];rfl
    ·have h0:Al f a*Al f b=0:=by
      rw[dv]at hz;rcases hz with hz|hz
      ·rw[hz,beq_iff_eq]at z1;rw[show Al f a=0 by omega,ej]
      ·rw[hz,beq_iff_eq]at z2;rw[show Al f b=0 by omega,dz]
     rw[if_pos h0];rfl
   ·simp only[cond_false,hs,ba,vC p5,t6 p5,cond_true,ab];have e:Ak .i64 g 0=g:=hg;rw[e]
  ·simp only[cond_false,hs,bg,Pc p4,OZ p4,cond_true,ab]
 ·cases h1:(Ax f a&&AM f b)||(AM f a&&Ax f b)
  ·cases hs:Bk f a||Bk f b
   ·simp only[cond_false,ba,Pc p4,OZ p4,cond_true,ab];have e:Ak .i64 g 0=g:=hg;rw[e]
   ·simp only[cond_false,bd,Pc p4,OZ p4,cond_true,ab]
  ·exfalso;rw[dv,ah,ah]at h1;have hh:nan f a=false/\nan f b=false:=by
    rcases h1 with⟨u,v⟩|⟨u,v⟩
    ·exact⟨aO5 u,(aTv hf v).2⟩
    ·exact⟨(aTv hf u).2,aO5 v⟩
   rw[hh.1,hh.2]at hn;cases hn
end
end VL
namespace VL
open Go Vx
theorem aYX{X m q r:Nat}(h1:X=2*m*q+r)(h2:r<2*m):
  (m<=r->X=m*(2*q+1)+(r-m)/\r-m<m)/\(¬m<=r->X=m*(2*q)+r/\r<m):=by
 have e:2*m*q=m*(2*q):=by rw[be 2 m,bh]
 have e2:m*(2*q+1)=m*(2*q)+m:=by rw[bw,fy]
 constructor
 ·intro h;rw[e2];omega
 ·intro h;omega
abbrev N0:bB:=(false,[],0,())
theorem aXJ(neg:Bool)(xn yn:bB){X y:Nat}(hX:X<2^5000)(hy:y<2^5000)(hyn:yn.2.1=Dh y):∀(k:Nat),k<=5000->∀q r:Nat,X=y*2^k*q+r->r<y*2^k->q<2^5000 ->
  rE (((k:Int)-1,Dh q,Dh r,neg,(),(),(),()),xn,yn,N0,())=some (.inl ((Dh (X/y),Dh (X%y),neg,(),(),(),()),xn,yn,N0,())):=by
 intro k hk q r h1 h2 hq;have h100:(2:Nat)^5000<2^100000:=bt (by decide) (by decide);have key:=CW (aPO DD.pre DD.F CM.pre CM.F CN.pre CN.F CK.pre CK.F CL.pre CL.F) (fun s=>(s.1.1+1).toNat)
  (fun s=>∃(k q r:Nat),k<=5000/\X=y*2^k*q+r/\r<y*2^k/\q<=X/\s=(((k:Int)-1,Dh q,Dh r,neg,(),(),(),()),xn,yn,N0,()))
  (fun _=>.inl ((Dh (X/y),Dh (X%y),neg,(),(),(),()),xn,yn,N0,())) ?_ _ ⟨k,q,r,hk,h1,h2,?_,rfl⟩
 ·exact key
 ·intro L s hs hL;obtain⟨k,q,r,hk,h1,h2,hq,rfl⟩:=hs;unfold ZM;have hrX:r<=X:=by omega
  cases k with
  |zero=>
   have e0:decide (((0:Nat):Int)-1>=(0:Int))=false:=by decide
   rw[gz,fy]at h1 h2;have d1:X/y=q:=by
    rw[h1,kf (by omega),cg h2,cu]
   have d2:X%y=r:=by rw[h1,kg,bo h2]
   dsimp only;rw[e0,cond_false,d1,d2]
  |succ k=>
   have ek:((k+1:Nat):Int)-1=(k:Int):=by omega
   rw[ek];have e0:decide ((k:Int)>=(0:Int))=true:=decide_eq_true (by omega);have hm:y*2^(k+1)=2*(y*2^k):=by rw[dj,be (2^k) 2,gc]
   rw[hm]at h1 h2;obtain⟨b1,b2⟩:=aYX h1 h2;have hyk:y*2^k<2^100000:=by
    have h5:y*2^k<2^5000*2^5000:=Nat.mul_lt_mul_of_lt_of_le hy (ai (by decide) (by omega)) (af _);rw[←bi]at h5;exact ao h5 (ai (by decide) (by decide))
   have p1:NQ (Dh q,(1:Int),())=some (Dh (q*2^1),()):=NR (x:=q) (by omega) 1 (by decide);have p2:=NR (x:=y) (by omega) k (by omega);rw[←hyn]at p2;have p3:=aBi r (y*2^k) (by omega) hyk;have e1:((1:Int)::[])=Dh 1:=(nM (x:=1) (by decide) (by decide)).symm;have p5:Ux (Dh (q*2^1),(1:Int)::[],())=some (Dh (q*2^1+1),()):=by
    rw[e1];exact pT (by have:(2:Nat)^5001<2^100000:=bt (by decide) (by decide);have h6:(2:Nat)^5001=2^5000*2:=dj 2 5000;omega) (by omega)
   have e3:aa .i64 ((k:Int)-1)=(k:Int)-1:=Av (by omega);by_cases hc:y*2^k<=r
   ·obtain⟨c1,c2⟩:=b1 hc;have hq':2*q+1<=X:=by
     have hpos:1<=y*2^k:=by omega
     have:=ic hpos (bu (2*q+1));omega
    have p4:=pU (x:=r) (y:=y*2^k) (by omega) hc;have e2:decide ((if r=y*2^k then(0:Int)else if r<y*2^k then -1 else 1)>=0)=true:=by
     apply decide_eq_true;by_cases h:r=y*2^k
     ·rw[if_pos h];exact Int.le_refl 0
     ·rw[if_neg h,if_neg (by omega)];decide
    have hn:=hL (((k:Int)-1,Dh (2*q+1),Dh (r-y*2^k),neg,(),(),(),()),xn,yn,N0,()) ⟨k,2*q+1,r-y*2^k,by omega,c1,c2,hq',rfl⟩ (by show((k:Int)-1+1).toNat<(((k+1:Nat):Int)-1+1).toNat;omega);rw[show q*2^1+1=2*q+1 by omega]at p5;dsimp only;simp only[e0,cond_true,Jv p1,Jk p1,Jv p2,Jk p2,u7 p3,tZ p3,e2,u9 p4,t0 p4,u6 p5,tY p5,e3];exact hn
   ·obtain⟨c1,c2⟩:=b2 hc;have hq':2*q<=X:=by
     rcases br (y*2^k)with h0|h0
     ·omega
     ·have:=ic h0 (bu (2*q));omega
    have e2:decide ((if r=y*2^k then(0:Int)else if r<y*2^k then -1 else 1)>=0)=false:=by
     apply decide_eq_false;rw[if_neg (by omega),if_pos (by omega)];decide
    have hn:=hL (((k:Int)-1,Dh (2*q),Dh r,neg,(),(),(),()),xn,yn,N0,()) ⟨k,2*q,r,by omega,c1,c2,hq',rfl⟩ (by show((k:Int)-1+1).toNat<(((k+1:Nat):Int)-1+1).toNat;omega);rw[show q*2^1=2*q by omega]at p1;dsimp only;simp only[e0,cond_true,Jv p1,Jk p1,Jv p2,Jk p2,u7 p3,tZ p3,e2,cond_false,e3];exact hn
 ·rcases br (y*2^k)with h0|h0
  ·omega
  ·have:=ic h0 (bu q);omega
theorem aW3{x y X:Nat}(hXe:X=x*2^130)(hx0:x≠0)(hx:x<2^53)(hy0:y≠0)(hy:y<2^53)(s1 s2 neg:Bool){ex ey:Int}(h1:-1100<=ex/\ex<=1100)(h2:-1100<=ey/\ey<=1100):
  fF ((s1,Dh x,ex,()),(s2,Dh y,ey,()),neg,())=some ((neg,Dh (2*(X/y)+if X%y=0 then 0 else 1),ex-ey-131,()),()):=by
 have hX:X<2^183:=by
  have:=ck hx (af 130);rw[←bi,←hXe]at this;exact this
 have h5:(2:Nat)^183<2^5000:=bt (by decide) (by decide);have h6:(2:Nat)^53<2^5000:=bt (by decide) (by decide);have h7:(2:Nat)^5000<2^100000:=bt (by decide) (by decide);have hXp:2^130<=X:=by rw[hXe];exact iu _ (by omega)
 have p1:NQ (Dh x,(130:Int),())=some (Dh X,()):=by rw[hXe];exact NR (x:=x) (by omega) 130 (by decide)
 clear hXe;have bX:=Jc (n:=X) (k:=130) hXp;have by_:=CS hy;have bX2:=CS hX;have lt1:=FU X;have ge1:=Lr hy0;have bp:=Yn hy0;have p2:=dA (n:=X) (by omega);have p3:=dA (n:=y) (by omega);generalize hB:Ae X=B at *
 generalize hb:Ae y=b at *
 have e0:aa .i64 ((B:Int)-(b:Int))=((B-b+1:Nat):Int)-1:=by rw[Av (by omega)];omega
 have hlt:X<y*2^(B-b+1):=by
  have:=aw (2^(B-b+1)) ge1;rw[←bi,show b-1+(B-b+1)=B by omega]at this;omega
 have w:=aXJ neg (s1,Dh x,ex,()) (s2,Dh y,ey,()) (X:=X) (y:=y) (by omega) (by omega) rfl (B-b+1) (by omega) 0 X (by rw[dz,cz]) hlt (by omega);rw[aF2]at w;have hq:X/y<=X:=ee _ _;have p4:NQ (Dh (X/y),(1:Int),())=some (Dh (X/y*2^1),()):=NR (x:=X/y) (by omega) 1 (by decide);rw[show X/y*2^1=2*(X/y) by omega]at p4;generalize X/y=q at *
 generalize X%y=r at *
 have e1:((1:Int)::[])=Dh 1:=(nM (x:=1) (by decide) (by decide)).symm;have p5:Ux (Dh (2*q),(1:Int)::[],())=some (Dh (2*q+1),()):=by
  rw[e1];exact pT (by have h8:(2:Nat)^184<2^100000:=bt (by decide) (by decide);have h9:(2:Nat)^184=2^183*2:=dj 2 183;omega) (by omega)
 have e2:aa .i64 (aa .i64 (aa .i64 (ex-ey)-130)-1)=ex-ey-131:=by
  rw[Av (n:=ex-ey) (by omega),Av (n:=ex-ey-130) (by omega),Av (by omega)];omega
 show zJ DD.pre DD.F CM.pre CM.F CN.pre CN.F CK.pre CK.F CL.pre CL.F rE (s1,Dh x,ex,()) (s2,Dh y,ey,()) neg=_;unfold zJ;dsimp only;simp only[Jv p1,Jk p1,kX p2,jR p2,kX p3,jR p3,cond_true,e0];rw[w];dsimp only[Bi,Bg];simp only[Jv p4,Jk p4,cond_true,e2];by_cases hr:r=0
 ·have e3:decide (((Dh r).length:Int)>0)=false:=by rw[hr,aF2];rfl
  rw[e3,if_pos hr];rfl
 ·have e3:decide (((Dh r).length:Int)>0)=true:=decide_eq_true (by have:=aF1 hr;omega);rw[e3,if_neg hr];simp only[u6 p5,tY p5,cond_true]
theorem bHV{f m:Int}(hf:Fm f)(neg:Bool){n k X:Nat}(hXe:X=n*2^130)(hn:n≠0)(hk0:k≠0)(hk:k<2^53)(e:Int):
  AP f m neg (2*(X/k)+if X%k=0 then 0 else 1) (e-131) false=FW f m neg n k e:=by
 have hP:=E8 hf;have hX2:2^130<=X:=by rw[hXe];exact iu _ (by omega)
 have hq:2^77<=X/k:=by
  rw[go (by omega)];have h1:2^77*k<=2^77*2^53:=cd _ (by omega);rw[←bi]at h1;omega
 have hb:=Jc hq;have key:=jB (m:=m) (neg:=neg) hf hn (show 0<k by omega) e (s:=130) (by decide) (fun _=>by rw[←hXe];omega);rw[←hXe]at key;rw[←key];clear key hXe;unfold Jx;generalize X/k=q at *
 generalize X%k=r at *
 by_cases hr:r=0
 ·rw[if_pos hr,if_neg (by rw[hr];decide),cu,be 2];have:=WU (m:=m) (neg:=neg) hf (n:=q) (by omega) 1 (e-131);rw[ov]at this;rw[this];congr 1;omega
 ·rw[if_neg hr,if_pos (by exact decide_eq_true hr)];congr 1;omega
theorem aIX{f m:Int}(hf:Fm f)(hm:0<=m/\m<=5){g:Int}(hg:RG g){a b:Nat}(ha:Ah f a=0)(hb:Ah f b=0):fG ((f,m,g,()),(a:Int),(b:Int),())=some ((f,m,Ak .i64 g (Ap f m 4 a b),()),((Aq f m 4 a b:Nat):Int),()):=by
 have p1:=qA hf ha;have p2:=qA hf hb;have q1:=qB hf ha;have q2:=qB hf hb;have p4:=aBv hf;have p5:=aBl hf (!(sF f a==sF f b));have p6:=aH7 hf (!(sF f a==sF f b));have m1:=ZR hf a;have m2:=ZR hf b;have x1:=aP hf a;have x2:=aP hf b;have e0:Ak .i64 g 0=g:=hg;unfold Aq Ap;rw[stD hf hm ha hb];show zK Ey.pre Ey.F Ez.pre Ez.F Er.pre Er.F EA.pre EA.F Gz.pre Gz.F Uk.pre Uk.F Gw.pre Gw.F (f,m,g,()) (a:Int) (b:Int)=_;unfold zK Wj;dsimp only at p1 p2 q1 q2⊢;simp only[HN p1,HH p1,HN p2,HH p2,Z7 q1,YF q1,Z7 q2,YF q2,cond_true,av];cases hs:Bk f a||Bk f b
 ·cases hn:nan f a||nan f b
  ·simp only[cond_false];cases h1:(Ax f a&&Ax f b)||(AM f a&&AM f b)
   ·cases h2:Ax f a
    ·cases h3:AM f b
     ·cases h4:Ax f b||AM f a
      ·rw[gx]at hn h4;have n1:=EO h4.2;have n2:=EO h3;obtain⟨X,hXe⟩:∃X,X=Al f a*2^130:=⟨_,rfl⟩
       have p7:=aW3 (x:=Al f a) (y:=Al f b) hXe n1 m1 n2 m2 (sF f a) (sF f b) (!(sF f a==sF f b)) x1 x2;have hX:X<2^183:=by
        have:=ck m1 (af 130);rw[←bi,←hXe]at this;exact this
       have hXp:2^130<=X:=by rw[hXe];exact iu _ (by omega)
       have hq:X/Al f b<=X:=ee _ _;have hq2:0<X/Al f b:=Nat.div_pos (by have:(2:Nat)^53<2^130:=bt (by decide) (by decide);omega) (by omega);have h8:(2:Nat)^184<2^6000:=bt (by decide) (by decide);have h9:(2:Nat)^184=2^183*2:=dj 2 183;have p9:=bHV (m:=m) hf (!(sF f a==sF f b)) hXe n1 n2 m2 (Ao f a-Ao f b);clear hXe;generalize X/Al f b=q at *
       generalize X%Al f b=r at *
       have p8:=aHz hf hm (!(sF f a==sF f b)) (2*q+if r=0 then 0 else 1) (Ao f a-Ao f b-131) (by split<;>omega) (by split<;>omega) (by omega);rw[p9]at p8;clear p9;generalize FW f m (!(sF f a==sF f b)) (Al f a) (Al f b) (Ao f a-Ao f b)=d at *
       obtain⟨d1,d2⟩:=d;rw[uZ hn.1 h2,uZ hn.2 h4.1];simp only[cond_false,cond_true,bg,ba,h4.1,h4.2,bDH p7,bAQ p7,aQw p8,aOl p8,ab]
      ·simp only[cond_false,cond_true,aQH p6,aOw p6,ab,e0]
     ·simp only[cond_false,cond_true,vC p5,t6 p5,ab]
    ·simp only[cond_true,cond_false,vC p5,t6 p5,ab,e0]
   ·simp only[cond_true,cond_false,Pc p4,OZ p4,ab]
  ·simp only[cond_false,cond_true,Pc p4,OZ p4,ab,e0]
 ·have hn:(nan f a||nan f b)=true:=by
   rw[dv]at hs⊢;rcases hs with h|h
   ·exact .inl (vY h)
   ·exact .inr (vY h)
  simp only[hn,cond_true,Pc p4,OZ p4,ab]
end VL
namespace VL
open Go Vx
theorem aWX{f m:Int}(hf:Fm f)(hm:0<=m/\m<=5){g:Int}(hg:RG g){x y:BD}(hx:EK f x)(hy:EK f y):
  eX ((f,m,g,()),cI x,cI y,())=some ((f,m,O9 f m g (v6 x y),()),cI (WZ f m x y),()):=by
 have q1:=LW hf hm hx.1 hy.1;have q2:=LW hf hm hx.2 hy.2;have p1:=eW hf hm g hx.1 hy.1;have p2:=eW hf hm (Ak .i64 g (Ap f m 1 x.1 y.1)) hx.2 hy.2;show zB Ew.pre Ew.F (f,m,g,()) (cI x) (cI y)=_;unfold zB cI;dsimp only;simp only[k8 p1,jU p1,k8 p2,jU p2,cond_true];rfl
theorem aW1{f m:Int}(hf:Fm f)(hm:0<=m/\m<=5){g:Int}(hg:RG g){x y:BD}(hx:EK f x)(hy:EK f y):
  fD ((f,m,g,()),cI x,cI y,())=some ((f,m,O9 f m g (lA f m x y),()),cI (Vc f m x y),()):=by
 have q1:=DY hf hm hx.1 hy.1;have q2:=DY hf hm hx.2 hy.2;have q3:=DY hf hm hx.1 hy.2;have q4:=DY hf hm hx.2 hy.1;have q5:=v0 hf hm q1 q2;have q6:=LW hf hm q3 q4;have p1:=K7 hf hm hg hx.1 hy.1;have p2:=K7 hf hm (KW g (Ap f m 3 x.1 y.1)) hx.2 hy.2;have p3:=K7 hf hm (KW (Ak .i64 g (Ap f m 3 x.1 y.1)) (Ap f m 3 x.2 y.2)) hx.1 hy.2;have p4:=K7 hf hm (KW (Ak .i64 (Ak .i64 g (Ap f m 3 x.1 y.1)) (Ap f m 3 x.2 y.2)) (Ap f m 3 x.1 y.2)) hx.2 hy.1;have p5:=aIW hf hm (Ak .i64 (Ak .i64 (Ak .i64 (Ak .i64 g (Ap f m 3 x.1 y.1)) (Ap f m 3 x.2 y.2)) (Ap f m 3 x.1 y.2)) (Ap f m 3 x.2 y.1)) q1 q2;have p6:=eW hf hm (Ak .i64 (Ak .i64 (Ak .i64 (Ak .i64 (Ak .i64 g (Ap f m 3 x.1 y.1)) (Ap f m 3 x.2 y.2)) (Ap f m 3 x.1 y.2)) (Ap f m 3 x.2 y.1)) (Ap f m 2 (Aq f m 3 x.1 y.1) (Aq f m 3 x.2 y.2))) q3 q4;show zH GF.pre GF.F GG.pre GG.F Ew.pre Ew.F (f,m,g,()) (cI x) (cI y)=_;unfold zH cI;dsimp only;simp only[LR p1,LC p1,LR p2,LC p2,LR p3,LC p3,LR p4,LC p4,aQR p5,aOF p5,k8 p6,jU p6,cond_true];rfl
theorem aW4{f m:Int}(hf:Fm f)(hm:0<=m/\m<=5){g:Int}(hg:RG g){x y:BD}(hx:EK f x)(hy:EK f y):
  fH ((f,m,g,()),cI x,cI y,())=some ((f,m,O9 f m g (lE f m x y),()),cI (Ve f m x y),()):=by
 have q1:=DY hf hm hy.1 hy.1;have q2:=DY hf hm hy.2 hy.2;have q3:=LW hf hm q1 q2;have q4:=DY hf hm hx.1 hy.1;have q5:=DY hf hm hx.2 hy.2;have q6:=LW hf hm q4 q5;have q7:=DY hf hm hx.2 hy.1;have q8:=DY hf hm hx.1 hy.2;have q9:=v0 hf hm q7 q8;have q10:=v4 hf hm q6 q3;have q11:=v4 hf hm q9 q3;have p1:=K7 hf hm hg hy.1 hy.1;have p2:=K7 hf hm (KW g (Ap f m 3 y.1 y.1)) hy.2 hy.2;have p3:=eW hf hm (Ak .i64 (Ak .i64 g (Ap f m 3 y.1 y.1)) (Ap f m 3 y.2 y.2)) q1 q2;have p4:=K7 hf hm (KW (Ak .i64 (Ak .i64 g (Ap f m 3 y.1 y.1)) (Ap f m 3 y.2 y.2)) (Ap f m 1 (Aq f m 3 y.1 y.1) (Aq f m 3 y.2 y.2))) hx.1 hy.1;have p5:=K7 hf hm (KW (Ak .i64 (Ak .i64 (Ak .i64 g (Ap f m 3 y.1 y.1)) (Ap f m 3 y.2 y.2)) (Ap f m 1 (Aq f m 3 y.1 y.1) (Aq f m 3 y.2 y.2))) (Ap f m 3 x.1 y.1)) hx.2 hy.2;have p6:=eW hf hm (Ak .i64 (Ak .i64 (Ak .i64 (Ak .i64 (Ak .i64 g (Ap f m 3 y.1 y.1)) (Ap f m 3 y.2 y.2)) (Ap f m 1 (Aq f m 3 y.1 y.1) (Aq f m 3 y.2 y.2))) (Ap f m 3 x.1 y.1)) (Ap f m 3 x.2 y.2)) q4 q5;have p7:=K7 hf hm (KW (Ak .i64 (Ak .i64 (Ak .i64 (Ak .i64 (Ak .i64 g (Ap f m 3 y.1 y.1)) (Ap f m 3 y.2 y.2)) (Ap f m 1 (Aq f m 3 y.1 y.1) (Aq f m 3 y.2 y.2))) (Ap f m 3 x.1 y.1)) (Ap f m 3 x.2 y.2)) (Ap f m 1 (Aq f m 3 x.1 y.1) (Aq f m 3 x.2 y.2))) hx.2 hy.1;have p8:=K7 hf hm (KW (Ak .i64 (Ak .i64 (Ak .i64 (Ak .i64 (Ak .i64 (Ak .i64 g (Ap f m 3 y.1 y.1)) (Ap f m 3 y.2 y.2)) (Ap f m 1 (Aq f m 3 y.1 y.1) (Aq f m 3 y.2 y.2))) (Ap f m 3 x.1 y.1)) (Ap f m 3 x.2 y.2)) (Ap f m 1 (Aq f m 3 x.1 y.1) (Aq f m 3 x.2 y.2))) (Ap f m 3 x.2 y.1)) hx.1 hy.2;have p9:=aIW hf hm (Ak .i64 (Ak .i64 (Ak .i64 (Ak .i64 (Ak .i64 (Ak .i64 (Ak .i64 (Ak .i64 g (Ap f m 3 y.1 y.1)) (Ap f m 3 y.2 y.2)) (Ap f m 1 (Aq f m 3 y.1 y.1) (Aq f m 3 y.2 y.2))) (Ap f m 3 x.1 y.1)) (Ap f m 3 x.2 y.2)) (Ap f m 1 (Aq f m 3 x.1 y.1) (Aq f m 3 x.2 y.2))) (Ap f m 3 x.2 y.1)) (Ap f m 3 x.1 y.2)) q7 q8;have p10:=aIX hf hm (KW (Ak .i64 (Ak .i64 (Ak .i64 (Ak .i64 (Ak .i64 (Ak .i64 (Ak .i64 (Ak .i64 g (Ap f m 3 y.1 y.1)) (Ap f m 3 y.2 y.2)) (Ap f m 1 (Aq f m 3 y.1 y.1) (Aq f m 3 y.2 y.2))) (Ap f m 3 x.1 y.1)) (Ap f m 3 x.2 y.2)) (Ap f m 1 (Aq f m 3 x.1 y.1) (Aq f m 3 x.2 y.2))) (Ap f m 3 x.2 y.1)) (Ap f m 3 x.1 y.2)) (Ap f m 2 (Aq f m 3 x.2 y.1) (Aq f m 3 x.1 y.2))) q6 q3;have p11:=aIX hf hm (KW (Ak .i64 (Ak .i64 (Ak .i64 (Ak .i64 (Ak .i64 (Ak .i64 (Ak .i64 (Ak .i64 (Ak .i64 g (Ap f m 3 y.1 y.1)) (Ap f m 3 y.2 y.2)) (Ap f m 1 (Aq f m 3 y.1 y.1) (Aq f m 3 y.2 y.2))) (Ap f m 3 x.1 y.1)) (Ap f m 3 x.2 y.2)) (Ap f m 1 (Aq f m 3 x.1 y.1) (Aq f m 3 x.2 y.2))) (Ap f m 3 x.2 y.1)) (Ap f m 3 x.1 y.2)) (Ap f m 2 (Aq f m 3 x.2 y.1) (Aq f m 3 x.1 y.2))) (Ap f m 4 (Aq f m 1 (Aq f m 3 x.1 y.1) (Aq f m 3 x.2 y.2)) (Aq f m 1 (Aq f m 3 y.1 y.1) (Aq f m 3 y.2 y.2)))) q9 q3;show zL Ew.pre Ew.F GF.pre GF.F GG.pre GG.F Ul.pre Ul.F (f,m,g,()) (cI x) (cI y)=_;unfold zL cI;dsimp only;simp only[LR p1,LC p1,LR p2,LC p2,k8 p3,jU p3,LR p4,LC p4,LR p5,LC p5,k8 p6,jU p6,LR p7,LC p7,LR p8,LC p8,aQR p9,aOF p9,aQT p10,aOH p10,aQT p11,aOH p11,cond_true];rfl
theorem aXG(f:Int)(hf:Fm f)(l:List BD)(hl:∀x∈l,x.1<2^64/\x.2<2^64)(hlen:l.length<2^63):
  rC ((f,l.map cI,(0:Int),()),())=some (if BT f l=true then .inl ((),())else .inr (((4:Int),()),())):=by
 have key:=CW (aPL DF.pre DF.F CQ.pre CQ.F) (fun x=>l.length-x.1.2.2.1.toNat)
  (fun x=>∃i:Nat,i<=l.length/\BT f (l.drop i)=BT f l/\x=((f,l.map cI,(i:Int),()),()))
  (fun _=>if BT f l=true then .inl ((),())else .inr (((4:Int),()),())) ?_ _ ⟨0,dp _,rfl,rfl⟩
 ·exact key
 intro L x hx hL;obtain⟨i,hi,hok,rfl⟩:=hx;unfold ZJ;rcases ay i l.length with hlt|hge
 ·have hg:(l.map cI).getD i ((0:Int),(0:Int),())=cI l[i]:=by simp[al,hlt]
  obtain⟨h1,h2⟩:=hl _ (jn hlt);have p0:=jL hf h1;have p1:=jL hf h2;have e0:decide ((i:Int)<(l.length:Int))=true:=decide_eq_true (by omega);have e2:decide ((0:Int)<=(i:Int))=true:=decide_eq_true (by omega);have e1:decide ((i:Int)<(((l.map cI).length:Nat):Int))=true:=by rw[jy];exact e0
  have e3:aa .i64 ((i:Int)+1)=((i+1:Nat):Int):=by rw[Av (by omega)];omega
  have hN:L ((f,l.map cI,((i+1:Nat):Int),()),())=some (if BT f (l.drop (i+1))=true then .inl ((),())else .inr (((4:Int),()),()))∨BT f (l.drop (i+1))≠BT f l:=by
   by_cases h:BT f (l.drop (i+1))=BT f l
   ·left;rw[h];exact hL _ ⟨i+1,by omega,h,rfl⟩ (by simp only[ab];omega)
   ·exact .inr h
  rw[fd hlt]at hok;have hok':((Ah f l[i].1==0&&Ah f l[i].2==0)&&BT f (l.drop (i+1)))=BT f l:=hok;dsimp only;simp only[e1,e2,e3,ab,hg,cI,k9 p0,jV p0,k9 p1,jV p1,cond_true,av,ax];by_cases c1:Ah f l[i].1=0
  ·by_cases c2:Ah f l[i].2=0
   ·rw[c1,c2]at hok' ⊢;have h3:BT f (l.drop (i+1))=BT f l:=hok';rcases hN with hN|hN
    ·simp only[decide_true,bb,ba,cond_false];rw[hN,h3]
    ·exact absurd h3 hN
   ·rw[beq_false_of_ne c2,ar,ak]at hok';rw[←hok',decide_eq_false c2,au,bd];rfl
  ·rw[beq_false_of_ne c1,ak,ak]at hok';rw[←hok',decide_eq_false c1,au,av];rfl
 ·have e:i=l.length:=by omega
  subst e;rw[ii]at hok;have e0:decide ((l.length:Int)<(((l.map cI).length:Nat):Int))=false:=by rw[jy];exact decide_eq_false (by omega)
  simp only[e0,cond_false];rw[←hok];rfl
theorem aBr(f m:Int)(l:List BD)(hl:∀x∈l,x.1<2^64/\x.2<2^64)(hlen:l.length<2^63):
  UC (f,m,l.map cI,())=some ((if ¬Fm f then(2:Int)else if m<0∨m>5 then 3 else if ¬BT f l=true then 4 else 0),()):=by
 show yZ DF.pre DF.F CQ.pre CQ.F rC f m (l.map cI)=_;unfold yZ;have p:=aI8 f m;by_cases hf:Fm f
 ·rw[if_neg (show ¬¬Fm f from fun h=>h hf)];rw[if_pos hf]at p;by_cases hm:m<0∨m>5
  ·rw[if_neg (show ¬(0<=m/\m<=5) by omega)]at p;rw[if_pos hm];simp only[Z6 p,YE p,cond_true];rfl
  ·rw[if_pos (show 0<=m/\m<=5 by omega)]at p;rw[if_neg hm];have w:=aXG f hf l hl hlen;simp only[Z6 p,YE p,cond_true,bne_self_eq_false,cond_false];rw[w];by_cases h:BT f l=true
   ·rw[if_pos h,if_neg (fun x=>x h)]
   ·rw[if_neg h,if_pos h]
 ·rw[if_pos hf];rw[if_neg hf]at p;simp only[Z6 p,YE p,cond_true];rfl
theorem aWY(f m:Int){x y:BD}(hx:x.1<2^64/\x.2<2^64)(hy:y.1<2^64/\y.2<2^64):eY (f,m,cI x,cI y,())=some (EB (WZ f m) v6 f m x y):=by
 show zC Eu.pre Eu.F Ud.pre Ud.F f m (cI x) (cI y)=_;unfold zC EB;have p0:UC (f,m,(cI x::cI y::[]),())=_:=aBr f m [x,y] (by intro z hz;simp at hz;rcases hz with rfl|rfl<;>assumption) (by show 2<2^63;decide);by_cases hf:Fm f
 ·rw[if_neg (show ¬¬Fm f from fun h=>h hf)]at p0⊢;by_cases hm:m<0∨m>5
  ·rw[if_pos hm]at p0⊢;unfold cI at p0⊢;dsimp only at p0⊢;simp only[HM p0,HG p0,cond_true];rfl
  ·rw[if_neg hm]at p0⊢;by_cases hF:BT f [x,y]=true
   ·rw[if_neg (fun h=>h hF)]at p0⊢;obtain⟨ox,oy⟩:=Yx hF;have p2:=aWX hf (m:=m) (by omega) (g:=0) rfl ox oy;unfold cI at p0 p2⊢;dsimp only at p0 p2⊢;simp only[HM p0,HG p0,cond_true,bne_self_eq_false,cond_false,bDB p2,bAK p2]
   ·rw[if_pos hF]at p0⊢;unfold cI at p0⊢;dsimp only at p0⊢;simp only[HM p0,HG p0,cond_true];rfl
 ·rw[if_pos hf]at p0⊢;unfold cI at p0⊢;dsimp only at p0⊢;simp only[HM p0,HG p0,cond_true];rfl
theorem aW2(f m:Int){x y:BD}(hx:x.1<2^64/\x.2<2^64)(hy:y.1<2^64/\y.2<2^64):fE (f,m,cI x,cI y,())=some (EB (Vc f m) (lA f m) f m x y):=by
 show zI Eu.pre Eu.F Uh.pre Uh.F f m (cI x) (cI y)=_;unfold zI EB;have p0:UC (f,m,(cI x::cI y::[]),())=_:=aBr f m [x,y] (by intro z hz;simp at hz;rcases hz with rfl|rfl<;>assumption) (by show 2<2^63;decide);by_cases hf:Fm f
 ·rw[if_neg (show ¬¬Fm f from fun h=>h hf)]at p0⊢;by_cases hm:m<0∨m>5
  ·rw[if_pos hm]at p0⊢;unfold cI at p0⊢;dsimp only at p0⊢;simp only[HM p0,HG p0,cond_true];rfl
  ·rw[if_neg hm]at p0⊢;by_cases hF:BT f [x,y]=true
   ·rw[if_neg (fun h=>h hF)]at p0⊢;obtain⟨ox,oy⟩:=Yx hF;have p2:=aW1 hf (m:=m) (by omega) (g:=0) rfl ox oy;unfold cI at p0 p2⊢;dsimp only at p0 p2⊢;simp only[HM p0,HG p0,cond_true,bne_self_eq_false,cond_false,bDF p2,bAO p2]
   ·rw[if_pos hF]at p0⊢;unfold cI at p0⊢;dsimp only at p0⊢;simp only[HM p0,HG p0,cond_true];rfl
 ·rw[if_pos hf]at p0⊢;unfold cI at p0⊢;dsimp only at p0⊢;simp only[HM p0,HG p0,cond_true];rfl
theorem aW5(f m:Int){x y:BD}(hx:x.1<2^64/\x.2<2^64)(hy:y.1<2^64/\y.2<2^64):fI (f,m,cI x,cI y,())=some (EB (Ve f m) (lE f m) f m x y):=by
 show zM Eu.pre Eu.F Um.pre Um.F f m (cI x) (cI y)=_;unfold zM EB;have p0:UC (f,m,(cI x::cI y::[]),())=_:=aBr f m [x,y] (by intro z hz;simp at hz;rcases hz with rfl|rfl<;>assumption) (by show 2<2^63;decide);by_cases hf:Fm f
 ·rw[if_neg (show ¬¬Fm f from fun h=>h hf)]at p0⊢;by_cases hm:m<0∨m>5
  ·rw[if_pos hm]at p0⊢;unfold cI at p0⊢;dsimp only at p0⊢;simp only[HM p0,HG p0,cond_true];rfl
  ·rw[if_neg hm]at p0⊢;by_cases hF:BT f [x,y]=true
   ·rw[if_neg (fun h=>h hF)]at p0⊢;obtain⟨ox,oy⟩:=Yx hF;have p2:=aW4 hf (m:=m) (by omega) (g:=0) rfl ox oy;unfold cI at p0 p2⊢;dsimp only at p0 p2⊢;simp only[HM p0,HG p0,cond_true,bne_self_eq_false,cond_false,bDI p2,bAR p2]
   ·rw[if_pos hF]at p0⊢;unfold cI at p0⊢;dsimp only at p0⊢;simp only[HM p0,HG p0,cond_true];rfl
 ·rw[if_pos hf]at p0⊢;unfold cI at p0⊢;dsimp only at p0⊢;simp only[HM p0,HG p0,cond_true];rfl
end VL
namespace VL
open Go Vx
def F9(x:Option Nat):Int:=if Dl .f64 x x=some .eq then((x.getD 0:Nat):Int)else 9221120237041090560
theorem aM3(x:Option Nat):((Dl .f64 x x)!=(some Ordering.eq))=!(decide (Dl .f64 x x=some .eq)):=by
 by_cases h:Dl .f64 x x=some .eq
 ·rw[h];rfl
 ·rw[decide_eq_false h,bne_iff_ne.2 h];rfl
theorem bCK{x:Option Nat}(h:Dl .f64 x x=some .eq):x.isSome=true:=by
 cases x with
 |none=>cases h
 |some _=>rfl
theorem pW(x:Option Nat):fK (x,())=some (F9 x,()):=by
 show zO Bp.pre Bp.F Vr.pre Vr.F x=_;have p:XS (3,())=some ((9221120237041090560:Int),0,()):=pZ (f:=3) (by decide);unfold zO F9;rw[aM3];by_cases h:Dl .f64 x x=some .eq
 ·rw[decide_eq_true h,if_pos h];have hp:Vr.pre (x,())=true:=bCK h;rw[hp];rfl
 ·rw[decide_eq_false h,if_neg h,vJ p,uD p];rfl
abbrev CF:=Option Nat×Option Nat
def BQ(x:XI):CF:=(some x.1.toNat,some x.2.1.toNat)
def HD(z:CF):XI:=(F9 z.1,F9 z.2,())
def uO(x y:CF):CF:=(AK .sub .f64 (AK .mul .f64 x.1 y.1) (AK .mul .f64 x.2 y.2),AK .add .f64 (AK .mul .f64 x.1 y.2) (AK .mul .f64 x.2 y.1))
def sP(x y:CF):CF:=(AK .add .f64 x.1 y.1,AK .add .f64 x.2 y.2)
def Pd(u v:CF):CF:=let t:=AK .add .f64 (AK .mul .f64 v.1 v.1) (AK .mul .f64 v.2 v.2);(AK .quo .f64 (AK .add .f64 (AK .mul .f64 u.1 v.1) (AK .mul .f64 u.2 v.2)) t,AK .quo .f64 (AK .sub .f64 (AK .mul .f64 u.2 v.1) (AK .mul .f64 u.1 v.2)) t)
theorem XN(x:XI):IY (x,())=some (BQ x,()):=rfl
theorem aIZ(z:CF):XO (z,())=some (HD z,()):=by
 show zP GH.pre GH.F z=_;have p1:=pW z.1;have p2:=pW z.2;unfold zP;rw[vH p1,uC p1,vH p2,uC p2];rfl
theorem aW6(x y:XI):fL (x,y,())=some (HD (sP (BQ x) (BQ y)),()):=by
 have p:=aIZ (sP (BQ x) (BQ y));show zQ Ex.pre Ex.F GI.pre GI.F x y=_;unfold zQ;have q1:IY ((x.1,x.2),())=some (BQ x,()):=XN x;have q2:IY ((y.1,y.2),())=some (BQ y,()):=XN y;have p':XO ((AK .add .f64 (BQ x).1 (BQ y).1,AK .add .f64 (BQ x).2 (BQ y).2),())=some (HD (sP (BQ x) (BQ y)),()):=p;dsimp only;simp only[Z5 q1,YD q1,Z5 q2,YD q2,aQU p',aOI p',cond_true]
theorem aW7(x y:XI):fN (x,y,())=some (HD (uO (BQ x) (BQ y)),()):=by
 have p:=aIZ (uO (BQ x) (BQ y));show zR Ex.pre Ex.F Uq.pre Uq.F GI.pre GI.F x y=_;unfold zR;have q1:IY ((x.1,x.2),())=some (BQ x,()):=XN x;have q2:IY ((y.1,y.2),())=some (BQ y,()):=XN y;have q3:fM (BQ x,BQ y,())=some (uO (BQ x) (BQ y),()):=rfl;dsimp only;simp only[Z5 q1,YD q1,Z5 q2,YD q2,bDL q3,bAU q3,aQU p,aOI p,cond_true]
theorem aW8(x y:XI):fO (x,y,())=some (HD (Pd (BQ x) (BQ y)),()):=by
 show zS Ex.pre Ex.F GH.pre GH.F x y=_;have p1:=pW (Pd (BQ x) (BQ y)).1;have p2:=pW (Pd (BQ x) (BQ y)).2;have q1:IY ((x.1,x.2),())=some (BQ x,()):=XN x;have q2:IY ((y.1,y.2),())=some (BQ y,()):=XN y;unfold zS;unfold Pd at p1 p2;dsimp only at p1 p2⊢;simp only[Z5 q1,YD q1,Z5 q2,YD q2,vH p1,uC p1,vH p2,uC p2,cond_true];rfl
end VL
namespace VL
open Go Vx
def fk:FloatKind->Int
 |.f32=>2
 |.f64=>3
theorem FY(k:FloatKind):Fm (fk k):=by cases k<;>exact⟨by decide,by decide⟩
theorem aD1(k:FloatKind):k.format.signWeight=2^(fW (fk k)-1):=by cases k<;>rfl
theorem aDY(k:FloatKind):k.format.binade=2^(fP (fk k)-1):=by cases k<;>rfl
theorem Wq(k:FloatKind):k.format.infRung=BC (fk k):=by cases k<;>rfl
theorem aD0(k:FloatKind):k.format.leastPlace=qm (fk k):=by cases k<;>rfl
theorem aDZ(k:FloatKind):k.format.fractionBits=fP (fk k)-1:=by cases k<;>rfl
theorem aDh{f:Int}(hf:Fm f)(a:Nat):Cl f a%2^(fP f-1)=mF f a/\Cl f a/2^(fP f-1)=eF f a:=by
 rw[OH hf,Nat.add_mul_mod_self_left,bo (Jp f a),Nat.add_mul_div_left _ _ (af _),cg (Jp f a),cz];exact⟨rfl,rfl⟩
theorem Pe(k:FloatKind){a:Nat}(h:Ah (fk k) a=0):
  k.format.read a=if eF (fk k) a=AH (fk k)then(if mF (fk k) a=0 then .infinity (sF (fk k) a)else .nan (sF (fk k) a) (mF (fk k) a))else .number (sF (fk k) a) (Al (fk k) a) (Ao (fk k) a):=by
 obtain⟨hf,h0⟩:=Fs h;have hneg:(a/k.format.signWeight%2==1)=sF (fk k) a:=by rw[aD1];exact bIZ h
 have hab:a%k.format.signWeight=Cl (fk k) a:=by rw[aD1];rfl
 obtain⟨p1,p2⟩:=aDh hf a;have he:=OH hf a;have hm:=Jp (fk k) a;have hpp:=af (fP (fk k)-1);have hfull:=Wu hf;have hel:eF (fk k) a<=AH (fk k):=by
  have:=ca (a/2^(fP (fk k)-1)) (af (fW (fk k)-fP (fk k)));unfold eF AH;omega
 unfold Ieee.Format.read;dsimp only;rw[hneg,hab,aDY,Wq,aD0];unfold BC;by_cases h1:eF (fk k) a=AH (fk k)
 ·rw[if_pos h1];rw[h1]at he;have hge:2^(fP (fk k)-1)*1<=2^(fP (fk k)-1)*AH (fk k):=cd _ hfull;rw[if_neg (by omega),if_neg (by omega)];by_cases h2:mF (fk k) a=0
  ·rw[if_pos h2,if_pos (by omega)]
  ·rw[if_neg h2,if_neg (by omega)];congr 1;omega
 ·rw[if_neg h1];unfold Al Ao;by_cases h2:eF (fk k) a=0
  ·rw[h2,dz,cu]at he;rw[if_pos (by omega),if_pos h2,if_pos h2,he,Int.add_zero];rfl
  ·have h3:2^(fP (fk k)-1)*1<=2^(fP (fk k)-1)*eF (fk k) a:=cd _ (by omega);have h4:2^(fP (fk k)-1)*(eF (fk k) a+1)<=2^(fP (fk k)-1)*AH (fk k):=cd _ (by omega);rw[bw,fy]at h4;rw[if_neg (by omega),if_pos (by omega),if_neg h2,if_neg h2,p1,p2,iq];congr 1;unfold qm;omega
theorem bCT{f:Int}(hf:Fm f){a b:Nat}(ha:Ah f a=0)(hb:Ah f b=0)(fa:eF f a≠AH f)(fb:eF f b≠AH f):(AD f a<AD f b↔vA f a<vA f b)/\(AD f a=AD f b↔vA f a=vA f b):=by
 have key:∀{a b:Nat},Ah f a=0->Ah f b=0->eF f a≠AH f->eF f b≠AH f->vA f a<=vA f b->AD f a<=AD f b:=fun {a b} ha hb fa fb h=>by
  rw[aRs hf ha fa,aRs hf hb fb];exact bCU hf (by decide) h
 have heq:AD f a=AD f b->vA f a=vA f b:=bIU hf;have h1:=fun h=>key ha hb fa fb h;have h2:=fun h=>key hb ha fb fa h;refine⟨⟨fun h=>?_,fun h=>?_⟩,⟨heq,fun h=>?_⟩⟩
 ·rcases qv (vA f a) (vA f b)with g|g
  ·exact g
  ·have:=h2 g;omega
 ·rcases qv (AD f a) (AD f b)with g|g
  ·exact g
  ·have g1:=h1 (Int.le_of_lt h);have:=heq (by omega);omega
 ·have g1:=h1 (by omega);have g2:=h2 (by omega);omega
theorem aRx(f:Int)(s:Bool)(m:Nat){e q:Int}(h1:qm f<=q)(h2:q<=e):Ieee.signed s m (e-q).toNat*(2^(q-qm f).toNat:Nat)=vI f s m e:=by
 unfold Ieee.signed vI;have hm:m*2^(e-q).toNat*2^(q-qm f).toNat=m*2^(e-qm f).toNat:=by
  rw[bh,←bi];congr 2;omega
 rw[jo];cases s
 ·rw[if_neg (by decide),cond_false,←hm];simp only[ka]
 ·rw[if_pos rfl,cond_true,←hm];simp only[ka,Int.neg_mul]
theorem aNp{x y z w:Int}(h1:x<y↔z<w)(h2:x=y↔z=w):compare x y=compare z w:=by
 show compareOfLessAndEq x y=compareOfLessAndEq z w;unfold compareOfLessAndEq;by_cases g1:x<y
 ·rw[if_pos g1,if_pos (h1.1 g1)]
 ·have g3:¬z<w:=fun h=>g1 (h1.2 h);rw[if_neg g1,if_neg g3];by_cases g2:x=y
  ·rw[if_pos g2,if_pos (h2.1 g2)]
  ·have g4:¬z=w:=fun h=>g2 (h2.2 h);rw[if_neg g2,if_neg g4]
theorem aZh(x y:Int){c:Nat}(hc:0<c):compare x y=compare (x*(c:Int)) (y*(c:Int)):=by
 have hc':(0:Int)<(c:Int):=by omega
 exact aNp ⟨fun h=>Int.mul_lt_mul_of_pos_right h hc',fun h=>Int.lt_of_mul_lt_mul_right h (by omega)⟩ ⟨fun h=>by rw[h],fun h=>Int.eq_of_mul_eq_mul_right (by omega) h⟩
theorem aDG{x y:Int}(h:x<y):compare x y=.lt:=by
 show compareOfLessAndEq x y=_;unfold compareOfLessAndEq;rw[if_pos h]
theorem aNo(x:Int):compare x x=.eq:=by
 show compareOfLessAndEq x x=_;unfold compareOfLessAndEq;rw[if_neg (Int.lt_irrefl x),if_pos rfl]
theorem aDF{x y:Int}(h:y<x):compare x y=.gt:=by
 have h1:¬x<y:=by omega
 have h2:¬x=y:=by omega
 show compareOfLessAndEq x y=_;unfold compareOfLessAndEq;rw[if_neg h1,if_neg h2]
theorem aE4{f:Int}(hf:Fm f){a:Nat}(h1:eF f a=AH f)(h2:mF f a=0):AD f a=bif sF f a then -(BC f:Int)else BC f:=by
 unfold AD BC;rw[OH hf,h1,h2,cz]
theorem aQp{f:Int}(hf:Fm f){a:Nat}(h1:eF f a≠AH f):-(BC f:Int)<AD f a/\AD f a<BC f:=by
 have hel:eF f a<=AH f:=by
  have:=ca (a/2^(fP f-1)) (af (fW f-fP f));unfold eF AH;omega
 have he:=OH hf a;have hm:=Jp f a;have h4:2^(fP f-1)*(eF f a+1)<=2^(fP f-1)*AH f:=cd _ (by omega);rw[bw,fy]at h4;unfold AD BC;cases sF f a<;>simp only[cond_true,cond_false]<;>omega
theorem bCL(k:FloatKind){a b:Nat}(ha:Ah (fk k) a=0)(hb:Ah (fk k) b=0):
  k.format.order a b=if nan (fk k) a||nan (fk k) b then none else some (compare (AD (fk k) a) (AD (fk k) b)):=by
 have hf:=FY k;unfold Ieee.Format.order;rw[Pe k ha,Pe k hb];have hpos:=aEw hf;by_cases fa:eF (fk k) a=AH (fk k)
 ·rw[if_pos fa];by_cases ma:mF (fk k) a=0
  ·have na:nan (fk k) a=false:=by unfold nan;simp[ma]
   have pa:=aE4 hf fa ma;rw[if_pos ma,na,bc];by_cases fb:eF (fk k) b=AH (fk k)
   ·rw[if_pos fb];by_cases mb:mF (fk k) b=0
    ·have nb:nan (fk k) b=false:=by unfold nan;simp[mb]
     have pb:=aE4 hf fb mb;rw[if_pos mb,nb,pa,pb];show some (compare (sF (fk k) b).toNat (sF (fk k) a).toNat)=some _;cases sF (fk k) a<;>cases sF (fk k) b<;>simp only[cond_true,cond_false]
     ·rw[aNo];rfl
     ·rw[aDF (by omega)];rfl
     ·rw[aDG (by omega)];rfl
     ·rw[aNo];rfl
    ·have nb:nan (fk k) b=true:=by unfold nan;simp[mb,fb]
     rw[if_neg mb,nb];rfl
   ·have nb:nan (fk k) b=false:=(Ju fb).1;have pb:=aQp hf fb;rw[if_neg fb,nb,pa];show some (if sF (fk k) a=true then Ordering.lt else .gt)=some _;cases sF (fk k) a<;>simp only[cond_true,cond_false]
    ·rw[aDF pb.2];rfl
    ·rw[aDG pb.1];rfl
  ·have na:nan (fk k) a=true:=by unfold nan;simp[ma,fa]
   rw[if_neg ma,na];rfl
 ·have na:nan (fk k) a=false:=(Ju fa).1;have pa:=aQp hf fa;rw[if_neg fa,na,bc];by_cases fb:eF (fk k) b=AH (fk k)
  ·rw[if_pos fb];by_cases mb:mF (fk k) b=0
   ·have nb:nan (fk k) b=false:=by unfold nan;simp[mb]
    have pb:=aE4 hf fb mb;rw[if_pos mb,nb,pb];show some (if sF (fk k) b=true then Ordering.gt else .lt)=some _;cases sF (fk k) b<;>simp only[cond_true,cond_false]
    ·rw[aDG pa.2];rfl
    ·rw[aDF pa.1];rfl
   ·have nb:nan (fk k) b=true:=by unfold nan;simp[mb,fb]
    rw[if_neg mb,nb];rfl
  ·have nb:nan (fk k) b=false:=(Ju fb).1;rw[if_neg fb,nb];show some (compare (Ieee.signed (sF (fk k) a) (Al (fk k) a) (Ao (fk k) a-min (Ao (fk k) a) (Ao (fk k) b)).toNat) (Ieee.signed (sF (fk k) b) (Al (fk k) b) (Ao (fk k) b-min (Ao (fk k) a) (Ao (fk k) b)).toNat))=some _;congr 1;have g1:=lY (fk k) a;have g2:=lY (fk k) b;have hb1:qm (fk k)<=min (Ao (fk k) a) (Ao (fk k) b):=by omega
   rw[aZh _ _ (af (min (Ao (fk k) a) (Ao (fk k) b)-qm (fk k)).toNat),aRx (fk k) _ _ hb1 (by omega),aRx (fk k) _ _ hb1 (by omega)];obtain⟨c1,c2⟩:=bCT hf ha hb fa fb;exact(aNp c1 c2).symm
end VL
namespace VL
open Go Vx
theorem aO(k:FloatKind)(neg:Bool)(r:Nat):k.format.word neg r=CA (fk k) neg r:=by
 unfold Ieee.Format.word CA;rw[aD1];cases neg
 ·rw[if_neg (by decide),cond_false,cu]
 ·rw[if_pos rfl,cond_true,iq]
theorem aOL(neg odd:Bool)(rest:Nat):C9 0 neg odd rest=if rest=2 then odd else decide (2<=rest):=rfl
theorem aPd(n:Nat):n<2^(n.log2+1):=by
 by_cases h:n=0
 ·subst h;decide
 ·have:=FU n;unfold Ae at this;rw[if_neg h]at this;exact this
theorem aNv(neg:Bool)(n drop:Nat):Ieee.Toward.even.cut neg n drop=CY 0 neg n drop:=by
 unfold Ieee.Toward.cut CY;dsimp only;rw[jo,fx];by_cases hd:drop<=n.log2+2
 ·rw[gn hd,aOL];generalize hq:n/2^drop=q;have hr:=ca n (af drop);generalize n%2^drop=r at *
  by_cases h0:drop=0
  ·subst h0;have:r=0:=by rw[gz]at hr;omega
   subst this;rfl
  ·have hp:2^drop=2*2^(drop-1):=by rw[be,←dj];congr 1;omega
   have hpp:=af (drop-1);have hcl:B9 r drop=(if r=0 then 0 else if r<2^(drop-1)then 1 else if r=2^(drop-1)then 2 else 3):=rfl;rw[hp]at hr⊢;generalize B9 r drop=C at *
   generalize 2^(drop-1)=H at *
   by_cases c0:r=0
   ·rw[if_pos c0]at hcl;subst hcl;subst c0;have e1:decide (2*H<2*0)=false:=decide_eq_false (by omega);have e2:(2*H==2*0)=false:=beq_eq_false_iff_ne.2 (by omega);rw[e1,e2];rfl
   ·rw[if_neg c0]at hcl;by_cases c1:r<H
    ·rw[if_pos c1]at hcl;subst hcl;have e1:decide (2*H<2*r)=false:=decide_eq_false (by omega);have e2:(2*H==2*r)=false:=beq_eq_false_iff_ne.2 (by omega);rw[e1,e2];rfl
    ·rw[if_neg c1]at hcl;by_cases c2:r=H
     ·rw[if_pos c2]at hcl;subst hcl;subst c2;have e1:decide (2*r<2*r)=false:=decide_eq_false (by omega);rw[e1,beq_self_eq_true,if_pos rfl,bc,az];by_cases ho:q%2=1
      ·rw[ho,if_pos ⟨by decide,by rfl⟩];rfl
      ·rw[if_neg (fun h=>by simpa[ho]using h.2),show q%2=0 by omega];rfl
     ·rw[if_neg c2]at hcl;subst hcl;have e1:decide (2*H<2*r)=true:=decide_eq_true (by omega);rw[e1,av,if_pos ⟨by decide,by rfl⟩];rfl
 ·have hlt:=aPd n;have h1:n<2^(n.log2+2):=fq hlt (bt (by decide) (by omega));have h2:n<2^(drop-1):=ao hlt (ai (by decide) (by omega));have h3:n<2^drop:=ao hlt (ai (by decide) (by omega));have h4:2*n<2^(n.log2+2):=by
   rw[show n.log2+2=(n.log2+1)+1 by omega,dj];omega
  rw[lg (by omega),cg h1,bo h1,cg h3,bo h3];have e1:decide (2^(n.log2+2)<2*n)=false:=decide_eq_false (by omega);have e2:(2^(n.log2+2)==2*n)=false:=beq_eq_false_iff_ne.2 (by omega);rw[e1,e2,aOL];unfold B9;by_cases c0:n=0
  ·subst c0;rfl
  ·rw[if_neg c0,if_pos h2];rfl
theorem aNt(neg:Bool)(n:Nat):CY 0 neg n 0=n:=by
 unfold CY;rw[gz,ou,nk];rfl
theorem aZj(m:Int)(neg:Bool)(n j:Nat):CY m neg (n*2^j) j=n:=by
 unfold CY;rw[Nat.mul_mod_left,jd _ (af j)];rw[if_neg (fun h=>h.1 rfl)]
theorem aZl(m:Int)(neg:Bool)(n:Nat){d k:Nat}(hd:1<=d):CY m neg (n*2^k) (k+d)=CY m neg n d:=by
 unfold CY;have e1:n*2^k/2^(k+d)=n/2^d:=by
  rw[bi,←dk,jd _ (af k)]
 have e2:n*2^k%2^(k+d)=2^k*(n%2^d):=by
  rw[bi,be n,Nat.mul_mod_mul_left]
 rw[e1,e2,aNm hd]
theorem bBV(k:FloatKind)(neg:Bool){mag:Nat}(h0:mag≠0){AD:Int}(hp:qm (fk k)<=AD):
  k.format.nearest neg mag AD=CA (fk k) neg (Dq (fk k) 0 neg (mag*2^(AD-qm (fk k)).toNat) (qm (fk k))).1:=by
 have hf:=FY k;have hP:=CV hf;obtain⟨D,hD⟩:=cn (show 0<=AD-qm (fk k) by omega);have hN0:mag*2^D≠0:=kd h0 (ku (af D));have hbl:Ae (mag*2^D)=mag.log2+1+D:=by
  rw[be,←cz (2^D*mag),aDo (af D) (by omega)];unfold Ae;rw[if_neg h0];omega
 rw[hD,ab,aFw hf 0 neg hN0];have hup:kL (fk k) 0 neg=BC (fk k):=rfl;unfold Ieee.Format.nearest;rw[if_neg h0,aO,aD0,aDZ,aDY,Wq];congr 1;have key:(max (AD+(mag.log2:Int)-((fP (fk k)-1:Nat):Int)) (qm (fk k))-qm (fk k)).toNat*2^(fP (fk k)-1) +
   Ieee.Toward.even.cut neg (mag <<< (AD-max (AD+(mag.log2:Int)-((fP (fk k)-1:Nat):Int)) (qm (fk k))).toNat) (max (AD+(mag.log2:Int)-((fP (fk k)-1:Nat):Int)) (qm (fk k))-AD).toNat=Ft (fk k) 0 neg (mag*2^D):=by
  rw[aNv,jo];unfold Ft;by_cases hs:mag*2^D<2^fP (fk k)
  ·rw[if_pos hs];have hb:=CS hs;rw[show max (AD+(mag.log2:Int)-((fP (fk k)-1:Nat):Int)) (qm (fk k))=qm (fk k) by omega,Int.sub_self,ap,ej,cz,hD,ab,show(qm (fk k)-AD).toNat=0 by omega,aNt]
  ·rw[if_neg hs];have hb:fP (fk k)<Ae (mag*2^D):=by
    rcases ay (fP (fk k)) (Ae (mag*2^D))with h|h
    ·exact h
    ·exact absurd (ao (FU _) (ai (by decide) h)) hs
   rw[hbl]at hb⊢;obtain⟨j,hj⟩:∃j,mag.log2+1+D-fP (fk k)=j:=⟨_,rfl⟩
   have hl:max (AD+(mag.log2:Int)-((fP (fk k)-1:Nat):Int)) (qm (fk k))=qm (fk k)+(j:Int):=by omega
   rw[hl,hj,show qm (fk k)+(j:Int)-qm (fk k)=(j:Int) by omega,ab];congr 1;by_cases hDj:j<=D
   ·rw[show(qm (fk k)+(j:Int)-AD).toNat=0 by omega,show(AD-(qm (fk k)+(j:Int))).toNat=D-j by omega,aNt];have e:mag*2^D=(mag*2^(D-j))*2^j:=by rw[bh,←bi];congr 2;omega
    rw[e,aZj]
   ·rw[show(AD-(qm (fk k)+(j:Int))).toNat=0 by omega,gz,fy,show(qm (fk k)+(j:Int)-AD).toNat=j-D by omega];have e:=aZl 0 neg mag (d:=j-D) (k:=D) (by omega);rw[show D+(j-D)=j by omega]at e;exact e.symm
 rw[key,hup];by_cases h:BC (fk k)<=Ft (fk k) 0 neg (mag*2^D)
 ·rw[if_pos h,lg h]
 ·rw[if_neg h,gn (by omega)]
theorem aRa(k:FloatKind)(neg:Bool){mag:Nat}(h0:mag≠0){AD:Int}(hp:qm (fk k)<=AD):k.format.nearest neg mag AD=(AP (fk k) 0 neg mag AD false).1:=by
 rw[bBV k neg h0 hp,aRb (FY k) 0 neg h0 hp]
theorem uR(k:FloatKind)(neg:Bool)(AD:Int):k.format.nearest neg 0 AD=Bs (fk k) neg:=by
 unfold Ieee.Format.nearest;rw[if_pos rfl,aO,←iU,cz]
theorem WH(k:FloatKind)(T:Int)(z:Bool){e:Int}(he:qm (fk k)<=e):
  k.format.nearest (if T=0 then z else decide (T<0)) T.natAbs e=if T=0 then Bs (fk k) z else(AP (fk k) 0 (decide (T<0)) T.natAbs e false).1:=by
 by_cases h:T=0
 ·rw[if_pos h,if_pos h,h];exact uR k z e
 ·rw[if_neg h,if_neg h];exact aRa k _ (by omega) he
theorem bJu(k:FloatKind)(s:Bool)(m:Nat)(i:Int)(t:Bool)(n:Nat)(j:Int)(hi:qm (fk k)<=i)(hj:qm (fk k)<=j):
  ((Ieee.Datum.number s m i).sum (.number t n j)).map k.format.write=some (Dy (fk k) 0 s m i t n j).1:=by
 have hmin:min i j=(if i<=j then i else j):=by split<;>omega
 show some (k.format.nearest (if Ieee.signed s m (i-min i j).toNat+Ieee.signed t n (j-min i j).toNat=0 then s&&t else decide (Ieee.signed s m (i-min i j).toNat+Ieee.signed t n (j-min i j).toNat<0)) (Ieee.signed s m (i-min i j).toNat+Ieee.signed t n (j-min i j).toNat).natAbs (min i j))=_;congr 1;have hq:qm (fk k)<=min i j:=by omega
 rw[WH k _ _ hq];unfold Dy Ieee.signed;rw[hmin];rw[jo,jo];dsimp only;generalize(if i<=j then i else j)=e at *
 generalize m*2^(i-e).toNat=A;generalize n*2^(j-e).toNat=B;have eA:∀{T:Int} {s:Bool} {r:Nat},decide (T<0)=s->T.natAbs=r->(AP (fk k) 0 (decide (T<0)) T.natAbs e false).1=(AP (fk k) 0 s r e false).1:=fun h1 h2=>by rw[h1,h2]
 cases s<;>cases t
 ·show(if(A:Int)+(B:Int)=0 then Bs (fk k) false else(AP (fk k) 0 (decide ((A:Int)+(B:Int)<0)) ((A:Int)+(B:Int)).natAbs e false).1)=(if A+B=0 then(Bs (fk k) false,0)else AP (fk k) 0 false (A+B) e false).1;by_cases h:A+B=0
  ·have h2:(A:Int)+(B:Int)=0:=by omega
   rw[if_pos h,if_pos h2]
  ·have h2:¬(A:Int)+(B:Int)=0:=by omega
   rw[if_neg h,if_neg h2];exact eA (decide_eq_false (by omega)) (by omega)
 ·show(if(A:Int) + -(B:Int)=0 then Bs (fk k) false else(AP (fk k) 0 (decide ((A:Int) + -(B:Int)<0)) ((A:Int) + -(B:Int)).natAbs e false).1)=(if A=B then(Bs (fk k) false,0)else if B<A then AP (fk k) 0 false (A-B) e false else AP (fk k) 0 true (B-A) e false).1;by_cases h:A=B
  ·have h2:(A:Int) + -(B:Int)=0:=by omega
   rw[if_pos h,if_pos h2]
  ·have h2:¬(A:Int) + -(B:Int)=0:=by omega
   rw[if_neg h,if_neg h2];by_cases h3:B<A
   ·rw[if_pos h3];exact eA (decide_eq_false (by omega)) (by omega)
   ·rw[if_neg h3];exact eA (decide_eq_true (by omega)) (by omega)
 ·show(if -(A:Int)+(B:Int)=0 then Bs (fk k) false else(AP (fk k) 0 (decide (-(A:Int)+(B:Int)<0)) (-(A:Int)+(B:Int)).natAbs e false).1)=(if A=B then(Bs (fk k) false,0)else if B<A then AP (fk k) 0 true (A-B) e false else AP (fk k) 0 false (B-A) e false).1;by_cases h:A=B
  ·have h2:-(A:Int)+(B:Int)=0:=by omega
   rw[if_pos h,if_pos h2]
  ·have h2:¬ -(A:Int)+(B:Int)=0:=by omega
   rw[if_neg h,if_neg h2];by_cases h3:B<A
   ·rw[if_pos h3];exact eA (decide_eq_true (by omega)) (by omega)
   ·rw[if_neg h3];exact eA (decide_eq_false (by omega)) (by omega)
 ·show(if -(A:Int) + -(B:Int)=0 then Bs (fk k) true else(AP (fk k) 0 (decide (-(A:Int) + -(B:Int)<0)) (-(A:Int) + -(B:Int)).natAbs e false).1)=(if A+B=0 then(Bs (fk k) true,0)else AP (fk k) 0 true (A+B) e false).1;by_cases h:A+B=0
  ·have h2:-(A:Int) + -(B:Int)=0:=by omega
   rw[if_pos h,if_pos h2]
  ·have h2:¬ -(A:Int) + -(B:Int)=0:=by omega
   rw[if_neg h,if_neg h2];exact eA (decide_eq_true (by omega)) (by omega)
def Fq(f:Int)(o:Option Nat):Nat:=o.getD (Co f)
theorem aEy(k:FloatKind){a:Nat}(h:Ah (fk k) a=0)(h1:eF (fk k) a=AH (fk k))(h2:mF (fk k) a=0):k.format.word (sF (fk k) a) k.format.infRung=a:=by
 have hf:=FY k;rw[aO,Wq];have:=aQj h;rw[OH hf,h1,h2,cz]at this;unfold CA BC;exact this.symm
theorem aMH(k:FloatKind){a b:Nat}(ha:Ah (fk k) a=0)(hb:Ah (fk k) b=0):(HB (fk k) 0 a b).1=(Fq (fk k) (Cv .add k a b):Nat)/\(HB (fk k) 0 a b).2.2.1=0:=by
 have hf:=FY k;unfold HB;rw[if_pos hf,if_pos ⟨by decide,by decide⟩,if_pos ⟨ha,hb⟩];show(Wc (fk k) 0 a b).1=(Fq (fk k) (((k.format.read a).sum (k.format.read b)).map k.format.write):Nat)/\_;rw[Pe k ha,Pe k hb];unfold Wc;have sn:∀x,Bk (fk k) x=true->nan (fk k) x=true:=fun x h=>by unfold Bk at h;simp only[ah]at h;exact h.1
 by_cases na:nan (fk k) a=true
 ·have h1:eF (fk k) a=AH (fk k)/\mF (fk k) a≠0:=by unfold nan at na;simpa using na
  rw[if_pos h1.1,if_neg h1.2,na,av];have:∀d,((Ieee.Datum.nan (sF (fk k) a) (mF (fk k) a)).sum d).map k.format.write=none:=fun d=>rfl;rw[this];cases Bk (fk k) a||Bk (fk k) b<;>exact⟨rfl,rfl⟩
 ·have na:nan (fk k) a=false:=by simpa using na
  rw[na,bc];by_cases nb:nan (fk k) b=true
  ·have h1:eF (fk k) b=AH (fk k)/\mF (fk k) b≠0:=by unfold nan at nb;simpa using nb
   have this:∀d:Ieee.Datum,(d.sum (Ieee.Datum.nan (sF (fk k) b) (mF (fk k) b))).map k.format.write=none:=fun d=>by cases d<;>rfl
   rw[if_pos (c:=eF (fk k) b=_) h1.1,if_neg (c:=mF (fk k) b=0) h1.2,this,nb];cases Bk (fk k) a||Bk (fk k) b<;>exact⟨rfl,rfl⟩
  ·have nb:nan (fk k) b=false:=by simpa using nb
   have sa:=Pj na;have sb:=Pj nb;rw[nb,sa,sb,ba,cond_false,cond_false];by_cases fa:eF (fk k) a=AH (fk k)
   ·have ma:mF (fk k) a=0:=by
     unfold nan at na;rw[fa]at na;simpa using na
    have ia:Ax (fk k) a=true:=by rw[(UX fa).2.2,ma];rfl
    rw[if_pos fa,if_pos ma,ia,az];by_cases fb:eF (fk k) b=AH (fk k)
    ·have mb:mF (fk k) b=0:=by
      unfold nan at nb;rw[fb]at nb;simpa using nb
     have ib:Ax (fk k) b=true:=by rw[(UX fb).2.2,mb];rfl
     rw[if_pos fb,if_pos mb,ib,az];show _/\_;by_cases hs:sF (fk k) a=sF (fk k) b
     ·have e:(Ieee.Datum.infinity (sF (fk k) a)).sum (.infinity (sF (fk k) b))=some (.infinity (sF (fk k) a)):=by
       show(if sF (fk k) a=sF (fk k) b then _ else _)=_;rw[if_pos hs]
      rw[e,beq_iff_eq.2 hs];refine⟨?_,rfl⟩;show(a:Int)=((k.format.word (sF (fk k) a) k.format.infRung:Nat):Int)
      rw[aEy k ha fa ma]
     ·have e:(Ieee.Datum.infinity (sF (fk k) a)).sum (.infinity (sF (fk k) b))=none:=by
       show(if sF (fk k) a=sF (fk k) b then _ else _)=_;rw[if_neg hs]
      rw[e,beq_eq_false_iff_ne.2 hs];exact⟨rfl,rfl⟩
    ·have ib:Ax (fk k) b=false:=(Ju fb).2.2;rw[if_neg fb,ib,ak,cond_false,cond_true];refine⟨?_,rfl⟩;show(a:Int)=((k.format.word (sF (fk k) a) k.format.infRung:Nat):Int)
     rw[aEy k ha fa ma]
   ·have ia:Ax (fk k) a=false:=(Ju fa).2.2;rw[if_neg fa,ia,ak,ak,cond_false,cond_false];by_cases fb:eF (fk k) b=AH (fk k)
    ·have mb:mF (fk k) b=0:=by
      unfold nan at nb;rw[fb]at nb;simpa using nb
     have ib:Ax (fk k) b=true:=by rw[(UX fb).2.2,mb];rfl
     rw[if_pos fb,if_pos mb,ib,cond_true];refine⟨?_,rfl⟩;show(b:Int)=((k.format.word (sF (fk k) b) k.format.infRung:Nat):Int)
     rw[aEy k hb fb mb]
    ·have ib:Ax (fk k) b=false:=(Ju fb).2.2;rw[if_neg fb,ib,cond_false,bJu k _ _ _ _ _ _ (lY (fk k) a) (lY (fk k) b)];exact⟨rfl,rfl⟩
theorem bBZ{f:Int}(hf:Fm f)(b:Nat):eF f (DK f b)=eF f b/\mF f (DK f b)=mF f b:=by
 obtain⟨p1,p2⟩:=aDh hf b;obtain⟨q1,q2⟩:=aDh hf (DK f b);rw[bBY]at q1 q2;exact⟨by rw[←p2,←q2],by rw[←p1,←q1]⟩
theorem bHI(k:FloatKind){b:Nat}(hb:Ah (fk k) b=0):(k.format.read b).opposite=k.format.read (DK (fk k) b):=by
 have hf:=FY k;have hn:=uS hf b;obtain⟨e1,e2⟩:=bBZ hf b;rw[Pe k hb,Pe k hn,e1,e2,bB0];have e3:Al (fk k) (DK (fk k) b)=Al (fk k) b:=by unfold Al;rw[e1,e2]
 have e4:Ao (fk k) (DK (fk k) b)=Ao (fk k) b:=by unfold Ao;rw[e1]
 rw[e3,e4];by_cases h1:eF (fk k) b=AH (fk k)
 ·rw[if_pos h1,if_pos h1];by_cases h2:mF (fk k) b=0
  ·rw[if_pos h2,if_pos h2];rfl
  ·rw[if_neg h2,if_neg h2];rfl
 ·rw[if_neg h1,if_neg h1];rfl
theorem bJh(k:FloatKind)(a:Nat){b:Nat}(hb:Ah (fk k) b=0):Cv .sub k a b=Cv .add k a (DK (fk k) b):=by
 show((k.format.read a).sum (k.format.read b).opposite).map k.format.write=((k.format.read a).sum (k.format.read (DK (fk k) b))).map k.format.write;rw[bHI k hb]
theorem bJi(k:FloatKind){a b:Nat}(ha:Ah (fk k) a=0)(hb:Ah (fk k) b=0):(Jz (fk k) 0 a b).1=(Fq (fk k) (Cv .sub k a b):Nat)/\(Jz (fk k) 0 a b).2.2.1=0:=by
 unfold Jz;rw[if_pos hb,bJh k a hb];exact aMH k ha (uS (FY k) b)
theorem bJQ(k:FloatKind){d:Ieee.Datum}(h:d.isNaN=false):Ah (fk k) (k.format.write d)=0/\nan (fk k) (k.format.write d)=false:=by
 have hf:=FY k;have key:∀s r,r<=BC (fk k)->Ah (fk k) (k.format.word s r)=0/\nan (fk k) (k.format.word s r)=false:=fun s r hr=>by
  have hroom:=aOY hf;have hlt:r<2^(fW (fk k)-1):=by omega
  rw[aO];refine⟨uL hf s hlt,bBU hf ?_⟩;rw[aEM s hlt];exact hr
 cases d with
 |nan s t=>cases h
 |infinity s=>exact key s _ (by rw[Wq];exact bu _)
 |number s m e=>
  show Ah (fk k) (k.format.nearest s m e)=0/\nan (fk k) (k.format.nearest s m e)=false;unfold Ieee.Format.nearest;split
  ·exact key s 0 (dp _)
  ·exact key s _ (by rw[Wq];exact Nat.min_le_right _ _)
theorem aRB{d e r:Ieee.Datum}(h:d.sum e=some r):r.isNaN=false:=by
 cases d<;>cases e<;>first|(cases h;done)|skip
 ·cases h;rfl
 ·cases h;rfl
 ·cases h;rfl
 ·rename_i s t;have h:(if s=t then some (Ieee.Datum.infinity s)else none)=some r:=h;split at h
  ·cases h;rfl
  ·cases h
end VL
namespace VL
open Go Vx
theorem bBW(k:FloatKind)(neg:Bool){mag:Nat}(h0:mag≠0)(d:Nat):k.format.nearest neg mag (qm (fk k)-d)=CA (fk k) neg (Dq (fk k) 0 neg mag (qm (fk k)-d)).1:=by
 have hf:=FY k;have hP:=CV hf;have hbl:Ae mag=mag.log2+1:=by unfold Ae;rw[if_neg h0]
 rw[bHT hf 0 neg h0 d];have hup:kL (fk k) 0 neg=BC (fk k):=rfl;unfold Ieee.Format.nearest;rw[if_neg h0,aO,aD0,aDZ,aDY,Wq];congr 1;have hl:max (qm (fk k)-(d:Int)+(mag.log2:Int)-((fP (fk k)-1:Nat):Int)) (qm (fk k))=qm (fk k)+((Ae mag-fP (fk k)-d:Nat):Int):=by omega
 have key:(max (qm (fk k)-(d:Int)+(mag.log2:Int)-((fP (fk k)-1:Nat):Int)) (qm (fk k))-qm (fk k)).toNat*2^(fP (fk k)-1) +
   Ieee.Toward.even.cut neg (mag <<< (qm (fk k)-(d:Int)-max (qm (fk k)-(d:Int)+(mag.log2:Int)-((fP (fk k)-1:Nat):Int)) (qm (fk k))).toNat) (max (qm (fk k)-(d:Int)+(mag.log2:Int)-((fP (fk k)-1:Nat):Int)) (qm (fk k))-(qm (fk k)-(d:Int))).toNat=ZS (fk k) 0 neg d mag:=by
  rw[aNv,jo,hl];unfold ZS;generalize Ae mag-fP (fk k)-d=J;rw[show(qm (fk k)+(J:Int)-qm (fk k)).toNat=J by omega,show(qm (fk k)-(d:Int)-(qm (fk k)+(J:Int))).toNat=0 by omega,gz,fy,show(qm (fk k)+(J:Int)-(qm (fk k)-(d:Int))).toNat=J+d by omega]
 rw[key,hup];by_cases h:BC (fk k)<=ZS (fk k) 0 neg d mag
 ·rw[if_pos h,lg h]
 ·rw[if_neg h,gn (by omega)]
theorem aEO(k:FloatKind)(neg:Bool){mag:Nat}(h0:mag≠0)(AD:Int):k.format.nearest neg mag AD=(AP (fk k) 0 neg mag AD false).1:=by
 rcases Int.le_total (qm (fk k)) AD with h|h
 ·exact aRa k neg h0 h
 ·obtain⟨d,hd⟩:=cn (show 0<=qm (fk k)-AD by omega);have:=bBW k neg h0 d;rw[show qm (fk k)-(d:Int)=AD by omega]at this;rw[this,Vg (FY k)]
theorem W5(s t:Bool):(s ^^ t)=!(s==t):=by cases s<;>cases t<;>rfl
theorem uP(k:FloatKind){a:Nat}(ha:Ah (fk k) a=0)(h:nan (fk k) a=true):k.format.read a=.nan (sF (fk k) a) (mF (fk k) a):=by
 have h1:eF (fk k) a=AH (fk k)/\mF (fk k) a≠0:=by unfold nan at h;simpa using h
 rw[Pe k ha,if_pos h1.1,if_neg h1.2]
theorem ZO(k:FloatKind){a:Nat}(ha:Ah (fk k) a=0)(h:Ax (fk k) a=true):k.format.read a=.infinity (sF (fk k) a):=by
 have h1:eF (fk k) a=AH (fk k)/\mF (fk k) a=0:=by unfold Ax at h;simpa using h
 rw[Pe k ha,if_pos h1.1,if_pos h1.2]
theorem ZV(k:FloatKind){a:Nat}(ha:Ah (fk k) a=0)(h:nan (fk k) a=false)(h2:Ax (fk k) a=false):k.format.read a=.number (sF (fk k) a) (Al (fk k) a) (Ao (fk k) a):=by
 have h1:eF (fk k) a≠AH (fk k):=fun he=>by
  unfold nan at h;unfold Ax at h2;rw[he]at h h2;simp at h h2;exact h2 h
 rw[Pe k ha,if_neg h1]
theorem lV(k:FloatKind)(s:Bool):k.format.word s k.format.infRung=Dn (fk k) s:=by
 rw[aO,Wq,aOW,iU]
theorem bBO(k:FloatKind){a b:Nat}(ha:Ah (fk k) a=0)(hb:Ah (fk k) b=0):(Jr (fk k) 0 a b).1=(Fq (fk k) (Cv .mul k a b):Nat)/\(Jr (fk k) 0 a b).2.2.1=0:=by
 have hf:=FY k;unfold Jr;rw[if_neg (show ¬¬Fm (fk k)from fun h=>h hf),if_neg (by decide),if_neg (fun h=>h ha),if_neg (fun h=>h hb)];show(WF (fk k) 0 a b).1=(Fq (fk k) (((k.format.read a).product (k.format.read b)).map k.format.write):Nat)/\_;unfold WF;have za:=W6 (fk k) a;have zb:=W6 (fk k) b;cases na:nan (fk k) a
 ·cases nb:nan (fk k) b
  ·rw[Pj na,Pj nb];simp only[ba,cond_false];cases ia:Ax (fk k) a
   ·rw[ZV k ha na ia];cases ib:Ax (fk k) b
    ·rw[ZV k hb nb ib];simp only[ar,ak,ba,cond_false];show _=((k.format.nearest (sF (fk k) a ^^ sF (fk k) b) (Al (fk k) a*Al (fk k) b) (Ao (fk k) a+Ao (fk k) b):Nat):Int)/\_;rw[W5];cases hz:AM (fk k) a||AM (fk k) b
     ·rw[gx]at hz;rw[aEO k _ (kd (EO hz.1) (EO hz.2))];exact⟨rfl,by first|rfl|trivial⟩
     ·have h0:Al (fk k) a*Al (fk k) b=0:=by
       rw[dv]at hz;rcases hz with hz|hz
       ·rw[hz,beq_iff_eq]at za;rw[show Al (fk k) a=0 by omega,ej]
       ·rw[hz,beq_iff_eq]at zb;rw[show Al (fk k) b=0 by omega,dz]
      rw[h0,uR];exact⟨rfl,by first|rfl|trivial⟩
    ·rw[ZO k hb ib];simp only[bf,ak,bc,cond_true];show _=(Fq (fk k) ((if Al (fk k) a=0 then none else some (Ieee.Datum.infinity (sF (fk k) b ^^ sF (fk k) a))).map k.format.write):Int)/\_;cases hz:AM (fk k) a
     ·rw[if_neg (EO hz),cond_false];refine⟨?_,by first|rfl|trivial⟩;show _=((k.format.word _ k.format.infRung:Nat):Int)
      rw[lV,W5];cases sF (fk k) a<;>cases sF (fk k) b<;>rfl
     ·rw[hz,beq_iff_eq]at za;rw[if_pos (by omega),cond_true];exact⟨rfl,by first|rfl|trivial⟩
   ·rw[ZO k ha ia];cases ib:Ax (fk k) b
    ·rw[ZV k hb nb ib];simp only[az,ar,bg,cond_true];show _=(Fq (fk k) ((if Al (fk k) b=0 then none else some (Ieee.Datum.infinity (sF (fk k) a ^^ sF (fk k) b))).map k.format.write):Int)/\_;cases hz:AM (fk k) b
     ·rw[if_neg (EO hz),cond_false];refine⟨?_,by first|rfl|trivial⟩;show _=((k.format.word _ k.format.infRung:Nat):Int)
      rw[lV,W5]
     ·rw[hz,beq_iff_eq]at zb;rw[if_pos (by omega),cond_true];exact⟨rfl,by first|rfl|trivial⟩
    ·rw[ZO k hb ib];have z1:AM (fk k) b=false:=by
      cases hz:AM (fk k) b
      ·rfl
      ·exfalso;have h1:eF (fk k) b=AH (fk k)/\mF (fk k) b=0:=by unfold Ax at ib;simpa using ib
       have h2:eF (fk k) b=0/\mF (fk k) b=0:=by unfold AM at hz;simpa using hz
       have:=Wu hf;omega
     have z2:AM (fk k) a=false:=by
      cases hz:AM (fk k) a
      ·rfl
      ·exfalso;have h1:eF (fk k) a=AH (fk k)/\mF (fk k) a=0:=by unfold Ax at ia;simpa using ia
       have h2:eF (fk k) a=0/\mF (fk k) a=0:=by unfold AM at hz;simpa using hz
       have:=Wu hf;omega
     rw[z1,z2];simp only[ar,ak,ba,cond_false,cond_true];refine⟨?_,by first|rfl|trivial⟩;show _=((k.format.word (sF (fk k) a ^^ sF (fk k) b) k.format.infRung:Nat):Int)
     rw[lV,W5]
  ·rw[uP k hb nb];have this:∀d:Ieee.Datum,(d.product (Ieee.Datum.nan (sF (fk k) b) (mF (fk k) b))).map k.format.write=none:=fun d=>by cases d<;>rfl
   rw[this];exact⟨rfl,by first|rfl|trivial⟩
 ·rw[uP k ha na];exact⟨rfl,by first|rfl|trivial⟩
theorem aOZ(k:FloatKind){a:Nat}(h:Ax (fk k) a=true):AM (fk k) a=false:=by
 cases hz:AM (fk k) a
 ·rfl
 ·exfalso;have h1:eF (fk k) a=AH (fk k)/\mF (fk k) a=0:=by unfold Ax at h;simpa using h
  have h2:eF (fk k) a=0/\mF (fk k) a=0:=by unfold AM at hz;simpa using hz
  have:=Wu (FY k);omega
theorem bD0(k:FloatKind)(neg:Bool){m n:Nat}(hm0:m≠0)(hn0:n≠0)(hm:m<2^53)(hn:n<2^53)(e:Int):
  k.format.nearest neg (2*(m <<< (k.format.fractionBits+2+n.log2-m.log2)/n)+(m <<< (k.format.fractionBits+2+n.log2-m.log2)%n !=0).toNat) (e-((k.format.fractionBits+2+n.log2-m.log2:Nat):Int)-1)=(FW (fk k) 0 neg m n e).1:=by
 have hf:=FY k;have hP:=CV hf;have hPl:=E8 hf;have l1:=Nat.log2_self_le hm0;have l2:=aPd n;have l3:n.log2<53:=(Nat.log2_lt hn0).2 hn;rw[aDZ,jo];obtain⟨s,hs⟩:∃s,fP (fk k)-1+2+n.log2-m.log2=s:=⟨_,rfl⟩
 rw[hs];have hlow:2^fP (fk k)<=m*2^s/n:=by
  rw[go (by omega)];have h1:2^fP (fk k)*n<=2^fP (fk k)*2^(n.log2+1):=cd _ (Nat.le_of_lt l2);have h2:2^m.log2*2^s<=m*2^s:=aw _ l1;rw[←bi]at h1 h2;have h3:2^(fP (fk k)+(n.log2+1))<=2^(m.log2+s):=ai (by decide) (by omega);omega
 have hb:=Jc hlow;have hq0:m*2^s/n≠0:=by
  have:=af (fP (fk k));omega
 rw[←jB (m:=0) (neg:=neg) hf hm0 (show 0<n by omega) e (s:=s) (by omega) (fun _=>hb)];unfold Jx;by_cases hr:m*2^s%n=0
 ·rw[hr];rw[if_neg (by decide),show((0:Nat)!=0).toNat=0 from rfl,cu,aEO k neg (by omega)];have:=WU (f:=fk k) (m:=0) (neg:=neg) hf hq0 1 (e-(s:Int)-1);rw[ov,be,show e-(s:Int)-1+((1:Nat):Int)=e-s by omega]at this;rw[this]
 ·rw[decide_eq_true hr,if_pos rfl,bne_iff_ne.2 hr,show true.toNat=1 from rfl,aEO k neg (by omega)]
theorem aZy(k:FloatKind){a b:Nat}(ha:Ah (fk k) a=0)(hb:Ah (fk k) b=0):(Jg (fk k) 0 a b).1=(Fq (fk k) (Cv .quo k a b):Nat)/\(Jg (fk k) 0 a b).2.2.1=0:=by
 have hf:=FY k;unfold Jg;rw[if_neg (show ¬¬Fm (fk k)from fun h=>h hf),if_neg (by decide),if_neg (fun h=>h ha),if_neg (fun h=>h hb)];show(Wj (fk k) 0 a b).1=(Fq (fk k) (((k.format.read a).quotient (k.format.fractionBits+2) (k.format.read b)).map k.format.write):Nat)/\_;unfold Wj;have za:=W6 (fk k) a;have zb:=W6 (fk k) b;cases na:nan (fk k) a
 ·cases nb:nan (fk k) b
  ·rw[Pj na,Pj nb];simp only[ba,cond_false];cases ia:Ax (fk k) a
   ·rw[ZV k ha na ia];cases ib:Ax (fk k) b
    ·rw[ZV k hb nb ib];simp only[ak,bc,cond_false];show _=(Fq (fk k) ((if Al (fk k) b=0 then(if Al (fk k) a=0 then none else some (Ieee.Datum.infinity (sF (fk k) a ^^ sF (fk k) b)))else
      some (Ieee.Datum.number (sF (fk k) a ^^ sF (fk k) b) (2*(Al (fk k) a <<< (k.format.fractionBits+2+(Al (fk k) b).log2-(Al (fk k) a).log2)/Al (fk k) b)+(Al (fk k) a <<< (k.format.fractionBits+2+(Al (fk k) b).log2-(Al (fk k) a).log2)%Al (fk k) b !=0).toNat) (Ao (fk k) a-Ao (fk k) b-((k.format.fractionBits+2+(Al (fk k) b).log2-(Al (fk k) a).log2:Nat):Int)-1))).map k.format.write):Int)/\_
     rw[W5];cases hzb:AM (fk k) b
     ·rw[if_neg (EO hzb)];simp only[ar,cond_false];show _=((k.format.nearest _ _ _:Nat):Int)/\_;cases hza:AM (fk k) a
      ·rw[bD0 k _ (EO hza) (EO hzb) (HI hf a) (HI hf b)];exact⟨rfl,by first|rfl|trivial⟩
      ·rw[hza,beq_iff_eq]at za;rw[show Al (fk k) a=0 by omega,Nat.zero_shiftLeft,Nat.zero_div,Nat.zero_mod,dz,show((0:Nat)!=0).toNat=0 from rfl,cu,uR];exact⟨rfl,by first|rfl|trivial⟩
     ·rw[hzb,beq_iff_eq]at zb;rw[if_pos (by omega)];cases hza:AM (fk k) a
      ·rw[if_neg (EO hza)];simp only[ak,cond_false,cond_true];refine⟨?_,by first|rfl|trivial⟩;show _=((k.format.word _ k.format.infRung:Nat):Int)
       rw[lV]
      ·rw[hza,beq_iff_eq]at za;rw[if_pos (by omega)];exact⟨rfl,by first|rfl|trivial⟩
    ·rw[ZO k hb ib,aOZ k ib];simp only[bf,ar,ak,bg,ba,cond_false,av,cond_true];refine⟨?_,by first|rfl|trivial⟩;show _=((k.format.nearest (sF (fk k) a ^^ sF (fk k) b) 0 0:Nat):Int)
     rw[uR,W5]
   ·rw[ZO k ha ia];cases ib:Ax (fk k) b
    ·rw[ZV k hb nb ib,aOZ k ia];simp only[ar,ak,ba,cond_false,cond_true];refine⟨?_,by first|rfl|trivial⟩;show _=((k.format.word (sF (fk k) a ^^ sF (fk k) b) k.format.infRung:Nat):Int)
     rw[lV,W5]
    ·rw[ZO k hb ib];simp only[ax,av,cond_true];exact⟨rfl,by first|rfl|trivial⟩
  ·rw[uP k hb nb];have this:∀d:Ieee.Datum,(d.quotient (k.format.fractionBits+2) (Ieee.Datum.nan (sF (fk k) b) (mF (fk k) b))).map k.format.write=none:=fun d=>by cases d<;>rfl
   rw[this];exact⟨rfl,by first|rfl|trivial⟩
 ·rw[uP k ha na];exact⟨rfl,by first|rfl|trivial⟩
end VL
namespace VL
open Go Vx
theorem bDR{d e r:Ieee.Datum}(h:d.product e=some r):r.isNaN=false:=by
 unfold Ieee.Datum.product at h;split at h;all_goals first|(cases h;done)|(cases h;rfl)|(split at h<;>first|(cases h;done)|(cases h;rfl))
theorem bD2{g:Nat}{d e r:Ieee.Datum}(h:d.quotient g e=some r):r.isNaN=false:=by
 unfold Ieee.Datum.quotient at h;split at h;all_goals first|(cases h;done)|(cases h;rfl)|skip
 split at h
 ·split at h
  ·cases h
  ·cases h;rfl
 ·cases h;rfl
theorem bJD(k:FloatKind){op:BinOp}(hop:op=.add∨op=.sub∨op=.mul∨op=.quo)(a b:Nat):
  (bif Dl k (AK op k (some a) (some b)) (AK op k (some a) (some b))!=some .eq then Co (fk k)else(AK op k (some a) (some b)).getD 0)=Fq (fk k) (Cv op k a b) /\
  ((Dl k (AK op k (some a) (some b)) (AK op k (some a) (some b))!=some .eq)=false->(AK op k (some a) (some b)).isSome=true):=by
 have e:AK op k (some a) (some b)=Cv op k a b:=rfl;rw[e];have hnum:∀r,Cv op k a b=some r->Ah (fk k) r=0/\nan (fk k) r=false:=fun r h=>by
  have key:∀{o:Option Ieee.Datum},(∀d,o=some d->d.isNaN=false)->o.map k.format.write=some r->Ah (fk k) r=0/\nan (fk k) r=false:=fun {o} ho h=>by
   cases o with
   |none=>cases h
   |some d=>cases h;exact bJQ k (ho d rfl)
  rcases hop with rfl|rfl|rfl|rfl
  ·exact key (fun d hd=>aRB hd) h
  ·exact key (fun d hd=>aRB hd) h
  ·exact key (fun d hd=>bDR hd) h
  ·exact key (fun d hd=>bD2 hd) h
 cases h:Cv op k a b with
 |none=>
  exact⟨rfl,fun h=>by cases h⟩
 |some r=>
  obtain⟨h1,h2⟩:=hnum r h;have ho:Dl k (some r) (some r)=some .eq:=by
   show k.format.order r r=_;rw[bCL k h1 h1,h2,ba,if_neg (by decide)];congr 1;show compareOfLessAndEq _ _=_;unfold compareOfLessAndEq;rw[if_neg (by omega),if_pos rfl]
  rw[ho];exact⟨rfl,fun _=>rfl⟩
end VL
namespace VL
open Go Vx
theorem i5{a:Nat}(h:a<2^64):Ah 3 a=0:=aDB (f:=3) (by decide) h
def nV(o:Option Nat)(n:Nat):Prop:=Ah 3 n=0/\(match o with|some b=>n=b|none=>(FloatKind.f64.format.read n).isNaN=true)
theorem Db{a:Nat}(h:a<2^64):nV (some a) a:=⟨i5 h,rfl⟩
def Fe:Int->BinOp
 |1=>.add
 |2=>.sub
 |3=>.mul
 |_=>.quo
theorem bI9{op:Int}(h:GT op){a b:Nat}(ha:Ah 3 a=0)(hb:Ah 3 b=0):Aq 3 0 op a b=Fq 3 (Cv (Fe op) .f64 a b):=by
 have key:(DX 0 op 3 a b 0).1=((Fq 3 (Cv (Fe op) .f64 a b):Nat):Int):=by
  rcases h with rfl|rfl|rfl|rfl
  ·exact(aMH .f64 ha hb).1
  ·exact(bJi .f64 ha hb).1
  ·exact(bBO .f64 ha hb).1
  ·exact(aZy .f64 ha hb).1
 unfold Aq;rw[key];rfl
theorem Eh{op:Int}(h:GT op){o1 o2:Option Nat}{a b:Nat}(h1:nV o1 a)(h2:nV o2 b):
  nV (AK (Fe op) .f64 o1 o2) (Aq 3 0 op a b)/\F9 (AK (Fe op) .f64 o1 o2)=((Aq 3 0 op a b:Nat):Int):=by
 have e:AK (Fe op) .f64 o1 o2=Cv (Fe op) .f64 a b:=OV h1.2 h2.2;have hs:=bI9 h h1.1 h2.1;refine⟨⟨(Vk (f:=3) (m:=0) (by decide) (by decide) h h1.1 h2.1).1,?_⟩,?_⟩
 ·rw[e,hs];cases hr:Cv (Fe op) .f64 a b with
  |some r=>rfl
  |none=>show(FloatKind.f64.format.read (Fq 3 none)).isNaN=true;kernel_rfl
 ·have ho:Fe op=.add∨Fe op=.sub∨Fe op=.mul∨Fe op=.quo:=by
   rcases h with rfl|rfl|rfl|rfl
   ·exact .inl rfl
   ·exact .inr (.inl rfl)
   ·exact .inr (.inr (.inl rfl))
   ·exact .inr (.inr (.inr rfl))
  obtain⟨t1,_⟩:=bJD .f64 ho a b;have t2:(bif Dl .f64 (Cv (Fe op) .f64 a b) (Cv (Fe op) .f64 a b)!=some .eq then Co 3 else(Cv (Fe op) .f64 a b).getD 0)=Fq 3 (Cv (Fe op) .f64 a b):=t1;rw[e,hs,←t2];unfold F9;generalize Cv (Fe op) .f64 a b=r;rw[aM3];by_cases hq:Dl .f64 r r=some .eq
  ·rw[if_pos hq,decide_eq_true hq];rfl
  ·rw[if_neg hq,decide_eq_false hq];rfl
theorem F1:GT 1:=.inl rfl
theorem F2:GT 2:=.inr (.inl rfl)
theorem F3:GT 3:=.inr (.inr (.inl rfl))
theorem F4:GT 4:=.inr (.inr (.inr rfl))
def LF(x:BD):Prop:=x.1<2^64/\x.2<2^64
theorem bBG{x y:BD}(hx:LF x)(hy:LF y):HD (sP (BQ (cI x)) (BQ (cI y)))=cI (WZ 3 0 x y):=by
 have p1:=(Eh F1 (Db hx.1) (Db hy.1)).2;have p2:=(Eh F1 (Db hx.2) (Db hy.2)).2;show(F9 (AK .add .f64 (some x.1) (some y.1)),F9 (AK .add .f64 (some x.2) (some y.2)),())=_;have q1:F9 (AK .add .f64 (some x.1) (some y.1))=_:=p1;have q2:F9 (AK .add .f64 (some x.2) (some y.2))=_:=p2;rw[q1,q2];rfl
theorem bBE{x y:BD}(hx:LF x)(hy:LF y):HD (uO (BQ (cI x)) (BQ (cI y)))=cI (Vc 3 0 x y):=by
 have r1:=(Eh F3 (Db hx.1) (Db hy.1)).1;have r2:=(Eh F3 (Db hx.2) (Db hy.2)).1;have r3:=(Eh F3 (Db hx.1) (Db hy.2)).1;have r4:=(Eh F3 (Db hx.2) (Db hy.1)).1;have p1:F9 (AK .sub .f64 (AK .mul .f64 (some x.1) (some y.1)) (AK .mul .f64 (some x.2) (some y.2)))=_:=(Eh F2 r1 r2).2;have p2:F9 (AK .add .f64 (AK .mul .f64 (some x.1) (some y.2)) (AK .mul .f64 (some x.2) (some y.1)))=_:=(Eh F1 r3 r4).2;show(F9 (AK .sub .f64 (AK .mul .f64 (some x.1) (some y.1)) (AK .mul .f64 (some x.2) (some y.2))),F9 (AK .add .f64 (AK .mul .f64 (some x.1) (some y.2)) (AK .mul .f64 (some x.2) (some y.1))),())=_;rw[p1,p2];rfl
theorem bBF{x y:BD}(hx:LF x)(hy:LF y):HD (Pd (BQ (cI x)) (BQ (cI y)))=cI (Ve 3 0 x y):=by
 have t:=(Eh F1 (Eh F3 (Db hy.1) (Db hy.1)).1 (Eh F3 (Db hy.2) (Db hy.2)).1).1;have g:=(Eh F1 (Eh F3 (Db hx.1) (Db hy.1)).1 (Eh F3 (Db hx.2) (Db hy.2)).1).1;have h:=(Eh F2 (Eh F3 (Db hx.2) (Db hy.1)).1 (Eh F3 (Db hx.1) (Db hy.2)).1).1;have p1:=(Eh F4 g t).2;have p2:=(Eh F4 h t).2;have e1:(HD (Pd (BQ (cI x)) (BQ (cI y)))).1=((Aq 3 0 4 (aFp 3 0 x y) (aA 3 0 y):Nat):Int):=p1;have e2:(HD (Pd (BQ (cI x)) (BQ (cI y)))).2.1=((Aq 3 0 4 (aFq 3 0 x y) (aA 3 0 y):Nat):Int):=p2;show((HD (Pd (BQ (cI x)) (BQ (cI y)))).1,(HD (Pd (BQ (cI x)) (BQ (cI y)))).2.1,())=_;rw[e1,e2];rfl
theorem aY5(w:BD->BD->BD)(k:BD->BD->List (Int×Nat×Nat)){x y:BD}(hx:LF x)(hy:LF y):EB w k 3 0 x y=(cI (w x y),O9 3 0 0 (k x y),0,()):=by
 unfold EB;have hF:BT 3 [x,y]=true:=by
  simp only[BT,mm,qu,bf,i5 hx.1,i5 hx.2,i5 hy.1,i5 hy.2];rfl
 rw[if_neg (show ¬¬Fm 3 by decide),if_neg (by decide),if_neg (fun h=>h hF)]
end VL
namespace VL
open Go Vx
theorem aBs(x:XI):fJ (x,x,())=some (true,()):=by
 show zN x x=_;unfold zN;rw[beq_self_eq_true,beq_self_eq_true];rfl
theorem T503_true{x y:BD}(hx:LF x)(hy:LF y):T503 (cI x,cI y,())=some (true,()):=by
 show zT Ua.pre Ua.F Uc.pre Uc.F GD.pre GD.F GE.pre GE.F Up.pre Up.F Ur.pre Ur.F Us.pre Us.F Ue.pre Ue.F Ui.pre Ui.F Uj.pre Uj.F Un.pre Un.F Uo.pre Uo.F (cI x) (cI y)=_;have p0:=aYR;have c1:=aWW 3 0 (x:=x) (y:=y) hx hy;have c2:=aIT 3 0 (x:=x) (y:=y) hx hy;have c3:=aIV 3 0 (x:=x) (y:=y) hx hy;have d1:=aWY 3 0 (x:=x) (y:=y) hx hy;have d2:=aW2 3 0 (x:=x) (y:=y) hx hy;have d3:=aW5 3 0 (x:=x) (y:=y) hx hy;rw[aY5 _ _ hx hy]at c1 c2 c3 d1 d2 d3;have q1:=aW6 (cI x) (cI y);have q2:=aW7 (cI x) (cI y);have q3:=aW8 (cI x) (cI y);rw[bBG hx hy]at q1;rw[bBE hx hy]at q2;rw[bBF hx hy]at q3;have s1:=aBs (cI (WZ 3 0 x y));have s2:=aBs (cI (Vc 3 0 x y));have s3:=aBs (cI (Ve 3 0 x y));have n1:XM (cI x,())=some (cI x,()):=rfl;have n2:XM (cI y,())=some (cI y,()):=rfl;unfold zT;unfold cI at *
 dsimp only at *
 simp only[bDy p0,bAH p0,bDA c1,bAJ c1,aQO c2,aOC c2,aQQ c3,aOE c3,bDC d1,bAL d1,bDG d2,bAP d2,bDJ d3,bAS d3,bDK q1,bAT q1,bDM q2,bAV q2,bDN q3,bAW q3,
  aFf s1,aEh s1,aFf s2,aEh s2,aFf s3,aEh s3,aQS n1,aOG n1,aQS n2,aOG n2,cond_true,cond_false,bb,au,bne_self_eq_false,beq_self_eq_true,ba,ax,bd,av]
end VL
namespace Vx
open Go Go.RowKit Go.ChangeShapes Go.WideShapes
def wfD:(τ:Shape)->Ab τ->Prop
 |.int k,n=>k.min<=n/\n<=k.max
 |.flt _,_=>True
 |.slice e,xs=>xs.length<B0/\∀x∈xs,wfD e x
 |.pair a b,x=>wfD a x.1/\wfD b x.2
 |.bool,_=>True
 |.str,_=>True
 |.fn,_=>True
 |.unit,_=>True
 |.box a,x=>wfD a x
 |.ifc,_=>True
 |.pfn,_=>True
 |.cx _,_=>True
theorem Bf.wfD{w:World}{S:Nat->Prop}:∀{τ:Shape} {x:Ab τ} {cs:List Value},Bf w S τ x cs->wfD τ x
 |.int _,_,_,h=>h.2
 |.flt _,_,_,_=>trivial
 |.bool,_,_,_=>trivial
 |.str,_,_,_=>trivial
 |.fn,_,_,_=>trivial
 |.unit,_,_,_=>trivial
 |.box _,_,_,⟨_,_,_,_,_,_,_,_,_,h,_⟩=>h.wfD
 |.ifc,_,_,_=>trivial
 |.pfn,_,_,_=>trivial
 |.cx _,_,_,_=>trivial
 |.slice _,xs,_,⟨A,c,_,h1,h2,h3⟩=>by
  refine⟨bl h1 h2,fun x hx=>?_⟩
  obtain⟨r,o,vs,T,fz,_,_,_,h⟩:=h3 (List.ne_nil_of_mem hx)
  obtain⟨i,hi⟩:=List.getElem?_of_mem hx
  obtain⟨ds,hd,_⟩:=h i x hi
  exact hd.wfD
 |.pair _ _,_,_,⟨c1,c2,_,h1,h2⟩=>⟨h1.wfD,h2.wfD⟩
def wfS:(sg:Aa)->DenS sg->Prop
 | [],_=>True
 |(_,τ)::r,x=>wfD τ x.1/\wfS r x.2
def Gb{H:Type}:(τ:Shape)->(DataW H->Option (Ab τ))×(List (DataW H)->Option (Ab τ))
 |.int k=>(fun d=>match d with|.lit (.int k' n)=>if k'=k then some n else none|_=>none,fun _=>none)
 |.bool=>(fun d=>match d with|.lit (.bool b)=>some b|_=>none,fun _=>none)
 |.unit=>(fun d=>match d with|.agg []=>some ()|_=>none,fun l=>match l with | []=>some ()|_=>none)
 |.pair a b=>
  let f:=fun l=>match l with
   |d::r=>(match(Gb a).1 d,(Gb b).2 r with|some x,some y=>some (x,y)|_,_=>none)
   | []=>none
  (fun d=>match d with|.agg l=>f l|_=>none,f)
 |.flt _=>(fun _=>none,fun _=>none)
 |.str=>(fun _=>none,fun _=>none)
 |.fn=>(fun _=>none,fun _=>none)
 |.box _=>(fun _=>none,fun _=>none)
 |.ifc=>(fun _=>none,fun _=>none)
 |.pfn=>(fun _=>none,fun _=>none)
 |.cx _=>(fun _=>none,fun _=>none)
 |.slice _=>(fun _=>none,fun _=>none)
def Wp(P:Program)(g:TypeId->Shape->Bool):List Field->Nat->Shape->Bool
 | [],_,.unit=>true
 |f::fs,o,.pair a b=>(f.offset==o)&&(P.cellsOf f.type==a.width)&&g f.type a&&Wp P g fs (o+a.width) b
 |_,_,_=>false
def C7(P:Program):Nat->TypeId->Shape->Bool
 |0,_,_=>false
 |n+1,t,τ=>match P.underlying t with
  |some (.int k)=>(match τ with|.int k'=>decide (k=k')|_=>false)
  |some .bool=>(match τ with|.bool=>true|_=>false)
  |some (.slice e)=>(match τ with|.slice σ=>(P.cellsOf e==σ.width)&&decide (0<σ.width)&&C7 P n e σ|_=>false)
  |some (.struct fs)=>(P.cellsOf t==τ.width)&&Wp P (C7 P n) fs.toList 0 τ
  |_=>false
theorem aNk{A:Type}{Q:Nat->A->Prop}:∀(n:Nat),(∀i,i<n->∃x,Q i x)->∃xs:List A,xs.length=n/\∀i x,xs[i]? = some x->Q i x
 |0,_=>⟨[],rfl,fun i x h=>by simp at h⟩
 |n+1,h=>by
  obtain⟨xs,h1,h2⟩:=aNk n fun i hi=>h i (by omega)
  obtain⟨x,hx⟩:=h n (by omega)
  refine⟨xs++[x],by simp[h1],fun i y hy=>?_⟩
  rcases ay i n with hi|hi
  ·rw[co (by omega)]at hy
   exact h2 i y hy
  ·rw[List.getElem?_append_right (by omega)]at hy
   have:i=n:=by
    have:=(bj.1 hy).1
    simp at this;omega
   subst this
   simp[h1]at hy
   exact hy▸hx
theorem bJK{k:IntKind}{n:Int}(h:(Lit.int k n).wf=true):k.min<=n/\n<=k.max:=by
 simpa[Lit.wf]using h
section
variable {H:Type}{enc:TypeId×Value->H}{P:Program}{W:World}{spare:Nat->Bool}{held:Bool}
theorem aN1{n:Nat}{m:Nat}{cs:List Value}(ih:∀(t:TypeId) (τ:Shape) (cs:List Value) (d:DataW H) (p:List MemPlace),C7 P n t τ=true->DataW.trod enc P W 0 spare held m t cs=some (d,p)->∃x:Ab τ,Bf W (fun q=>q<W.heap.size) τ x cs/\∀y,(Gb τ).1 d=some y->x=y):
  ∀(l:List Field) (o:Nat) (τ:Shape) (xs:List (DataW H×List MemPlace)),Wp P (C7 P n) l o τ=true->xs.length=l.length->cs.length=o+τ.width ->
   (∀(i:Nat) (f:Field),l[i]? = some f->DataW.trod enc P W 0 spare held m f.type ((cs.drop f.offset).take (P.cellsOf f.type))=xs[i]?) ->
   ∃x:Ab τ,Bf W (fun q=>q<W.heap.size) τ x (cs.drop o)/\∀y,(Gb τ).2 (xs.map (·.1))=some y->x=y
 | [],o,τ,xs,hf,hx,hl,_=>by
  cases τ<;>simp[Wp]at hf
  refine⟨(),?_,fun _ _=>rfl⟩
  show cs.drop o=[]
  apply List.drop_eq_nil_of_le
  simp[Shape.width]at hl
  omega
 |f::fs,o,τ,xs,hf,hx,hl,h=>by
  cases τ with
  |pair a b=>
   simp only[Wp,ah,beq_iff_eq]at hf
   obtain⟨⟨⟨ho,hc⟩,hg⟩,hr⟩:=hf
   cases xs with
   |nil=>simp at hx
   |cons x0 xs=>
    have h0:=h 0 f rfl
    rw[ho,hc]at h0
    simp only[List.getElem?_cons_zero]at h0
    obtain⟨xa,ha,hua⟩:=ih f.type a _ x0.1 x0.2 hg h0
    simp only[Shape.width]at hl
    obtain⟨xb,hb,hub⟩:=aN1 ih fs (o+a.width) b xs hr (by simpa using hx) (by rw[hl];omega) fun i g hi=>by
     have:=h (i+1) g (by simpa using hi)
     simpa using this
    refine⟨(xa,xb),⟨(cs.drop o).take a.width,cs.drop (o+a.width),?_,ha,hb⟩,fun y hy=>?_⟩
    ·rw[←ql,kw]
    ·simp only[Gb,List.map_cons]at hy
     split at hy
     ·rename_i e1 e2
      have:=hua _ e1;have:=hub _ e2
      subst_vars
      exact ks hy
     ·cases hy
  |_=>simp[Wp]at hf
theorem tU:∀(n:Nat) (m:Nat) (t:TypeId) (τ:Shape) (cs:List Value) (d:DataW H) (p:List MemPlace),C7 P n t τ=true->DataW.trod enc P W 0 spare held m t cs=some (d,p) ->
  ∃x:Ab τ,Bf W (fun q=>q<W.heap.size) τ x cs/\∀y,(Gb τ).1 d=some y->x=y
 |0,_,_,_,_,_,_,h,_=>by simp[C7]at h
 |n+1,m,t,τ,cs,d,p,h,ht=>by
  unfold C7 at h
  split at h
  ·rename_i k hk
   cases τ with
   |int k' =>
    simp only[decide_eq_true_eq]at h
    subst h
    obtain⟨v,hv,hx,hw⟩:=DataW.trod_int hk ht
    simp only[cw]at hx
    refine⟨v,⟨hv,bJK hw⟩,fun y hy=>?_⟩
    rw[hx.1]at hy
    simp only[Gb,if_true]at hy
    exact ks hy
   |_=>cases h
  ·rename_i hk
   cases τ with
   |bool=>
    obtain⟨v,hv,hx⟩:=DataW.trod_bool hk ht
    simp only[cw]at hx
    refine⟨v,hv,fun y hy=>?_⟩
    rw[hx.1]at hy
    simp only[Gb]at hy
    exact ks hy
   |_=>cases h
  ·rename_i e hk
   cases τ with
   |slice σ=>
    simp only[ah,beq_iff_eq,decide_eq_true_eq]at h
    obtain⟨⟨hc,hpos⟩,hf⟩:=h
    rcases DataW.trod_slice hk ht with⟨hcs,hx⟩|⟨a,len,cap,elems,rest,m',rfl,hcs,hx,hb,hlc,hcap,hlen,hel,_⟩
    ·exact⟨[],⟨none,0,hcs,bu _,by decide,fun h=>absurd rfl h⟩,fun y hy=>by simp[Gb]at hy⟩
    ·have each:∀i,i<len->∃x:Ab σ,∃ds,W.cells? 0 (a.add (i*P.cellsOf e)) (P.cellsOf e)=some ds/\Bf W (fun q=>q<W.heap.size) σ x ds:=fun i hi=>by
      have:=hel i hi
      rw[bq (by omega),Option.bind_eq_some_iff]at this
      obtain⟨ds,h1,h2⟩:=this
      obtain⟨x,hx,_⟩:=tU n m' e σ ds (elems[i]'(by omega)).1 (elems[i]'(by omega)).2 hf h2
      exact⟨x,ds,h1,hx⟩
     obtain⟨xs,hxl,hxs⟩:=aNk len each
     refine⟨xs,⟨some a,cap,by rw[hxl];exact hcs,by omega,by unfold B0;unfold maxLen at hcap;omega,fun hne=>?_⟩,fun y hy=>by simp[Gb]at hy⟩
     have h0:0<xs.length:=List.length_pos_iff.2 hne
     obtain⟨ds0,hd0,_⟩:=hxs 0 xs[0] (bq h0)
     obtain⟨_,hl0,hc0⟩:=pp hd0
     have hz:a.add (0*P.cellsOf e)=a:=by simp[Addr.add]
     have hz':a.add 0=a:=by simp[Addr.add]
     rw[hz]at hc0
     have hc00:=hc0 0 (by omega)
     rw[hz',bq (by omega)]at hc00
     unfold qc at hc00
     split at hc00
     ·rename_i c T fz hheap
      split at hc00
      ·cases hc00
      ·rename_i hspot
       have hs:a.spot=none:=by simpa using hspot
       have hadd:∀q,a.add q=⟨a.block,a.off+q,none⟩:=fun q=>by
        unfold Addr.add
        split
        ·subst_vars;cases a;simp at hs;simp[hs]
        ·rfl
       have ha:a=⟨a.block,a.off,none⟩:=by cases a;simp at hs;simp[hs]
       refine⟨a.block,a.off,c,T,fz,by rw[←ha],?_,hheap,fun i x hi=>?_⟩
       ·exact(de.1 hheap).1
       ·obtain⟨ds,hd,hr⟩:=hxs i x hi
        refine⟨ds,hr,fun j v hj=>?_⟩
        obtain⟨_,hl,hcj⟩:=pp hd
        have hjl:j<P.cellsOf e:=by rw[←hl];exact(bj.1 hj).1
        have:=hcj j hjl
        rw[hadd,hj]at this
        have hadd2:(⟨a.block,a.off+i*P.cellsOf e,none⟩:Addr).add j=⟨a.block,a.off+i*P.cellsOf e+j,none⟩:=by
         unfold Addr.add
         split
         ·subst_vars;rfl
         ·rfl
        rw[hadd2]at this
        unfold qc at this
        simp only[hheap]at this
        rw[hc]at this
        exact this
     ·cases hc00
   |_=>cases h
  ·rename_i fs hk
   simp only[ah,beq_iff_eq]at h
   obtain⟨hc,hf⟩:=h
   obtain⟨xs,m',rfl,hx,hl,hxl,hel⟩:=DataW.trod_struct hk ht
   simp only[cw]at hx
   obtain⟨x,h1,h2⟩:=aN1 (fun t τ cs d p=>tU n m' t τ cs d p) fs.toList 0 τ xs hf (by simpa using hxl) (by rw[hl,hc];omega) fun i f hi=>hel i f (by simpa using hi)
   refine⟨x,by simpa using h1,fun y hy=>h2 y ?_⟩
   rw[hx.1]at hy
   cases τ with
   |pair a b=>exact hy
   |unit=>
    simp only[Gb]at hy⊢
    split at hy
    ·rename_i e;simp only[DataW.agg.injEq]at e;rw[e]
    ·cases hy
   |_=>simp[Gb]at hy
  ·cases h
end
end Vx
namespace Vx
open Go Go.RowKit Go.ChangeShapes Go.WideShapes
def Wz(P:Program)(t:TypeId):Bool:=match P.underlying t with
 |some (.struct _)=>true
 |_=>false
def Yw(P:Program)(n:Nat):List TypeId->Aa->Bool
 | [],[]=>true
 |t::ts,(a,τ)::r=>C7 P n t τ&&(a==Wz P t)&&Yw P n ts r
 |_,_=>false
section
variable {H:Type}{enc:TypeId×Value->H}{P:Program}{W:World}
theorem aY9{n:Nat}{t:TypeId}{τ:Shape}{r:Reach}{b0:Nat}{v:Value}(hf:C7 P n t τ=true)(hs:Wz P t=false)(hv:oh P W r b0 t v):v.cells.toList=[v]:=by
 cases n with
 |zero=>simp[C7]at hf
 |succ n=>
  unfold C7 at hf;split at hf
  ·rename_i k hk;obtain⟨_,rfl⟩:=okWide_int hk hv;rfl
  ·rename_i hk;obtain⟨_,rfl⟩:=okWide_bool hk hv;rfl
  ·rename_i e hk;obtain⟨_,_,_,rfl⟩:=okWide_slice hk hv;rfl
  ·rename_i fs hk;simp[Wz,hk]at hs
  ·cases hf
theorem aZJ{S:Nat->Prop}{a:Bool}{τ:Shape}{x:Ab τ}{y:Value}(ho:LN a τ=false)(h:D4 W S a τ x y):Gd W S a τ x y []:=by
 cases τ with
 |slice e=>
  cases a with
  |true=>cases ho
  |false=>exact⟨rfl,h⟩
 |_=>exact⟨rfl,h⟩
theorem aMS{n:Nat}{sp:Nat->Bool}{held:Bool}{b0:Nat}:∀(ts:List TypeId) (I:Aa) (vs:List Value) (ds:List (DataW H)) (ps:List MemPlace),Yw P n ts I=true ->
  (∀(j:Nat) (t:TypeId) (v:Value),ts[j]? = some t->vs[j]? = some v->oh P W .any b0 t v)->DataW.TrodAll enc P W 0 sp held ts vs ds ps->∃x:DenS I,Cz W (fun q=>q<W.heap.size) I x vs []/\wfS I x/\ds.length=ts.length
 | [],[],vs,ds,ps,_,_,h=>by
  cases vs<;>cases ds<;>simp[DataW.TrodAll]at h
  exact⟨(),⟨rfl,rfl⟩,trivial,rfl⟩
 | [],_::_,_,_,_,hf,_,_=>by simp[Yw]at hf
 |_::_,[],_,_,_,hf,_,_=>by simp[Yw]at hf
 |t::ts,(a,τ)::I,vs,ds,ps,hf,hv,h=>by
  cases vs with
  |nil=>simp[DataW.TrodAll]at h
  |cons v vs=>
   cases ds with
   |nil=>simp[DataW.TrodAll]at h
   |cons d ds=>
    obtain⟨p,q,⟨m,hp⟩,hq,_⟩:=h
    simp only[Yw,ah,beq_iff_eq]at hf
    obtain⟨⟨h1,h2⟩,h3⟩:=hf
    obtain⟨x,hx,hw,hl⟩:=aMS ts I vs ds q h3 (fun j t v ht hv'=>hv (j+1) t v (by simpa using ht) (by simpa using hv')) hq
    obtain⟨y,hy,_⟩:=tU n m t τ _ d p h1 hp
    have hok:=hv 0 t v rfl rfl
    refine⟨(y,x),⟨v,vs,[],[],rfl,rfl,aZJ ?_ ?_,hx⟩,⟨hy.wfD,hw⟩,by simp[hl]⟩
    ·cases τ with
     |slice σ=>
      show a=false
      rw[h2]
      cases n with
      |zero=>simp[C7]at h1
      |succ n=>
       unfold C7 at h1
       unfold Wz
       split at h1<;>rename_i hk<;>first|(rw[hk];done)|(simp only[hk];done)|(simp[Wp]at h1;done)|skip
     |_=>rfl
    cases a with
    |true=>
     have hs:Wz P t=true:=h2.symm
     unfold Wz at hs
     split at hs
     ·rename_i fs hk
      unfold oh at hok
      rw[hk]at hok
      obtain⟨cs,rfl,_⟩:=hok
      exact⟨cs.toList,by simp,hy⟩
     ·cases hs
    |false=>
     have hs:Wz P t=false:=h2.symm
     rw[aY9 h1 hs hok]at hy
     exact hy
theorem aTl(hl:laidOutB P=true){W':World}(hb:Below W.heap.size W W'):∀(ts:List TypeId) (vs:List Value) (ds:List (DataW H)) (ps:List MemPlace),(ts.all fun t=>P.readableRec t&&decide (t<P.types.size))=true ->
  DataW.TrodAll enc P W 0 (fun _=>true) true ts vs ds ps->(∀x∈ps,x.block<W.heap.size)->DataW.TrodAll enc P W' 0 (fun b=>decide (b<W.heap.size)) true ts vs ds ps
 | [],vs,ds,ps,_,h,_=>by
  cases vs<;>cases ds<;>simp[DataW.TrodAll]at h⊢
  exact h
 |t::ts,vs,ds,ps,hr,h,hlt=>by
  cases vs with
  |nil=>simp[DataW.TrodAll]at h
  |cons v vs=>
   cases ds with
   |nil=>simp[DataW.TrodAll]at h
   |cons d ds=>
    obtain⟨p,q,hp,hq,rfl⟩:=h
    simp only[mm,ah,decide_eq_true_eq]at hr
    exact⟨p,q,Below.trod hl hr.1.1 hr.1.2 hp hb (fun x hx=>hlt x (cy.2 (.inl hx))),
     aTl hl hb ts vs ds q hr.2 hq (fun x hx=>hlt x (cy.2 (.inr hx))),rfl⟩
theorem glob_of{n:String}{g:Nat}{t e:TypeId}{m k:Nat}{τ:Shape}{ds:List (DataW Unit)}{xs:List (Ab τ)}{r:List (String×DataW Unit)}{ps:List MemPlace}
  (hL:DataW.LaidVars P W ((n,.agg ds)::r) ps) (hg:P.globalNamed n=some g) (ht:(P.globals[g]?).map (·.type)=some t) (hu:P.underlying t=some (.array m e)) (hc:P.cellsOf e=τ.width) (hf:C7 P k e τ=true)
  (hx:ds.map (Gb τ).1=xs.map some) :
  (g<W.heap.size/\∃vs T fz,W.heap[g]? = some (.cells vs T fz)/\Rows W (fun q=>q<W.heap.size) τ vs 0 xs)/\∃ps',DataW.LaidVars P W r ps':=by
 obtain⟨g',t',cs,fuel,p,q,h1,h2,h3,h4,h5,_⟩:=hL;rw[hg]at h1;cases h1;rw[ht]at h2;cases h2;refine⟨?_,q,h5⟩;unfold World.var? at h3;rw[hg]at h3;simp only[Option.bind_some]at h3;split at h3
 ·rename_i c T fz hh;cases h3;refine⟨(de.1 hh).1,cs,T,fz,hh,?_⟩;obtain⟨ys,m',rfl,hy,hl,hyl,hel⟩:=DataW.trod_array hu h4;simp only[cw,DataW.agg.injEq]at hy;intro i x hi;have hxl:xs.length=m:=by
   have:=congrArg List.length hx;simp[hy.1,hyl]at this;omega
  have him:i<m:=by rw[←hxl];exact(bj.1 hi).1
  have he:=hel i him;have hyi:ys[i]? = some (ys[i]'(by omega)):=bq (by omega);rw[hyi,hc]at he;obtain⟨x',h6,h7⟩:=tU k m' e τ _ _ _ hf he;have hd:(Gb τ).1 (ys[i]'(by omega)).1=some x:=by
   have:=congrArg (·[i]?) hx;simp only[List.getElem?_map,hy.1,hyi,hi,Option.map_some]at this;exact ks this
  have:=h7 x hd;subst this;refine⟨_,h6,fun j v hj=>?_⟩;rw[List.getElem?_take]at hj;split at hj
  ·rw[List.getElem?_drop]at hj;simpa using hj
  ·cases hj
 ·cases h3
theorem bHP {G : List (Nat × Sigma fun τ => List (Ab τ))} {f : FuncId} {I : Aa} {T : DenS I -> Option (DenS [(false, .bool)])} {d : DenS [(false, .bool)]} (hS : Sound P G f (Aj I [(false, .bool)] T d)) {x : DenS I} (hT : T x = some (true, ())) (hcal : ∃ fn, P.funcs[f]? = some fn /\ fn.body.isNone = false /\ (fn.name == "runtime.NumGoroutine") = false) {W : World} {args : Array Value}
  (hG:GlobsOk G W fun q=>q<W.heap.size) (ha:Cz W (fun q=>q<W.heap.size) I x args.toList []):Calls P f args W fun e W'=>e=.returned (.bool true)/\Below W.heap.size W W':=by
 have:=hS.calls x (by show(T x).isSome=true;rw[hT];rfl) W (fun q=>q<W.heap.size) args.toList [] (fun q h=>h) hG ha List.nodup_nil (fun r h=>by simp at h)
 rw[Array.toArray_toList]at this
 have this:=this.resolve_right (fun⟨v,hv,_⟩=>by rw[vS hcal]at hv;cases hv)
 refine this.2.mono fun e W' ⟨zs,rs',he,hb,_,_,hz⟩=>⟨?_,⟨hb.os,hb.tape,hb.output,hb.size,fun k hk=>hb.block k hk (fun h=>by simp at h)⟩⟩
 obtain⟨y,ys,r1,r2,rfl,_,⟨_,h1⟩,rfl,_⟩:=hz
 have h2:[y]=[Value.bool ((T x).getD d).1]:=h1
 rw[hT]at h2
 cases h2
 exact he
theorem law_post{G:List (Nat×Sigma fun τ=>List (Ab τ))}{f:FuncId}{fn:Func}{I:Aa}{T:DenS I->Option (DenS [(false,.bool)])}{d:DenS [(false,.bool)]}{s:ChangeSpec}{n:Nat}{tb:TypeId}
  (hS : Sound P G f (Aj I [(false, .bool)] T d)) (hT : ∀ x, wfS I x -> T x = some (true, ())) (hcal : ∃ fn, P.funcs[f]? = some fn /\ fn.body.isNone = false /\ (fn.name == "runtime.NumGoroutine") = false) (hlay : laidOutB P = true) (hfit : Yw P n fn.params.toList I = true)
  (hread:(fn.params.toList.all fun t=>P.readableRec t&&decide (t<P.types.size))=true) (hres:fn.resultTypes=#[tb]) (hbool:P.underlying tb=some .bool) (hvars:s.vars=[])
  (hspec:∀ds:List (DataW H),ds.length=fn.params.toList.length->s.fn H ds={results:=[.lit (.bool true)],args:=ds})
  {W:World} {base:Nat} {args:Array Value} {ds gs:List (DataW H)} {before:List MemPlace}
  (hval:∀(j:Nat) (t:TypeId) (v:Value),fn.params[j]? = some t->args[j]? = some v->oh P W .any base t v)
  (hW:DataW.Whole enc P fn.params.toList s.vars false W args.toList ds gs before) (hG:GlobsOk G W fun q=>q<W.heap.size) :
  Calls P f args W fun e W'=>∃v,e=.returned v/\ChangeSpec.post enc P fn s false true false false W args v W':=by
 have hW':=hW
 obtain⟨p,q,hA,hV,rfl,_,_⟩:=hW
 rw[hvars]at hV
 obtain⟨rfl,rfl⟩:=trodVars_none hV
 obtain⟨x,hx,hw,hlen⟩:=aMS (b0:=base) fn.params.toList I args.toList ds p hfit (fun j t v ht hv=>hval j t v (by simpa using ht) (by simpa using hv)) hA
 refine(bHP hS (hT x hw) hcal hG hx).mono fun e W' ⟨he,hb⟩=>⟨.bool true,he,ds,[],p++[],[],p,[],hW',?_,?_,?_,hb.frame _,fun h=>by cases h⟩
 ·rw[dl,hspec ds hlen,hres]
  exact trodAll_mk1 (shut_bool hbool true)
 ·rw[dl,hspec ds hlen]
  exact aTl hlay hb _ _ _ _ hread hA fun y hy=>by simpa using hW'.lt y (by simpa using hy)
 ·rw[dl,hspec ds hlen,hvars]
  rfl
end
theorem globs_nil{W:World}{S:Nat->Prop}:GlobsOk [] W S:=fun _ _ _ h=>by simp[OT]at h
theorem globs_cons{W:World}{S:Nat->Prop}{g:Nat}{τ:Shape}{xs:List (Ab τ)}{G:List (Nat×Sigma fun τ=>List (Ab τ))}(h:S g/\∃vs T fz,W.heap[g]? = some (.cells vs T fz)/\Rows W S τ vs 0 xs)(r:GlobsOk G W S):
  GlobsOk ((g,⟨τ,xs⟩)::G) W S:=fun g' τ' xs' hf=>by
 simp only[OT]at hf
 cases hb:Nat.beq g g' with
 |true=>
  have:=Nat.eq_of_beq_eq_true hb
  subst this
  rw[hb]at hf
  simp only[cond_true,ae]at hf
  cases hf
  exact h
 |false=>
  rw[hb]at hf
  exact r g' τ' xs' hf
end Vx
end
