/- Part 8 of the proof. What is proved: symbolic execution of the functions, proved sound; what each function of the program computes, and that every run ends with it; what these functions compute, in plain numbers. Conditions: each theorem bears its own. -/
import Derived.Test.YthajbkcpnbiobaaGreatDoorVxG7
import Ieee.Arith
import Derived.ProofKit
import Derived.LaidMore
import Derived.OpenShut
import Derived.Stop.Joined
import GoSem.ClaimJoined
set_option linter.all false
set_option exponentiation.threshold 1000000
noncomputable section
open Array renaming getElem?_eq_some_iff->dc
open BitVec renaming ofInt->co
open Bool renaming and_eq_true->ag,and_false->ay,and_self->av,eq_iff_iff->fi,false_and->ao,false_or->bd,not_false->ar,not_true->au,or_comm->qg,or_eq_false_iff->ii,or_eq_true->dv,or_false->bi,or_self->bb,or_true->ba,true_or->aw
open Classical renaming not_not->jg
open Go.IntKind renaming wrap->aa
open Go.Value renaming okWide->nq
open Go.World renaming cell?->ph,cells?_some->ot
open Int renaming eq_ofNat_of_zero_le->cd,toNat->af,toNat_natCast->ab,toNat_zero->ap
open List renaming all_cons->mu,append_nil->dk,drop_drop->qc,drop_eq_getElem_cons->dz,drop_length->gy,drop_zero->jp,getD_eq_getElem?_getD->ak,getElem?_append_left->cn,getElem?_eq_getElem->bo,getElem?_eq_some_iff->bf,getElem_mem->ja,length_map->js,length_replicate->gc,length_set->ip,mem_append->cw,mem_cons->cy,mem_of_mem_drop->kt,mem_of_mem_take->fg,mem_replicate->oh,mem_singleton->kb,replicate->aq,set_append_left->mc,set_append_right->ga,take_append_drop->ki,take_length->dp,take_succ_eq_append_getElem->jq
open Nat renaming add_comm->io,add_mul->cm,add_zero->cz,div_add_mod->ct,div_div_eq_div_mul->dj,div_eq_of_lt->ci,div_le_self->dw,div_lt_iff_lt_mul->bv,div_one->oa,eq_zero_or_pos->br,le_div_iff_mul_le->ir,le_mul_of_pos_left->ik,le_mul_of_pos_right->gf,le_refl->bu,le_trans->fy,lt_of_le_of_lt->bl,lt_of_lt_of_le->al,lt_or_ge->ax,lt_trans->fm,min_eq_left->gu,min_eq_right->lu,mod_eq_of_lt->bt,mod_lt->ca,mul_add->bw,mul_add_div->jw,mul_add_mod->jx,mul_assoc->bh,mul_comm->be,mul_div_cancel->iy,mul_div_cancel_left->ib,mul_div_mul_right->kl,mul_le_mul->gw,mul_le_mul_left->cp,mul_le_mul_right->bc,mul_left_comm->fx,mul_lt_mul_of_pos_right->cj,mul_mod_mul_right->fj,mul_ne_zero->kj,mul_one->gq,mul_pos->gz,mul_right_comm->jo,mul_zero->fd,ne_of_gt->ky,one_mul->fw,pos_of_ne_zero->mp,pow_add->bj,pow_le_pow_right->ai,pow_lt_pow_iff_right->cu,pow_lt_pow_right->bq,pow_mul->fq,pow_one->px,pow_succ->dl,pow_zero->iu,shiftLeft_eq->pg,two_pow_pos->aj,zero_add->de,zero_le->dq,zero_mul->ff
open Option.some renaming inj->kf,injEq->ae
open Prod.mk renaming injEq->cv
namespace VL
open Go Vx
theorem aXg{X Q d r a B:Nat}(hX:X=Q*d+r):X*B+a=(Q*B+(r*B+a)/d)*d+(r*B+a)%d:=by
 have h1:=ct (r*B+a) d;rw[hX,cm,cm,jo,be ((r*B+a)/d) d];omega
theorem aVx(l:List Nat)(hl:∀x∈l,x<2^64)(hn:l.length<=1000000){d:Nat}(hd:0<d)(hd2:d<2^64):
  ∃qs:List Nat,qs.length=l.length/\(∀x∈qs,x<2^64)/\nv (2^64) qs=nv (2^64) l/d /\
   d0 ((((d:Int),(((l.length:Int)-1),((),((0:Int),())))),(Wd l,())):Gb.D)=some (.inl (((),(((nv (2^64) l%d:Nat):Int),())),(Wd qs,()))):=by
 have key:=OT (aNK Bl.pre Bl.F Aj.pre Aj.F) (fun s=>(s.1.2.1+1).toNat)
  (fun s=>∃(k:Nat) (qs:List Nat) (r:Nat),k<=l.length/\qs.length+k=l.length/\(∀x∈qs,x<2^64)/\r<d/\nv (2^64) (l.drop k)=nv (2^64) qs*d+r /\
   s=(((d:Int),(((k:Int)-1),((),((r:Int),())))),(Wd (l.take k++qs),())))
  (fun y=>∃qs:List Nat,qs.length=l.length/\(∀x∈qs,x<2^64)/\nv (2^64) qs=nv (2^64) l/d/\y=.inl (((),(((nv (2^64) l%d:Nat):Int),())),(Wd qs,()))) ?_
  (((d:Int),(((l.length:Int)-1),((),((0:Int),())))),(Wd l,()))
  ⟨l.length,[],0,bu _,by simp,(fun z hz=>by simp at hz),hd,by simp[nv],by simp⟩
 ·obtain⟨y,hy,qs,k1,k2,k3,rfl⟩:=key;exact⟨qs,k1,k2,k3,hy⟩
 intro L s hs hL;obtain⟨k,qs,r,hk,hql,hqd,hr,hinv,rfl⟩:=hs;unfold X0;rcases k with _|i
 ·have e0:decide ((((0:Nat):Int)-1)>=0)=false:=rfl;dsimp only;rw[e0,cond_false];rw[jp]at hinv;have hdv:nv (2^64) l/d=nv (2^64) qs:=by rw[hinv,be,jw hd,ci hr,cz]
  have hmd:nv (2^64) l%d=r:=by rw[hinv,be,jx,bt hr]
  exact⟨_,rfl,qs,by omega,hqd,hdv.symm,by rw[hmd,List.take_zero,List.nil_append]⟩
 ·have ei:(((i+1:Nat):Int)-1)=(i:Int):=by omega
  have ha:=BZ (by decide) hl i;have hg:(Wd (l.take (i+1)++qs)).getD i 0=((l.getD i 0:Nat):Int):=by
   rw[BH];congr 1;rw[ak,ak,cn (by simp;omega),List.getElem?_take_of_lt (by omega)]
  have hdn:=Lk (2^64) l i (by omega);have hset:∀z:Nat,(Wd (l.take (i+1)++qs)).set i (z:Int)=Wd (l.take i++(z::qs)):=fun z=>by
   rw[Dd,mc _ _ (by simp;omega),jq (show i<l.length by omega),ga _ _ (by simp;omega)];have:i-(l.take i).length=0:=by simp;omega
   rw[this];simp
  have hlen:(Wd (l.take (i+1)++qs)).length=l.length:=by rw[Ay];simp;omega
  generalize l.getD i 0=a at *
  have p0:=aGn (hi:=r) ha hd2 hr;have e0:decide ((i:Int)>=0)=true:=decide_eq_true (by omega);have e1:decide ((0:Int)<=(i:Int))=true:=decide_eq_true (by omega);have e2:decide ((i:Int)<(l.length:Int))=true:=decide_eq_true (by omega);have e3:aa .i64 ((i:Int)-1)=(i:Int)-1:=At (by omega);dsimp only;simp only[ei,e0,e1,e2,e3,hlen,av,cond_true,ab,hg,aOX p0,aMS p0,hset];have hq:(r*2^64+a)/d<2^64:=by
   rw[bv hd];have:(r+1)*2^64<=d*2^64:=bc _ hr;rw[be (2^64)];omega
  refine hL _ ⟨i,(r*2^64+a)/d::qs,(r*2^64+a)%d,by omega,by simp;omega,?_,ca _ hd,?_,rfl⟩ (by dsimp only;omega)
  ·intro x hx;rcases cy.1 hx with rfl|hx
   ·exact hq
   ·exact hqd x hx
  ·have:=aXg (B:=2^64) (a:=a) hinv;rw[hdn];show a+2^64*_=((r*2^64+a)/d+2^64*nv (2^64) qs)*d+_;rw[be (2^64) (nv (2^64) qs),io ((r*2^64+a)/d),←this];omega
theorem aD9{l:List Nat}(h:∀x∈l,x<2^64):Wd (Al l)=Dw (nv (2^64) l):=by
 unfold Dw;rw[FW (by decide) l h]
theorem aUy{a:Nat}(ha:a<(2^64)^5000){d:Nat}(hd:0<d)(hd2:d<2^64):aS (Dw a,(d:Int),())=some (Dw (a/d),((a%d:Nat):Int),()):=by
 show uM Bl.pre Bl.F Aj.pre Aj.F d0 (Dw a) (d:Int)=_;unfold uM;have hw:=DP ha;obtain⟨qs,k1,k2,k3,k4⟩:=aVx (dg (2^64) a) hw.1 hw.2 hd hd2;rw[CS]at k3 k4;have hl:(dg (2^64) a).length<=1000000:=hw.2;have e0:aa .i64 (((Dw a).length:Int)-1)=(((dg (2^64) a).length:Int)-1):=by
  unfold Dw;rw[Ay,At (by omega)]
 have p0:=Ex qs (by omega);rw[e0];have k4:d0 ((((d:Int),((((dg (2^64) a).length:Int)-1),((),((0:Int),())))),(Dw a,())):Gb.D)=_:=k4;rw[k4];show(bif Aj.pre (Wd qs,())then some ((Aj.F (Wd qs,())).1,(((a%d:Nat):Int),()))else none)=_;simp only[Dj p0,De p0,cond_true,aD9 k2,k3]
theorem aVN(v:List Nat){n:Nat}(hvl:v.length=n+2)(hv:∀x∈v,x<2^64)(hn:v.length<=900000){X:Nat}(Q:Nat)(hQ:Q<=50000)(s:Int)(us:List Nat)(hus:us.length=Q+n+2)
  (hud:∀x∈us,x<2^64) (hX:nv (2^64) us=X) (hlt:X<nv (2^64) v*(2^64)^Q) :
  ∃qs us':List Nat,qs.length=Q/\(∀x∈qs,x<2^64)/\nv (2^64) qs=X/nv (2^64) v/\us'.length=Q+n+2/\(∀x∈us',x<2^64)/\nv (2^64) us'=X%nv (2^64) v /\
   eD (((Wd v,(((Q:Int)-1),((),((),((v.length:Int),(s,())))))),(Wd us,(Wd (aq Q 0),()))):Ge.D)=some (.inl (((),((),((v.length:Int),(s,())))),(Wd us',(Wd qs,())))):=by
 have hV0:0<nv (2^64) v:=by
  rcases br (nv (2^64) v)with h|h
  ·rw[h,ff]at hlt;omega
  ·exact h
 have hVl:=CP (B:=2^64) (by decide) v hv;have key:=OT (aN2 Dl.pre Dl.F EN.pre EN.F B1.pre B1.F CJ.pre CJ.F FL.pre FL.F B2.pre B2.F Dn.pre Dn.F EP.pre EP.F Aj.pre Aj.F CK.pre CK.F) (fun s=>(s.1.2.1+1).toNat)
  (fun x=>∃(k:Nat) (qs us:List Nat),k<=Q/\qs.length+k=Q/\(∀x∈qs,x<2^64)/\us.length=Q+n+2/\(∀x∈us,x<2^64)/\nv (2^64) us<nv (2^64) v*(2^64)^k /\
   X=nv (2^64) qs*(2^64)^k*nv (2^64) v+nv (2^64) us /\
   x=((Wd v,(((k:Int)-1),((),((),((v.length:Int),(s,())))))),(Wd us,(Wd (aq k 0++qs),()))))
  (fun y=>∃qs us':List Nat,qs.length=Q/\(∀x∈qs,x<2^64)/\nv (2^64) qs=X/nv (2^64) v/\us'.length=Q+n+2/\(∀x∈us',x<2^64)/\nv (2^64) us'=X%nv (2^64) v /\
   y=.inl (((),((),((v.length:Int),(s,())))),(Wd us',(Wd qs,())))) ?_
  ((Wd v,(((Q:Int)-1),((),((),((v.length:Int),(s,())))))),(Wd us,(Wd (aq Q 0),())))
  ⟨Q,[],us,bu _,by simp,(fun z hz=>by simp at hz),hus,hud,by rw[hX];exact hlt,by simp[nv,hX],by simp⟩
 ·obtain⟨y,hy,qs,us',k1,k2,k3,k4,k5,k6,rfl⟩:=key;exact⟨qs,us',k1,k2,k3,k4,k5,k6,hy⟩
 clear hlt hX hud hus us;intro L x hx hL;obtain⟨k,qs,us,hk,hql,hqd,hus,hud,hlt,hinv,rfl⟩:=hx;unfold Yi;rcases k with _|j
 ·have e0:decide ((((0:Nat):Int)-1)>=0)=false:=rfl;dsimp only;rw[e0,cond_false];rw[iu,gq]at hlt hinv;have hdv:X/nv (2^64) v=nv (2^64) qs:=by rw[hinv,be,jw hV0,ci hlt,cz]
  have hmd:X%nv (2^64) v=nv (2^64) us:=by rw[hinv,be,jx,bt hlt]
  exact⟨_,rfl,qs,us,by omega,hqd,hdv.symm,hus,hud,hmd.symm,by simp⟩
 ·have ei:(((j+1:Nat):Int)-1)=(j:Int):=by omega
  have hjl:j+(n+3)<=us.length:=by omega
  have hsplit:us=us.take j++(us.drop j).take (n+3)++us.drop (j+(n+3)):=by
   rw[List.append_assoc,←qc,ki,ki]
  have hAl:(us.take j).length=j:=by simp;omega
  have hwl:((us.drop j).take (n+3)).length=n+3:=by simp;omega
  have hAd:∀x∈us.take j,x<2^64:=fun x hx=>hud x (fg hx);have hwd:∀x∈(us.drop j).take (n+3),x<2^64:=fun x hx=>hud x (kt (fg hx));have hCd:∀x∈us.drop (j+(n+3)),x<2^64:=fun x hx=>hud x (kt hx);have hCl:(us.drop (j+(n+3))).length+j+(n+3)=us.length:=by simp;omega
  generalize us.take j=A at *
  generalize(us.drop j).take (n+3)=w at *
  generalize us.drop (j+(n+3))=C at *
  subst hsplit;have hAlt:=CP (B:=2^64) (by decide) A hAd;have hval:∀w:List Nat,w.length=n+3->nv (2^64) (A++w++C)=nv (2^64) A+(2^64)^j*nv (2^64) w+(2^64)^(j+(n+3))*nv (2^64) C:=fun w hw=>by
   rw[Uo,Uo,hAl,show(A++w).length=j+(n+3) by simp[hAl,hw]]
  have hPj:=Nat.pow_pos (n:=j) (show 0<2^64 by decide);have hv1:=hval w hwl;rw[hAl]at hAlt;have hC0:nv (2^64) C=0:=by
   rcases br (nv (2^64) C)with h|h
   ·exact h
   ·exfalso;have h1:(2^64)^(j+(n+3))*1<=(2^64)^(j+(n+3))*nv (2^64) C:=cp _ h;have h2:nv (2^64) v*(2^64)^(j+1)<=(2^64)^(n+2)*(2^64)^(j+1):=bc _ (by rw[hvl]at hVl;omega);rw[←bj,show n+2+(j+1)=j+(n+3) by omega]at h2;omega
  rw[hC0,fd,cz]at hv1;have hwlt:nv (2^64) w<nv (2^64) v*2^64:=by
   have h1:(2^64)^j*nv (2^64) w<(2^64)^j*(nv (2^64) v*2^64):=by
    rw[Lr,←bh]at hlt;rw[fx,←bh];omega
   exact Nat.lt_of_mul_lt_mul_left h1
  obtain⟨out,o1,o2,o3,o4⟩:=aUV A w C v hvl hwl hwd hv (by omega) hwlt;rw[hAl,hwl]at o4;have hout:out.length=n+3:=by omega
  have hv2:=hval out hout;rw[hC0,fd,cz,o3]at hv2;have hdm:=ct (nv (2^64) w) (nv (2^64) v);have hml:=ca (nv (2^64) w) hV0;have hq64:nv (2^64) w/nv (2^64) v<2^64:=by rw[bv hV0,be];exact hwlt
  have e0:decide ((j:Int)>=0)=true:=decide_eq_true (by omega);have e1:decide ((0:Int)<=(j:Int))=true:=decide_eq_true (by omega);have e3:aa .i64 (aa .i64 ((j:Int)+(v.length:Int))+1)=((j+(n+3):Nat):Int):=by
   rw[At (n:=(j:Int)+_) (by omega),At (by omega)];omega
  have e4:decide ((j:Int)<=((j+(n+3):Nat):Int))=true:=decide_eq_true (by omega);have e5:decide ((((j+(n+3):Nat):Int))<=((Wd (A++w++C)).length:Int))=true:=decide_eq_true (by rw[Ay];simp;omega);have e6:decide ((j:Int)<((Wd (aq (j+1) 0++qs)).length:Int))=true:=decide_eq_true (by rw[Ay];simp;omega);have e7:aa .i64 ((j:Int)-1)=(j:Int)-1:=At (by omega);have hset:∀z:Nat,(Wd (aq (j+1) 0++qs)).set j (z:Int)=Wd (aq j 0++(z::qs)):=fun z=>by
   rw[Dd,mc _ _ (by simp),List.replicate_succ',ga _ _ (by simp)];simp
  have e8:j+(n+3)-j=n+3:=by omega
  dsimp only;simp only[ei,e0,e1,e3,e4,e5,e6,e7,av,cond_true,ab,e8];rw[bBg o4,aYG o4,cond_true];dsimp only;rw[hset];refine hL _ ⟨j,nv (2^64) w/nv (2^64) v::qs,A++out++C,by omega,by simp;omega,?_,by simp;omega,?_,?_,?_,rfl⟩ (by dsimp only;omega)
  ·intro x hx;rcases cy.1 hx with rfl|hx
   ·exact hq64
   ·exact hqd x hx
  ·intro x hx;rcases cw.1 hx with hx|hx
   ·rcases cw.1 hx with hx|hx
    ·exact hAd x hx
    ·exact o2 x hx
   ·exact hCd x hx
  ·rw[hv2];have:(2^64)^j*(nv (2^64) w%nv (2^64) v+1)<=(2^64)^j*nv (2^64) v:=cp _ hml;rw[bw,gq]at this;rw[be (nv (2^64) v)];omega
  ·rw[hv2,hinv,hv1];show _=(nv (2^64) w/nv (2^64) v+2^64*nv (2^64) qs)*(2^64)^j*nv (2^64) v+_;have h1:(2^64)^j*nv (2^64) w=(2^64)^j*(nv (2^64) v*(nv (2^64) w/nv (2^64) v))+(2^64)^j*(nv (2^64) w%nv (2^64) v):=by rw[←bw,hdm]
   rw[h1,Lr,cm,cm];generalize nv (2^64) w/nv (2^64) v=q;generalize nv (2^64) v=V;generalize(2^64)^j=P;have h2:nv (2^64) qs*(P*2^64)*V=2^64*nv (2^64) qs*P*V:=by rw[be P,←bh,be (nv (2^64) qs)]
   have h3:P*(V*q)=q*P*V:=by rw[be V,←bh,be P]
   rw[h2,h3];omega
end VL
namespace VL
open Go Vx
theorem aXB{x k:Nat}(h:(2^64)^k<=x):k<(dg (2^64) x).length:=by
 have:=gF (B:=2^64) (by decide) x;exact(cu (a:=2^64) (by decide)).1 (bl h this)
theorem aXC{x:Nat}(h0:x≠0):∃t,(dg (2^64) x).getD ((dg (2^64) x).length-1) 0=t/\t≠0/\t<2^64/\Am x=64*((dg (2^64) x).length-1)+Am t/\0<(dg (2^64) x).length:=by
 have hl:0<(dg (2^64) x).length:=by rw[Ep (by decide) (by omega)];simp
 have ht:=OD (B:=2^64) (by decide) x;have h1:=V9 (dg (2^64) x) (by rw[ht];exact hl);have h2:=aLr (La (B:=2^64) (by decide) x) (by rw[ht];exact hl);rw[ht]at h1 h2;rw[CS]at h2;exact⟨_,rfl,h1,BZ (by decide) (La (by decide) x) _,h2,hl⟩
theorem YF(k:Nat):(2^64)^k=2^(64*k):=(fq ..).symm
theorem aUW{a b:Nat}(ha:a<(2^64)^4000)(hb:b<(2^64)^4000)(h0:b≠0):bS (Dw a,Dw b,())=some (Dw (a/b),Dw (a%b),()):=by
 have up:∀{x:Nat},x<(2^64)^4000->x<(2^64)^5000:=fun h=>al h (ai (by decide) (by decide));show vY Dl.pre Dl.F EN.pre EN.F B1.pre B1.F CJ.pre CJ.F FL.pre FL.F B2.pre B2.F Dn.pre Dn.F EP.pre EP.F Aj.pre Aj.F CK.pre CK.F eD (Dw a) (Dw b)=_;unfold vY;have pa:=WL (up ha);have pb:=WL (up hb);have pc:=zW (up ha) (up hb);have wa:=DP (up ha);have wb:=DP (up hb);have hla:(dg (2^64) a).length<=4000:=D0 (by decide) _ _ ha;have hlb:(dg (2^64) b).length<=4000:=D0 (by decide) _ _ hb;have pcopy:=aFQ (dg (2^64) a) wa;rw[CS]at pcopy;have pcopy:UP (Dw a,())=some (Dw a,()):=pcopy;obtain⟨t,ht,ht0,ht64,hbt,hlp⟩:=aXC h0;have hLen:∀x:Nat,(Dw x).length=(dg (2^64) x).length:=fun x=>Ay _;have hGet:∀(x i:Nat),(Dw x).getD i 0=(((dg (2^64) x).getD i 0:Nat):Int):=fun x i=>BH _ _;dsimp only;simp only[Dj pa,De pa,Dj pb,De pb,aDr pc,aCy pc,cond_true];by_cases hlt:a<b
 ·have e0:decide ((if a=b then(0:Int)else if a<b then -1 else 1)<0)=true:=by rw[if_neg (by omega),if_pos hlt];rfl
  simp only[e0,cond_true,aDp pcopy,aCw pcopy];rw[ci hlt,bt hlt,E9]
 have e0:decide ((if a=b then(0:Int)else if a<b then -1 else 1)<0)=false:=by
  rw[if_neg hlt];split<;>rfl
 simp only[e0,cond_false];by_cases h1:(dg (2^64) b).length=1
 ·have e1:(((Dw b).length:Int)==1)=true:=by rw[hLen,h1];rfl
  have hb64:b<2^64:=by
   have:=gF (B:=2^64) (by decide) b;rw[h1,px]at this;exact this
  have e2:decide ((0:Int)<((Dw b).length:Int))=true:=by rw[hLen,h1];rfl
  have e3:(Dw b).getD (af 0) 0=(b:Int):=by rw[ap,Pc,bt hb64]
  have p0:=aUy (up ha) (mp h0) hb64;have hr:a%b<b:=ca _ (mp h0);have p1:=Ex [a%b] (by simp);rw[aD9 (by intro x hx;rw[kb]at hx;omega),show nv (2^64) [a%b]=a%b by simp[nv]]at p1;have p1:UU ((((a%b:Nat):Int)::[]),())=_:=p1;simp only[e1,e2,e3,cond_true,aDp pcopy,aCw pcopy,bA0 p0,aYq p0,Dj p1,De p1]
 have e1:(((Dw b).length:Int)==1)=false:=by
  rw[hLen];exact VJ _ _ (by omega)
 simp only[e1,cond_false];obtain⟨n,hn⟩:∃n,(dg (2^64) b).length=n+2:=⟨(dg (2^64) b).length-2,by omega⟩
 have hab:(dg (2^64) b).length<=(dg (2^64) a).length:=aCc (by decide) (by omega);obtain⟨Q,hQ⟩:∃Q,(dg (2^64) a).length+1=Q+n+2:=⟨(dg (2^64) a).length+1-(n+2),by omega⟩
 rw[show(dg (2^64) b).length-1=n+1 by omega]at ht hbt;have hbl:=DY ht64;have hbl1:=gA ht0;generalize hs:64-Am t=s at *
 have p327:=aGm ht64;rw[hs]at p327;have hub:=Hj b;have hlob:=Ox h0;have hp:=aj s;have hV1:b*2^s<2^(64*(n+2)):=by
  have h2:b*2^s<2^Am b*2^s:=cj hub hp;rw[←bj,show Am b+s=64*(n+2) by omega]at h2;exact h2
 have hV2:2^(64*(n+2)-1)<=b*2^s:=by
  have h2:2^(Am b-1)*2^s<=b*2^s:=bc _ hlob;rw[←bj,show Am b-1+s=64*(n+2)-1 by omega]at h2;exact h2
 have hvlen:(dg (2^64) (b*2^s)).length=n+2:=by
  have h2:(dg (2^64) (b*2^s)).length<=n+2:=D0 (by decide) _ _ (by rw[YF];exact hV1);have h3:=aXB (x:=b*2^s) (k:=n+1) (by
   rw[YF];exact fy (ai (by decide) (by omega)) hV2)
  omega
 have hA:a*2^s<2^(64*(dg (2^64) a).length+s):=by
  have h2:=gF (B:=2^64) (by decide) a;rw[YF]at h2;rw[bj];exact cj h2 hp
 have hulen:(dg (2^64) (a*2^s)).length<=Q+n+2:=D0 (by decide) _ _ (by
  rw[YF];exact al hA (ai (by decide) (by omega)))
 have hstart:a*2^s<b*2^s*(2^64)^Q:=by
  have h2:2^(64*(n+2)-1)*2^(64*Q)<=b*2^s*2^(64*Q):=bc _ hV2;rw[←bj]at h2;rw[YF];exact al (al hA (ai (by decide) (by omega))) h2
 have pv:=zY (dg (2^64) b) wb s (by rw[OD (by decide)];omega);have pu:=zY (dg (2^64) a) wa s (by rw[OD (by decide)];omega);rw[CS]at pv pu;have pv:UX (Dw b,(s:Int),())=some (Dw (b*2^s),()):=pv;have pu:UX (Dw a,(s:Int),())=some (Dw (a*2^s),()):=pu;have e17:aa .i64 (((Dw b).length:Int)-1)=((n+1:Nat):Int):=by rw[hLen,At (by omega)];omega
 have e18:aa .i64 (((Dw a).length:Int)+1)=((Q+n+2:Nat):Int):=by rw[hLen,At (by omega)];omega
 have eg:(Dw b).getD (af ((n+1:Nat):Int)) 0=(t:Int):=by rw[ab,hGet,ht]
 have e2:(decide ((0:Int)<=((n+1:Nat):Int))&&decide (((n+1:Nat):Int)<((Dw b).length:Int)))=true:=by
  rw[hLen,decide_eq_true (by omega),decide_eq_true (by omega)];rfl
 have e3:(decide ((0:Int)<=((Q+n+2:Nat):Int))&&decide (((Q+n+2:Nat):Int)*8<=140737488355328))=true:=by
  rw[decide_eq_true (by omega),decide_eq_true (by omega)];rfl
 generalize hud:dg (2^64) (a*2^s)++aq (Q+n+2-(dg (2^64) (a*2^s)).length) 0=us;have husl:us.length=Q+n+2:=by rw[←hud,List.length_append,gc];omega
 have hus:∀x∈us,x<2^64:=by
  rw[←hud];intro x hx;rcases cw.1 hx with hx|hx
  ·exact La (by decide) _ x hx
  ·have:=(oh.1 hx).2;omega
 have husv:nv (2^64) us=a*2^s:=by rw[←hud,Uo,sN,fd,cz,CS]
 have hrow:(Dw (a*2^s)).take (aq (af ((Q+n+2:Nat):Int)) (0:Int)).length++(aq (af ((Q+n+2:Nat):Int)) (0:Int)).drop (Dw (a*2^s)).length=Wd us:=by
  rw[ab,gc,NF,hLen,aVX,List.drop_replicate];unfold Dw;rw[eG,List.take_of_length_le hulen,←hud];unfold Wd;rw[List.map_append]
 have e11:aa .i64 (((Wd us).length:Int)-((Dw (b*2^s)).length:Int))=(Q:Int):=by
  rw[Ay,husl,hLen,hvlen,At (by omega)];omega
 have e4:(decide ((0:Int)<=(Q:Int))&&decide ((Q:Int)*8<=140737488355328))=true:=by
  rw[decide_eq_true (by omega),decide_eq_true (by omega)];rfl
 have e5:aa .i64 (((aq (af (Q:Int)) (0:Int)).length:Int)-1)=(Q:Int)-1:=by
  rw[ab,gc,At (by omega)]
 obtain⟨qs,us',k1,k2,k3,k4,k5,k6,k7⟩:=aVN (dg (2^64) (b*2^s)) hvlen (La (by decide) _) (by omega) (X:=a*2^s) Q (by omega) (s:Int) us husl hus husv (by rw[CS];exact hstart);rw[CS]at k3 k6;rw[kl _ _ hp]at k3;rw[fj]at k6;have k7:eD (((Dw (b*2^s),(((Q:Int)-1),((),((),(((Dw (b*2^s)).length:Int),((s:Int),())))))),(Wd us,((aq (af (Q:Int)) (0:Int)),()))):Ge.D)=some (.inl (((),((),(((n+2:Nat):Int),((s:Int),())))),(Wd us',(Wd qs,())))):=by
  rw[ab,NF,hLen];rw[hvlen]at k7⊢;exact k7
 simp only[e17,eg,aOW p327,aMR p327,aDu pv,aCB pv,aDu pu,aCB pu,e18,e2,e3,cond_true,hrow,e11,e4,e5];rw[k7];dsimp only[Ba,A9];have pq:=Ex qs (by omega);rw[aD9 k2,k3]at pq;have hnl:nv (2^64) (us'.take (n+2))=a%b*2^s:=by
  have h2:=Lm (2^64) us' (n+2) (by omega);have h3:nv (2^64) (us'.drop (n+2))=0:=by
   rcases br (nv (2^64) (us'.drop (n+2)))with h|h
   ·exact h
   ·exfalso;have h4:(2^64)^(n+2)*1<=(2^64)^(n+2)*nv (2^64) (us'.drop (n+2)):=cp _ h;have h5:a%b*2^s<b*2^s:=cj (ca _ (mp h0)) hp;rw[YF]at h4 h2;omega
  rw[h3,fd,cz]at h2;rw[←h2,k6]
 have pr:=aF5 (us'.take (n+2)) ⟨fun x hx=>k5 x (fg hx),by simp;omega⟩ s (by omega);rw[hnl,iy _ hp]at pr;have pr:WK (Wd (us'.take (n+2)),(s:Int),())=some (Dw (a%b),()):=pr;have e6:(decide ((0:Int)<=((n+2:Nat):Int))&&decide (((n+2:Nat):Int)<=((Wd us').length:Int)))=true:=by
  rw[Ay,k4,decide_eq_true (by omega),decide_eq_true (by omega)];rfl
 have e7:((Wd us').take (af ((n+2:Nat):Int))).drop (af 0)=Wd (us'.take (n+2)):=by
  rw[ab,ap,eG,jp]
 simp only[Dj pq,De pq,e6,e7,aOU pr,aMP pr,cond_true]
theorem aZf{l:List (List Nat)}(hl:∀x∈l,x.length<=1024)(hn:l.length<=1000000):TL (l.map Wd,())=some (false,()):=by
 have:=aGa l (fun x hx=>by have:=hl x hx;omega) hn;rw[this,decide_eq_true (fun x hx=>fy (Dx x).1 (hl x hx))];rfl
theorem aUX{a b:Nat}(ha:a<(2^64)^1024)(hb:b<(2^64)^1024)(h0:b≠0):bT (Dw a,Dw b,())=some (Dw (a/b),Dw (a%b),0,()):=by
 have up:∀{x:Nat},x<(2^64)^1024->x<(2^64)^4000:=fun h=>al h (ai (by decide) (by decide));have up5:∀{x:Nat},x<(2^64)^1024->x<(2^64)^5000:=fun h=>al h (ai (by decide) (by decide));show vZ EO.pre EO.F Aj.pre Aj.F Tb.pre Tb.F (Dw a) (Dw b)=_;unfold vZ;have p0:=aZf (l:=[dg (2^64) a,dg (2^64) b]) (by
  intro x hx;rcases cy.1 hx with rfl|hx
  ·exact D0 (by decide) _ _ ha
  ·rw[kb]at hx;rw[hx];exact D0 (by decide) _ _ hb) (by simp)
 have p0:TL ((Dw a::Dw b::[]),())=some (false,()):=p0;have p1:=WL (up5 hb);have p2:=aUW (up ha) (up hb) h0;have e0:(((Dw b).length:Int)==0)=false:=by rw[aRN,decide_eq_false h0]
 simp only[aDt p0,aCA p0,Dj p1,De p1,bBh p2,aYH p2,cond_true,cond_false,e0]
end VL
namespace VL
open Go Vx
theorem aOg{l:List Nat}{i v B:Nat}(h:∀x∈l,x<B)(hv:v<B):∀x∈l.set i v,x<B:=fun x hx=>by
 rcases List.mem_or_eq_of_mem_set hx with h1|h1
 ·exact h x h1
 ·omega
end VL
namespace VL
open Go Vx
theorem Y5{f:Int}(hf:Fm f)(a:Nat):-1100<=Ar f a/\Ar f a<=1100:=by
 have h1:=aXP (f:=f) a;have e:BO f=2*fX f+1:=by unfold BO;rw[←aCg hf]
 have h2:=Lc hf;have h3:=Fk hf;have h4:=DH hf;unfold Ar;split<;>omega
theorem aEg(f:Int)(a:Nat):((Ao f a:Int)==0)=Bk f a:=by
 cases hz:Bk f a
 ·exact AF _ (Pb hz)
 ·unfold Bk at hz;rw[ag,beq_iff_eq,beq_iff_eq]at hz;unfold Ao;rw[if_pos hz.1,hz.2];rfl
end VL
namespace VL
open Go Vx
theorem bAT(i:Nat):(2^32)^(i+1)=(2^32)^i*2^32:=dl ..
theorem bFs(n k:Nat):(aq n 0).getD k 0=0:=by
 rw[ak,List.getElem?_replicate];split<;>rfl
end VL
namespace VL
open Go Vx
def pv(f:Int)(x:Nat):Nat:=Ao f x*2^(Ar f x-qm f).toNat
end VL
namespace VL
open Go Vx
def VV(f:Int)(x:Nat):Nat:=Ao f x*2^(Ar f x+2600).toNat
end VL
namespace VL
open Go Vx
theorem aPu{f m:Int}{neg:Bool}{N k:Nat}{E:Int}(hf:Fm f)(hn:N/2^k≠0)(hm:N%2^k≠0->fP f+1<=Am (N/2^k)):Bj f m neg (N/2^k) (E+k) (decide (N%2^k≠0))=Bj f m neg N E false:=by
 have ht:=aRu (E:=E) hn;have htd:AA (N/2^k) (E+k)=E+k+(Am (N/2^k):Int)-1:=rfl;have hq1:N%2^k≠0->E+k<B5 f (AA N E):=fun h=>by
  have:=hm h;unfold B5;split<;>omega
 have hq2:N%2^k≠0->E+k<AA N E-fP f+1:=fun h=>by
  have:=hm h;omega
 have hti:D3 f m neg (N/2^k) (E+k) (decide (N%2^k≠0))=D3 f m neg N E false:=by
  unfold D3;rw[ht,rF hq2]
 unfold Bj;simp only[ht,rF hq1,(aCb hq1).2,hti]
theorem aPt{f m:Int}{neg:Bool}{N k:Nat}{E:Int}(hf:Fm f)(hb:fP f+1<=Am (N/2^k)):Bj f m neg (N/2^k) E true=Bj f m neg (2*N+1) (E-k-1) false:=by
 have hP:=DH hf;have e1:(2*N+1)/2^(k+1)=N/2^k:=by
  rw[dl,be (2^k),←dj,show(2*N+1)/2=N by omega]
 have e2:(2*N+1)%2^(k+1)≠0:=by
  rw[dl,be (2^k),Nat.mod_mul];omega
 have h0:N/2^k≠0:=fun h=>by
  rw[h]at hb;have:Am 0=0:=rfl;omega
 have:=aPu (f:=f) (m:=m) (neg:=neg) (N:=2*N+1) (k:=k+1) (E:=E-k-1) hf (by rw[e1];exact h0) (fun _=>by rw[e1];exact hb);rw[e1,decide_eq_true e2,show E-k-1+((k+1:Nat):Int)=E by omega]at this;exact this
def Lv(f m:Int)(neg:Bool)(R:Nat)(E:Int)(more:Bool):Nat×Nat:=if more=true then Bj f m neg (2*R+1) (E-1) false else Bj f m neg R E false
theorem aPs{f m:Int}{neg:Bool}(hf:Fm f){R:Nat}{E:Int}{more:Bool}(hb:more=true->fP f+1<=Am R):Bj f m neg R E more=Lv f m neg R E more:=by
 unfold Lv;cases more
 ·rw[if_neg (by decide)]
 ·have:=aPt (f:=f) (m:=m) (neg:=neg) (N:=R) (k:=0) (E:=E) hf (by rw[iu,oa];exact hb rfl);rw[iu,oa]at this;rw[if_pos rfl,this];congr 1;omega
theorem bFA{f m:Int}{neg:Bool}(hf:Fm f){R k:Nat}{E:Int}{more:Bool}(hb:fP f+1<=Am (R/2^k)):Lv f m neg (R/2^k) (E+k) (more||decide (R%2^k≠0))=Lv f m neg R E more:=by
 have h0:R/2^k≠0:=fun h=>by
  rw[h]at hb;have:Am 0=0:=rfl;omega
 rw[←aPs hf (fun _=>hb)];unfold Lv;cases more
 ·rw[if_neg (by decide),bd];exact aPu hf h0 fun _=>hb
 ·rw[if_pos rfl,aw];have:=aPt (f:=f) (m:=m) (neg:=neg) (N:=R) (k:=k) (E:=E+k) hf hb;rw[this,show E+(k:Int)-(k:Int)-1=E-1 by omega]
def Gw(f m:Int)(neg:Bool)(n k:Nat)(e:Int):Nat×Nat:=Lv f m neg (n*2^300/k) (e-300) (decide (n*2^300%k≠0))
theorem bBQ{n k:Nat}(hk:0<k)(t:Nat):(n*2^t/k)/2^t=n/k/\(n%k≠0↔(n*2^t%k≠0∨(n*2^t/k)%2^t≠0)):=by
 have hpp:=aj t;have h1:(n*2^t/k)/2^t=n/k:=by
  rw[dj,be k,←dj,iy _ hpp]
 refine⟨h1,?_⟩;have a1:=ct (n*2^t) k;have a2:=ct (n*2^t/k) (2^t);have a3:=ct n k;rw[h1]at a2;generalize n*2^t%k=r at *
 generalize hQ:n*2^t/k=Q at *
 generalize Q%2^t=u at *
 generalize n%k=w at *
 generalize n/k=q at *
 have e:k*u+r=w*2^t:=by
  have h2:(k*q+w)*2^t=k*(2^t*q+u)+r:=by rw[a3,a2,a1]
  rw[cm,bw,jo,bh k,←bh k]at h2;omega
 constructor
 ·intro hw;rcases br r with hr|hr
  ·right;intro hu;rw[hu,hr,fd]at e;have:=gz (show 0<w by omega) hpp;omega
  ·left;omega
 ·intro h hw;rw[hw,ff]at e;rcases h with h|h
  ·omega
  ·have:=gz hk (show 0<u by omega);omega
theorem rH{f m:Int}{neg:Bool}(hf:Fm f){n k:Nat}(hn:n≠0)(hk:0<k)(e:Int){s:Nat}(hs:s<=300)(h:n*2^s%k≠0->fP f+1<=Am (n*2^s/k)):
  Lv f m neg (n*2^s/k) (e-s) (decide (n*2^s%k≠0))=Gw f m neg n k e:=by
 obtain⟨t,ht⟩:∃t,s+t=300:=⟨300-s,by omega⟩
 have e300:n*2^300=n*2^s*2^t:=by rw[bh,←bj,ht]
 obtain⟨q1,q2⟩:=bBQ (n:=n*2^s) hk t;unfold Gw;rw[e300];by_cases hex:n*2^s%k=0
 ·have hq:n*2^s=k*(n*2^s/k):=by have:=ct (n*2^s) k;omega
  have hq0:n*2^s/k≠0:=fun h0=>by
   rw[h0,fd]at hq;exact kj hn (ky (aj s)) hq
  have h1:n*2^s*2^t/k=(n*2^s/k)*2^t:=by
   rw[hq,bh k,ib _ hk,ib _ hk]
  have h2:n*2^s*2^t%k=0:=by
   rw[hq,bh k,Nat.mul_mod_right]
  rw[h1,h2,hex];unfold Lv;rw[if_neg (by decide),if_neg (by decide),YT hf hq0];congr 1;omega
 ·have hb:=h hex;have:=bFA (f:=f) (m:=m) (neg:=neg) hf (R:=n*2^s*2^t/k) (k:=t) (E:=e-300) (more:=decide (n*2^s*2^t%k≠0)) (by rw[q1];exact hb);rw[←this,q1,show e-300+(t:Int)=e-s by omega];congr 1;rw[fi,dv,decide_eq_true_eq,decide_eq_true_eq,decide_eq_true_eq];exact q2
def gH(f m:Int)(a b:Nat):Int×Int×Int×Unit:=bif nan f a||nan f b then((Cz f:Int),(bif Bn f a||Bn f b then 1 else 0),0,())else bif(AB f a&&AB f b)||(Bk f a&&Bk f b)then((Cz f:Int),1,0,())else bif AB f a then((Dg f (!(sF f a==sF f b)):Int),0,0,())else bif Bk f b then((Dg f (!(sF f a==sF f b)):Int),2,0,())else bif AB f b||Bk f a then((BK f (!(sF f a==sF f b)):Int),0,0,())else(((Gw f m (!(sF f a==sF f b)) (Ao f a) (Ao f b) (Ar f a-Ar f b)).1:Int),((Gw f m (!(sF f a==sF f b)) (Ao f a) (Ao f b) (Ar f a-Ar f b)).2:Int),0,())
def T6(f m:Int)(a b:Nat):Int×Int×Int×Unit:=if ¬Fm f then(0,0,2,())else if m<0∨m>5 then(0,0,3,())else if Ak f a≠0 then(0,0,Ak f a,())else if Ak f b≠0 then(0,0,Ak f b,())else gH f m a b
end VL
namespace VL
open Go Vx
def Bc(c:Int)(n:Nat)(e:Int):Prop:=c<=e/\e<=6000/\n*2^(e-c).toNat<2^5000
theorem Bc.lt{c:Int}{n:Nat}{e:Int}(h:Bc c n e):n<2^5000:=by
 have:=gf n (aj (e-c).toNat);exact bl this h.2.2
theorem Bc.od{c:Int}(hc:-4000<=c/\c<=0){n:Nat}{e:Int}(s:Bool)(h:Bc c n e):Bc c (VL.od s n e).2.1 (VL.od s n e).2.2:=by
 rcases VS s n e with⟨hz,_⟩|⟨_,h2,h3,h4,h5⟩
 ·rw[hz];exact⟨hc.2,by dsimp only;omega,by dsimp only;rw[ff];exact aj _⟩
 ·have hle:2^(tz n+(e-c).toNat)<=n*2^(e-c).toNat:=by
   rw[bj];refine bc _ ?_;have:=gf (2^tz n) (show 0<(VL.od s n e).2.1 by omega);omega
  have hlt:=(cu (a:=2) (by decide)).1 (bl hle h.2.2);have hq:=hc.2;have h1:=h.1;refine⟨by omega,by omega,?_⟩;have e1:(VL.od s n e).2.1*2^((VL.od s n e).2.2-c).toNat=n*2^(e-c).toNat:=by
   rw[h5,show(e+(tz n:Int)-c).toNat=tz n+(e-c).toNat by omega,bj,←bh,be _ (2^tz n),←h4]
  rw[e1];exact h.2.2
end VL
namespace VL
open Go Vx
structure Beside (f:Int) (R d:Nat) (more:Bool) (B:Nat) (inex:Bool) (r:Int->Nat×Nat):Prop where
 CC:B+1<Ct f
 pos:B≠0
 low:pv f B*2^d<=R
 high:R<pv f (B+1)*2^d
 ex:inex=(more||decide (pv f B*2^d≠R))
 any:∀m,0<=m/\m<=5->((r m).1=B∨(inex=true/\(r m).1=B+1))/\(r m).2=(bif inex then 16 else 0)
 down:(r 4).1=B
 up:(r 3).1=B+(bif inex then 1 else 0)
end VL
namespace VL
open Go Vx
theorem aVO{f:Int}(hf:Fm f)(l:List Nat)(hl:∀a∈l,a<2^64)(hlen:l.length<1000):
  oR (((l.length:Int),(Wd l,(f,((0:Int),())))),())=some (bif OX f l then .inl ((),())else .inr (((4:Int),()),())):=by
 have key:=CD (aN3 Aq.pre Aq.F Au.pre Au.F) (fun x=>l.length-x.1.2.2.2.1.toNat)
  (fun x=>∃i:Nat,i<=l.length/\OX f (l.take i)=true/\x=(((l.length:Int),(Wd l,(f,((i:Int),())))),()))
  (fun _=>bif OX f l then .inl ((),())else .inr (((4:Int),()),())) ?_ _ ⟨0,dq _,rfl,rfl⟩
 ·exact key
 intro L x hx hL;obtain⟨i,hi,hok,rfl⟩:=hx;unfold Yj;rcases ax i l.length with hlt|hge
 ·have hg:l.getD i 0=l[i]:=by simp[ak,hlt]
  have hmem:l[i]∈l:=ja hlt;have ha:=hl _ hmem;have p0:=KN f l[i] ha;have e0:decide ((i:Int)<(l.length:Int))=true:=decide_eq_true (by omega);have e1:(decide ((0:Int)<=(i:Int))&&decide ((i:Int)<((Wd l).length:Int)))=true:=by rw[Ay,decide_eq_true (by omega),decide_eq_true (by omega)];rfl
  have e2:(Wd l).getD (af (i:Int)) 0=((l[i]:Nat):Int):=by rw[ab,BH,hg]
  have e3:aa .i64 ((i:Int)+1)=((i+1:Nat):Int):=by rw[At (by omega)];omega
  have htk:l.take (i+1)=l.take i++[l[i]]:=by rw[jq hlt]
  dsimp only;simp only[e0,e1,e2,e3,cond_true,Jb p0,I2 p0];by_cases hc:Ak f l[i]=0
  ·rw[hc,bne_self_eq_false,cond_false];refine hL _ ⟨i+1,by omega,?_,rfl⟩ (by simp only[ab];omega);unfold OX at hok⊢;rw[htk,List.all_append,hok,mu,hc];rfl
  ·have h4:Ak f l[i]=4:=(aB4 hf _).resolve_left hc;have hno:OX f l=false:=by
    unfold OX;rw[List.all_eq_false];exact⟨l[i],hmem,by rw[h4];decide⟩
   rw[h4,hno];rfl
 ·have e:i=l.length:=by omega
  subst e;rw[dp]at hok;have e0:decide ((l.length:Int)<(l.length:Int))=false:=decide_eq_false (by omega);simp only[e0,cond_false];rw[hok];rfl
theorem aUZ(f m:Int)(l:List Nat)(hl:∀a∈l,a<2^64)(hlen:l.length<1000):WS (f,m,Wd l,())=some (Fj f m l,()):=by
 show v4 Aq.pre Aq.F Au.pre Au.F oR f m (Wd l)=_;unfold v4 Fj;by_cases hf:Fm f
 ·have p0:=IF hf;rw[if_neg (show ¬¬Fm f from fun h=>h hf)];simp only[CT p0,CQ p0,cond_true,bne_self_eq_false,cond_false];by_cases hm:m<0∨m>5
  ·rw[if_pos hm];have:(decide (m<0)||decide (m>5))=true:=by rcases hm with h|h<;>simp[h]
   rw[this,cond_true]
  ·rw[if_neg hm];have:(decide (m<0)||decide (m>5))=false:=by
    rw[decide_eq_false (by omega),decide_eq_false (by omega)];rfl
   rw[this,cond_false,Ay,aVO hf l hl hlen];cases OX f l<;>rfl
 ·have p0:=KO hf;rw[if_pos hf];simp only[CT p0,CQ p0,cond_true];rfl
theorem aGs{f:Int}{a:Nat}(h:Ak f a=0):cA (f,(a:Int),())=some ((nan f a,Bn f a,AB f a,Bk f a,sF f a,()),()):=by
 show v5 Bv.pre Bv.F Cg.pre Cg.F f a=_;unfold v5;obtain⟨hf,_⟩:=Gv h;have p0:=nY (VU h) h;have p1:=aAm h;simp only[Uu p0,Ui p0,aDC p1,aCJ p1,cond_true];rw[rA,rB,qg (Ch f a==9),aB7,qg (Ch f a==6),aLQ hf]
theorem aGt{f:Int}(hf:Fm f)(x:Int):cB (f,x,())=some ((Cz f:Int),x,0,()):=by
 show v6 Bs.pre Bs.F f x=_;unfold v6;have p0:=aAf hf;simp only[aDx p0,aCE p0,cond_true]
theorem aXx(N:Nat){k:Nat}(hk:0<k):(k<=2*(N%k)->2*N/k=2*(N/k)+1/\2*N%k=2*(N%k)-k)/\(2*(N%k)<k->2*N/k=2*(N/k)/\2*N%k=2*(N%k)):=by
 have h1:=ct N k;have h2:=ca N hk;generalize N/k=q at *
 generalize N%k=r at *
 constructor
 ·intro h;have e:2*N=k*(2*q+1)+(2*r-k):=by
   rw[bw,gq,fx k 2 q];omega
  rw[e,jw hk,jx,ci (by omega),bt (by omega)];exact⟨rfl,rfl⟩
 ·intro h;have e:2*N=k*(2*q)+2*r:=by
   rw[fx k 2 q];omega
  rw[e,jw hk,jx,ci (by omega),bt (by omega)];exact⟨rfl,rfl⟩
theorem bBN{n k D s:Nat}(hk0:0<k)(hk:k<2^64)(hn0:n≠0)(h:Am (n*2^s/k)<D):s<64+D/\n*2^s<2^(64+D):=by
 have h1:n*2^s/k<2^D:=al (Hj _) (ai (by decide) (by omega));have h2:n*2^s<2^D*k:=(bv hk0).1 h1;have h3:2^D*k<=2^D*2^64:=cp _ (by omega);rw[←bj]at h3;have h4:1*2^s<=n*2^s:=bc _ (by omega);rw[fw]at h4;have h5:2^s<2^(D+64):=by omega
 have h6:=(cu (a:=2) (by decide)).1 h5;rw[io 64 D];exact⟨h6,by omega⟩
theorem aVP{n k D s0:Nat}(hk0:0<k)(hk:k<2^64)(hn0:n≠0)(hn:n<2^64)(hD:D<=100)(hs0:s0<=64):
  ∃s:Nat,s<=64+D/\(n*2^s%k≠0->D<=Am (n*2^s/k)) /\
   oS (((D:Int),(Dw k,(Dw (n*2^s0%k),((),((),()))))),((false,([],((0:Int),(false,())))),((false,(Dw (n*2^s0/k),(-(s0:Int),(false,())))),()))) =
    some (.inl ((Dw (n*2^s%k),((),((),()))),((false,([],((0:Int),(false,())))),((false,(Dw (n*2^s/k),(-(s:Int),(false,())))),())))):=by
 have key:=OT (aN4 DU.pre DU.F EQ.pre EQ.F Cf.pre Cf.F B1.pre B1.F DT.pre DT.F Db.pre Db.F) (fun x=>(300+x.2.2.1.2.2.1).toNat)
  (fun x=>∃s:Nat,s<=64+D/\x=(((D:Int),(Dw k,(Dw (n*2^s%k),((),((),()))))),((false,([],((0:Int),(false,())))),((false,(Dw (n*2^s/k),(-(s:Int),(false,())))),()))))
  (fun y=>∃s:Nat,s<=64+D/\(n*2^s%k≠0->D<=Am (n*2^s/k))/\y=.inl ((Dw (n*2^s%k),((),((),()))),((false,([],((0:Int),(false,())))),((false,(Dw (n*2^s/k),(-(s:Int),(false,())))),())))) ?_
  _ ⟨s0,by omega,rfl⟩
 ·obtain⟨y,hy,s,k1,k2,rfl⟩:=key;exact⟨s,k1,k2,hy⟩
 intro L x hx hL;obtain⟨s,hs,rfl⟩:=hx;unfold Yk;have hr:=ca (n*2^s) hk0;have hN:n*2^s<2^(64+(64+D)):=by
  rw[bj];exact al (cj hn (aj s)) (cp _ (ai (by decide) hs))
 have hq:n*2^s/k<2^(64+(64+D)):=bl (dw _ _) hN;have hqb:=IS hq (by omega);have hrb:=IS (fm hr hk) (by decide);have hkb:=IS hk (by decide);have p0:=US hqb;have e2s:2*(n*2^s)=n*2^(s+1):=by rw[dl];ac_rfl
 obtain⟨d1,d2⟩:=aXx (n*2^s) hk0;rw[e2s]at d1 d2;have hstop:=bBN (n:=n) (k:=k) (D:=D) (s:=s) hk0 hk hn0;have gen:=hL;dsimp only at gen⊢;generalize hQ:n*2^s/k=q at *
 generalize hR:n*2^s%k=r at *
 simp only[VW p0,VG p0,cond_true];by_cases hgo:Am q<D/\r≠0
 ·obtain⟨g1,g2⟩:=hgo;have hs1:=(hstop g1).1;rw[decide_eq_true (show(Am q:Int)<(D:Int) by omega),LB g2];have p1:=zV hqb hqb;have p2:=zV hrb hrb;have h65:r+r<2^65:=by
   have:(2:Nat)^65=2*2^64:=by decide
   omega
  have hrr:=IS h65 (by decide);have hqq:q+q<2^(65+(64+D)):=by
   have:(2:Nat)^(65+(64+D))=2*2^(64+(64+D)):=by rw[show 65+(64+D)=(64+(64+D))+1 by omega,dl,be]
   omega
  have p3:=zW hrr hkb;have ew:aa .i64 (-(s:Int)-1)=-((s+1:Nat):Int):=by rw[At (by omega)];omega
  simp only[av,cond_true,O0 p1,ON p1,O0 p2,ON p2,aDr p3,aCy p3,ew];have hμ:(300 + -((s+1:Nat):Int)).toNat<(300 + -(s:Int)).toNat:=by omega
  by_cases hge:k<=2*r
  ·obtain⟨f1,f2⟩:=d1 hge;have p4:=aUA hrr (show k<=r+r by omega);have p5:=zV (IS hqq (by omega)) (show 1<(2^64)^5000 from IS (k:=1) (by decide) (by decide));rw[aRO]at p5;have eg:decide ((if r+r=k then(0:Int)else if r+r<k then -1 else 1)>=0)=true:=by
    by_cases h:r+r=k
    ·rw[if_pos h];rfl
    ·rw[if_neg h,if_neg (by omega)];rfl
   rw[eg];simp only[cond_true,bA1 p4,aYr p4,O0 p5,ON p5];refine gen _ ⟨s+1,by omega,?_⟩ hμ;rw[f1,f2,show 2*q+1=q+q+1 by omega,show 2*r-k=r+r-k by omega]
  ·obtain⟨f1,f2⟩:=d2 (by omega);have eg:decide ((if r+r=k then(0:Int)else if r+r<k then -1 else 1)>=0)=false:=by
    rw[if_neg (by omega),if_pos (by omega)];rfl
   rw[eg];simp only[cond_false];refine gen _ ⟨s+1,by omega,?_⟩ hμ;rw[f1,f2,show 2*q=q+q by omega,show 2*r=r+r by omega]
 ·have e:(decide ((Am q:Int)<(D:Int))&&decide (((Dw r).length:Int)>0))=false:=by
   by_cases g1:Am q<D
   ·have g2:r=0:=jg.1 fun h=>hgo ⟨g1,h⟩;rw[g2,E9];exact ay _
   ·rw[decide_eq_false (show ¬(Am q:Int)<(D:Int) by omega),ao]
  rw[e,cond_false];refine⟨_,rfl,s,hs,?_,?_⟩
  ·intro h;rw[hR]at h;rw[hQ];by_cases g1:Am q<D
   ·exact absurd ⟨g1,h⟩ hgo
   ·omega
  ·rw[hQ,hR]
theorem aU0{n k D:Nat}(hk0:k≠0)(hk:k<2^64)(hn0:n≠0)(hn:n<2^64)(hD:D<=100):
  ∃s:Nat,s<=64+D/\(n*2^s%k≠0->D<=Am (n*2^s/k)) /\
   cC (Dw n,Dw k,(D:Int),())=some ((false,Dw (n*2^s/k),(-(s:Int)),decide (n*2^s%k≠0),()),()):=by
 have bk:=DY hk;have bn:=DY hn;have p0:=US (IS hk (by decide));have p1:=US (IS hn (by decide));obtain⟨s0,hs0,hsl⟩:∃s0:Nat,(if(Am k:Int)-(Am n:Int)-1>0 then(Am k:Int)-(Am n:Int)-1 else 0)=(s0:Int)/\s0<=64:=by
  by_cases h:(Am k:Int)-(Am n:Int)-1>0
  ·exact⟨Am k-Am n-1,by rw[if_pos h];omega,by omega⟩
  ·exact⟨0,by rw[if_neg h];rfl,by omega⟩
 obtain⟨s,k1,k2,k3⟩:=aVP (D:=D) (s0:=s0) (by omega) hk hn0 hn hD hsl;refine⟨s,k1,k2,?_⟩;show v7 DU.pre DU.F EQ.pre EQ.F Cf.pre Cf.F B1.pre B1.F DT.pre DT.F Db.pre Db.F oS (Dw n) (Dw k) D=_;unfold v7;have hN:n*2^s0<2^128:=by
  rw[show(128:Nat)=64+64 from rfl,bj];exact al (cj hn (aj s0)) (cp _ (ai (by decide) hsl))
 have hN':n*2^s0<(2^64)^1024:=al hN (by rw[←fq];exact ai (by decide) (by decide));have hk':k<(2^64)^1024:=al hk (by rw[←fq];exact ai (by decide) (by decide));have p2:=aF8 (dg (2^64) n) (DP (IS hn (by decide))) s0 (by omega) (by rw[CS];exact hN');rw[CS]at p2;have p2:UV (Dw n,(s0:Int),())=_:=p2;have p3:=aUX hN' hk' hk0;have w1:aa .i64 ((Am k:Int)-(Am n:Int))=(Am k:Int)-(Am n:Int):=At (by omega);have w2:aa .i64 ((Am k:Int)-(Am n:Int)-1)=(Am k:Int)-(Am n:Int)-1:=At (by omega);have w3:aa .i64 (0-(s0:Int))=-(s0:Int):=by rw[At (by omega)];omega
 simp only[VW p0,VG p0,VW p1,VG p1,cond_true,w1,w2,hs0,jC p2,gZ p2,bBi p3,aYI p3,w3,k3];show some _=_;congr 4;by_cases h:n*2^s%k=0
 ·rw[h,E9];rfl
 ·rw[LB h,decide_eq_true h]
theorem aFI{n:Nat}(hn:n<(2^64)^5000):WC (Dw n,())=some (Dw n,()):=by
 have p0:=aFJ (dg (2^64) n) (DP hn);rw[CS]at p0;exact p0
theorem aU1{f m:Int}(hf:Fm f)(hm:0<=m/\m<=5)(neg:Bool){n k:Nat}(hk0:k≠0)(hk:k<2^64)(hn0:n≠0)(hn:n<2^64){e:Int}(he:-40000<=e/\e<=40000):
  cD (f,m,neg,Dw n,Dw k,e,())=some (((Gw f m neg n k e).1:Int),((Gw f m neg n k e).2:Int),0,()):=by
 show v8 FH.pre FH.F Ce.pre Ce.F ID.pre ID.F Tj.pre Tj.F FI.pre FI.F f m neg (Dw n) (Dw k) e=_;unfold v8;have hP:=Et hf;have hP2:=Fk hf;have p0:=aFM hf hm;have p1:=aFI (IS hk (by decide));have p2:=aFI (IS hn (by decide));obtain⟨s,k1,k2,p3⟩:=aU0 (D:=fP f+3) hk0 hk hn0 hn (by omega);have hN:n*2^s<2^(64+s):=by
  rw[bj];exact cj hn (aj s)
 have hq:n*2^s/k<2^(64+s):=bl (dw _ _) hN;have p4:=aFO neg (n*2^s/k) (e-s) (decide (n*2^s%k≠0)) f m hf (aW8 hq (by omega)) (by omega);rw[aPs hf (fun h=>by have:=k2 (of_decide_eq_true h);omega),rH hf hn0 (by omega) e (by omega) (fun h=>by have:=k2 h;omega)]at p4;have r1:(Ck f).2.1=(fP f:Int):=rfl;have w1:aa .i64 ((fP f:Int)+3)=((fP f+3:Nat):Int):=by rw[At (by omega)];omega
 have w2:aa .i64 (-(s:Int)+e)=e-s:=by rw[At (by omega)];omega
 have l1:(Dw n).length=1:=by rw[lL hn0 hn];rfl
 have l2:(Dw k).length=1:=by rw[lL hk0 hk];rfl
 have w3:decide (aa .i64 (((1:Nat):Int)+((1:Nat):Int))>1024)=false:=by decide
 have w4:(decide (e<(-(40000:Int)))||decide (e>(40000:Int)))=false:=by rw[decide_eq_false (by omega),decide_eq_false (by omega)];rfl
 have w5:((((1:Nat):Int))==(0:Int))=false:=by decide
 simp only[aOL p0,aMG p0,bne_self_eq_false,cond_true,cond_false,aDo p1,aCv p1,aDo p2,aCv p2,l1,l2,w3,w4,w5,r1,w1,bBl p3,aYL p3,w2,aOM p4,aMH p4]
theorem aXF{f m:Int}{neg:Bool}(hf:Fm f){n k t u:Nat}(hn0:n≠0)(hk0:k≠0)(hn:n*2^t<2^53)(hk:k*2^u<2^53)(e:Int):
  Gw f m neg (n*2^t) (k*2^u) e=Gw f m neg n k (e+t-u):=by
 have hP:=Fk hf;have ht:t<53:=by
  have:1*2^t<=n*2^t:=bc _ (by omega);exact(cu (a:=2) (by decide)).1 (by omega)
 have hu:u<53:=by
  have:1*2^u<=k*2^u:=bc _ (by omega);exact(cu (a:=2) (by decide)).1 (by omega)
 obtain⟨s,hs⟩:∃s,s+u=120+t:=⟨120+t-u,by omega⟩
 have hk1:0<k:=by omega
 have hup:=aj u;have e1:n*2^t*2^120=n*2^s*2^u:=by
  rw[bh,bh,←bj,←bj,hs,io]
 have hbig:fP f+1<=Am (n*2^s/k):=by
  apply T3;rw[ir hk1];have h1:2^fP f*(k*2^u)<=2^53*2^53:=gw (ai (by decide) hP) (by omega);have h2:1*2^(120+t)<=n*2^(120+t):=bc _ (by omega);have h3:(2:Nat)^53*2^53<=2^(120+t):=by rw[←bj];exact ai (by decide) (by omega)
  have h4:2^fP f*k*2^u<=n*2^s*2^u:=by
   rw[bh,bh n,←bj,hs];omega
  exact Nat.le_of_mul_le_mul_right h4 hup
 have a1:=rH (f:=f) (m:=m) (neg:=neg) hf (n:=n*2^t) (k:=k*2^u) (kj hn0 (ky (aj t))) (gz hk1 hup) e (s:=120) (by decide)
  (by rw[e1,kl _ _ hup];exact fun _=>hbig)
 have a2:=rH (f:=f) (m:=m) (neg:=neg) hf hn0 hk1 (e+t-u) (s:=s) (by omega) (fun _=>hbig);rw[←a1,←a2,e1,kl _ _ hup,fj,show e-((120:Nat):Int)=e+(t:Int)-(u:Int)-(s:Int) by omega];congr 1;rw[fi,decide_eq_true_eq,decide_eq_true_eq];constructor
 ·intro h hc;rw[hc,ff]at h;exact h rfl
 ·intro h;exact kj h (by omega)
theorem aXE{f m:Int}{neg:Bool}(hf:Fm f)(s s':Bool){n k:Nat}(hn0:n≠0)(hk0:k≠0)(hn:n<2^53)(hk:k<2^53)(x y:Int):
  Gw f m neg (od s n x).2.1 (od s' k y).2.1 ((od s n x).2.2-(od s' k y).2.2)=Gw f m neg n k (x-y):=by
 rcases VS s n x with⟨_,h⟩|⟨_,h2,_,h4,h5⟩
 ·exact absurd h hn0
 rcases VS s' k y with⟨_,h⟩|⟨_,g2,_,g4,g5⟩
 ·exact absurd h hk0
 generalize(od s n x).2.1=n1 at *
 generalize(od s' k y).2.1=k1 at *
 rw[h5,g5];rw[be]at h4 g4;have:=aXF (f:=f) (m:=m) (neg:=neg) hf (n:=n1) (k:=k1) (t:=tz n) (u:=tz k) (by omega) (by omega) (by rw[←h4];exact hn) (by rw[←g4];exact hk) (x-y);rw[←h4,←g4]at this;rw[this];congr 1;omega
theorem tS{f:Int}{a:Nat}(h:Bn f a=true):nan f a=true:=by
 cases hn:nan f a
 ·rw[aDW hn]at h;exact absurd h (by decide)
 ·rfl
theorem aCj{f:Int}{a:Nat}(h1:nan f a=false)(h2:AB f a=false):eF f a≠BO f:=fun he=>by
 unfold nan at h1
 unfold AB at h2
 rw[he]at h1 h2
 simp at h1 h2
 exact h2 h1
theorem aU2(f m:Int){a b:Nat}(ha:a<2^64)(hb:b<2^64):cE (f,m,(a:Int),(b:Int),())=some (T6 f m a b):=by
 show v9 Tg.pre Tg.F Th.pre Th.F Ti.pre Ti.F CM.pre CM.F B0.pre B0.F DB.pre DB.F Tk.pre Tk.F f m a b=_;unfold v9 T6;have p0:=aUZ f m [a,b] (fun c hc=>by
  rcases cy.1 hc with rfl|hc
  ·exact ha
  ·rw[kb]at hc;omega) (show(2:Nat)<1000 by decide)
 have p0:WS (f,m,((a:Int)::((b:Int)::[])),())=_:=p0;simp only[bBk p0,aYK p0,cond_true];clear p0;unfold Fj;by_cases hf:¬Fm f
 ·rw[if_pos hf,if_pos hf];rfl
 have hf:=jg.1 hf;rw[if_neg (show ¬¬Fm f from fun h=>h hf),if_neg (show ¬¬Fm f from fun h=>h hf)];by_cases hm:m<0∨m>5
 ·rw[if_pos hm,if_pos hm];rfl
 rw[if_neg hm,if_neg hm];have hm':0<=m/\m<=5:=by omega
 have ho:OX f [a,b]=(Ak f a==0&&(Ak f b==0&&true)):=rfl;rw[ho];by_cases hca:Ak f a≠0
 ·have h4:=(aB4 hf a).resolve_left hca;rw[if_pos hca,h4];rfl
 have hca:=jg.1 hca;rw[if_neg (fun h=>h hca),hca];by_cases hcb:Ak f b≠0
 ·have h4:=(aB4 hf b).resolve_left hcb;rw[if_pos hcb,h4];rfl
 have hcb:=jg.1 hcb;rw[if_neg (fun h=>h hcb),hcb];have e0:((bif((0:Int)==0&&((0:Int)==0&&true))then(0:Int)else 4)!=0)=false:=rfl;rw[e0,cond_false];have p1:=aGs hca;have p2:=aGs hcb;have p3:=aGt hf 0;have p4:=aGt hf 1;have p5:=aAl hf (!(sF f a==sF f b));have p6:=aK hf (!(sF f a==sF f b));have ma:=Li hf a;have mb:=Li hf b;have xa:=Lz hf a;have xb:=Lz hf b;simp only[aO2 p1,aMX p1,aO2 p2,aMX p2,cond_true,aO3 p3,aMY p3,aO3 p4,aMY p4,aDB p5,aCI p5,i9 p6,gW p6];unfold gH;cases sa:Bn f a
 ·cases sb:Bn f b
  ·simp only[bb,cond_false];cases na:nan f a
   ·cases nb:nan f b
    ·simp only[bb,cond_false];cases hi:AB f a&&AB f b||Bk f a&&Bk f b
     ·simp only[cond_false];cases ia:AB f a
      ·simp only[cond_false];cases zb:Bk f b
       ·simp only[cond_false];cases iz:AB f b||Bk f a
        ·simp only[cond_false];rw[ii]at iz;have q1:=aGN hca (aCj na ia);have q2:=aGN hcb (aCj nb iz.1);have mza:=Pb iz.2;have mzb:=Pb zb;obtain⟨o1,o2,o3⟩:=aOt (sF f a) (n:=Ao f a) (Ar f a) ma xa;obtain⟨o4,o5,o6⟩:=aOt (sF f b) (n:=Ao f b) (Ar f b) mb xb;have n1:(od (sF f a) (Ao f a) (Ar f a)).2.1≠0:=by
          rcases VS (sF f a) (Ao f a) (Ar f a)with⟨_,h⟩|⟨_,h2,_,_,_⟩
          ·exact absurd h mza
          ·omega
         have n2:(od (sF f b) (Ao f b) (Ar f b)).2.1≠0:=by
          rcases VS (sF f b) (Ao f b) (Ar f b)with⟨_,h⟩|⟨_,h2,_,_,_⟩
          ·exact absurd h mzb
          ·omega
         have q3:=aU1 hf hm' (!(sF f a==sF f b)) (n:=(od (sF f a) (Ao f a) (Ar f a)).2.1) (k:=(od (sF f b) (Ao f b) (Ar f b)).2.1) n2 (by omega) n1 (by omega) (e:=(od (sF f a) (Ao f a) (Ar f a)).2.2-(od (sF f b) (Ao f b) (Ar f b)).2.2) (by omega);rw[aXE hf _ _ mza mzb ma mb]at q3;have w1:aa .i64 ((od (sF f a) (Ao f a) (Ar f a)).2.2-(od (sF f b) (Ao f b) (Ar f b)).2.2)=(od (sF f a) (Ao f a) (Ar f a)).2.2-(od (sF f b) (Ao f b) (Ar f b)).2.2:=At (by omega);have d1:∀t:Bool×Nat×Int,(XD t).2.1=Dw t.2.1:=fun _=>rfl;have d2:∀t:Bool×Nat×Int,(XD t).2.2.1=t.2.2:=fun _=>rfl;simp only[aO4 q1,aMZ q1,aO4 q2,aMZ q2,cond_true,d1,d2,w1,bBm q3,aYM q3]
        ·rfl
       ·rfl
      ·rfl
     ·rfl
    ·rfl
   ·cases nb:nan f b<;>rfl
  ·have nb:=tS sb;rw[nb,ba,ba];rfl
 ·have na:=tS sa;rw[na];rfl
end VL
namespace VL
open Go Vx
theorem aCS{w:Int}(hw:Fm w)(s:Bool):Ak w (Dg w s)=0/\nan w (Dg w s)=false/\AB w (Dg w s)=true/\Bk w (Dg w s)=false/\sF w (Dg w s)=s:=by
 rcases Cm hw with rfl|rfl|rfl|rfl<;>cases s<;>decide +kernel
theorem aRI{w:Int}(hw:Fm w)(s:Bool):Ak w (BK w s)=0/\nan w (BK w s)=false/\AB w (BK w s)=false/\Bk w (BK w s)=true/\sF w (BK w s)=s/\Ao w (BK w s)=0:=by
 rcases Cm hw with rfl|rfl|rfl|rfl<;>cases s<;>decide +kernel
def same(f w:Int)(a x:Nat):Prop:=Ak f a=0/\Ak w x=0/\nan w x=nan f a/\AB w x=AB f a/\Bk w x=Bk f a/\(nan f a=false->sF w x=sF f a)/\(nan f a=false->AB f a=false->VV w x=VV f a)
end VL
namespace VL
open Go Vx
theorem aDM{w:Int}(hw:Fm w)(m:Int)(s:Bool)(N:Nat)(E:Int):Ak w (Bj w m s N E false).1=0:=by
 rw[YS hw];have h1:=tK hw m s N E;have h2:=aNk hw;exact aC6 hw s (by omega)
end VL
namespace VL
open Go Vx
def aZk(f m:Int)(a:Nat)(tell:Bool):Int×Int×Int×Unit:=if Fj f m [a]≠0 then(0,0,Fj f m [a],())else bif nan f a then((Cz f:Int),(bif Bn f a then 1 else 0),0,())else bif AB f a||Bk f a||decide (0<=Ar f a)then((a:Int),0,0,())else((if BI m (sF f a) (Ao f a) (Ar f a) 0 false=0 then(BK f (sF f a):Int)else((Bj f m (sF f a) (BI m (sF f a) (Ao f a) (Ar f a) 0 false) 0 false).1:Int)),(bif decide (Ds (Ao f a) (Ar f a) 0 false≠0)&&tell then 16 else 0),0,())
def sI(k:Int):Nat:=if k=0 then 2^31-1 else if k=1 then 2^63-1 else if k=2 then 2^32-1 else 2^64-1
def f8(k:Int):Nat:=if k=0 then 2^31 else if k=1 then 2^63 else 0
def aC9(x:Nat):Nat:=(2^64-x)%2^64
def aNo(k:Int)(neg:Bool)(u:Nat)(other:Bool):Int×Int×Int×Unit:=bif neg then(if u>f8 k then((aC9 (f8 k):Int),1,0,())else((aC9 u:Int),(bif other then 16 else 0),0,()))else(if u>sI k then((sI k:Int),1,0,())else((u:Int),(bif other then 16 else 0),0,()))
def bHe(f m k:Int)(a:Nat):Int×Int×Int×Unit:=if Fj f m []≠0 then(0,0,Fj f m [],())else if k<0∨k>3 then(0,0,9,())else if Ak f a≠0 then(0,0,Ak f a,())else bif nan f a||(AB f a&&!sF f a)then((sI k:Int),1,0,())else bif AB f a then((aC9 (f8 k):Int),1,0,())else if Ar f a<0 then aNo k (sF f a) (BI m (sF f a) (Ao f a) (Ar f a) 0 false) (decide (Ds (Ao f a) (Ar f a) 0 false≠0))else aNo k (sF f a) (Ao f a*2^(Ar f a).toNat) false
def aYf(f m k:Int)(x:Nat):Int×Int×Int×Unit:=
 if Fj f m []≠0 then(0,0,Fj f m [],())
 else if k<0∨k>3 then(0,0,9,())
 else
  let neg:=decide (0<f8 k)&&decide (2^63<=x)
  let n:=bif neg then 2^64-x else x
  if n>(bif neg then f8 k else sI k)then(0,0,7,())
  else if n=0 then(0,0,0,())else(((Bj f m neg n 0 false).1:Int),((Bj f m neg n 0 false).2:Int),0,())
end VL
namespace VL
open Go Vx
def fv(f:Int)(a:Nat):Int:=bif nan f a||AB f a then 0 else vA f a
def aZl(f:Int)(a b:Nat):Bool:=(AB f a&&Bk f b)||(AB f b&&Bk f a)
def pv2(f:Int)(a b:Nat):Int:=bif AB f a||AB f b then 0 else fv f a*fv f b
def bG0(f m c:Int)(s t:Bool)(S T:Int):Int×Int×Int×Unit:=if S+T=0 then((BK f (bif(S==0&&T==0)&&(s==t)then s else m==4):Int),0,0,())else(((Bj f m (decide (S+T<0)) (S+T).natAbs c false).1:Int),((Bj f m (decide (S+T<0)) (S+T).natAbs c false).2:Int),0,())
def aX6(f m:Int)(a b c:Nat):Int×Int×Int×Unit:=bif(Bn f a||Bn f b||Bn f c)||(!(nan f a||nan f b)&&aZl f a b)then((Cz f:Int),1,0,())else bif nan f a||nan f b||nan f c then((Cz f:Int),0,0,())else bif((AB f a||AB f b)&&AB f c)&&!((!(sF f a==sF f b))==sF f c)then((Cz f:Int),1,0,())else bif AB f a||AB f b then((Dg f (!(sF f a==sF f b)):Int),0,0,())else bif AB f c then((Dg f (sF f c):Int),0,0,())else bG0 f m (qm f+qm f) (!(sF f a==sF f b)) (sF f c) (pv2 f a b) (fv f c*(2^(qm f-(qm f+qm f)).toNat:Nat))
def aX5(f m:Int)(a b c:Nat):Int×Int×Int×Unit:=if Fj f m [a,b,c]≠0 then(0,0,Fj f m [a,b,c],())else aX6 f m a b c
end VL
namespace VL
open Go Vx
def tJ(f:Int)(a b:Nat):Int×Int×Bool×Int×Unit:=if Fj f 0 [a,b]≠0 then(0,0,true,Fj f 0 [a,b],())else bif Bn f a||Bn f b then((Cz f:Int),1,true,0,())else bif nan f a||nan f b then((Cz f:Int),0,true,0,())else bif AB f a||Bk f b then((Cz f:Int),1,true,0,())else bif AB f b||Bk f a then((a:Int),0,true,0,())else(0,0,false,0,())
def wA(X:Nat)(ex ey:Int):Nat:=X*2^(ex-min ex ey).toNat
def wB(Y:Nat)(ex ey:Int):Nat:=Y*2^(ey-min ex ey).toNat
def bFq(A B:Nat)(Yz:Bool):Bool×Nat×Nat:=if(Yz&&(decide (2*(A%B)>B)||(decide (2*(A%B)=B)&&decide (A/B%2=1))))=true then(true,B-A%B,A/B+1)else(false,A%B,A/B)
def bFr(f:Int)(a b:Nat)(Yz:Bool):Int×Int×Int×Int×Unit:=let e:=min (Ar f a) (Ar f b);let t:=bFq (wA (Ao f a) (Ar f a) (Ar f b)) (wB (Ao f b) (Ar f a) (Ar f b)) Yz;((if t.2.1=0 then(BK f (sF f a):Int)else((Bj f 2 (bif t.1 then !sF f a else sF f a) t.2.1 e false).1:Int)),((t.2.2%8:Nat):Int),0,0,())
def tI(f:Int)(a b:Nat)(Yz:Bool):Int×Int×Int×Int×Unit:=bif(tJ f a b).2.2.1 then((tJ f a b).1,0,(tJ f a b).2.1,(tJ f a b).2.2.2.1,())else bFr f a b Yz
end VL
namespace VL
open Go Vx
def aLR(f w m:Int)(a:Nat):Int:=if ¬(Fm f/\Fm w)then 2 else if m<0∨m>5 then 3 else Ak f a
def aXq(f w m:Int)(a:Nat):Int×Int×Int×Unit:=if aLR f w m a≠0 then(0,0,aLR f w m a,())else bif nan f a then((Cz w:Int),(bif Bn f a then 1 else 0),0,())else bif AB f a then((Dg w (sF f a):Int),0,0,())else bif Bk f a then((BK w (sF f a):Int),0,0,())else(((Bj w m (sF f a) (Ao f a) (Ar f a) false).1:Int),((Bj w m (sF f a) (Ao f a) (Ar f a) false).2:Int),0,())
def aLS(f:Int)(a b:Nat):Int×Int×Unit:=if Ak f a≠0 then(0,Ak f a,())else if Ak f b≠0 then(0,Ak f b,())else((DK f (sF f b) (Ou f a):Int),0,())
end VL
namespace VL
open Go Vx
def aXn(f:Int)(a:Nat):Int×Int×Int×Unit:=if Ak f a=0 then(aa .u64 (Ch f a),0,0,())else(0,0,Ak f a,())
def aZ2(f:Int)(a:Nat):Int×Int×Int×Unit:=if Ak f a=0 then((I7 f a:Int),0,0,())else(0,0,Ak f a,())
def aWQ(f:Int)(a:Nat):Int×Int×Int×Unit:=((KE.F (f,(a:Int),())).1,0,(KE.F (f,(a:Int),())).2.1,())
def D5(m op f:Int)(a b c:Nat):Int×Int×Int×Unit:=if op=1 then Ov f m a b else if op=2 then UA f m a b else if op=3 then Un f m a b else if op=4 then T6 f m a b else if op=5 then bGM f m a else if op=6 then aX5 f m a b c else if op=7 then((tI f a b true).1,(tI f a b true).2.2)else if op=8 then((tI f a b false).1,(tI f a b false).2.2)else if op=9 then aZk f m a true else if op=10 then aXq f (aa .i64 (c:Int)) m a else if op=11 then bHe f m (aa .i64 (c:Int)) a else if op=12 then aYf f m (aa .i64 (c:Int)) a else if op=13 then aOJ f a b false else if op=14 then aOJ f a b true else if op=15 then(aa .u64 (rC f a b false).1,(rC f a b false).2)else if op=16 then(aa .u64 (rC f a b true).1,(rC f a b true).2)else if op=17 then bGS f a 1 else if op=18 then bGC f m a (aa .i64 (b:Int))else if op=19 then aXn f a else if op=20 then aZ2 f a else if op=21 then aWQ f a else if op=22 then((aLS f a b).1,0,(aLS f a b).2)else(0,0,0,())
abbrev yB:=Ab (.pair (.int .i64) (.pair (.int .i64) (.pair (.int .u64) (.pair (.int .u64) (.pair (.int .u64) .unit)))))
def UD(w:Option (Nat×List Nat))(k:yB)(y:DenS Ee):Prop:=KC.pre w (k,())=true/\KC.F w (k,())=y
theorem rJ{w:Option (Nat×List Nat)}{k:yB}{y:DenS Ee}{p:Bool}{v:DenS Ee}(h1:KC.pre w (k,())=p)(h2:KC.F w (k,())=v)(h3:p=true)(h4:v=y):UD w k y:=⟨h1.trans h3,h2.trans h4⟩
theorem Ux{op:Int}(h1:1<=op)(h2:op<=22){n:Int}{w:Option (Nat×List Nat)}(h:(Gm.F ()).1.getD op.toNat ((0:Int),none,())=(n,w,())):NE (op,())=some ((n,w,()),0,()):=by
 show YZ Gm.pre Gm.F op=_;unfold YZ;have hp:Gm.pre ()=true:=by kernel_rfl
 have hl:(Gm.F ()).1.length=23:=by kernel_rfl
 rw[hp,hl,h,decide_eq_false (show ¬op<1 by omega),decide_eq_false (show ¬op>=((23:Nat):Int) by omega),decide_eq_true (show(0:Int)<=op by omega),decide_eq_true (show op<((23:Nat):Int) by omega)];rfl
theorem bFE{op:Int}(h:op<1∨op>22):NE (op,())=some (((0:Int),none,()),190,()):=by
 show YZ Gm.pre Gm.F op=_;unfold YZ;have hp:Gm.pre ()=true:=by kernel_rfl
 have hl:(Gm.F ()).1.length=23:=by kernel_rfl
 have:(decide (op<1)||decide (op>=((23:Nat):Int)))=true:=by rw[dv,decide_eq_true_eq,decide_eq_true_eq];omega
 rw[hp,hl,this];rfl
theorem xY{g:Nat}{k:yB}{p:Bool}{y:DenS Mv}(h1:SW.pre (some (g,[])) (k.2.1,k.1,k.2.2.1,k.2.2.2.1,())=p)(h2:SW.F (some (g,[])) (k.2.1,k.1,k.2.2.1,k.2.2.2.1,())=y)(h3:p=true):cF (k,g,())=some y:=by
 show wC SW.pre SW.F k g=_;unfold wC;dsimp only;rw[h1,h2,h3];rfl
theorem bHn(m f:Int){a b:Nat}(ha:a<2^64)(hb:b<2^64)(c:Int):
  UD (some (192,[158+2])) (m,f,(a:Int),(b:Int),c,()) (Ov f m a b)/\UD (some (192,[159+2])) (m,f,(a:Int),(b:Int),c,()) (UA f m a b) /\
  UD (some (192,[160+2])) (m,f,(a:Int),(b:Int),c,()) (Un f m a b)/\UD (some (192,[161+2])) (m,f,(a:Int),(b:Int),c,()) (T6 f m a b):=by
 have p1:=zZ f m ha hb;have p2:=aUP f m ha hb;have p3:=aUY f m ha hb;have p4:=aU2 f m ha hb;have q1:=xY (g:=158) (k:=(m,f,(a:Int),(b:Int),c,())) (p:=FK.pre (f,m,(a:Int),(b:Int),())) (y:=FK.F (f,m,(a:Int),(b:Int),())) (by kernel_rfl) (by kernel_rfl) (aDv p1);have q2:=xY (g:=159) (k:=(m,f,(a:Int),(b:Int),c,())) (p:=Nx.pre (f,m,(a:Int),(b:Int),())) (y:=Nx.F (f,m,(a:Int),(b:Int),())) (by kernel_rfl) (by kernel_rfl) (bBa p2);have q3:=xY (g:=160) (k:=(m,f,(a:Int),(b:Int),c,())) (p:=Ny.pre (f,m,(a:Int),(b:Int),())) (y:=Ny.F (f,m,(a:Int),(b:Int),())) (by kernel_rfl) (by kernel_rfl) (bBj p3);have q4:=xY (g:=161) (k:=(m,f,(a:Int),(b:Int),c,())) (p:=Nz.pre (f,m,(a:Int),(b:Int),())) (y:=Nz.F (f,m,(a:Int),(b:Int),())) (by kernel_rfl) (by kernel_rfl) (bBn p4);rw[aCC p1]at q1;rw[aYA p2]at q2;rw[aYJ p3]at q3;rw[aYN p4]at q4;exact⟨rJ (p:=Dc.pre ((m,f,(a:Int),(b:Int),c,()),158,())) (v:=Dc.F ((m,f,(a:Int),(b:Int),c,()),158,())) (by kernel_rfl) (by kernel_rfl) (sZ q1) (r7 q1),
  rJ (p:=Dc.pre ((m,f,(a:Int),(b:Int),c,()),159,())) (v:=Dc.F ((m,f,(a:Int),(b:Int),c,()),159,())) (by kernel_rfl) (by kernel_rfl) (sZ q2) (r7 q2),
  rJ (p:=Dc.pre ((m,f,(a:Int),(b:Int),c,()),160,())) (v:=Dc.F ((m,f,(a:Int),(b:Int),c,()),160,())) (by kernel_rfl) (by kernel_rfl) (sZ q3) (r7 q3),
  rJ (p:=Dc.pre ((m,f,(a:Int),(b:Int),c,()),161,())) (v:=Dc.F ((m,f,(a:Int),(b:Int),c,()),161,())) (by kernel_rfl) (by kernel_rfl) (sZ q4) (r7 q4)⟩
end VL
namespace VL
open Go Vx
def CY(x:Int):Bool:=fY .i64 x 31==0
def Lh(v:Int×Int×Int×Unit):Int:=if v.1<0∨v.1>5 then 3 else if(CY v.2.1&&CY v.2.2.1)=true then 0 else 7
theorem aG7(x:Int):WT (x,())=some (CY x,()):=rfl
theorem aU3(v:Int×Int×Int×Unit):WU (v,())=some (Lh v,()):=by
 show wE Tp.pre Tp.F v=_;unfold wE Lh;have p:=aG7 v.2.1;have q:WT v.2.2=some (CY v.2.2.1,()):=aG7 v.2.2.1;rw[aO5 p,aM0 p,aO5 q,aM0 q];by_cases h:v.1<0∨v.1>5
 ·have:(decide (v.1<0)||decide (v.1>5))=true:=by rw[dv,decide_eq_true_eq,decide_eq_true_eq];exact h
  rw[this,if_pos h];rfl
 ·have:(decide (v.1<0)||decide (v.1>5))=false:=by
   rw[decide_eq_false (show ¬v.1<0 by omega),decide_eq_false (show ¬v.1>5 by omega)];rfl
  rw[this,if_neg h];cases CY v.2.1<;>cases CY v.2.2.1<;>rfl
def Gu(f:Int):List Nat->Int
 | []=>0
 |a::l=>if Ak f a≠0 then Ak f a else Gu f l
abbrev R5:=Int×Int×Int×Int×Int×Unit
theorem aVQ(R:R5)(op:Int)(l:List Nat)(hl:∀a∈l,a<2^64)(hlen:l.length<1000):
  oT (((l.length:Int),Wd l,(0:Int),op,(),()),(),R,())=some (if Gu R.2.1 l=0 then .inl ((op,(),()),(),R,())else .inr ((Gu R.2.1 l,()),())):=by
 have key:=CD (aN5 Aq.pre Aq.F Au.pre Au.F) (fun x=>l.length-x.1.2.2.1.toNat)
  (fun x=>∃i:Nat,i<=l.length/\Gu R.2.1 (l.drop i)=Gu R.2.1 l/\x=(((l.length:Int),Wd l,(i:Int),op,(),()),(),R,()))
  (fun _=>if Gu R.2.1 l=0 then .inl ((op,(),()),(),R,())else .inr ((Gu R.2.1 l,()),())) ?_ _ ⟨0,dq _,rfl,rfl⟩
 ·exact key
 intro L x hx hL;obtain⟨i,hi,hok,rfl⟩:=hx;unfold Yl;rcases ax i l.length with hlt|hge
 ·have hg:l.getD i 0=l[i]:=by simp[ak,hlt]
  have ha:=hl _ (ja hlt);have p0:=KN R.2.1 l[i] ha;have e0:decide ((i:Int)<(l.length:Int))=true:=decide_eq_true (by omega);have e1:(decide ((0:Int)<=(i:Int))&&decide ((i:Int)<((Wd l).length:Int)))=true:=by rw[Ay,decide_eq_true (by omega),decide_eq_true (by omega)];rfl
  have e2:(Wd l).getD (af (i:Int)) 0=((l[i]:Nat):Int):=by rw[ab,BH,hg]
  have e3:aa .i64 ((i:Int)+1)=((i+1:Nat):Int):=by rw[At (by omega)];omega
  rw[dz hlt,Gu]at hok;dsimp only;simp only[e0,e1,e2,e3,cond_true,Jb p0,I2 p0];by_cases hc:Ak R.2.1 l[i]=0
  ·rw[if_neg (fun h=>h hc)]at hok;rw[hc,bne_self_eq_false,cond_false];exact hL _ ⟨i+1,by omega,hok,rfl⟩ (by simp only[ab];omega)
  ·rw[if_pos hc]at hok;have:(Ak R.2.1 l[i]!=0)=true:=by rw[bne_iff_ne];exact hc
   rw[this,←hok,if_neg hc];rfl
 ·have e:i=l.length:=by omega
  subst e;rw[gy]at hok;have e0:decide ((l.length:Int)<(l.length:Int))=false:=decide_eq_false (by omega);simp only[e0,cond_false];rw[←hok];rfl
def aBR(a c:Int):Bool:=(((aa .i64 c)==0)&&((aa .u64 (aa .i64 (aa .i32 a)))!=a))||(((aa .i64 c)==2)&&((AL .u64 a 32)!=0))
def OC(f op:Int)(n a b c:Nat):Int:=if ¬Fm f then 2 else if op=10/\c>3 then 2 else if(op=11∨op=12)/\c>3 then 9 else if Gu f ([a,b,c].take n)≠0 then Gu f ([a,b,c].take n)else if(op==12&&aBR a c)=true then 4 else 0
theorem aLM(op:Int)(c:Nat){d:Bool}(hd:d=decide ((c:Int)>3))(t:Int)(v:Option (Int×Unit))(hv:v=some (t,())):
  (bif op==10 then(bif d then some (2,())else v)else bif op==11 then(bif op==11 then(bif d then some (9,())else v)else v)else bif op==12 then(bif d then some (9,())else v)else v) =
  some (if op=10/\c>3 then 2 else if(op=11∨op=12)/\c>3 then 9 else t,()):=by
 rw[hd,hv];by_cases h:c>3
 ·rw[decide_eq_true (show(c:Int)>3 by omega)];by_cases h1:op=10
  ·subst h1;rw[if_pos ⟨rfl,h⟩];rfl
  ·rw[beq_false_of_ne h1,if_neg (fun x=>h1 x.1)];by_cases h2:op=11
   ·subst h2;rw[if_pos ⟨.inl rfl,h⟩];rfl
   ·by_cases h3:op=12
    ·subst h3;rw[if_pos ⟨.inr rfl,h⟩];rfl
    ·rw[beq_false_of_ne h2,beq_false_of_ne h3,if_neg (fun x=>x.1.elim h2 h3)];rfl
 ·rw[decide_eq_false (show ¬(c:Int)>3 by omega),if_neg (fun x=>h x.2),if_neg (fun x=>h x.2)];cases op==10<;>cases op==11<;>cases op==12<;>rfl
theorem aU4(m f op:Int)(w:Option (Nat×List Nat)){n a b c:Nat}(hn:n<=3)(ha:a<2^64)(hb:b<2^64)(hc:c<2^64):
  cJ (op,((n:Int),w,()),(m,f,(a:Int),(b:Int),(c:Int),()),())=some (OC f op n a b c,()):=by
 show wF Aq.pre Aq.F Au.pre Au.F oT op ((n:Int),w,()) (m,f,(a:Int),(b:Int),(c:Int),())=_;have e3:((((a:Int)::((b:Int)::((c:Int)::[]))).take (af (n:Int))).drop (af (0:Int)))=Wd ([a,b,c].take n):=by
  have:n=0∨n=1∨n=2∨n=3:=by omega
  rcases this with rfl|rfl|rfl|rfl<;>rfl
 have e2:((decide ((0:Int)<=(n:Int)))&&(decide ((n:Int)<=((((a:Int)::((b:Int)::((c:Int)::[]))).length:Nat):Int))))=true:=by
  rw[decide_eq_true (show(0:Int)<=(n:Int) by omega),decide_eq_true (show((n:Int)<=((((a:Int)::((b:Int)::((c:Int)::[]))).length:Nat):Int))from by show(n:Int)<=3;omega)];rfl
 have hW:=aVQ (m,f,(a:Int),(b:Int),(c:Int),()) op ([a,b,c].take n) (by intro x hx;have:=fg hx;simp at this;omega) (by rw[List.length_take];show min n 3<1000;omega);unfold wF OC;dsimp only;by_cases hA:Gu f ([a,b,c].take n)=0
 ·rw[if_pos hA]at hW;rw[e3,e2,Ay,hW];by_cases hf:Fm f
  ·have p0:=IF hf;rw[CT p0,CQ p0,if_neg (show ¬¬Fm f from fun h=>h hf)];refine aLM op c rfl _ (bif op==12 then(bif aBR a c then some (4,())else some (0,()))else some (0,())) ?_;rw[if_neg (fun h=>h hA)];cases op==12<;>cases aBR (a:Int) c<;>rfl
  ·have p0:=KO hf;rw[CT p0,CQ p0,if_pos hf];rfl
 ·rw[if_neg hA]at hW;rw[e3,e2,Ay,hW];by_cases hf:Fm f
  ·have p0:=IF hf;rw[CT p0,CQ p0,if_neg (show ¬¬Fm f from fun h=>h hf)];refine aLM op c rfl _ (some (Gu f ([a,b,c].take n),())) ?_;rw[if_pos hA]
  ·have p0:=KO hf;rw[CT p0,CQ p0,if_pos hf];rfl
def V2(op:Int):Nat:=(NA.F (op,())).1.1.toNat
def K7(v:Int×Int×Int×Unit)(op f:Int)(a b c:Nat):Int:=if Lh v≠0 then Lh v else if op<1∨op>22 then 190 else if OC f op (V2 op) a b c≠0 then OC f op (V2 op) a b c else(D5 v.1 op f a b c).2.2.1
abbrev yK:=Int×Int×Int×(Int×Int×Int×Unit)×Unit
def bHv:yK:=(0,0,0,(0,0,0,()),())
def aBW(v:Int×Int×Int×Unit)(y:Int×Int×Int×Unit):yK:=if BN .i64 y.2.1 v.2.2.1≠0 then(0,y.2.1,BN .i64 (BN .i64 y.2.1 v.2.2.1) (aa .i64 (0-BN .i64 y.2.1 v.2.2.1)),v,())else(y.1,y.2.1,0,(v.1,Ai .i64 v.2.1 y.2.1,v.2.2),())
def V3(v:Int×Int×Int×Unit)(op f:Int)(a b c:Nat):yK×Int×Unit:=if K7 v op f a b c≠0 then(bHv,K7 v op f a b c,())else(aBW v (D5 v.1 op f a b c),0,())
theorem aU6(v:Int×Int×Int×Unit)(op f:Int){a b c:Nat}(ha:a<2^64)(hb:b<2^64)(hc:c<2^64)
  (hw:1<=op->op<=22->∃n w,NE (op,())=some ((n,w,()),0,())/\0<=n/\n<=3/\UD w (v.1,f,(a:Int),(b:Int),(c:Int),()) (D5 v.1 op f a b c)) :
  TM (v,op,f,(a:Int),(b:Int),(c:Int),())=some (V3 v op f a b c):=by
 show wG Tq.pre Tq.F NA.pre NA.F Tr.pre Tr.F KC.pre KC.F v op f a b c=_;unfold wG V3;dsimp only;have p0:WU ((v.1,v.2),())=some (Lh v,()):=aU3 v;rw[bBo p0,aYO p0,cond_true];by_cases hg:Lh v=0
 ·have hz:((Lh v:Int)!=0)=false:=by rw[hg];rfl
  rw[hz,cond_false];by_cases ho:op<1∨op>22
  ·have p1:=bFE ho;have he:K7 v op f a b c=190:=by unfold K7;rw[if_neg (fun h=>h hg),if_pos ho]
   rw[aO6 p1,r8 p1,he];rfl
  ·obtain⟨n,w,p1,hn0,hn3,hd1,hd2⟩:=hw (by omega) (by omega);obtain⟨k,rfl⟩:=cd hn0;have hk:V2 op=k:=by unfold V2;rw[r8 p1];rfl
   have p2:=aU4 v.1 f op w (n:=k) (Int.ofNat_le.1 hn3) ha hb hc;have he:K7 v op f a b c=if OC f op k a b c≠0 then OC f op k a b c else(D5 v.1 op f a b c).2.2.1:=by
    unfold K7;rw[if_neg (fun h=>h hg),if_neg ho,hk]
   rw[he,aO6 p1,r8 p1,cond_true];dsimp only;rw[bne_self_eq_false,cond_false,bBq p2,aYQ p2,cond_true];dsimp only;by_cases hc0:OC f op k a b c=0
   ·rw[hc0,bne_self_eq_false,cond_false,hd1,hd2,cond_true,if_neg (show ¬((0:Int)≠0) by decide)];by_cases hr:(D5 v.1 op f a b c).2.2.1=0
    ·rw[hr,bne_self_eq_false,cond_false,if_neg (show ¬((0:Int)≠0) by decide)];unfold aBW;by_cases ht:BN .i64 (D5 v.1 op f a b c).2.1 v.2.2.1=0
     ·rw[ht,bne_self_eq_false,cond_false,if_neg (show ¬((0:Int)≠0) by decide)]
     ·rw[if_pos ht,bne_iff_ne.2 ht];rfl
    ·rw[if_pos hr,bne_iff_ne.2 hr];rfl
   ·rw[if_pos hc0,if_pos hc0,bne_iff_ne.2 hc0];rfl
 ·have he:K7 v op f a b c=Lh v:=by unfold K7;rw[if_pos hg]
  rw[he,if_pos hg,bne_iff_ne.2 hg];rfl
end VL
namespace VL
open Go Vx
theorem bHm(m f:Int){op:Int}(h:op=1∨op=2∨op=3∨op=4){a b c:Nat}(ha:a<2^64)(hb:b<2^64):
  ∃n w,NE (op,())=some ((n,w,()),0,())/\0<=n/\n<=3/\UD w (m,f,(a:Int),(b:Int),(c:Int),()) (D5 m op f a b c):=by
 obtain⟨w1,w2,w3,w4⟩:=bHn m f ha hb (c:Int);rcases h with rfl|rfl|rfl|rfl
 ·exact⟨2,some (192,[158+2]),Ux (by decide) (by decide) (by kernel_rfl),by decide,by decide,w1⟩
 ·exact⟨2,some (192,[159+2]),Ux (by decide) (by decide) (by kernel_rfl),by decide,by decide,w2⟩
 ·exact⟨2,some (192,[160+2]),Ux (by decide) (by decide) (by kernel_rfl),by decide,by decide,w3⟩
 ·exact⟨2,some (192,[161+2]),Ux (by decide) (by decide) (by kernel_rfl),by decide,by decide,w4⟩
theorem aU5(v:Int×Int×Int×Unit){op:Int}(h:op=1∨op=2∨op=3∨op=4)(f:Int){a b c:Nat}(ha:a<2^64)(hb:b<2^64)(hc:c<2^64):
  TM (v,op,f,(a:Int),(b:Int),(c:Int),())=some (V3 v op f a b c):=aU6 v op f ha hb hc (fun _ _=>bHm v.1 f h ha hb)
theorem tG{op n:Int}{w:Option (Nat×List Nat)}(p:NE (op,())=some ((n,w,()),0,())):V2 op=n.toNat:=by
 unfold V2;rw[r8 p]
theorem bFp{op:Int}(h:op=1∨op=2∨op=3∨op=4):V2 op=2:=by
 rcases h with rfl|rfl|rfl|rfl
 ·exact tG (n:=2) (w:=some (192,[158+2])) (Ux (by decide) (by decide) (by kernel_rfl))
 ·exact tG (n:=2) (w:=some (192,[159+2])) (Ux (by decide) (by decide) (by kernel_rfl))
 ·exact tG (n:=2) (w:=some (192,[160+2])) (Ux (by decide) (by decide) (by kernel_rfl))
 ·exact tG (n:=2) (w:=some (192,[161+2])) (Ux (by decide) (by decide) (by kernel_rfl))
end VL
namespace VL
open Go Vx
def MP(f:Int)(y:Int×Int×Int×Unit):Prop:=∃x:Nat,y.1=(x:Int)/\Ak f x=0/\y.2.2.1=0
theorem MQ{f:Int}{c:Bool}{x y:Int×Int×Int×Unit}(hx:MP f x)(hy:MP f y):MP f (bif c then x else y):=by
 cases c
 ·exact hy
 ·exact hx
theorem GX{f:Int}{x:Nat}{g:Int}(h:Ak f x=0):MP f ((x:Int),g,0,()):=⟨x,rfl,h,rfl⟩
theorem aLd{f m:Int}(hf:Fm f)(hm:0<=m/\m<=5){a b:Nat}(ha:Ak f a=0)(hb:Ak f b=0):MP f (Ov f m a b):=by
 unfold Ov;rw[if_pos hf,if_pos hm,if_pos ⟨ha,hb⟩,aWS];exact GX (aWR hf hm ha hb)
theorem bGW{f m:Int}(hf:Fm f)(hm:0<=m/\m<=5){a b:Nat}(ha:Ak f a=0)(hb:Ak f b=0):MP f (UA f m a b):=by
 unfold UA;rw[if_pos hb];exact aLd hf hm ha (aOn hf b)
theorem aZW{f m:Int}(hf:Fm f)(hm:0<=m/\m<=5){a b:Nat}(ha:Ak f a=0)(hb:Ak f b=0):MP f (Un f m a b):=by
 unfold Un;rw[if_neg (show ¬¬Fm f from fun h=>h hf),if_neg (by omega),if_neg (fun h=>h ha),if_neg (fun h=>h hb)];unfold iZ;exact MQ (GX (i0 hf).2) (MQ (GX (i0 hf).2) (MQ (GX (aCS hf _).1) (MQ (GX (aRI hf _).1) (GX (aDM hf _ _ _ _)))))
theorem aXH{f m:Int}(hf:Fm f)(hm:0<=m/\m<=5){a b:Nat}(ha:Ak f a=0)(hb:Ak f b=0):MP f (T6 f m a b):=by
 unfold T6;rw[if_neg (show ¬¬Fm f from fun h=>h hf),if_neg (by omega),if_neg (fun h=>h ha),if_neg (fun h=>h hb)];unfold gH;refine MQ (GX (i0 hf).2) (MQ (GX (i0 hf).2) (MQ (GX (aCS hf _).1) (MQ (GX (aCS hf _).1) (MQ (GX (aRI hf _).1) (GX ?_)))));unfold Gw Lv;split
 ·exact aDM hf _ _ _ _
 ·exact aDM hf _ _ _ _
def UE(op:Int):Prop:=op=1∨op=2∨op=3∨op=4
theorem aYb{f m:Int}(hf:Fm f)(hm:0<=m/\m<=5){op:Int}(h:UE op){a b:Nat}(ha:Ak f a=0)(hb:Ak f b=0):MP f (D5 m op f a b 0):=by
 rcases h with rfl|rfl|rfl|rfl
 ·exact aLd hf hm ha hb
 ·exact bGW hf hm ha hb
 ·exact aZW hf hm ha hb
 ·exact aXH hf hm ha hb
theorem XA{f:Int}(hf:Fm f){a:Nat}(ha:Ak f a=0):a<2^64:=by
 have h1:=(Gv ha).2;have h2:fW f<=64:=Ez hf;exact al h1 (ai (by decide) h2)
def As(f m op:Int)(a b:Nat):Nat:=(D5 m op f a b 0).1.toNat
def An(f m op:Int)(a b:Nat):Int:=(D5 m op f a b 0).2.1
theorem V7{f m:Int}(hf:Fm f)(hm:0<=m/\m<=5){op:Int}(h:UE op){a b:Nat}(ha:Ak f a=0)(hb:Ak f b=0):
  Ak f (As f m op a b)=0/\(D5 m op f a b 0).1=((As f m op a b:Nat):Int)/\(D5 m op f a b 0).2.2.1=0:=by
 obtain⟨x,h1,h2,h3⟩:=aYb hf hm h ha hb;have e:As f m op a b=x:=by unfold As;rw[h1];rfl
 rw[e];exact⟨h2,h1,h3⟩
theorem bFI{f m:Int}(hf:Fm f)(hm:0<=m/\m<=5){op:Int}(h:UE op){a b:Nat}(ha:Ak f a=0)(hb:Ak f b=0):
  V3 (m,0,0,()) op f a b 0=((((As f m op a b:Nat):Int),An f m op a b,0,(m,Ai .i64 0 (An f m op a b),0,()),()),0,()):=by
 obtain⟨h1,h2,h3⟩:=V7 hf hm h ha hb;have hc:OC f op 2 a b 0=0:=by
  unfold OC;have hop:¬op=10/\¬op=11/\¬op=12:=by unfold UE at h;omega
  have hA:Gu f ([a,b,0].take 2)=0:=by
   show(if Ak f a≠0 then Ak f a else if Ak f b≠0 then Ak f b else 0)=0;rw[if_neg (fun x=>x ha),if_neg (fun x=>x hb)]
  rw[if_neg (show ¬¬Fm f from fun h=>h hf),if_neg (fun x=>hop.1 x.1),if_neg (fun x=>x.1.elim hop.2.1 hop.2.2),if_neg (fun x=>x hA),beq_false_of_ne hop.2.2];rfl
 have hg:Lh (m,0,0,())=0:=by
  unfold Lh;rw[if_neg (by show ¬(m<0∨m>5);omega)];have h0:CY 0=true:=by decide +kernel
  show(if(CY 0&&CY 0)=true then(0:Int)else 7)=0;rw[h0];rfl
 have he:K7 (m,0,0,()) op f a b 0=0:=by
  unfold K7;rw[if_neg (fun x=>x hg),if_neg (by unfold UE at h;omega),bFp h,if_neg (fun x=>x hc)];exact h3
 unfold V3;rw[if_neg (fun x=>x he)];unfold aBW;have hz:BN .i64 (D5 m op f a b 0).2.1 0=0:=by
  unfold BN;have:co 64 (0:Int)=0#64:=rfl;show aa .i64 ((co 64 (D5 m op f a b 0).2.1 &&& co 64 0).toNat:Int)=0;rw[this,BitVec.and_zero];rfl
 have hz':¬(BN .i64 (D5 (m,(0:Int),(0:Int),()).1 op f a b 0).2.1 (m,(0:Int),(0:Int),()).2.2.1≠0):=fun x=>x hz;rw[if_neg hz'];dsimp only;rw[h2];rfl
abbrev St3:=Int×Int×Int×Unit
theorem nW{f m:Int}(hf:Fm f)(hm:0<=m/\m<=5)(g:Int){op:Int}(h:UE op){a b:Nat}(ha:Ak f a=0)(hb:Ak f b=0):
  cK ((f,m,g,()),op,(a:Int),(b:Int),())=some ((f,m,Ai .i64 g (An f m op a b),()),((As f m op a b:Nat):Int),()):=by
 have p:TM ((m,0,0,()),op,f,(a:Int),(b:Int),((0:Nat):Int),())=_:=aU5 (m,0,0,()) h f (XA hf ha) (XA hf hb) (by decide);rw[bFI hf hm h ha hb]at p;have p':TM ((m,0,0,()),op,f,(a:Int),(b:Int),(0:Int),())=_:=p;show wH Tt.pre Tt.F (f,m,g,()) op (a:Int) (b:Int)=_;unfold wH;dsimp only;simp only[bBr p',aYR p',cond_true]
end VL
namespace VL
open Go Vx
abbrev BS:=Nat×Nat
def cI(x:BS):Int×Int×Unit:=((x.1:Int),(x.2:Int),())
def EB(f:Int)(x:BS):Prop:=Ak f x.1=0/\Ak f x.2=0
section
variable {f m:Int}(hf:Fm f)(hm:0<=m/\m<=5)(g:Int)
include hf hm
theorem KL{a b:Nat}(ha:Ak f a=0)(hb:Ak f b=0):cL ((f,m,g,()),(a:Int),(b:Int),())=some ((f,m,Ai .i64 g (An f m 3 a b),()),((As f m 3 a b:Nat):Int),()):=by
 have p:=nW hf hm g (op:=3) (.inr (.inr (.inl rfl))) ha hb;show wI C4.pre C4.F (f,m,g,()) (a:Int) (b:Int)=_;unfold wI;dsimp only;simp only[tA p,r9 p,cond_true]
theorem aHe{a b:Nat}(ha:Ak f a=0)(hb:Ak f b=0):cM ((f,m,g,()),(a:Int),(b:Int),())=some ((f,m,Ai .i64 g (An f m 2 a b),()),((As f m 2 a b:Nat):Int),()):=by
 have p:=nW hf hm g (op:=2) (.inr (.inl rfl)) ha hb;show wJ C4.pre C4.F (f,m,g,()) (a:Int) (b:Int)=_;unfold wJ;dsimp only;simp only[tA p,r9 p,cond_true]
theorem cO{a b:Nat}(ha:Ak f a=0)(hb:Ak f b=0):cN ((f,m,g,()),(a:Int),(b:Int),())=some ((f,m,Ai .i64 g (An f m 1 a b),()),((As f m 1 a b:Nat):Int),()):=by
 have p:=nW hf hm g (op:=1) (.inl rfl) ha hb;show wK C4.pre C4.F (f,m,g,()) (a:Int) (b:Int)=_;unfold wK;dsimp only;simp only[tA p,r9 p,cond_true]
theorem aHh{a b:Nat}(ha:Ak f a=0)(hb:Ak f b=0):cQ ((f,m,g,()),(a:Int),(b:Int),())=some ((f,m,Ai .i64 g (An f m 4 a b),()),((As f m 4 a b:Nat):Int),()):=by
 have p:=nW hf hm g (op:=4) (.inr (.inr (.inr rfl))) ha hb;show wO C4.pre C4.F (f,m,g,()) (a:Int) (b:Int)=_;unfold wO;dsimp only;simp only[tA p,r9 p,cond_true]
end
section
variable (f m:Int)
def Up(g:Int):List (Int×Nat×Nat)->Int
 | []=>g
 |s::l=>Up (Ai .i64 g (An f m s.1 s.2.1 s.2.2)) l
def YX(x y:BS):BS:=(As f m 1 x.1 y.1,As f m 1 x.2 y.2)
def jY(x y:BS):List (Int×Nat×Nat):=[(1,x.1,y.1),(1,x.2,y.2)]
def VY(x y:BS):BS:=(As f m 2 (As f m 3 x.1 y.1) (As f m 3 x.2 y.2),As f m 1 (As f m 3 x.1 y.2) (As f m 3 x.2 y.1))
def YM(x y:BS):List (Int×Nat×Nat):=[(3,x.1,y.1),(3,x.2,y.2),(3,x.1,y.2),(3,x.2,y.1),(2,As f m 3 x.1 y.1,As f m 3 x.2 y.2),(1,As f m 3 x.1 y.2,As f m 3 x.2 y.1)]
def tD(y:BS):Nat:=As f m 1 (As f m 3 y.1 y.1) (As f m 3 y.2 y.2)
def aPl(x y:BS):Nat:=As f m 1 (As f m 3 x.1 y.1) (As f m 3 x.2 y.2)
def aPm(x y:BS):Nat:=As f m 2 (As f m 3 x.2 y.1) (As f m 3 x.1 y.2)
def V0(x y:BS):BS:=(As f m 4 (aPl f m x y) (tD f m y),As f m 4 (aPm f m x y) (tD f m y))
def YQ(x y:BS):List (Int×Nat×Nat):=[(3,y.1,y.1),(3,y.2,y.2),(1,As f m 3 y.1 y.1,As f m 3 y.2 y.2),(3,x.1,y.1),(3,x.2,y.2),(1,As f m 3 x.1 y.1,As f m 3 x.2 y.2),(3,x.2,y.1),(3,x.1,y.2),(2,As f m 3 x.2 y.1,As f m 3 x.1 y.2),(4,aPl f m x y,tD f m y),(4,aPm f m x y,tD f m y)]
end
theorem Ly{f m:Int}(hf:Fm f)(hm:0<=m/\m<=5){a b:Nat}(ha:Ak f a=0)(hb:Ak f b=0):Ak f (As f m 1 a b)=0:=(V7 hf hm (.inl rfl) ha hb).1
theorem tU{f m:Int}(hf:Fm f)(hm:0<=m/\m<=5){a b:Nat}(ha:Ak f a=0)(hb:Ak f b=0):Ak f (As f m 2 a b)=0:=(V7 hf hm (.inr (.inl rfl)) ha hb).1
theorem DL{f m:Int}(hf:Fm f)(hm:0<=m/\m<=5){a b:Nat}(ha:Ak f a=0)(hb:Ak f b=0):Ak f (As f m 3 a b)=0:=(V7 hf hm (.inr (.inr (.inl rfl))) ha hb).1
theorem tV{f m:Int}(hf:Fm f)(hm:0<=m/\m<=5){a b:Nat}(ha:Ak f a=0)(hb:Ak f b=0):Ak f (As f m 4 a b)=0:=(V7 hf hm (.inr (.inr (.inr rfl))) ha hb).1
theorem aVa{f m:Int}(hf:Fm f)(hm:0<=m/\m<=5)(g:Int){x y:BS}(hx:EB f x)(hy:EB f y):
  cT ((f,m,g,()),cI x,cI y,())=some ((f,m,Up f m g (jY x y),()),cI (YX f m x y),())/\EB f (YX f m x y):=by
 refine⟨?_,Ly hf hm hx.1 hy.1,Ly hf hm hx.2 hy.2⟩;have p1:=cO hf hm g hx.1 hy.1;have p2:=cO hf hm (Ai .i64 g (An f m 1 x.1 y.1)) hx.2 hy.2;show wS Ei.pre Ei.F (f,m,g,()) (cI x) (cI y)=_;unfold wS cI;dsimp only;simp only[jD p1,g9 p1,jD p2,g9 p2,cond_true];rfl
theorem aU8{f m:Int}(hf:Fm f)(hm:0<=m/\m<=5)(g:Int){x y:BS}(hx:EB f x)(hy:EB f y):
  cP ((f,m,g,()),cI x,cI y,())=some ((f,m,Up f m g (YM f m x y),()),cI (VY f m x y),())/\EB f (VY f m x y):=by
 have q1:=DL hf hm hx.1 hy.1;have q2:=DL hf hm hx.2 hy.2;have q3:=DL hf hm hx.1 hy.2;have q4:=DL hf hm hx.2 hy.1;refine⟨?_,tU hf hm q1 q2,Ly hf hm q3 q4⟩;have p1:=KL hf hm g hx.1 hy.1;have p2:=KL hf hm (Ai .i64 g (An f m 3 x.1 y.1)) hx.2 hy.2;have p3:=KL hf hm (Ai .i64 (Ai .i64 g (An f m 3 x.1 y.1)) (An f m 3 x.2 y.2)) hx.1 hy.2;have p4:=KL hf hm (Ai .i64 (Ai .i64 (Ai .i64 g (An f m 3 x.1 y.1)) (An f m 3 x.2 y.2)) (An f m 3 x.1 y.2)) hx.2 hy.1;have p5:=aHe hf hm (Ai .i64 (Ai .i64 (Ai .i64 (Ai .i64 g (An f m 3 x.1 y.1)) (An f m 3 x.2 y.2)) (An f m 3 x.1 y.2)) (An f m 3 x.2 y.1)) q1 q2;have p6:=cO hf hm (Ai .i64 (Ai .i64 (Ai .i64 (Ai .i64 (Ai .i64 g (An f m 3 x.1 y.1)) (An f m 3 x.2 y.2)) (An f m 3 x.1 y.2)) (An f m 3 x.2 y.1)) (An f m 2 (As f m 3 x.1 y.1) (As f m 3 x.2 y.2))) q3 q4;show wL Gn.pre Gn.F Gp.pre Gp.F Ei.pre Ei.F (f,m,g,()) (cI x) (cI y)=_;unfold wL cI;dsimp only;simp only[Ls p1,Lf p1,Ls p2,Lf p2,Ls p3,Lf p3,Ls p4,Lf p4,aO7 p5,aM1 p5,jD p6,g9 p6,cond_true];rfl
end VL
namespace VL
open Go Vx
theorem aVU(a b p:List Nat)(ha:∀x∈a,x<2^32)(hb:∀x∈b,x<2^32)(hn:b.length<=100000){i:Nat}(hi:i<a.length)(hal:a.length<=100000)(hpl:i+b.length<=p.length)(hpn:p.length<=300000)(hpd:∀z∈p,z<2^32)
  (hz:∀k,i+b.length<=k->p.getD k 0=0) :
  ∃(p':List Nat) (c:Nat),p'.length=p.length/\(∀z∈p',z<2^32)/\c<2^32/\nv (2^32) p'+(2^32)^(i+b.length)*c=nv (2^32) p+(2^32)^i*(a.getD i 0*nv (2^32) b)/\(∀k,i+b.length<=k->p'.getD k 0=0) /\
   TP (((0:Int),((0:Int),((i:Int),(Wd a,(Wd b,((),())))))),(Wd p,()))=some (.inl (((c:Int),((i:Int),(Wd a,(Wd b,((),()))))),(Wd p',()))):=by
 have hx:=BZ (by decide) ha i;have hga:(Wd a).getD i 0=((a.getD i 0:Nat):Int):=BH a i;generalize a.getD i 0=x at *
 have key:=OT (aN9 Ap.pre Ap.F) (fun s=>b.length-s.1.1.toNat)
  (fun s=>∃(j:Nat) (p':List Nat) (c:Nat),j<=b.length/\p'.length=p.length/\(∀z∈p',z<2^32)/\c<2^32/\nv (2^32) p'+(2^32)^(i+j)*c=nv (2^32) p+(2^32)^i*(x*nv (2^32) (b.take j))/\(∀k,i+b.length<=k->p'.getD k 0=0) /\
   s=(((j:Int),((c:Int),((i:Int),(Wd a,(Wd b,((),())))))),(Wd p',())))
  (fun y=>∃(p':List Nat) (c:Nat),p'.length=p.length/\(∀z∈p',z<2^32)/\c<2^32/\nv (2^32) p'+(2^32)^(i+b.length)*c=nv (2^32) p+(2^32)^i*(x*nv (2^32) b)/\(∀k,i+b.length<=k->p'.getD k 0=0) /\
   y=.inl (((c:Int),((i:Int),(Wd a,(Wd b,((),()))))),(Wd p',()))) ?_
  (((0:Int),((0:Int),((i:Int),(Wd a,(Wd b,((),())))))),(Wd p,()))
  ⟨0,p,0,dq _,rfl,hpd,by decide,by simp[nv],hz,rfl⟩
 ·obtain⟨y,hy,p',c,k1,k2,k3,k4,k5,rfl⟩:=key;exact⟨p',c,k1,k2,k3,k4,k5,hy⟩
 intro L s hs hL;obtain⟨j,q,c,hj,hql,hqd,hc,hinv,hqz,rfl⟩:=hs;unfold Yp;rcases ax j b.length with hlt|hge
 ·have hy:=BZ (by decide) hb j;have hp:=BZ (by decide) hqd (i+j);have hnb:=C0 (2^32) b j;have hgb:(Wd b).getD j 0=((b.getD j 0:Nat):Int):=BH b j;have hgq:(Wd q).getD (i+j) 0=((q.getD (i+j) 0:Nat):Int):=BH q _;have hst:=fun z=>YA (2^32) q (i+j) z (by omega);generalize b.getD j 0=y at *
  generalize hqe:q.getD (i+j) 0=d at *
  have hxy:x*y<=(2^32-1)*(2^32-1):=gw (by omega) (by omega);have f1:=j3 x y (by omega);have f2:=Dk d (x*y) (by omega);have f3:=Dk (d+x*y) c (by omega);have f4:=VZ (d+x*y+c) (by omega);have f5:=O8 (d+x*y+c);have hl:(d+x*y+c)%2^32<2^32:=ca _ (by decide);have hh:(d+x*y+c)/2^32<2^32:=by omega
  have e0:decide ((j:Int)<(b.length:Int))=true:=decide_eq_true (by omega);have e1:decide ((0:Int)<=(j:Int))=true:=decide_eq_true (by omega);have e2:aa .i64 ((i:Int)+(j:Int))=((i+j:Nat):Int):=by rw[At (by omega)];omega
  have e3:aa .i64 ((j:Int)+1)=((j+1:Nat):Int):=by rw[At (by omega)];omega
  have e4:decide ((0:Int)<=((i+j:Nat):Int))=true:=decide_eq_true (by omega);have e5:decide ((0:Int)<=(i:Int))=true:=decide_eq_true (by omega);have e6:decide ((i:Int)<(a.length:Int))=true:=decide_eq_true (by omega);have e7:decide (((i+j:Nat):Int)<(q.length:Int))=true:=decide_eq_true (by omega);dsimp only;simp only[e0,e1,e2,e3,e4,e5,e6,e7,cond_true,av,Ay,ab,hga,hgb,hgq,f1,f2,f3,f4,f5,Dd];refine hL _ ⟨j+1,q.set (i+j) ((d+x*y+c)%2^32),(d+x*y+c)/2^32,by omega,by rw[ip];exact hql,aOg hqd hl,hh,?_,?_,rfl⟩ (by simp only[ab];omega)
  ·have h1:=hst ((d+x*y+c)%2^32);rw[hnb,show i+(j+1)=i+j+1 by omega,bAT,bw x,bw ((2^32)^i),fx x,←bh ((2^32)^i) ((2^32)^j),←bj];have h2:(2^32)^(i+j)*(d+x*y+c)=(2^32)^(i+j)*(2^32*((d+x*y+c)/2^32)+(d+x*y+c)%2^32):=by rw[ct]
   generalize(d+x*y+c)%2^32=o at *
   generalize(d+x*y+c)/2^32=c' at *
   generalize x*y=z at *
   rw[bw,bw,bw,←bh ((2^32)^(i+j)) (2^32)]at h2;omega
  ·intro k hk;rw[iB (by omega)];exact hqz k hk
 ·have e:j=b.length:=by omega
  subst e;have e0:decide ((b.length:Int)<(b.length:Int))=false:=decide_eq_false (by omega);dsimp only;simp only[Ay,e0,cond_false];rw[dp]at hinv;exact⟨_,rfl,q,c,hql,hqd,hc,hinv,hqz,rfl⟩
theorem aVT(a b:List Nat)(ha:∀x∈a,x<2^32)(hb:∀x∈b,x<2^32)(hna:a.length<=100000)(hnb:b.length<=100000):
  ∃p:List Nat,p.length=a.length+b.length/\(∀z∈p,z<2^32)/\nv (2^32) p=nv (2^32) a*nv (2^32) b /\
   oV (((Wd a,(Wd b,((0:Int),((),())))),(Wd (aq (a.length+b.length) 0),())):Gf.D)=some (.inl (((),()),(Wd p,()))):=by
 have key:=OT (aN8 Ap.pre Ap.F TP) (fun s=>a.length-s.1.2.2.1.toNat)
  (fun s=>∃(i:Nat) (p:List Nat),i<=a.length/\p.length=a.length+b.length/\(∀z∈p,z<2^32)/\nv (2^32) p=nv (2^32) (a.take i)*nv (2^32) b/\(∀k,i+b.length<=k->p.getD k 0=0) /\
   s=((Wd a,(Wd b,((i:Int),((),())))),(Wd p,())))
  (fun y=>∃p:List Nat,p.length=a.length+b.length/\(∀z∈p,z<2^32)/\nv (2^32) p=nv (2^32) a*nv (2^32) b/\y=.inl (((),()),(Wd p,()))) ?_
  ((Wd a,(Wd b,((0:Int),((),())))),(Wd (aq (a.length+b.length) 0),()))
  ⟨0,aq (a.length+b.length) 0,dq _,by simp,(fun z hz=>by have:=(oh.1 hz).2;omega),by rw[sN];simp[nv],(fun k _=>bFs _ _),rfl⟩
 ·obtain⟨y,hy,p,k1,k2,k3,rfl⟩:=key;exact⟨p,k1,k2,k3,hy⟩
 intro L s hs hL;obtain⟨i,p,hi,hpl,hpd,hinv,hz,rfl⟩:=hs;unfold Yo;rcases ax i a.length with hlt|hge
 ·have hna':=C0 (2^32) a i;obtain⟨p',c,k1,k2,k3,k4,k5,k6⟩:=aVU a b p ha hb hnb (i:=i) hlt hna (by omega) (by omega) hpd hz;have e0:decide ((i:Int)<(a.length:Int))=true:=decide_eq_true (by omega);have e2:aa .i64 ((i:Int)+(b.length:Int))=((i+b.length:Nat):Int):=by rw[At (by omega)];omega
  have e3:aa .i64 ((i:Int)+1)=((i+1:Nat):Int):=by rw[At (by omega)];omega
  have e4:decide ((0:Int)<=((i+b.length:Nat):Int))=true:=decide_eq_true (by omega);have e5:decide (((i+b.length:Nat):Int)<(p'.length:Int))=true:=decide_eq_true (by omega);have hgp:(Wd p').getD (i+b.length) 0=((0:Nat):Int):=by rw[BH,k5 _ (bu _)]
  have f1:aa .u64 (((0:Nat):Int)+(c:Int))=(c:Int):=by rw[Dk 0 c (by omega),de]
  dsimp only;simp only[e0,cond_true,Ay];rw[k6];dsimp only[Ba,A9];simp only[e2,e3,e4,e5,av,cond_true,Ay,ab,hgp,f1,Dd];refine hL _ ⟨i+1,p'.set (i+b.length) c,by omega,by rw[ip];omega,aOg k2 k3,?_,?_,rfl⟩ (by simp only[ab];omega)
  ·have h1:=YA (2^32) p' (i+b.length) c (by omega);rw[k5 _ (bu _),fd,cz]at h1;rw[h1,k4,hinv,hna',cm,bh]
  ·intro k hk;rw[iB (by omega)];exact k5 k (by omega)
 ·have e:i=a.length:=by omega
  subst e;have e0:decide ((a.length:Int)<(a.length:Int))=false:=decide_eq_false (by omega);simp only[Ay,e0,cond_false];rw[dp]at hinv;exact⟨_,rfl,p,hpl,hpd,hinv,rfl⟩
theorem aVe{x y:Nat}(hx:x<2^5000)(hy:y<2^5000):cZ (Dh x,Dh y,())=some (Dh (x*y),()):=by
 have l1:(dg (2^32) x).length<=160:=D0 (by decide) 160 x (al hx (by rw[←fq];exact ai (by decide) (by decide)));have l2:(dg (2^32) y).length<=160:=D0 (by decide) 160 y (al hy (by rw[←fq];exact ai (by decide) (by decide)));obtain⟨p,k1,k2,k3,k4⟩:=aVT (dg (2^32) x) (dg (2^32) y) (La (by decide) x) (La (by decide) y) (by omega) (by omega);rw[Fl,Fl]at k3;show wY Ap.pre Ap.F oV TP (Wd (dg (2^32) x)) (Wd (dg (2^32) y))=_;unfold wY;have p0:=UT (l:=p) ⟨k2,by omega⟩ k3;have e0:aa .i64 (((dg (2^32) x).length:Int)+((dg (2^32) y).length:Int))=(((dg (2^32) x).length+(dg (2^32) y).length:Nat):Int):=by rw[At (by omega)];omega
 have e1:(decide ((0:Int)<=(((dg (2^32) x).length+(dg (2^32) y).length:Nat):Int))&&decide ((((dg (2^32) x).length+(dg (2^32) y).length:Nat):Int)*8<=140737488355328))=true:=by
  rw[decide_eq_true (by omega),decide_eq_true (by omega)];rfl
 dsimp only;rw[Ay,Ay,e0,e1,cond_true,ab,NF,k4];dsimp only[Ba,A9];simp only[Ut p0,Uh p0,cond_true]
end VL
namespace VL
open Go Vx
theorem stM{f m:Int}(hf:Fm f)(hm:0<=m/\m<=5){a b:Nat}(ha:Ak f a=0)(hb:Ak f b=0):D5 m 3 f a b 0=iZ f m a b:=by
 show Un f m a b=_;unfold Un;rw[if_neg (show ¬¬Fm f from fun h=>h hf),if_neg (by omega),if_neg (fun h=>h ha),if_neg (fun h=>h hb)]
theorem stD{f m:Int}(hf:Fm f)(hm:0<=m/\m<=5){a b:Nat}(ha:Ak f a=0)(hb:Ak f b=0):D5 m 4 f a b 0=gH f m a b:=by
 show T6 f m a b=_;unfold T6;rw[if_neg (show ¬¬Fm f from fun h=>h hf),if_neg (by omega),if_neg (fun h=>h ha),if_neg (fun h=>h hb)]
end VL
namespace VL
open Go Vx
def Ev(m:Int):Prop:=m≠3/\m≠4
section
variable {f m:Int}(hf:Fm f)(hm:0<=m/\m<=5)
include hf hm
end
section
variable {f m:Int}(hf:Fm f)(hm:0<=m/\m<=5)(he:Ev m)
include hf hm he
end
theorem aRJ{f:Int}(hf:Fm f){a:Nat}(h:Bk f a=true):AB f a=false/\nan f a=false:=by
 unfold Bk at h;rw[ag,beq_iff_eq,beq_iff_eq]at h;have:=aCu hf;unfold AB nan;rw[h.1,beq_false_of_ne (show(0:Nat)≠BO f by omega)];exact⟨rfl,rfl⟩
end VL
namespace VL
open Go Vx
theorem aU9{f m:Int}(hf:Fm f)(hm:0<=m/\m<=5)(g:Int){x y:BS}(hx:EB f x)(hy:EB f y):
  cR ((f,m,g,()),cI x,cI y,())=some ((f,m,Up f m g (YQ f m x y),()),cI (V0 f m x y),())/\EB f (V0 f m x y):=by
 have q1:=DL hf hm hy.1 hy.1;have q2:=DL hf hm hy.2 hy.2;have q3:=Ly hf hm q1 q2;have q4:=DL hf hm hx.1 hy.1;have q5:=DL hf hm hx.2 hy.2;have q6:=Ly hf hm q4 q5;have q7:=DL hf hm hx.2 hy.1;have q8:=DL hf hm hx.1 hy.2;have q9:=tU hf hm q7 q8;have q10:=tV hf hm q6 q3;have q11:=tV hf hm q9 q3;refine⟨?_,q10,q11⟩;have p1:=KL hf hm g hy.1 hy.1;have p2:=KL hf hm (Ai .i64 g (An f m 3 y.1 y.1)) hy.2 hy.2;have p3:=cO hf hm (Ai .i64 (Ai .i64 g (An f m 3 y.1 y.1)) (An f m 3 y.2 y.2)) q1 q2;have p4:=KL hf hm (Ai .i64 (Ai .i64 (Ai .i64 g (An f m 3 y.1 y.1)) (An f m 3 y.2 y.2)) (An f m 1 (As f m 3 y.1 y.1) (As f m 3 y.2 y.2))) hx.1 hy.1;have p5:=KL hf hm (Ai .i64 (Ai .i64 (Ai .i64 (Ai .i64 g (An f m 3 y.1 y.1)) (An f m 3 y.2 y.2)) (An f m 1 (As f m 3 y.1 y.1) (As f m 3 y.2 y.2))) (An f m 3 x.1 y.1)) hx.2 hy.2;have p6:=cO hf hm (Ai .i64 (Ai .i64 (Ai .i64 (Ai .i64 (Ai .i64 g (An f m 3 y.1 y.1)) (An f m 3 y.2 y.2)) (An f m 1 (As f m 3 y.1 y.1) (As f m 3 y.2 y.2))) (An f m 3 x.1 y.1)) (An f m 3 x.2 y.2)) q4 q5;have p7:=KL hf hm (Ai .i64 (Ai .i64 (Ai .i64 (Ai .i64 (Ai .i64 (Ai .i64 g (An f m 3 y.1 y.1)) (An f m 3 y.2 y.2)) (An f m 1 (As f m 3 y.1 y.1) (As f m 3 y.2 y.2))) (An f m 3 x.1 y.1)) (An f m 3 x.2 y.2)) (An f m 1 (As f m 3 x.1 y.1) (As f m 3 x.2 y.2))) hx.2 hy.1;have p8:=KL hf hm (Ai .i64 (Ai .i64 (Ai .i64 (Ai .i64 (Ai .i64 (Ai .i64 (Ai .i64 g (An f m 3 y.1 y.1)) (An f m 3 y.2 y.2)) (An f m 1 (As f m 3 y.1 y.1) (As f m 3 y.2 y.2))) (An f m 3 x.1 y.1)) (An f m 3 x.2 y.2)) (An f m 1 (As f m 3 x.1 y.1) (As f m 3 x.2 y.2))) (An f m 3 x.2 y.1)) hx.1 hy.2;have p9:=aHe hf hm (Ai .i64 (Ai .i64 (Ai .i64 (Ai .i64 (Ai .i64 (Ai .i64 (Ai .i64 (Ai .i64 g (An f m 3 y.1 y.1)) (An f m 3 y.2 y.2)) (An f m 1 (As f m 3 y.1 y.1) (As f m 3 y.2 y.2))) (An f m 3 x.1 y.1)) (An f m 3 x.2 y.2)) (An f m 1 (As f m 3 x.1 y.1) (As f m 3 x.2 y.2))) (An f m 3 x.2 y.1)) (An f m 3 x.1 y.2)) q7 q8;have p10:=aHh hf hm (Ai .i64 (Ai .i64 (Ai .i64 (Ai .i64 (Ai .i64 (Ai .i64 (Ai .i64 (Ai .i64 (Ai .i64 g (An f m 3 y.1 y.1)) (An f m 3 y.2 y.2)) (An f m 1 (As f m 3 y.1 y.1) (As f m 3 y.2 y.2))) (An f m 3 x.1 y.1)) (An f m 3 x.2 y.2)) (An f m 1 (As f m 3 x.1 y.1) (As f m 3 x.2 y.2))) (An f m 3 x.2 y.1)) (An f m 3 x.1 y.2)) (An f m 2 (As f m 3 x.2 y.1) (As f m 3 x.1 y.2))) q6 q3;have p11:=aHh hf hm (Ai .i64 (Ai .i64 (Ai .i64 (Ai .i64 (Ai .i64 (Ai .i64 (Ai .i64 (Ai .i64 (Ai .i64 (Ai .i64 g (An f m 3 y.1 y.1)) (An f m 3 y.2 y.2)) (An f m 1 (As f m 3 y.1 y.1) (As f m 3 y.2 y.2))) (An f m 3 x.1 y.1)) (An f m 3 x.2 y.2)) (An f m 1 (As f m 3 x.1 y.1) (As f m 3 x.2 y.2))) (An f m 3 x.2 y.1)) (An f m 3 x.1 y.2)) (An f m 2 (As f m 3 x.2 y.1) (As f m 3 x.1 y.2))) (An f m 4 (As f m 1 (As f m 3 x.1 y.1) (As f m 3 x.2 y.2)) (As f m 1 (As f m 3 y.1 y.1) (As f m 3 y.2 y.2)))) q9 q3;show wP Ei.pre Ei.F Gn.pre Gn.F Gp.pre Gp.F Tv.pre Tv.F (f,m,g,()) (cI x) (cI y)=_;unfold wP cI;dsimp only;simp only[Ls p1,Lf p1,Ls p2,Lf p2,jD p3,g9 p3,Ls p4,Lf p4,Ls p5,Lf p5,jD p6,g9 p6,Ls p7,Lf p7,Ls p8,Lf p8,aO7 p9,aM1 p9,aO9 p10,aM3 p10,aO9 p11,aM3 p11,cond_true];rfl
abbrev XI:=Int×Int×Unit
def BR(f:Int)(l:List BS):Bool:=l.all fun x=>Ak f x.1==0&&Ak f x.2==0
theorem aVR(s:St3)(l:List BS)(hl:∀x∈l,x.1<2^64/\x.2<2^64)(hlen:l.length<2^63):
  eE (((l.length:Int),l.map cI,(),(0:Int),()),s,())=some (if BR s.1 l=true then .inl ((),s,())else .inr (((4:Int),()),s,())):=by
 have key:=CD (aN6 Au.pre Au.F) (fun x=>l.length-x.1.2.2.2.1.toNat)
  (fun x=>∃i:Nat,i<=l.length/\BR s.1 (l.drop i)=BR s.1 l/\x=(((l.length:Int),l.map cI,(),(i:Int),()),s,()))
  (fun _=>if BR s.1 l=true then .inl ((),s,())else .inr (((4:Int),()),s,())) ?_ _ ⟨0,dq _,rfl,rfl⟩
 ·exact key
 intro L x hx hL;obtain⟨i,hi,hok,rfl⟩:=hx;unfold Ym;rcases ax i l.length with hlt|hge
 ·have hg:(l.map cI).getD i ((0:Int),(0:Int),())=cI l[i]:=by simp[ak,hlt]
  obtain⟨h1,h2⟩:=hl _ (ja hlt);have p0:=KN s.1 l[i].1 h1;have p1:=KN s.1 l[i].2 h2;have e0:decide ((i:Int)<(l.length:Int))=true:=decide_eq_true (by omega);have e2:decide ((0:Int)<=(i:Int))=true:=decide_eq_true (by omega);have e1:decide ((i:Int)<(((l.map cI).length:Nat):Int))=true:=by rw[js];exact e0
  have e3:aa .i64 ((i:Int)+1)=((i+1:Nat):Int):=by rw[At (by omega)];omega
  have hN:L (((l.length:Int),l.map cI,(),((i+1:Nat):Int),()),s,())=some (if BR s.1 (l.drop (i+1))=true then .inl ((),s,())else .inr (((4:Int),()),s,()))∨BR s.1 (l.drop (i+1))≠BR s.1 l:=by
   by_cases h:BR s.1 (l.drop (i+1))=BR s.1 l
   ·left;rw[h];exact hL _ ⟨i+1,by omega,h,rfl⟩ (by simp only[ab];omega)
   ·exact .inr h
  rw[dz hlt]at hok;have hok':((Ak s.1 l[i].1==0&&Ak s.1 l[i].2==0)&&BR s.1 (l.drop (i+1)))=BR s.1 l:=hok;dsimp only;simp only[e0,e1,e2,e3,ab,hg,cI,Jb p0,I2 p0,Jb p1,I2 p1,cond_true,aw,av];by_cases c1:Ak s.1 l[i].1=0
  ·by_cases c2:Ak s.1 l[i].2=0
   ·rw[c1,c2]at hok' ⊢;have h3:BR s.1 (l.drop (i+1))=BR s.1 l:=hok';rcases hN with hN|hN
    ·simp only[bne_self_eq_false,bb,cond_false];rw[hN,h3]
    ·exact absurd h3 hN
   ·rw[beq_false_of_ne c2,ay,ao]at hok';rw[←hok',c1,bne_self_eq_false,bd,bne_iff_ne.2 c2];rfl
  ·rw[beq_false_of_ne c1,ao,ao]at hok';rw[←hok',bne_iff_ne.2 c1];rfl
 ·have e:i=l.length:=by omega
  subst e;rw[gy]at hok;have e0:decide ((l.length:Int)<(l.length:Int))=false:=decide_eq_false (by omega);simp only[e0,cond_false];rw[←hok];rfl
theorem aAc(s:St3)(l:List BS)(hl:∀x∈l,x.1<2^64/\x.2<2^64)(hlen:l.length<2^63):
  TN (s,l.map cI,())=some (s,(if BR s.1 l=true then(0:Int)else 4),()):=by
 show wM Au.pre Au.F eE s (l.map cI)=_;unfold wM;have hw:=aVR s l hl hlen;rw[js];have hw':eE (((l.length:Int),l.map cI,(),(0:Int),()),(s.1,s.2),())=_:=hw;rw[hw'];by_cases h:BR s.1 l=true
 ·rw[if_pos h,if_pos h];all_goals rfl
 ·rw[if_neg h,if_neg h];all_goals rfl
def DZ(w:BS->BS->BS)(k:BS->BS->List (Int×Nat×Nat))(f m:Int)(x y:BS):XI×Int×Int×Unit:=if ¬Fm f then((0,0,()),0,2,())else if m<0∨m>5 then((0,0,()),0,3,())else if ¬BR f [x,y]=true then((0,0,()),0,4,())else(cI (w x y),Up f m 0 (k x y),0,())
theorem XH{f:Int}{x y:BS}(h:BR f [x,y]=true):EB f x/\EB f y:=by
 simp only[BR,mu,List.all_nil,Bool.and_true,ag,beq_iff_eq]at h;exact⟨h.1,h.2⟩
theorem OV{m:Int}:(decide (m<0)||decide (m>5))=decide (m<0∨m>5):=by rw[Bool.decide_or]
theorem aVb(f m:Int){x y:BS}(hx:x.1<2^64/\x.2<2^64)(hy:y.1<2^64/\y.2<2^64):cU (f,m,cI x,cI y,())=some (DZ (YX f m) jY f m x y):=by
 show wT Tx.pre Tx.F Aq.pre Aq.F Ej.pre Ej.F f m (cI x) (cI y)=_;unfold wT DZ;by_cases hf:Fm f
 ·have p0:=IF hf;rw[if_neg (show ¬¬Fm f from fun h=>h hf)];by_cases hm:m<0∨m>5
  ·rw[if_pos hm];dsimp only;simp only[CT p0,CQ p0,cond_true,bne_self_eq_false,cond_false,OV,decide_eq_true hm]
  ·rw[if_neg hm];have p1:TN ((f,m,0,()),(cI x::cI y::[]),())=_:=aAc (f,m,0,()) [x,y] (by intro z hz;simp at hz;rcases hz with rfl|rfl<;>assumption) (by show 2<2^63;decide);by_cases hF:BR f [x,y]=true
   ·rw[if_neg (fun h=>h hF)];rw[if_pos hF]at p1;obtain⟨ox,oy⟩:=XH hF;obtain⟨p2,_⟩:=aVa hf (m:=m) (by omega) 0 ox oy;unfold cI at p1 p2⊢;dsimp only at p1 p2⊢;simp only[CT p0,CQ p0,cond_true,bne_self_eq_false,cond_false,OV,decide_eq_false hm,YI p1,XN p1,bBv p2,aYV p2]
   ·rw[if_pos hF];rw[if_neg hF]at p1;unfold cI at p1⊢;dsimp only at p1⊢;simp only[CT p0,CQ p0,cond_true,bne_self_eq_false,cond_false,OV,decide_eq_false hm,YI p1,XN p1];rfl
 ·have p0:=KO hf;rw[if_pos hf];dsimp only;simp only[CT p0,CQ p0,cond_true];rfl
theorem aHg(f m:Int){x y:BS}(hx:x.1<2^64/\x.2<2^64)(hy:y.1<2^64/\y.2<2^64):UY (f,m,cI x,cI y,())=some (DZ (VY f m) (YM f m) f m x y):=by
 show wN Tu.pre Tu.F Aq.pre Aq.F Ej.pre Ej.F f m (cI x) (cI y)=_;unfold wN DZ;by_cases hf:Fm f
 ·have p0:=IF hf;rw[if_neg (show ¬¬Fm f from fun h=>h hf)];by_cases hm:m<0∨m>5
  ·rw[if_pos hm];dsimp only;simp only[CT p0,CQ p0,cond_true,bne_self_eq_false,cond_false,OV,decide_eq_true hm]
  ·rw[if_neg hm];have p1:TN ((f,m,0,()),(cI x::cI y::[]),())=_:=aAc (f,m,0,()) [x,y] (by intro z hz;simp at hz;rcases hz with rfl|rfl<;>assumption) (by show 2<2^63;decide);by_cases hF:BR f [x,y]=true
   ·rw[if_neg (fun h=>h hF)];rw[if_pos hF]at p1;obtain⟨ox,oy⟩:=XH hF;obtain⟨p2,_⟩:=aU8 hf (m:=m) (by omega) 0 ox oy;unfold cI at p1 p2⊢;dsimp only at p1 p2⊢;simp only[CT p0,CQ p0,cond_true,bne_self_eq_false,cond_false,OV,decide_eq_false hm,YI p1,XN p1,bBs p2,aYS p2]
   ·rw[if_pos hF];rw[if_neg hF]at p1;unfold cI at p1⊢;dsimp only at p1⊢;simp only[CT p0,CQ p0,cond_true,bne_self_eq_false,cond_false,OV,decide_eq_false hm,YI p1,XN p1];rfl
 ·have p0:=KO hf;rw[if_pos hf];dsimp only;simp only[CT p0,CQ p0,cond_true];rfl
theorem aHi(f m:Int){x y:BS}(hx:x.1<2^64/\x.2<2^64)(hy:y.1<2^64/\y.2<2^64):UZ (f,m,cI x,cI y,())=some (DZ (V0 f m) (YQ f m) f m x y):=by
 show wQ Tw.pre Tw.F Aq.pre Aq.F Ej.pre Ej.F f m (cI x) (cI y)=_;unfold wQ DZ;by_cases hf:Fm f
 ·have p0:=IF hf;rw[if_neg (show ¬¬Fm f from fun h=>h hf)];by_cases hm:m<0∨m>5
  ·rw[if_pos hm];dsimp only;simp only[CT p0,CQ p0,cond_true,bne_self_eq_false,cond_false,OV,decide_eq_true hm]
  ·rw[if_neg hm];have p1:TN ((f,m,0,()),(cI x::cI y::[]),())=_:=aAc (f,m,0,()) [x,y] (by intro z hz;simp at hz;rcases hz with rfl|rfl<;>assumption) (by show 2<2^63;decide);by_cases hF:BR f [x,y]=true
   ·rw[if_neg (fun h=>h hF)];rw[if_pos hF]at p1;obtain⟨ox,oy⟩:=XH hF;obtain⟨p2,_⟩:=aU9 hf (m:=m) (by omega) 0 ox oy;unfold cI at p1 p2⊢;dsimp only at p1 p2⊢;simp only[CT p0,CQ p0,cond_true,bne_self_eq_false,cond_false,OV,decide_eq_false hm,YI p1,XN p1,bBt p2,aYT p2]
   ·rw[if_pos hF];rw[if_neg hF]at p1;unfold cI at p1⊢;dsimp only at p1⊢;simp only[CT p0,CQ p0,cond_true,bne_self_eq_false,cond_false,OV,decide_eq_false hm,YI p1,XN p1];rfl
 ·have p0:=KO hf;rw[if_pos hf];dsimp only;simp only[CT p0,CQ p0,cond_true];rfl
end VL
namespace VL
open Go Vx
theorem aw1:DZ (VY 2 0) (YM 2 0) 2 0 (1065353216,1073741824) (1065353216,1073741824)=(((3225419776:Int),(1082130432:Int),()),0,0,()):=by
 unfold DZ;rw[if_neg (show ¬¬Fm 2 by decide),if_neg (by decide),if_neg (show ¬¬BR 2 [(1065353216,1073741824),(1065353216,1073741824)]=true by decide +kernel)];kernel_rfl
theorem aw2:DZ (V0 2 0) (YQ 2 0) 2 0 (1065353216,1073741824) (1065353216,1065353216)=(((1069547520:Int),(1056964608:Int),()),0,0,()):=by
 unfold DZ;rw[if_neg (show ¬¬Fm 2 by decide),if_neg (by decide),if_neg (show ¬¬BR 2 [(1065353216,1073741824),(1065353216,1065353216)]=true by decide +kernel)];kernel_rfl
theorem aW5:cS ()=some (true,()):=by
 show wR Do.pre Do.F Dp.pre Dp.F=_;have p1:UY (2,0,cI (1065353216,1073741824),cI (1065353216,1073741824),())=_:=aHg 2 0 (x:=(1065353216,1073741824)) (y:=(1065353216,1073741824)) (by decide) (by decide);have p2:UZ (2,0,cI (1065353216,1073741824),cI (1065353216,1065353216),())=_:=aHi 2 0 (x:=(1065353216,1073741824)) (y:=(1065353216,1065353216)) (by decide) (by decide);rw[aw1]at p1;rw[aw2]at p2;have q1:UY ((2:Int),(0:Int),((1065353216:Int),(1073741824:Int),()),((1065353216:Int),(1073741824:Int),()),())=_:=p1;have q2:UZ ((2:Int),(0:Int),((1065353216:Int),(1073741824:Int),()),((1065353216:Int),(1065353216:Int),()),())=_:=p2;unfold wR;dsimp only;simp only[aO8 q1,aM2 q1,aPa q2,aM4 q2,cond_true];rfl
end VL
namespace VL
open Go Vx
theorem aVn{f:Int}(hf:Fm f){a:Nat}(h:Ak f a=0):
  U0 ((if eF f a=BO f then(mF f a !=0,(mF f a !=0)&&(mF f a/2^(fP f-2)==0),mF f a==0,sF f a,(false,[],0,()),())
   else(false,false,false,sF f a,(sF f a,Dh (Ao f a),Ar f a,()),())),())=some (Bk f a,()):=by
 by_cases hE:eF f a=BO f
 ·rw[if_pos hE];have hz:Bk f a=false:=by
   have:=aCu hf;unfold Bk;rw[hE,beq_false_of_ne (show BO f≠0 by omega)];rfl
  rw[hz];show Y1 _=_;unfold Y1;dsimp only;cases h0:mF f a==0<;>simp[bne,h0]
 ·rw[if_neg hE,aAi];have:=aEg f a;rw[←this];congr 2;by_cases h0:Ao f a=0
  ·rw[h0];rfl
  ·rw[decide_eq_false h0,beq_false_of_ne (by omega)]
abbrev ZP:=Bool×List Int×Int×Unit
def i4(f:Int)(a:Nat):ZP:=if eF f a=BO f then(false,[],0,())else(sF f a,Dh (Ao f a),Ar f a,())
abbrev op(f:Int)(a:Nat):Bool×Bool×Bool×Bool×ZP×Unit:=(nan f a,Bn f a,AB f a,sF f a,i4 f a,())
theorem nZ{f:Int}(hf:Fm f){a:Nat}(h:Ak f a=0):W1 (f,(a:Int),())=some (op f a,()):=by
 have p:=aAg hf h;unfold op i4;by_cases hE:eF f a=BO f
 ·rw[if_pos hE]at p⊢;obtain⟨v1,v2,v3⟩:=gV hE;rw[p,v1,v2,v3];rfl
 ·rw[if_neg hE]at p⊢;obtain⟨v1,v2,v3⟩:=i7 hE;rw[p,v1,v2,v3]
theorem n0{f:Int}(hf:Fm f){a:Nat}(h:Ak f a=0):U0 (op f a,())=some (Bk f a,()):=by
 have p:=aVn hf h;unfold op i4;by_cases hE:eF f a=BO f
 ·rw[if_pos hE]at p⊢;obtain⟨v1,v2,v3⟩:=gV hE;rw[←p,v1,v2,v3];rfl
 ·rw[if_neg hE]at p⊢;obtain⟨v1,v2,v3⟩:=i7 hE;rw[←p,v1,v2,v3]
theorem bHo(b:BitVec 64):co 64 (aa .i64 (b.toNat:Int))=b:=by
 apply BitVec.eq_of_toNat_eq;rw[BitVec.toNat_ofInt];have hb:=b.isLt;show((if(true&&decide ((b.toNat:Int)%2^64>=2^63))=true then(b.toNat:Int)%2^64-2^64 else(b.toNat:Int)%2^64)%((2^64:Nat):Int)).toNat=b.toNat;split
 ·rename_i h;have h3:=of_decide_eq_true h;have h4:(b.toNat:Int)%2^64>=2^63:=h3;omega
 ·rename_i h;have h4:¬(b.toNat:Int)%2^64>=2^63:=fun h5=>h (decide_eq_true h5);omega
end VL
namespace VL
open Go Vx
def prd(f:Int)(a b:Nat):Bool×Bool×Bool×Bool×Bool×ZP×Unit:=bif(AB f a&&Bk f b)||(Bk f a&&AB f b)then(true,(nan f a||nan f b),(Bn f a||Bn f b),false,(!(sF f a==sF f b)),(false,[],0,()),())else bif nan f a||nan f b then(false,(nan f a||nan f b),(Bn f a||Bn f b),false,(!(sF f a==sF f b)),(false,[],0,()),())else bif AB f a||AB f b then(false,(nan f a||nan f b),(Bn f a||Bn f b),true,(!(sF f a==sF f b)),(false,[],0,()),())else(false,(nan f a||nan f b),(Bn f a||Bn f b),false,(!(sF f a==sF f b)),((!(sF f a==sF f b)),Dh (Ao f a*Ao f b),Ar f a+Ar f b,()),())
theorem sQ{f:Int}{a:Nat}(h1:nan f a=false)(h2:AB f a=false):i4 f a=(sF f a,Dh (Ao f a),Ar f a,()):=by
 unfold i4;rw[if_neg (aCj h1 h2)]
theorem Yw{f:Int}(hf:Fm f)(a:Nat):Ao f a<2^53:=al (aZQ hf a) (ai (by decide) (Fk hf))
theorem aVf{f:Int}(hf:Fm f){a b:Nat}(ha:Ak f a=0)(hb:Ak f b=0):dA (op f a,op f b,())=some (prd f a b,()):=by
 show wZ Eo.pre Eo.F Tz.pre Tz.F (op f a) (op f b)=_;unfold wZ prd;have q1:=n0 hf ha;have q2:=n0 hf hb;have m1:=Yw hf a;have m2:=Yw hf b;have x1:=Y5 hf a;have x2:=Y5 hf b;dsimp only[op]at q1 q2⊢;simp only[YL q1,XQ q1,YL q2,XQ q2,cond_true,aw];cases h1:(AB f a&&Bk f b)||(Bk f a&&AB f b)
 ·cases h2:nan f a||nan f b
  ·cases h3:AB f a||AB f b
   ·rw[ii]at h2 h3;have hp:(2:Nat)^53<2^5000:=bq (by decide) (by decide);have p:=aVe (x:=Ao f a) (y:=Ao f b) (by omega) (by omega);rw[sQ h2.1 h3.1,sQ h2.2 h3.2];have e:aa .i64 (Ar f a+Ar f b)=Ar f a+Ar f b:=At (by omega);simp only[cond_false,bBz p,aYZ p,cond_true,e]
   ·rfl
  ·rfl
 ·rfl
theorem bAK(g x:Int):Ai .i64 (Ai .i64 g x) 0=Ai .i64 g x:=by
 have e:∀x y:Int,co 64 (Ai .i64 x y)=co 64 x ||| co 64 y:=fun x y=>bHo _;show aa .i64 ((co 64 (Ai .i64 g x) ||| co 64 0).toNat:Int)=aa .i64 ((co 64 g ||| co 64 x).toNat:Int);rw[e,show co 64 0=0#64 from rfl,BitVec.or_zero]
def RG(g:Int):Prop:=Ai .i64 g 0=g
theorem KB(g x:Int):RG (Ai .i64 g x):=bAK g x
section
variable {f m:Int}(hf:Fm f)(hm:0<=m/\m<=5)
include hf hm
theorem cW(g:Int){a b:Nat}(ha:Ak f a=0)(hb:Ak f b=0):cV ((f,m,g,()),(a:Int),(b:Int),())=some ((f,m,Ai .i64 g (An f m 1 a b),()),((As f m 1 a b:Nat):Int),()):=by
 have p:WQ (f,m,(a:Int),(b:Int),())=some (D5 m 1 f a b 0):=aAa f m (XA hf ha) (XA hf hb);have h:=(V7 hf hm (.inl rfl) ha hb).2.1;show wV Gk.pre Gk.F (f,m,g,()) (a:Int) (b:Int)=_;unfold wV;dsimp only;simp only[sX p,r5 p,cond_true,h];rfl
theorem aHj(g:Int){a b:Nat}(ha:Ak f a=0)(hb:Ak f b=0):dC ((f,m,g,()),(a:Int),(b:Int),())=some ((f,m,Ai .i64 g (An f m 2 a b),()),((As f m 2 a b:Nat):Int),()):=by
 have p:WP (f,m,(a:Int),(b:Int),())=some (D5 m 2 f a b 0):=aUQ f m (XA hf ha) (XA hf hb);have h:=(V7 hf hm (.inr (.inl rfl)) ha hb).2.1;show w6 S9.pre S9.F (f,m,g,()) (a:Int) (b:Int)=_;unfold w6;dsimp only;simp only[bBb p,aYB p,cond_true,h];rfl
theorem KM{g:Int}(hg:RG g){a b:Nat}(ha:Ak f a=0)(hb:Ak f b=0):dB ((f,m,g,()),(a:Int),(b:Int),())=some ((f,m,Ai .i64 g (An f m 3 a b),()),((As f m 3 a b:Nat):Int),()):=by
 have p1:=nZ hf ha;have p2:=nZ hf hb;have p3:=aVf hf ha hb;have p4:=aAh hf;have p5:=zX hf (!(sF f a==sF f b));have m1:=Yw hf a;have m2:=Yw hf b;have x1:=Y5 hf a;have x2:=Y5 hf b;unfold As An;rw[stM hf hm ha hb];show w0 Em.pre Em.F TA.pre TA.F En.pre En.F Eh.pre Eh.F Gs.pre Gs.F (f,m,g,()) (a:Int) (b:Int)=_;unfold w0 iZ;dsimp only at p1 p2 p3⊢;simp only[Ht p1,Hn p1,Ht p2,Hn p2,bBA p3,aY0 p3,cond_true];unfold prd;cases hn:nan f a||nan f b
 ·have hs:(Bn f a||Bn f b)=false:=by
   rw[ii]at hn⊢;exact⟨aDW hn.1,aDW hn.2⟩
  cases h1:(AB f a&&Bk f b)||(Bk f a&&AB f b)
  ·cases h3:AB f a||AB f b
   ·have hmm:Ao f a*Ao f b<2^6000:=by
     have:=Nat.mul_lt_mul'' m1 m2;refine fm this ?_;rw[←bj];exact bq (by decide) (by decide)
    have p6:=aHv hf hm (!(sF f a==sF f b)) (Ao f a*Ao f b) (Ar f a+Ar f b) (!(sF f a==sF f b)) hmm (by omega);simp only[cond_false,hs,bb,aDy p6,aCF p6,cond_true];have z1:=aEg f a;have z2:=aEg f b;cases hz:Bk f a||Bk f b
    ·rw[ii]at hz;have n1:=Pb hz.1;have n2:=Pb hz.2;rw[if_neg (kj n1 n2)];rfl
    ·have h0:Ao f a*Ao f b=0:=by
      rw[dv]at hz;rcases hz with hz|hz
      ·rw[hz,beq_iff_eq]at z1;rw[show Ao f a=0 by omega,ff]
      ·rw[hz,beq_iff_eq]at z2;rw[show Ao f b=0 by omega,fd]
     rw[if_pos h0];rfl
   ·simp only[cond_false,hs,bb,sW p5,r4 p5,cond_true,ab];have e:Ai .i64 g 0=g:=hg;rw[e]
  ·simp only[cond_false,hs,bi,O1 p4,OO p4,cond_true,ab]
 ·cases h1:(AB f a&&Bk f b)||(Bk f a&&AB f b)
  ·cases hs:Bn f a||Bn f b
   ·simp only[cond_false,bb,O1 p4,OO p4,cond_true,ab];have e:Ai .i64 g 0=g:=hg;rw[e]
   ·simp only[cond_false,ba,O1 p4,OO p4,cond_true,ab]
  ·exfalso;rw[dv,ag,ag]at h1;have hh:nan f a=false/\nan f b=false:=by
    rcases h1 with⟨u,v⟩|⟨u,v⟩
    ·exact⟨aNr u,(aRJ hf v).2⟩
    ·exact⟨(aRJ hf u).2,aNr v⟩
   rw[hh.1,hh.2]at hn;cases hn
end
end VL
namespace VL
open Go Vx
theorem aXb{X m q r:Nat}(h1:X=2*m*q+r)(h2:r<2*m):
  (m<=r->X=m*(2*q+1)+(r-m)/\r-m<m)/\(¬m<=r->X=m*(2*q)+r/\r<m):=by
 have e:2*m*q=m*(2*q):=by rw[be 2 m,bh]
 have e2:m*(2*q+1)=m*(2*q)+m:=by rw[bw,gq]
 constructor
 ·intro h;rw[e2];omega
 ·intro h;omega
abbrev N0:ZP:=(false,[],0,())
theorem aVV(neg:Bool)(xn yn:ZP){X y:Nat}(hX:X<2^5000)(hy:y<2^5000)(hyn:yn.2.1=Dh y):∀(k:Nat),k<=5000->∀q r:Nat,X=y*2^k*q+r->r<y*2^k->q<2^5000 ->
  oW (((k:Int)-1,Dh q,Dh r,neg,(),(),(),()),xn,yn,N0,())=some (.inl ((Dh (X/y),Dh (X%y),neg,(),(),(),()),xn,yn,N0,())):=by
 intro k hk q r h1 h2 hq;have h100:(2:Nat)^5000<2^100000:=bq (by decide) (by decide);have key:=CD (aOa Dm.pre Dm.F CH.pre CH.F CI.pre CI.F CF.pre CF.F CG.pre CG.F) (fun s=>(s.1.1+1).toNat)
  (fun s=>∃(k q r:Nat),k<=5000/\X=y*2^k*q+r/\r<y*2^k/\q<=X/\s=(((k:Int)-1,Dh q,Dh r,neg,(),(),(),()),xn,yn,N0,()))
  (fun _=>.inl ((Dh (X/y),Dh (X%y),neg,(),(),(),()),xn,yn,N0,())) ?_ _ ⟨k,q,r,hk,h1,h2,?_,rfl⟩
 ·exact key
 ·intro L s hs hL;obtain⟨k,q,r,hk,h1,h2,hq,rfl⟩:=hs;unfold Yq;have hrX:r<=X:=by omega
  cases k with
  |zero=>
   have e0:decide (((0:Nat):Int)-1>=(0:Int))=false:=by decide
   rw[iu,gq]at h1 h2;have d1:X/y=q:=by
    rw[h1,jw (by omega),ci h2,cz]
   have d2:X%y=r:=by rw[h1,jx,bt h2]
   dsimp only;rw[e0,cond_false,d1,d2]
  |succ k=>
   have ek:((k+1:Nat):Int)-1=(k:Int):=by omega
   rw[ek];have e0:decide ((k:Int)>=(0:Int))=true:=decide_eq_true (by omega);have hm:y*2^(k+1)=2*(y*2^k):=by rw[dl,be (2^k) 2,fx]
   rw[hm]at h1 h2;obtain⟨b1,b2⟩:=aXb h1 h2;have hyk:y*2^k<2^100000:=by
    have h5:y*2^k<2^5000*2^5000:=Nat.mul_lt_mul_of_lt_of_le hy (ai (by decide) (by omega)) (aj _);rw[←bj]at h5;exact al h5 (ai (by decide) (by decide))
   have p1:NC (Dh q,(1:Int),())=some (Dh (q*2^1),()):=ND (x:=q) (by omega) 1 (by decide);have p2:=ND (x:=y) (by omega) k (by omega);rw[←hyn]at p2;have p3:=zU r (y*2^k) (by omega) hyk;have e1:((1:Int)::[])=Dh 1:=(lJ (x:=1) (by decide) (by decide)).symm;have p5:TJ (Dh (q*2^1),(1:Int)::[],())=some (Dh (q*2^1+1),()):=by
    rw[e1];exact nU (by have:(2:Nat)^5001<2^100000:=bq (by decide) (by decide);have h6:(2:Nat)^5001=2^5000*2:=dl 2 5000;omega) (by omega)
   have e3:aa .i64 ((k:Int)-1)=(k:Int)-1:=At (by omega);by_cases hc:y*2^k<=r
   ·obtain⟨c1,c2⟩:=b1 hc;have hq':2*q+1<=X:=by
     have hpos:1<=y*2^k:=by omega
     have:=gw hpos (bu (2*q+1));omega
    have p4:=nV (x:=r) (y:=y*2^k) (by omega) hc;have e2:decide ((if r=y*2^k then(0:Int)else if r<y*2^k then -1 else 1)>=0)=true:=by
     apply decide_eq_true;by_cases h:r=y*2^k
     ·rw[if_pos h];exact Int.le_refl 0
     ·rw[if_neg h,if_neg (by omega)];decide
    have hn:=hL (((k:Int)-1,Dh (2*q+1),Dh (r-y*2^k),neg,(),(),(),()),xn,yn,N0,()) ⟨k,2*q+1,r-y*2^k,by omega,c1,c2,hq',rfl⟩ (by show((k:Int)-1+1).toNat<(((k+1:Nat):Int)-1+1).toNat;omega);rw[show q*2^1+1=2*q+1 by omega]at p5;dsimp only;simp only[e0,cond_true,Ja p1,I1 p1,Ja p2,I1 p2,sT p3,rX p3,e2,sU p4,rY p4,sS p5,rW p5,e3];exact hn
   ·obtain⟨c1,c2⟩:=b2 hc;have hq':2*q<=X:=by
     rcases br (y*2^k)with h0|h0
     ·omega
     ·have:=gw h0 (bu (2*q));omega
    have e2:decide ((if r=y*2^k then(0:Int)else if r<y*2^k then -1 else 1)>=0)=false:=by
     apply decide_eq_false;rw[if_neg (by omega),if_pos (by omega)];decide
    have hn:=hL (((k:Int)-1,Dh (2*q),Dh r,neg,(),(),(),()),xn,yn,N0,()) ⟨k,2*q,r,by omega,c1,c2,hq',rfl⟩ (by show((k:Int)-1+1).toNat<(((k+1:Nat):Int)-1+1).toNat;omega);rw[show q*2^1=2*q by omega]at p1;dsimp only;simp only[e0,cond_true,Ja p1,I1 p1,Ja p2,I1 p2,sT p3,rX p3,e2,cond_false,e3];exact hn
 ·rcases br (y*2^k)with h0|h0
  ·omega
  ·have:=gw h0 (bu q);omega
theorem aVi{x y X:Nat}(hXe:X=x*2^130)(hx0:x≠0)(hx:x<2^53)(hy0:y≠0)(hy:y<2^53)(s1 s2 neg:Bool){ex ey:Int}(h1:-1100<=ex/\ex<=1100)(h2:-1100<=ey/\ey<=1100):
  dF ((s1,Dh x,ex,()),(s2,Dh y,ey,()),neg,())=some ((neg,Dh (2*(X/y)+if X%y=0 then 0 else 1),ex-ey-131,()),()):=by
 have hX:X<2^183:=by
  have:=cj hx (aj 130);rw[←bj,←hXe]at this;exact this
 have h5:(2:Nat)^183<2^5000:=bq (by decide) (by decide);have h6:(2:Nat)^53<2^5000:=bq (by decide) (by decide);have h7:(2:Nat)^5000<2^100000:=bq (by decide) (by decide);have hXp:2^130<=X:=by rw[hXe];exact ik _ (by omega)
 have p1:NC (Dh x,(130:Int),())=some (Dh X,()):=by rw[hXe];exact ND (x:=x) (by omega) 130 (by decide)
 clear hXe;have bX:=T3 (n:=X) (k:=130) hXp;have by_:=DY hy;have bX2:=DY hX;have lt1:=Hj X;have ge1:=Ox hy0;have bp:=gA hy0;have p2:=bC (n:=X) (by omega);have p3:=bC (n:=y) (by omega);generalize hB:Am X=B at *
 generalize hb:Am y=b at *
 have e0:aa .i64 ((B:Int)-(b:Int))=((B-b+1:Nat):Int)-1:=by rw[At (by omega)];omega
 have hlt:X<y*2^(B-b+1):=by
  have:=bc (2^(B-b+1)) ge1;rw[←bj,show b-1+(B-b+1)=B by omega]at this;omega
 have w:=aVV neg (s1,Dh x,ex,()) (s2,Dh y,ey,()) (X:=X) (y:=y) (by omega) (by omega) rfl (B-b+1) (by omega) 0 X (by rw[fd,de]) hlt (by omega);rw[aEj]at w;have hq:X/y<=X:=dw _ _;have p4:NC (Dh (X/y),(1:Int),())=some (Dh (X/y*2^1),()):=ND (x:=X/y) (by omega) 1 (by decide);rw[show X/y*2^1=2*(X/y) by omega]at p4;generalize X/y=q at *
 generalize X%y=r at *
 have e1:((1:Int)::[])=Dh 1:=(lJ (x:=1) (by decide) (by decide)).symm;have p5:TJ (Dh (2*q),(1:Int)::[],())=some (Dh (2*q+1),()):=by
  rw[e1];exact nU (by have h8:(2:Nat)^184<2^100000:=bq (by decide) (by decide);have h9:(2:Nat)^184=2^183*2:=dl 2 183;omega) (by omega)
 have e2:aa .i64 (aa .i64 (aa .i64 (ex-ey)-130)-1)=ex-ey-131:=by
  rw[At (n:=ex-ey) (by omega),At (n:=ex-ey-130) (by omega),At (by omega)];omega
 show w9 Dm.pre Dm.F CH.pre CH.F CI.pre CI.F CF.pre CF.F CG.pre CG.F oW (s1,Dh x,ex,()) (s2,Dh y,ey,()) neg=_;unfold w9;dsimp only;simp only[Ja p1,I1 p1,jB p2,gY p2,jB p3,gY p3,cond_true,e0];rw[w];dsimp only[Ba,A9];simp only[Ja p4,I1 p4,cond_true,e2];by_cases hr:r=0
 ·have e3:decide (((Dh r).length:Int)>0)=false:=by rw[hr,aEj];rfl
  rw[e3,if_pos hr];rfl
 ·have e3:decide (((Dh r).length:Int)>0)=true:=decide_eq_true (by have:=aEi hr;omega);rw[e3,if_neg hr];simp only[sS p5,rW p5,cond_true]
theorem bFB{f m:Int}(hf:Fm f)(neg:Bool){n k X:Nat}(hXe:X=n*2^130)(hn:n≠0)(hk0:k≠0)(hk:k<2^53)(e:Int):
  Bj f m neg (2*(X/k)+if X%k=0 then 0 else 1) (e-131) false=Gw f m neg n k e:=by
 have hP:=Fk hf;have hX2:2^130<=X:=by rw[hXe];exact ik _ (by omega)
 have hq:2^77<=X/k:=by
  rw[ir (by omega)];have h1:2^77*k<=2^77*2^53:=cp _ (by omega);rw[←bj]at h1;omega
 have hb:=T3 hq;have key:=rH (m:=m) (neg:=neg) hf hn (show 0<k by omega) e (s:=130) (by decide) (fun _=>by rw[←hXe];omega);rw[←hXe]at key;rw[←key];clear key hXe;unfold Lv;generalize X/k=q at *
 generalize X%k=r at *
 by_cases hr:r=0
 ·rw[if_pos hr,if_neg (by rw[hr];decide),cz,be 2];have:=YT (m:=m) (neg:=neg) hf (n:=q) (by omega) 1 (e-131);rw[px]at this;rw[this];congr 1;omega
 ·rw[if_neg hr,if_pos (by exact decide_eq_true hr)];congr 1;omega
theorem aHk{f m:Int}(hf:Fm f)(hm:0<=m/\m<=5){g:Int}(hg:RG g){a b:Nat}(ha:Ak f a=0)(hb:Ak f b=0):dG ((f,m,g,()),(a:Int),(b:Int),())=some ((f,m,Ai .i64 g (An f m 4 a b),()),((As f m 4 a b:Nat):Int),()):=by
 have p1:=nZ hf ha;have p2:=nZ hf hb;have q1:=n0 hf ha;have q2:=n0 hf hb;have p4:=aAh hf;have p5:=zX hf (!(sF f a==sF f b));have p6:=aGu hf (!(sF f a==sF f b));have m1:=Yw hf a;have m2:=Yw hf b;have x1:=Y5 hf a;have x2:=Y5 hf b;have e0:Ai .i64 g 0=g:=hg;unfold As An;rw[stD hf hm ha hb];show xA Em.pre Em.F En.pre En.F Eh.pre Eh.F Eo.pre Eo.F Gl.pre Gl.F TC.pre TC.F Gi.pre Gi.F (f,m,g,()) (a:Int) (b:Int)=_;unfold xA gH;dsimp only at p1 p2 q1 q2⊢;simp only[Ht p1,Hn p1,Ht p2,Hn p2,YL q1,XQ q1,YL q2,XQ q2,cond_true,aw];cases hs:Bn f a||Bn f b
 ·cases hn:nan f a||nan f b
  ·simp only[cond_false];cases h1:(AB f a&&AB f b)||(Bk f a&&Bk f b)
   ·cases h2:AB f a
    ·cases h3:Bk f b
     ·cases h4:AB f b||Bk f a
      ·rw[ii]at hn h4;have n1:=Pb h4.2;have n2:=Pb h3;obtain⟨X,hXe⟩:∃X,X=Ao f a*2^130:=⟨_,rfl⟩
       have p7:=aVi (x:=Ao f a) (y:=Ao f b) hXe n1 m1 n2 m2 (sF f a) (sF f b) (!(sF f a==sF f b)) x1 x2;have hX:X<2^183:=by
        have:=cj m1 (aj 130);rw[←bj,←hXe]at this;exact this
       have hXp:2^130<=X:=by rw[hXe];exact ik _ (by omega)
       have hq:X/Ao f b<=X:=dw _ _;have hq2:0<X/Ao f b:=Nat.div_pos (by have:(2:Nat)^53<2^130:=bq (by decide) (by decide);omega) (by omega);have h8:(2:Nat)^184<2^6000:=bq (by decide) (by decide);have h9:(2:Nat)^184=2^183*2:=dl 2 183;have p9:=bFB (m:=m) hf (!(sF f a==sF f b)) hXe n1 n2 m2 (Ar f a-Ar f b);clear hXe;generalize X/Ao f b=q at *
       generalize X%Ao f b=r at *
       have p8:=aFW hf hm (!(sF f a==sF f b)) (2*q+if r=0 then 0 else 1) (Ar f a-Ar f b-131) (by split<;>omega) (by split<;>omega) (by omega);rw[p9]at p8;clear p9;generalize Gw f m (!(sF f a==sF f b)) (Ao f a) (Ao f b) (Ar f a-Ar f b)=d at *
       obtain⟨d1,d2⟩:=d;rw[sQ hn.1 h2,sQ hn.2 h4.1];simp only[cond_false,cond_true,bi,bb,h4.1,h4.2,bBD p7,aY3 p7,aOQ p8,aML p8,ab]
      ·simp only[cond_false,cond_true,aO1 p6,aMW p6,ab,e0]
     ·simp only[cond_false,cond_true,sW p5,r4 p5,ab]
    ·simp only[cond_true,cond_false,sW p5,r4 p5,ab,e0]
   ·simp only[cond_true,cond_false,O1 p4,OO p4,ab]
  ·simp only[cond_false,cond_true,O1 p4,OO p4,ab,e0]
 ·have hn:(nan f a||nan f b)=true:=by
   rw[dv]at hs⊢;rcases hs with h|h
   ·exact .inl (tS h)
   ·exact .inr (tS h)
  simp only[hn,cond_true,O1 p4,OO p4,ab]
end VL
namespace VL
open Go Vx
theorem aVc{f m:Int}(hf:Fm f)(hm:0<=m/\m<=5){g:Int}(hg:RG g){x y:BS}(hx:EB f x)(hy:EB f y):
  cX ((f,m,g,()),cI x,cI y,())=some ((f,m,Up f m g (jY x y),()),cI (YX f m x y),()):=by
 have q1:=Ly hf hm hx.1 hy.1;have q2:=Ly hf hm hx.2 hy.2;have p1:=cW hf hm g hx.1 hy.1;have p2:=cW hf hm (Ai .i64 g (An f m 1 x.1 y.1)) hx.2 hy.2;show wW El.pre El.F (f,m,g,()) (cI x) (cI y)=_;unfold wW cI;dsimp only;simp only[jE p1,hJ p1,jE p2,hJ p2,cond_true];rfl
theorem aVg{f m:Int}(hf:Fm f)(hm:0<=m/\m<=5){g:Int}(hg:RG g){x y:BS}(hx:EB f x)(hy:EB f y):
  dD ((f,m,g,()),cI x,cI y,())=some ((f,m,Up f m g (YM f m x y),()),cI (VY f m x y),()):=by
 have q1:=DL hf hm hx.1 hy.1;have q2:=DL hf hm hx.2 hy.2;have q3:=DL hf hm hx.1 hy.2;have q4:=DL hf hm hx.2 hy.1;have q5:=tU hf hm q1 q2;have q6:=Ly hf hm q3 q4;have p1:=KM hf hm hg hx.1 hy.1;have p2:=KM hf hm (KB g (An f m 3 x.1 y.1)) hx.2 hy.2;have p3:=KM hf hm (KB (Ai .i64 g (An f m 3 x.1 y.1)) (An f m 3 x.2 y.2)) hx.1 hy.2;have p4:=KM hf hm (KB (Ai .i64 (Ai .i64 g (An f m 3 x.1 y.1)) (An f m 3 x.2 y.2)) (An f m 3 x.1 y.2)) hx.2 hy.1;have p5:=aHj hf hm (Ai .i64 (Ai .i64 (Ai .i64 (Ai .i64 g (An f m 3 x.1 y.1)) (An f m 3 x.2 y.2)) (An f m 3 x.1 y.2)) (An f m 3 x.2 y.1)) q1 q2;have p6:=cW hf hm (Ai .i64 (Ai .i64 (Ai .i64 (Ai .i64 (Ai .i64 g (An f m 3 x.1 y.1)) (An f m 3 x.2 y.2)) (An f m 3 x.1 y.2)) (An f m 3 x.2 y.1)) (An f m 2 (As f m 3 x.1 y.1) (As f m 3 x.2 y.2))) q3 q4;show w7 Gq.pre Gq.F Gr.pre Gr.F El.pre El.F (f,m,g,()) (cI x) (cI y)=_;unfold w7 cI;dsimp only;simp only[Lt p1,Lg p1,Lt p2,Lg p2,Lt p3,Lg p3,Lt p4,Lg p4,aPb p5,aM5 p5,jE p6,hJ p6,cond_true];rfl
theorem aVj{f m:Int}(hf:Fm f)(hm:0<=m/\m<=5){g:Int}(hg:RG g){x y:BS}(hx:EB f x)(hy:EB f y):
  dH ((f,m,g,()),cI x,cI y,())=some ((f,m,Up f m g (YQ f m x y),()),cI (V0 f m x y),()):=by
 have q1:=DL hf hm hy.1 hy.1;have q2:=DL hf hm hy.2 hy.2;have q3:=Ly hf hm q1 q2;have q4:=DL hf hm hx.1 hy.1;have q5:=DL hf hm hx.2 hy.2;have q6:=Ly hf hm q4 q5;have q7:=DL hf hm hx.2 hy.1;have q8:=DL hf hm hx.1 hy.2;have q9:=tU hf hm q7 q8;have q10:=tV hf hm q6 q3;have q11:=tV hf hm q9 q3;have p1:=KM hf hm hg hy.1 hy.1;have p2:=KM hf hm (KB g (An f m 3 y.1 y.1)) hy.2 hy.2;have p3:=cW hf hm (Ai .i64 (Ai .i64 g (An f m 3 y.1 y.1)) (An f m 3 y.2 y.2)) q1 q2;have p4:=KM hf hm (KB (Ai .i64 (Ai .i64 g (An f m 3 y.1 y.1)) (An f m 3 y.2 y.2)) (An f m 1 (As f m 3 y.1 y.1) (As f m 3 y.2 y.2))) hx.1 hy.1;have p5:=KM hf hm (KB (Ai .i64 (Ai .i64 (Ai .i64 g (An f m 3 y.1 y.1)) (An f m 3 y.2 y.2)) (An f m 1 (As f m 3 y.1 y.1) (As f m 3 y.2 y.2))) (An f m 3 x.1 y.1)) hx.2 hy.2;have p6:=cW hf hm (Ai .i64 (Ai .i64 (Ai .i64 (Ai .i64 (Ai .i64 g (An f m 3 y.1 y.1)) (An f m 3 y.2 y.2)) (An f m 1 (As f m 3 y.1 y.1) (As f m 3 y.2 y.2))) (An f m 3 x.1 y.1)) (An f m 3 x.2 y.2)) q4 q5;have p7:=KM hf hm (KB (Ai .i64 (Ai .i64 (Ai .i64 (Ai .i64 (Ai .i64 g (An f m 3 y.1 y.1)) (An f m 3 y.2 y.2)) (An f m 1 (As f m 3 y.1 y.1) (As f m 3 y.2 y.2))) (An f m 3 x.1 y.1)) (An f m 3 x.2 y.2)) (An f m 1 (As f m 3 x.1 y.1) (As f m 3 x.2 y.2))) hx.2 hy.1;have p8:=KM hf hm (KB (Ai .i64 (Ai .i64 (Ai .i64 (Ai .i64 (Ai .i64 (Ai .i64 g (An f m 3 y.1 y.1)) (An f m 3 y.2 y.2)) (An f m 1 (As f m 3 y.1 y.1) (As f m 3 y.2 y.2))) (An f m 3 x.1 y.1)) (An f m 3 x.2 y.2)) (An f m 1 (As f m 3 x.1 y.1) (As f m 3 x.2 y.2))) (An f m 3 x.2 y.1)) hx.1 hy.2;have p9:=aHj hf hm (Ai .i64 (Ai .i64 (Ai .i64 (Ai .i64 (Ai .i64 (Ai .i64 (Ai .i64 (Ai .i64 g (An f m 3 y.1 y.1)) (An f m 3 y.2 y.2)) (An f m 1 (As f m 3 y.1 y.1) (As f m 3 y.2 y.2))) (An f m 3 x.1 y.1)) (An f m 3 x.2 y.2)) (An f m 1 (As f m 3 x.1 y.1) (As f m 3 x.2 y.2))) (An f m 3 x.2 y.1)) (An f m 3 x.1 y.2)) q7 q8;have p10:=aHk hf hm (KB (Ai .i64 (Ai .i64 (Ai .i64 (Ai .i64 (Ai .i64 (Ai .i64 (Ai .i64 (Ai .i64 g (An f m 3 y.1 y.1)) (An f m 3 y.2 y.2)) (An f m 1 (As f m 3 y.1 y.1) (As f m 3 y.2 y.2))) (An f m 3 x.1 y.1)) (An f m 3 x.2 y.2)) (An f m 1 (As f m 3 x.1 y.1) (As f m 3 x.2 y.2))) (An f m 3 x.2 y.1)) (An f m 3 x.1 y.2)) (An f m 2 (As f m 3 x.2 y.1) (As f m 3 x.1 y.2))) q6 q3;have p11:=aHk hf hm (KB (Ai .i64 (Ai .i64 (Ai .i64 (Ai .i64 (Ai .i64 (Ai .i64 (Ai .i64 (Ai .i64 (Ai .i64 g (An f m 3 y.1 y.1)) (An f m 3 y.2 y.2)) (An f m 1 (As f m 3 y.1 y.1) (As f m 3 y.2 y.2))) (An f m 3 x.1 y.1)) (An f m 3 x.2 y.2)) (An f m 1 (As f m 3 x.1 y.1) (As f m 3 x.2 y.2))) (An f m 3 x.2 y.1)) (An f m 3 x.1 y.2)) (An f m 2 (As f m 3 x.2 y.1) (As f m 3 x.1 y.2))) (An f m 4 (As f m 1 (As f m 3 x.1 y.1) (As f m 3 x.2 y.2)) (As f m 1 (As f m 3 y.1 y.1) (As f m 3 y.2 y.2)))) q9 q3;show xB El.pre El.F Gq.pre Gq.F Gr.pre Gr.F TD.pre TD.F (f,m,g,()) (cI x) (cI y)=_;unfold xB cI;dsimp only;simp only[Lt p1,Lg p1,Lt p2,Lg p2,jE p3,hJ p3,Lt p4,Lg p4,Lt p5,Lg p5,jE p6,hJ p6,Lt p7,Lg p7,Lt p8,Lg p8,aPb p9,aM5 p9,aPc p10,aM6 p10,aPc p11,aM6 p11,cond_true];rfl
theorem aVS(f:Int)(hf:Fm f)(l:List BS)(hl:∀x∈l,x.1<2^64/\x.2<2^64)(hlen:l.length<2^63):
  oU ((f,l.map cI,(0:Int),()),())=some (if BR f l=true then .inl ((),())else .inr (((4:Int),()),())):=by
 have key:=CD (aN7 Dq.pre Dq.F CL.pre CL.F) (fun x=>l.length-x.1.2.2.1.toNat)
  (fun x=>∃i:Nat,i<=l.length/\BR f (l.drop i)=BR f l/\x=((f,l.map cI,(i:Int),()),()))
  (fun _=>if BR f l=true then .inl ((),())else .inr (((4:Int),()),())) ?_ _ ⟨0,dq _,rfl,rfl⟩
 ·exact key
 intro L x hx hL;obtain⟨i,hi,hok,rfl⟩:=hx;unfold Yn;rcases ax i l.length with hlt|hge
 ·have hg:(l.map cI).getD i ((0:Int),(0:Int),())=cI l[i]:=by simp[ak,hlt]
  obtain⟨h1,h2⟩:=hl _ (ja hlt);have p0:=gR hf h1;have p1:=gR hf h2;have e0:decide ((i:Int)<(l.length:Int))=true:=decide_eq_true (by omega);have e2:decide ((0:Int)<=(i:Int))=true:=decide_eq_true (by omega);have e1:decide ((i:Int)<(((l.map cI).length:Nat):Int))=true:=by rw[js];exact e0
  have e3:aa .i64 ((i:Int)+1)=((i+1:Nat):Int):=by rw[At (by omega)];omega
  have hN:L ((f,l.map cI,((i+1:Nat):Int),()),())=some (if BR f (l.drop (i+1))=true then .inl ((),())else .inr (((4:Int),()),()))∨BR f (l.drop (i+1))≠BR f l:=by
   by_cases h:BR f (l.drop (i+1))=BR f l
   ·left;rw[h];exact hL _ ⟨i+1,by omega,h,rfl⟩ (by simp only[ab];omega)
   ·exact .inr h
  rw[dz hlt]at hok;have hok':((Ak f l[i].1==0&&Ak f l[i].2==0)&&BR f (l.drop (i+1)))=BR f l:=hok;dsimp only;simp only[e1,e2,e3,ab,hg,cI,jF p0,hZ p0,jF p1,hZ p1,cond_true,aw,av];by_cases c1:Ak f l[i].1=0
  ·by_cases c2:Ak f l[i].2=0
   ·rw[c1,c2]at hok' ⊢;have h3:BR f (l.drop (i+1))=BR f l:=hok';rcases hN with hN|hN
    ·simp only[decide_true,au,bb,cond_false];rw[hN,h3]
    ·exact absurd h3 hN
   ·rw[beq_false_of_ne c2,ay,ao]at hok';rw[←hok',decide_eq_false c2,ar,ba];rfl
  ·rw[beq_false_of_ne c1,ao,ao]at hok';rw[←hok',decide_eq_false c1,ar,aw];rfl
 ·have e:i=l.length:=by omega
  subst e;rw[gy]at hok;have e0:decide ((l.length:Int)<(((l.map cI).length:Nat):Int))=false:=by rw[js];exact decide_eq_false (by omega)
  simp only[e0,cond_false];rw[←hok];rfl
theorem aAd(f m:Int)(l:List BS)(hl:∀x∈l,x.1<2^64/\x.2<2^64)(hlen:l.length<2^63):
  TO (f,m,l.map cI,())=some ((if ¬Fm f then(2:Int)else if m<0∨m>5 then 3 else if ¬BR f l=true then 4 else 0),()):=by
 show wU Dq.pre Dq.F CL.pre CL.F oU f m (l.map cI)=_;unfold wU;have p:=aHu f m;by_cases hf:Fm f
 ·rw[if_neg (show ¬¬Fm f from fun h=>h hf)];rw[if_pos hf]at p;by_cases hm:m<0∨m>5
  ·rw[if_neg (show ¬(0<=m/\m<=5) by omega)]at p;rw[if_pos hm];simp only[YK p,XP p,cond_true];rfl
  ·rw[if_pos (show 0<=m/\m<=5 by omega)]at p;rw[if_neg hm];have w:=aVS f hf l hl hlen;simp only[YK p,XP p,cond_true,bne_self_eq_false,cond_false];rw[w];by_cases h:BR f l=true
   ·rw[if_pos h,if_neg (fun x=>x h)]
   ·rw[if_neg h,if_pos h]
 ·rw[if_pos hf];rw[if_neg hf]at p;simp only[YK p,XP p,cond_true];rfl
theorem aVd(f m:Int){x y:BS}(hx:x.1<2^64/\x.2<2^64)(hy:y.1<2^64/\y.2<2^64):cY (f,m,cI x,cI y,())=some (DZ (YX f m) jY f m x y):=by
 show wX Ek.pre Ek.F Ty.pre Ty.F f m (cI x) (cI y)=_;unfold wX DZ;have p0:TO (f,m,(cI x::cI y::[]),())=_:=aAd f m [x,y] (by intro z hz;simp at hz;rcases hz with rfl|rfl<;>assumption) (by show 2<2^63;decide);by_cases hf:Fm f
 ·rw[if_neg (show ¬¬Fm f from fun h=>h hf)]at p0⊢;by_cases hm:m<0∨m>5
  ·rw[if_pos hm]at p0⊢;unfold cI at p0⊢;dsimp only at p0⊢;simp only[Hr p0,Hm p0,cond_true];rfl
  ·rw[if_neg hm]at p0⊢;by_cases hF:BR f [x,y]=true
   ·rw[if_neg (fun h=>h hF)]at p0⊢;obtain⟨ox,oy⟩:=XH hF;have p2:=aVc hf (m:=m) (by omega) (g:=0) rfl ox oy;unfold cI at p0 p2⊢;dsimp only at p0 p2⊢;simp only[Hr p0,Hm p0,cond_true,bne_self_eq_false,cond_false,bBx p2,aYX p2]
   ·rw[if_pos hF]at p0⊢;unfold cI at p0⊢;dsimp only at p0⊢;simp only[Hr p0,Hm p0,cond_true];rfl
 ·rw[if_pos hf]at p0⊢;unfold cI at p0⊢;dsimp only at p0⊢;simp only[Hr p0,Hm p0,cond_true];rfl
theorem aVh(f m:Int){x y:BS}(hx:x.1<2^64/\x.2<2^64)(hy:y.1<2^64/\y.2<2^64):dE (f,m,cI x,cI y,())=some (DZ (VY f m) (YM f m) f m x y):=by
 show w8 Ek.pre Ek.F TB.pre TB.F f m (cI x) (cI y)=_;unfold w8 DZ;have p0:TO (f,m,(cI x::cI y::[]),())=_:=aAd f m [x,y] (by intro z hz;simp at hz;rcases hz with rfl|rfl<;>assumption) (by show 2<2^63;decide);by_cases hf:Fm f
 ·rw[if_neg (show ¬¬Fm f from fun h=>h hf)]at p0⊢;by_cases hm:m<0∨m>5
  ·rw[if_pos hm]at p0⊢;unfold cI at p0⊢;dsimp only at p0⊢;simp only[Hr p0,Hm p0,cond_true];rfl
  ·rw[if_neg hm]at p0⊢;by_cases hF:BR f [x,y]=true
   ·rw[if_neg (fun h=>h hF)]at p0⊢;obtain⟨ox,oy⟩:=XH hF;have p2:=aVg hf (m:=m) (by omega) (g:=0) rfl ox oy;unfold cI at p0 p2⊢;dsimp only at p0 p2⊢;simp only[Hr p0,Hm p0,cond_true,bne_self_eq_false,cond_false,bBB p2,aY1 p2]
   ·rw[if_pos hF]at p0⊢;unfold cI at p0⊢;dsimp only at p0⊢;simp only[Hr p0,Hm p0,cond_true];rfl
 ·rw[if_pos hf]at p0⊢;unfold cI at p0⊢;dsimp only at p0⊢;simp only[Hr p0,Hm p0,cond_true];rfl
theorem aVk(f m:Int){x y:BS}(hx:x.1<2^64/\x.2<2^64)(hy:y.1<2^64/\y.2<2^64):dI (f,m,cI x,cI y,())=some (DZ (V0 f m) (YQ f m) f m x y):=by
 show xC Ek.pre Ek.F TE.pre TE.F f m (cI x) (cI y)=_;unfold xC DZ;have p0:TO (f,m,(cI x::cI y::[]),())=_:=aAd f m [x,y] (by intro z hz;simp at hz;rcases hz with rfl|rfl<;>assumption) (by show 2<2^63;decide);by_cases hf:Fm f
 ·rw[if_neg (show ¬¬Fm f from fun h=>h hf)]at p0⊢;by_cases hm:m<0∨m>5
  ·rw[if_pos hm]at p0⊢;unfold cI at p0⊢;dsimp only at p0⊢;simp only[Hr p0,Hm p0,cond_true];rfl
  ·rw[if_neg hm]at p0⊢;by_cases hF:BR f [x,y]=true
   ·rw[if_neg (fun h=>h hF)]at p0⊢;obtain⟨ox,oy⟩:=XH hF;have p2:=aVj hf (m:=m) (by omega) (g:=0) rfl ox oy;unfold cI at p0 p2⊢;dsimp only at p0 p2⊢;simp only[Hr p0,Hm p0,cond_true,bne_self_eq_false,cond_false,bBE p2,aY4 p2]
   ·rw[if_pos hF]at p0⊢;unfold cI at p0⊢;dsimp only at p0⊢;simp only[Hr p0,Hm p0,cond_true];rfl
 ·rw[if_pos hf]at p0⊢;unfold cI at p0⊢;dsimp only at p0⊢;simp only[Hr p0,Hm p0,cond_true];rfl
end VL
namespace VL
open Go Vx
def fk:FloatKind->Int
 |.f32=>2
 |.f64=>3
theorem aMt(k:FloatKind):Fm (fk k):=by cases k<;>exact⟨by decide,by decide⟩
theorem aX3(k:FloatKind):k.format.signWeight=2^(fW (fk k)-1):=by cases k<;>rfl
theorem aXZ(k:FloatKind):k.format.binade=2^(fP (fk k)-1):=by cases k<;>rfl
theorem aX1(k:FloatKind):k.format.infRung=Ct (fk k):=by cases k<;>rfl
theorem aX2(k:FloatKind):k.format.leastPlace=qm (fk k):=by cases k<;>rfl
theorem aX0(k:FloatKind):k.format.fractionBits=fP (fk k)-1:=by cases k<;>rfl
end VL
namespace VL
open Go Vx
theorem aRF(k:FloatKind)(neg:Bool)(r:Nat):k.format.word neg r=DK (fk k) neg r:=by
 unfold Ieee.Format.word DK;rw[aX3];cases neg
 ·rw[if_neg (by decide),cond_false,cz]
 ·rw[if_pos rfl,cond_true,io]
theorem aM9(neg odd:Bool)(rest:Nat):Df 0 neg odd rest=if rest=2 then odd else decide (2<=rest):=rfl
theorem aZA(n:Nat):n<2^(n.log2+1):=by
 by_cases h:n=0
 ·subst h;decide
 ·have:=Hj n;unfold Am at this;rw[if_neg h]at this;exact this
theorem aXv(neg:Bool)(n drop:Nat):Ieee.Toward.even.cut neg n drop=Ey 0 neg n drop:=by
 unfold Ieee.Toward.cut Ey;dsimp only;rw[pg,fw];by_cases hd:drop<=n.log2+2
 ·rw[gu hd,aM9];generalize hq:n/2^drop=q;have hr:=ca n (aj drop);generalize n%2^drop=r at *
  by_cases h0:drop=0
  ·subst h0;have:r=0:=by rw[iu]at hr;omega
   subst this;rfl
  ·have hp:2^drop=2*2^(drop-1):=by rw[be,←dl];congr 1;omega
   have hpp:=aj (drop-1);have hcl:Cx r drop=(if r=0 then 0 else if r<2^(drop-1)then 1 else if r=2^(drop-1)then 2 else 3):=rfl;rw[hp]at hr⊢;generalize Cx r drop=C at *
   generalize 2^(drop-1)=H at *
   by_cases c0:r=0
   ·rw[if_pos c0]at hcl;subst hcl;subst c0;have e1:decide (2*H<2*0)=false:=decide_eq_false (by omega);have e2:(2*H==2*0)=false:=beq_eq_false_iff_ne.2 (by omega);rw[e1,e2];rfl
   ·rw[if_neg c0]at hcl;by_cases c1:r<H
    ·rw[if_pos c1]at hcl;subst hcl;have e1:decide (2*H<2*r)=false:=decide_eq_false (by omega);have e2:(2*H==2*r)=false:=beq_eq_false_iff_ne.2 (by omega);rw[e1,e2];rfl
    ·rw[if_neg c1]at hcl;by_cases c2:r=H
     ·rw[if_pos c2]at hcl;subst hcl;subst c2;have e1:decide (2*r<2*r)=false:=decide_eq_false (by omega);rw[e1,beq_self_eq_true,if_pos rfl,bd,Bool.true_and];by_cases ho:q%2=1
      ·rw[ho,if_pos ⟨by decide,by rfl⟩];rfl
      ·rw[if_neg (fun h=>by simpa[ho]using h.2),show q%2=0 by omega];rfl
     ·rw[if_neg c2]at hcl;subst hcl;have e1:decide (2*H<2*r)=true:=decide_eq_true (by omega);rw[e1,aw,if_pos ⟨by decide,by rfl⟩];rfl
 ·have hlt:=aZA n;have h1:n<2^(n.log2+2):=fm hlt (bq (by decide) (by omega));have h2:n<2^(drop-1):=al hlt (ai (by decide) (by omega));have h3:n<2^drop:=al hlt (ai (by decide) (by omega));have h4:2*n<2^(n.log2+2):=by
   rw[show n.log2+2=(n.log2+1)+1 by omega,dl];omega
  rw[lu (by omega),ci h1,bt h1,ci h3,bt h3];have e1:decide (2^(n.log2+2)<2*n)=false:=decide_eq_false (by omega);have e2:(2^(n.log2+2)==2*n)=false:=beq_eq_false_iff_ne.2 (by omega);rw[e1,e2,aM9];unfold Cx;by_cases c0:n=0
  ·subst c0;rfl
  ·rw[if_neg c0,if_pos h2];rfl
theorem aLU(neg:Bool)(n:Nat):Ey 0 neg n 0=n:=by
 unfold Ey;rw[iu,Nat.mod_one,oa];rfl
theorem aXs(m:Int)(neg:Bool)(n j:Nat):Ey m neg (n*2^j) j=n:=by
 unfold Ey;rw[Nat.mul_mod_left,iy _ (aj j)];rw[if_neg (fun h=>h.1 rfl)]
theorem aXt(m:Int)(neg:Bool)(n:Nat){d k:Nat}(hd:1<=d):Ey m neg (n*2^k) (k+d)=Ey m neg n d:=by
 unfold Ey;have e1:n*2^k/2^(k+d)=n/2^d:=by
  rw[bj,←dj,iy _ (aj k)]
 have e2:n*2^k%2^(k+d)=2^k*(n%2^d):=by
  rw[bj,be n,Nat.mul_mod_mul_left]
 rw[e1,e2,aLP hd]
theorem aZ0(k:FloatKind)(neg:Bool){mag:Nat}(h0:mag≠0){Bp:Int}(hp:qm (fk k)<=Bp):
  k.format.nearest neg mag Bp=DK (fk k) neg (Fo (fk k) 0 neg (mag*2^(Bp-qm (fk k)).toNat) (qm (fk k))).1:=by
 have hf:=aMt k;have hP:=DH hf;obtain⟨D,hD⟩:=cd (show 0<=Bp-qm (fk k) by omega);have hN0:mag*2^D≠0:=kj h0 (ky (aj D));have hbl:Am (mag*2^D)=mag.log2+1+D:=by
  rw[be,←de (2^D*mag),aBS (aj D) (by omega)];unfold Am;rw[if_neg h0];omega
 rw[hD,ab,bFz hf 0 neg hN0];have hup:aNv (fk k) 0 neg=Ct (fk k):=rfl;unfold Ieee.Format.nearest;rw[if_neg h0,aRF,aX2,aX0,aXZ,aX1];congr 1;have key:(max (Bp+(mag.log2:Int)-((fP (fk k)-1:Nat):Int)) (qm (fk k))-qm (fk k)).toNat*2^(fP (fk k)-1) +
   Ieee.Toward.even.cut neg (mag <<< (Bp-max (Bp+(mag.log2:Int)-((fP (fk k)-1:Nat):Int)) (qm (fk k))).toNat) (max (Bp+(mag.log2:Int)-((fP (fk k)-1:Nat):Int)) (qm (fk k))-Bp).toNat=OW (fk k) 0 neg (mag*2^D):=by
  rw[aXv,pg];unfold OW;by_cases hs:mag*2^D<2^fP (fk k)
  ·rw[if_pos hs];have hb:=DY hs;rw[show max (Bp+(mag.log2:Int)-((fP (fk k)-1:Nat):Int)) (qm (fk k))=qm (fk k) by omega,Int.sub_self,ap,ff,de,hD,ab,show(qm (fk k)-Bp).toNat=0 by omega,aLU]
  ·rw[if_neg hs];have hb:fP (fk k)<Am (mag*2^D):=by
    rcases ax (fP (fk k)) (Am (mag*2^D))with h|h
    ·exact h
    ·exact absurd (al (Hj _) (ai (by decide) h)) hs
   rw[hbl]at hb⊢;obtain⟨j,hj⟩:∃j,mag.log2+1+D-fP (fk k)=j:=⟨_,rfl⟩
   have hl:max (Bp+(mag.log2:Int)-((fP (fk k)-1:Nat):Int)) (qm (fk k))=qm (fk k)+(j:Int):=by omega
   rw[hl,hj,show qm (fk k)+(j:Int)-qm (fk k)=(j:Int) by omega,ab];congr 1;by_cases hDj:j<=D
   ·rw[show(qm (fk k)+(j:Int)-Bp).toNat=0 by omega,show(Bp-(qm (fk k)+(j:Int))).toNat=D-j by omega,aLU];have e:mag*2^D=(mag*2^(D-j))*2^j:=by rw[bh,←bj];congr 2;omega
    rw[e,aXs]
   ·rw[show(Bp-(qm (fk k)+(j:Int))).toNat=0 by omega,iu,gq,show(qm (fk k)+(j:Int)-Bp).toNat=j-D by omega];have e:=aXt 0 neg mag (d:=j-D) (k:=D) (by omega);rw[show D+(j-D)=j by omega]at e;exact e.symm
 rw[key,hup];by_cases h:Ct (fk k)<=OW (fk k) 0 neg (mag*2^D)
 ·rw[if_pos h,lu h]
 ·rw[if_neg h,gu (by omega)]
theorem bFC(k:FloatKind)(neg:Bool){mag:Nat}(h0:mag≠0){Bp:Int}(hp:qm (fk k)<=Bp):k.format.nearest neg mag Bp=(Bj (fk k) 0 neg mag Bp false).1:=by
 rw[aZ0 k neg h0 hp,bFD (aMt k) 0 neg h0 hp]
theorem aZ1(k:FloatKind)(neg:Bool)(Bp:Int):k.format.nearest neg 0 Bp=BK (fk k) neg:=by
 unfold Ieee.Format.nearest;rw[if_pos rfl,aRF,←qN,de]
theorem Yz(k:FloatKind)(T:Int)(z:Bool){e:Int}(he:qm (fk k)<=e):
  k.format.nearest (if T=0 then z else decide (T<0)) T.natAbs e=if T=0 then BK (fk k) z else(Bj (fk k) 0 (decide (T<0)) T.natAbs e false).1:=by
 by_cases h:T=0
 ·rw[if_pos h,if_pos h,h];exact aZ1 k z e
 ·rw[if_neg h,if_neg h];exact bFC k _ (by omega) he
end VL
namespace VL
open Go Vx
theorem F1:UE 1:=.inl rfl
def aZC(x:BS):Prop:=x.1<2^64/\x.2<2^64
end VL
namespace VL
open Go Vx
theorem nX(x:XI):WW (x,x,())=some (true,()):=by
 show xD x x=_;unfold xD;rw[beq_self_eq_true,beq_self_eq_true];rfl
abbrev OpT:=Int×Int×Int×XI×XI×Unit
def j2(x:XI):Prop:=(0<=x.1/\x.1<2^64)/\(0<=x.2.1/\x.2.1<2^64)
theorem aRE{x:XI}(h:j2 x):∃y:BS,aZC y/\x=cI y:=by
 obtain⟨a,b,u⟩:=x;obtain⟨⟨h1,h2⟩,h3,h4⟩:=h;dsimp only at h1 h2 h3 h4;obtain⟨a,rfl⟩:=cd h1;obtain⟨b,rfl⟩:=cd h3;exact⟨(a,b),⟨by show a<2^64;omega,by show b<2^64;omega⟩,rfl⟩
theorem aVW(l:List OpT)(hl:∀e∈l,j2 e.2.2.2.1/\j2 e.2.2.2.2.1)(hlen:l.length<2^63):
  oX ((l,(0:Int),()),())=some (.inl ((),())):=by
 have key:=CD (aOb ER.pre ER.F ES.pre ES.F ET.pre ET.F Do.pre Do.F EU.pre EU.F Dp.pre Dp.F EV.pre EV.F EW.pre EW.F EX.pre EX.F) (fun x=>l.length-x.1.2.1.toNat)
  (fun x=>∃i:Nat,i<=l.length/\x=((l,(i:Int),()),())) (fun _=>.inl ((),())) ?_ _ ⟨0,dq _,rfl⟩
 ·exact key
 intro L x hx hL;obtain⟨i,hi,rfl⟩:=hx;unfold Yr;rcases ax i l.length with hlt|hge
 ·have hg:l.getD i ((0:Int),(0:Int),(0:Int),((0:Int),(0:Int),()),((0:Int),(0:Int),()),())=l[i]:=by simp[ak,hlt]
  obtain⟨w1,w2⟩:=hl _ (ja hlt);have e0:decide ((i:Int)<(l.length:Int))=true:=decide_eq_true (by omega);have e2:decide ((0:Int)<=(i:Int))=true:=decide_eq_true (by omega);have e3:aa .i64 ((i:Int)+1)=((i+1:Nat):Int):=by rw[At (by omega)];omega
  have hN:=hL ((l,((i+1:Nat):Int),()),()) ⟨i+1,by omega,rfl⟩ (by simp only[ab];omega);dsimp only;simp only[e0,e2,e3,ab,hg,cond_true,av];generalize l[i]=e at *
  obtain⟨k,F,M,X,Y,u⟩:=e;obtain⟨x,hx,rfl⟩:=aRE w1;obtain⟨y,hy,rfl⟩:=aRE w2;have n1:WV (cI x,())=some (cI x,()):=rfl;have n2:WV (cI y,())=some (cI y,()):=rfl;have c1:=aVb F M (x:=x) (y:=y) hx hy;have c2:=aHg F M (x:=x) (y:=y) hx hy;have c3:=aHi F M (x:=x) (y:=y) hx hy;have d1:=aVd F M (x:=x) (y:=y) hx hy;have d2:=aVh F M (x:=x) (y:=y) hx hy;have d3:=aVk F M (x:=x) (y:=y) hx hy;have s1:=nX (DZ (YX F M) jY F M x y).1;have s2:=nX (DZ (VY F M) (YM F M) F M x y).1;have s3:=nX (DZ (V0 F M) (YQ F M) F M x y).1;have s4:WW (((0:Int),(0:Int),()),((0:Int),(0:Int),()),())=some (true,()):=nX _;by_cases k1:k=1
  ·subst k1;simp only[beq_self_eq_true,cond_true,bBw c1,aYW c1,YJ n1,XO n1,YJ n2,XO n2,bBy d1,aYY d1,tB s1,sA s1,bne_self_eq_false,au,bb,cond_false];exact hN
  ·by_cases k2:k=2
   ·subst k2;simp only[beq_false_of_ne k1,cond_false,beq_self_eq_true,cond_true,aO8 c2,aM2 c2,YJ n1,XO n1,YJ n2,XO n2,bBC d2,aY2 d2,tB s2,sA s2,bne_self_eq_false,au,bb];exact hN
   ·by_cases k3:k=3
    ·subst k3;simp only[beq_false_of_ne k1,beq_false_of_ne k2,cond_false,beq_self_eq_true,cond_true,aPa c3,aM4 c3,YJ n1,XO n1,YJ n2,XO n2,bBF d3,aY5 d3,tB s3,sA s3,bne_self_eq_false,au,bb];exact hN
    ·simp only[beq_false_of_ne k1,beq_false_of_ne k2,beq_false_of_ne k3,cond_false,tB s4,sA s4,au,bb,cond_true];exact hN
 ·have e:i=l.length:=by omega
  subst e;have e0:decide ((l.length:Int)<(l.length:Int))=false:=decide_eq_false (by omega);simp only[e0,cond_false]
theorem T493_true(l:List OpT)(hl:∀e∈l,j2 e.2.2.2.1/\j2 e.2.2.2.2.1)(hlen:l.length<2^63):T493 (l,())=some (true,()):=by
 show xE ER.pre ER.F ES.pre ES.F ET.pre ET.F Do.pre Do.F EU.pre EU.F Dp.pre Dp.F EV.pre EV.F EW.pre EW.F EX.pre EX.F oX l=_;unfold xE;have p0:=aW5;have w:=aVW l hl hlen;dsimp only;simp only[bBu p0,aYU p0,cond_true,au,cond_false];rw[w];try rfl
end VL
namespace Vx
open Go Go.RowKit Go.ChangeShapes Go.WideShapes
def wfD:(τ:Shape)->Ab τ->Prop
 |.int k,n=>k.min<=n/\n<=k.max
 |.flt _,_=>True
 |.slice e,xs=>xs.length<BX/\∀x∈xs,wfD e x
 |.pair a b,x=>wfD a x.1/\wfD b x.2
 |.bool,_=>True
 |.str,_=>True
 |.fn,_=>True
 |.unit,_=>True
 |.box a,x=>wfD a x
 |.ifc,_=>True
 |.pfn,_=>True
 |.cx _,_=>True
theorem A8.wfD{w:World}{S:Nat->Prop}:∀{τ:Shape} {x:Ab τ} {cs:List Value},A8 w S τ x cs->wfD τ x
 |.int _,_,_,h=>h.2
 |.flt _,_,_,_=>trivial
 |.bool,_,_,_=>trivial
 |.str,_,_,_=>trivial
 |.fn,_,_,_=>trivial
 |.unit,_,_,_=>trivial
 |.box _,_,_,⟨_,_,_,_,_,_,_,_,_,h,_⟩=>h.wfD
 |.ifc,_,_,_=>trivial
 |.pfn,_,_,_=>trivial
 |.cx _,_,_,_=>trivial
 |.slice _,xs,_,⟨A,c,_,h1,h2,h3⟩=>by
  refine⟨bl h1 h2,fun x hx=>?_⟩
  obtain⟨r,o,vs,T,fz,_,_,_,h⟩:=h3 (List.ne_nil_of_mem hx)
  obtain⟨i,hi⟩:=List.getElem?_of_mem hx
  obtain⟨ds,hd,_⟩:=h i x hi
  exact hd.wfD
 |.pair _ _,_,_,⟨c1,c2,_,h1,h2⟩=>⟨h1.wfD,h2.wfD⟩
def wfS:(sg:Aa)->DenS sg->Prop
 | [],_=>True
 |(_,τ)::r,x=>wfD τ x.1/\wfS r x.2
def FX{H:Type}:(τ:Shape)->(DataW H->Option (Ab τ))×(List (DataW H)->Option (Ab τ))
 |.int k=>(fun d=>match d with|.lit (.int k' n)=>if k'=k then some n else none|_=>none,fun _=>none)
 |.bool=>(fun d=>match d with|.lit (.bool b)=>some b|_=>none,fun _=>none)
 |.unit=>(fun d=>match d with|.agg []=>some ()|_=>none,fun l=>match l with | []=>some ()|_=>none)
 |.pair a b=>
  let f:=fun l=>match l with
   |d::r=>(match(FX a).1 d,(FX b).2 r with|some x,some y=>some (x,y)|_,_=>none)
   | []=>none
  (fun d=>match d with|.agg l=>f l|_=>none,f)
 |.flt _=>(fun _=>none,fun _=>none)
 |.str=>(fun _=>none,fun _=>none)
 |.fn=>(fun _=>none,fun _=>none)
 |.box _=>(fun _=>none,fun _=>none)
 |.ifc=>(fun _=>none,fun _=>none)
 |.pfn=>(fun _=>none,fun _=>none)
 |.cx _=>(fun _=>none,fun _=>none)
 |.slice _=>(fun _=>none,fun _=>none)
def VE(P:Program)(g:TypeId->Shape->Bool):List Field->Nat->Shape->Bool
 | [],_,.unit=>true
 |f::fs,o,.pair a b=>(f.offset==o)&&(P.cellsOf f.type==a.width)&&g f.type a&&VE P g fs (o+a.width) b
 |_,_,_=>false
def CY(P:Program):Nat->TypeId->Shape->Bool
 |0,_,_=>false
 |n+1,t,τ=>match P.underlying t with
  |some (.int k)=>(match τ with|.int k'=>decide (k=k')|_=>false)
  |some .bool=>(match τ with|.bool=>true|_=>false)
  |some (.slice e)=>(match τ with|.slice σ=>(P.cellsOf e==σ.width)&&decide (0<σ.width)&&CY P n e σ|_=>false)
  |some (.struct fs)=>(P.cellsOf t==τ.width)&&VE P (CY P n) fs.toList 0 τ
  |_=>false
theorem aLN{A:Type}{Q:Nat->A->Prop}:∀(n:Nat),(∀i,i<n->∃x,Q i x)->∃xs:List A,xs.length=n/\∀i x,xs[i]? = some x->Q i x
 |0,_=>⟨[],rfl,fun i x h=>by simp at h⟩
 |n+1,h=>by
  obtain⟨xs,h1,h2⟩:=aLN n fun i hi=>h i (by omega)
  obtain⟨x,hx⟩:=h n (by omega)
  refine⟨xs++[x],by simp[h1],fun i y hy=>?_⟩
  rcases ax i n with hi|hi
  ·rw[cn (by omega)]at hy
   exact h2 i y hy
  ·rw[List.getElem?_append_right (by omega)]at hy
   have:i=n:=by
    have:=(bf.1 hy).1
    simp at this;omega
   subst this
   simp[h1]at hy
   exact hy▸hx
theorem bHk{k:IntKind}{n:Int}(h:(Lit.int k n).wf=true):k.min<=n/\n<=k.max:=by
 simpa[Lit.wf]using h
section
variable {H:Type}{enc:TypeId×Value->H}{P:Program}{W:World}{spare:Nat->Bool}{held:Bool}
theorem aMr{n:Nat}{m:Nat}{cs:List Value}(ih:∀(t:TypeId) (τ:Shape) (cs:List Value) (d:DataW H) (p:List MemPlace),CY P n t τ=true->DataW.trod enc P W 0 spare held m t cs=some (d,p)->∃x:Ab τ,A8 W (fun q=>q<W.heap.size) τ x cs/\∀y,(FX τ).1 d=some y->x=y):
  ∀(l:List Field) (o:Nat) (τ:Shape) (xs:List (DataW H×List MemPlace)),VE P (CY P n) l o τ=true->xs.length=l.length->cs.length=o+τ.width ->
   (∀(i:Nat) (f:Field),l[i]? = some f->DataW.trod enc P W 0 spare held m f.type ((cs.drop f.offset).take (P.cellsOf f.type))=xs[i]?) ->
   ∃x:Ab τ,A8 W (fun q=>q<W.heap.size) τ x (cs.drop o)/\∀y,(FX τ).2 (xs.map (·.1))=some y->x=y
 | [],o,τ,xs,hf,hx,hl,_=>by
  cases τ<;>simp[VE]at hf
  refine⟨(),?_,fun _ _=>rfl⟩
  show cs.drop o=[]
  apply List.drop_eq_nil_of_le
  simp[Shape.width]at hl
  omega
 |f::fs,o,τ,xs,hf,hx,hl,h=>by
  cases τ with
  |pair a b=>
   simp only[VE,ag,beq_iff_eq]at hf
   obtain⟨⟨⟨ho,hc⟩,hg⟩,hr⟩:=hf
   cases xs with
   |nil=>simp at hx
   |cons x0 xs=>
    have h0:=h 0 f rfl
    rw[ho,hc]at h0
    simp only[List.getElem?_cons_zero]at h0
    obtain⟨xa,ha,hua⟩:=ih f.type a _ x0.1 x0.2 hg h0
    simp only[Shape.width]at hl
    obtain⟨xb,hb,hub⟩:=aMr ih fs (o+a.width) b xs hr (by simpa using hx) (by rw[hl];omega) fun i g hi=>by
     have:=h (i+1) g (by simpa using hi)
     simpa using this
    refine⟨(xa,xb),⟨(cs.drop o).take a.width,cs.drop (o+a.width),?_,ha,hb⟩,fun y hy=>?_⟩
    ·rw[←qc,ki]
    ·simp only[FX,List.map_cons]at hy
     split at hy
     ·rename_i e1 e2
      have:=hua _ e1;have:=hub _ e2
      subst_vars
      exact kf hy
     ·cases hy
  |_=>simp[VE]at hf
theorem rS:∀(n:Nat) (m:Nat) (t:TypeId) (τ:Shape) (cs:List Value) (d:DataW H) (p:List MemPlace),CY P n t τ=true->DataW.trod enc P W 0 spare held m t cs=some (d,p) ->
  ∃x:Ab τ,A8 W (fun q=>q<W.heap.size) τ x cs/\∀y,(FX τ).1 d=some y->x=y
 |0,_,_,_,_,_,_,h,_=>by simp[CY]at h
 |n+1,m,t,τ,cs,d,p,h,ht=>by
  unfold CY at h
  split at h
  ·rename_i k hk
   cases τ with
   |int k' =>
    simp only[decide_eq_true_eq]at h
    subst h
    obtain⟨v,hv,hx,hw⟩:=DataW.trod_int hk ht
    simp only[cv]at hx
    refine⟨v,⟨hv,bHk hw⟩,fun y hy=>?_⟩
    rw[hx.1]at hy
    simp only[FX,if_true]at hy
    exact kf hy
   |_=>cases h
  ·rename_i hk
   cases τ with
   |bool=>
    obtain⟨v,hv,hx⟩:=DataW.trod_bool hk ht
    simp only[cv]at hx
    refine⟨v,hv,fun y hy=>?_⟩
    rw[hx.1]at hy
    simp only[FX]at hy
    exact kf hy
   |_=>cases h
  ·rename_i e hk
   cases τ with
   |slice σ=>
    simp only[ag,beq_iff_eq,decide_eq_true_eq]at h
    obtain⟨⟨hc,hpos⟩,hf⟩:=h
    rcases DataW.trod_slice hk ht with⟨hcs,hx⟩|⟨a,len,cap,elems,rest,m',rfl,hcs,hx,hb,hlc,hcap,hlen,hel,_⟩
    ·exact⟨[],⟨none,0,hcs,bu _,by decide,fun h=>absurd rfl h⟩,fun y hy=>by simp[FX]at hy⟩
    ·have each:∀i,i<len->∃x:Ab σ,∃ds,W.cells? 0 (a.add (i*P.cellsOf e)) (P.cellsOf e)=some ds/\A8 W (fun q=>q<W.heap.size) σ x ds:=fun i hi=>by
      have:=hel i hi
      rw[bo (by omega),Option.bind_eq_some_iff]at this
      obtain⟨ds,h1,h2⟩:=this
      obtain⟨x,hx,_⟩:=rS n m' e σ ds (elems[i]'(by omega)).1 (elems[i]'(by omega)).2 hf h2
      exact⟨x,ds,h1,hx⟩
     obtain⟨xs,hxl,hxs⟩:=aLN len each
     refine⟨xs,⟨some a,cap,by rw[hxl];exact hcs,by omega,by unfold BX;unfold maxLen at hcap;omega,fun hne=>?_⟩,fun y hy=>by simp[FX]at hy⟩
     have h0:0<xs.length:=List.length_pos_iff.2 hne
     obtain⟨ds0,hd0,_⟩:=hxs 0 xs[0] (bo h0)
     obtain⟨_,hl0,hc0⟩:=ot hd0
     have hz:a.add (0*P.cellsOf e)=a:=by simp[Addr.add]
     have hz':a.add 0=a:=by simp[Addr.add]
     rw[hz]at hc0
     have hc00:=hc0 0 (by omega)
     rw[hz',bo (by omega)]at hc00
     unfold ph at hc00
     split at hc00
     ·rename_i c T fz hheap
      split at hc00
      ·cases hc00
      ·rename_i hspot
       have hs:a.spot=none:=by simpa using hspot
       have hadd:∀q,a.add q=⟨a.block,a.off+q,none⟩:=fun q=>by
        unfold Addr.add
        split
        ·subst_vars;cases a;simp at hs;simp[hs]
        ·rfl
       have ha:a=⟨a.block,a.off,none⟩:=by cases a;simp at hs;simp[hs]
       refine⟨a.block,a.off,c,T,fz,by rw[←ha],?_,hheap,fun i x hi=>?_⟩
       ·exact(dc.1 hheap).1
       ·obtain⟨ds,hd,hr⟩:=hxs i x hi
        refine⟨ds,hr,fun j v hj=>?_⟩
        obtain⟨_,hl,hcj⟩:=ot hd
        have hjl:j<P.cellsOf e:=by rw[←hl];exact(bf.1 hj).1
        have:=hcj j hjl
        rw[hadd,hj]at this
        have hadd2:(⟨a.block,a.off+i*P.cellsOf e,none⟩:Addr).add j=⟨a.block,a.off+i*P.cellsOf e+j,none⟩:=by
         unfold Addr.add
         split
         ·subst_vars;rfl
         ·rfl
        rw[hadd2]at this
        unfold ph at this
        simp only[hheap]at this
        rw[hc]at this
        exact this
     ·cases hc00
   |_=>cases h
  ·rename_i fs hk
   simp only[ag,beq_iff_eq]at h
   obtain⟨hc,hf⟩:=h
   obtain⟨xs,m',rfl,hx,hl,hxl,hel⟩:=DataW.trod_struct hk ht
   simp only[cv]at hx
   obtain⟨x,h1,h2⟩:=aMr (fun t τ cs d p=>rS n m' t τ cs d p) fs.toList 0 τ xs hf (by simpa using hxl) (by rw[hl,hc];omega) fun i f hi=>hel i f (by simpa using hi)
   refine⟨x,by simpa using h1,fun y hy=>h2 y ?_⟩
   rw[hx.1]at hy
   cases τ with
   |pair a b=>exact hy
   |unit=>
    simp only[FX]at hy⊢
    split at hy
    ·rename_i e;simp only[DataW.agg.injEq]at e;rw[e]
    ·cases hy
   |_=>simp[FX]at hy
  ·cases h
end
end Vx
namespace Vx
open Go Go.RowKit Go.ChangeShapes Go.WideShapes
def VK(P:Program)(t:TypeId):Bool:=match P.underlying t with
 |some (.struct _)=>true
 |_=>false
def XG(P:Program)(n:Nat):List TypeId->Aa->Bool
 | [],[]=>true
 |t::ts,(a,τ)::r=>CY P n t τ&&(a==VK P t)&&XG P n ts r
 |_,_=>false
section
variable {H:Type}{enc:TypeId×Value->H}{P:Program}{W:World}
theorem aXk{n:Nat}{t:TypeId}{τ:Shape}{r:Reach}{b0:Nat}{v:Value}(hf:CY P n t τ=true)(hs:VK P t=false)(hv:nq P W r b0 t v):v.cells.toList=[v]:=by
 cases n with
 |zero=>simp[CY]at hf
 |succ n=>
  unfold CY at hf;split at hf
  ·rename_i k hk;obtain⟨_,rfl⟩:=okWide_int hk hv;rfl
  ·rename_i hk;obtain⟨_,rfl⟩:=okWide_bool hk hv;rfl
  ·rename_i e hk;obtain⟨_,_,_,rfl⟩:=okWide_slice hk hv;rfl
  ·rename_i fs hk;simp[VK,hk]at hs
  ·cases hf
theorem aXS{S:Nat->Prop}{a:Bool}{τ:Shape}{x:Ab τ}{y:Value}(ho:Lp a τ=false)(h:DS W S a τ x y):FZ W S a τ x y []:=by
 cases τ with
 |slice e=>
  cases a with
  |true=>cases ho
  |false=>exact⟨rfl,h⟩
 |_=>exact⟨rfl,h⟩
theorem aLm{n:Nat}{sp:Nat->Bool}{held:Bool}{b0:Nat}:∀(ts:List TypeId) (I:Aa) (vs:List Value) (ds:List (DataW H)) (ps:List MemPlace),XG P n ts I=true ->
  (∀(j:Nat) (t:TypeId) (v:Value),ts[j]? = some t->vs[j]? = some v->nq P W .any b0 t v)->DataW.TrodAll enc P W 0 sp held ts vs ds ps->∃x:DenS I,Cs W (fun q=>q<W.heap.size) I x vs []/\wfS I x/\ds.length=ts.length
 | [],[],vs,ds,ps,_,_,h=>by
  cases vs<;>cases ds<;>simp[DataW.TrodAll]at h
  exact⟨(),⟨rfl,rfl⟩,trivial,rfl⟩
 | [],_::_,_,_,_,hf,_,_=>by simp[XG]at hf
 |_::_,[],_,_,_,hf,_,_=>by simp[XG]at hf
 |t::ts,(a,τ)::I,vs,ds,ps,hf,hv,h=>by
  cases vs with
  |nil=>simp[DataW.TrodAll]at h
  |cons v vs=>
   cases ds with
   |nil=>simp[DataW.TrodAll]at h
   |cons d ds=>
    obtain⟨p,q,⟨m,hp⟩,hq,_⟩:=h
    simp only[XG,ag,beq_iff_eq]at hf
    obtain⟨⟨h1,h2⟩,h3⟩:=hf
    obtain⟨x,hx,hw,hl⟩:=aLm ts I vs ds q h3 (fun j t v ht hv'=>hv (j+1) t v (by simpa using ht) (by simpa using hv')) hq
    obtain⟨y,hy,_⟩:=rS n m t τ _ d p h1 hp
    have hok:=hv 0 t v rfl rfl
    refine⟨(y,x),⟨v,vs,[],[],rfl,rfl,aXS ?_ ?_,hx⟩,⟨hy.wfD,hw⟩,by simp[hl]⟩
    ·cases τ with
     |slice σ=>
      show a=false
      rw[h2]
      cases n with
      |zero=>simp[CY]at h1
      |succ n=>
       unfold CY at h1
       unfold VK
       split at h1<;>rename_i hk<;>first|(rw[hk];done)|(simp only[hk];done)|(simp[VE]at h1;done)|skip
     |_=>rfl
    cases a with
    |true=>
     have hs:VK P t=true:=h2.symm
     unfold VK at hs
     split at hs
     ·rename_i fs hk
      unfold nq at hok
      rw[hk]at hok
      obtain⟨cs,rfl,_⟩:=hok
      exact⟨cs.toList,by simp,hy⟩
     ·cases hs
    |false=>
     have hs:VK P t=false:=h2.symm
     rw[aXk h1 hs hok]at hy
     exact hy
theorem aRx(hl:laidOutB P=true){W':World}(hb:Below W.heap.size W W'):∀(ts:List TypeId) (vs:List Value) (ds:List (DataW H)) (ps:List MemPlace),(ts.all fun t=>P.readableRec t&&decide (t<P.types.size))=true ->
  DataW.TrodAll enc P W 0 (fun _=>true) true ts vs ds ps->(∀x∈ps,x.block<W.heap.size)->DataW.TrodAll enc P W' 0 (fun b=>decide (b<W.heap.size)) true ts vs ds ps
 | [],vs,ds,ps,_,h,_=>by
  cases vs<;>cases ds<;>simp[DataW.TrodAll]at h⊢
  exact h
 |t::ts,vs,ds,ps,hr,h,hlt=>by
  cases vs with
  |nil=>simp[DataW.TrodAll]at h
  |cons v vs=>
   cases ds with
   |nil=>simp[DataW.TrodAll]at h
   |cons d ds=>
    obtain⟨p,q,hp,hq,rfl⟩:=h
    simp only[mu,ag,decide_eq_true_eq]at hr
    exact⟨p,q,Below.trod hl hr.1.1 hr.1.2 hp hb (fun x hx=>hlt x (cw.2 (.inl hx))),
     aRx hl hb ts vs ds q hr.2 hq (fun x hx=>hlt x (cw.2 (.inr hx))),rfl⟩
theorem glob_of{n:String}{g:Nat}{t e:TypeId}{m k:Nat}{τ:Shape}{ds:List (DataW Unit)}{xs:List (Ab τ)}{r:List (String×DataW Unit)}{ps:List MemPlace}
  (hL:DataW.LaidVars P W ((n,.agg ds)::r) ps) (hg:P.globalNamed n=some g) (ht:(P.globals[g]?).map (·.type)=some t) (hu:P.underlying t=some (.array m e)) (hc:P.cellsOf e=τ.width) (hf:CY P k e τ=true)
  (hx:ds.map (FX τ).1=xs.map some) :
  (g<W.heap.size/\∃vs T fz,W.heap[g]? = some (.cells vs T fz)/\Rows W (fun q=>q<W.heap.size) τ vs 0 xs)/\∃ps',DataW.LaidVars P W r ps':=by
 obtain⟨g',t',cs,fuel,p,q,h1,h2,h3,h4,h5,_⟩:=hL;rw[hg]at h1;cases h1;rw[ht]at h2;cases h2;refine⟨?_,q,h5⟩;unfold World.var? at h3;rw[hg]at h3;simp only[Option.bind_some]at h3;split at h3
 ·rename_i c T fz hh;cases h3;refine⟨(dc.1 hh).1,cs,T,fz,hh,?_⟩;obtain⟨ys,m',rfl,hy,hl,hyl,hel⟩:=DataW.trod_array hu h4;simp only[cv,DataW.agg.injEq]at hy;intro i x hi;have hxl:xs.length=m:=by
   have:=congrArg List.length hx;simp[hy.1,hyl]at this;omega
  have him:i<m:=by rw[←hxl];exact(bf.1 hi).1
  have he:=hel i him;have hyi:ys[i]? = some (ys[i]'(by omega)):=bo (by omega);rw[hyi,hc]at he;obtain⟨x',h6,h7⟩:=rS k m' e τ _ _ _ hf he;have hd:(FX τ).1 (ys[i]'(by omega)).1=some x:=by
   have:=congrArg (·[i]?) hx;simp only[List.getElem?_map,hy.1,hyi,hi,Option.map_some]at this;exact kf this
  have:=h7 x hd;subst this;refine⟨_,h6,fun j v hj=>?_⟩;rw[List.getElem?_take]at hj;split at hj
  ·rw[List.getElem?_drop]at hj;simpa using hj
  ·cases hj
 ·cases h3
theorem bFv {G : List (Nat × Sigma fun τ => List (Ab τ))} {f : FuncId} {I : Aa} {T : DenS I -> Option (DenS [(false, .bool)])} {d : DenS [(false, .bool)]} (hS : Sound P G f (Ah I [(false, .bool)] T d)) {x : DenS I} (hT : T x = some (true, ())) (hcal : ∃ fn, P.funcs[f]? = some fn /\ fn.body.isNone = false /\ (fn.name == "runtime.NumGoroutine") = false) {W : World} {args : Array Value}
  (hG:GlobsOk G W fun q=>q<W.heap.size) (ha:Cs W (fun q=>q<W.heap.size) I x args.toList []):Calls P f args W fun e W'=>e=.returned (.bool true)/\Below W.heap.size W W':=by
 have:=hS.calls x (by show(T x).isSome=true;rw[hT];rfl) W (fun q=>q<W.heap.size) args.toList [] (fun q h=>h) hG ha List.nodup_nil (fun r h=>by simp at h)
 rw[Array.toArray_toList]at this
 have this:=this.resolve_right (fun⟨v,hv,_⟩=>by rw[tM hcal]at hv;cases hv)
 refine this.2.mono fun e W' ⟨zs,rs',he,hb,_,_,hz⟩=>⟨?_,⟨hb.os,hb.tape,hb.output,hb.size,fun k hk=>hb.block k hk (fun h=>by simp at h)⟩⟩
 obtain⟨y,ys,r1,r2,rfl,_,⟨_,h1⟩,rfl,_⟩:=hz
 have h2:[y]=[Value.bool ((T x).getD d).1]:=h1
 rw[hT]at h2
 cases h2
 exact he
theorem law_post{G:List (Nat×Sigma fun τ=>List (Ab τ))}{f:FuncId}{fn:Func}{I:Aa}{T:DenS I->Option (DenS [(false,.bool)])}{d:DenS [(false,.bool)]}{s:ChangeSpec}{n:Nat}{tb:TypeId}
  (hS : Sound P G f (Ah I [(false, .bool)] T d)) (hT : ∀ x, wfS I x -> T x = some (true, ())) (hcal : ∃ fn, P.funcs[f]? = some fn /\ fn.body.isNone = false /\ (fn.name == "runtime.NumGoroutine") = false) (hlay : laidOutB P = true) (hfit : XG P n fn.params.toList I = true)
  (hread:(fn.params.toList.all fun t=>P.readableRec t&&decide (t<P.types.size))=true) (hres:fn.resultTypes=#[tb]) (hbool:P.underlying tb=some .bool) (hvars:s.vars=[])
  (hspec:∀ds:List (DataW H),ds.length=fn.params.toList.length->s.fn H ds={results:=[.lit (.bool true)],args:=ds})
  {W:World} {base:Nat} {args:Array Value} {ds gs:List (DataW H)} {before:List MemPlace}
  (hval:∀(j:Nat) (t:TypeId) (v:Value),fn.params[j]? = some t->args[j]? = some v->nq P W .any base t v)
  (hW:DataW.Whole enc P fn.params.toList s.vars false W args.toList ds gs before) (hG:GlobsOk G W fun q=>q<W.heap.size) :
  Calls P f args W fun e W'=>∃v,e=.returned v/\ChangeSpec.post enc P fn s false true false false W args v W':=by
 have hW':=hW
 obtain⟨p,q,hA,hV,rfl,_,_⟩:=hW
 rw[hvars]at hV
 obtain⟨rfl,rfl⟩:=trodVars_none hV
 obtain⟨x,hx,hw,hlen⟩:=aLm (b0:=base) fn.params.toList I args.toList ds p hfit (fun j t v ht hv=>hval j t v (by simpa using ht) (by simpa using hv)) hA
 refine(bFv hS (hT x hw) hcal hG hx).mono fun e W' ⟨he,hb⟩=>⟨.bool true,he,ds,[],p++[],[],p,[],hW',?_,?_,?_,hb.frame _,fun h=>by cases h⟩
 ·rw[dk,hspec ds hlen,hres]
  exact trodAll_mk1 (shut_bool hbool true)
 ·rw[dk,hspec ds hlen]
  exact aRx hlay hb _ _ _ _ hread hA fun y hy=>by simpa using hW'.lt y (by simpa using hy)
 ·rw[dk,hspec ds hlen,hvars]
  rfl
end
theorem globs_nil{W:World}{S:Nat->Prop}:GlobsOk [] W S:=fun _ _ _ h=>by simp[OI]at h
theorem globs_cons{W:World}{S:Nat->Prop}{g:Nat}{τ:Shape}{xs:List (Ab τ)}{G:List (Nat×Sigma fun τ=>List (Ab τ))}(h:S g/\∃vs T fz,W.heap[g]? = some (.cells vs T fz)/\Rows W S τ vs 0 xs)(r:GlobsOk G W S):
  GlobsOk ((g,⟨τ,xs⟩)::G) W S:=fun g' τ' xs' hf=>by
 simp only[OI]at hf
 cases hb:Nat.beq g g' with
 |true=>
  have:=Nat.eq_of_beq_eq_true hb
  subst this
  rw[hb]at hf
  simp only[cond_true,ae]at hf
  cases hf
  exact h
 |false=>
  rw[hb]at hf
  exact r g' τ' xs' hf
end Vx
end
