/- Part 7 of the proof. What is proved: symbolic execution of the functions, proved sound; what each function of the program computes, and that every run ends with it; what these functions compute, in plain numbers. Conditions: each theorem bears its own. -/
import Derived.Test.YthajbkcpnbiobaaGreatDoorVxG6
import Derived.ProofKit
import Derived.LaidMore
import Derived.OpenShut
import Derived.Stop.Joined
import GoSem.ClaimJoined
set_option linter.all false
set_option exponentiation.threshold 1000000
noncomputable section
open Array renaming getElem?_eq_some_iff->cp
open BitVec renaming ofInt->cu
open Bool renaming and_eq_true->ae,and_false->bw,and_self->bg,eq_iff_iff->ej,false_and->bc,false_or->co,not_true->ca,or_comm->pp,or_eq_true->dv,or_self->cr,or_true->bq,true_or->bh
open Classical renaming not_not->ib
open Go.IntKind renaming wrap->aa
open Go.Value renaming okWide->nk
open Go.World renaming cell?->oq,cells?_some->oh
open Int renaming toNat->ah,toNat_natCast->ag,toNat_zero->bd
open List renaming all_cons->mm,append_nil->cz,drop_drop->pm,drop_eq_getElem_cons->dp,drop_length->jh,drop_zero->kx,getD_eq_getElem?_getD->ai,getElem?_append_left->bo,getElem?_eq_getElem->av,getElem?_eq_some_iff->ao,getElem_mem->jf,length_map->kg,length_replicate->fc,mem_append->cn,mem_cons->ck,mem_of_mem_drop->ka,mem_of_mem_take->dr,mem_singleton->kh,replicate->ap,set_append_left->lj,set_append_right->fm,take_append_drop->jr,take_length->du,take_of_length_le->cj,take_succ_eq_append_getElem->ir
open Nat renaming add_comm->gx,add_mul->cg,add_zero->dc,div_add_mod->ci,div_div_eq_div_mul->dl,div_eq_of_lt->cq,div_le_self->fa,div_lt_iff_lt_mul->bm,div_mul_le_self->lu,div_one->pi,eq_zero_or_pos->ba,le_div_iff_mul_le->jq,le_mul_of_pos_right->fe,le_of_lt_succ->og,le_refl->bf,le_trans->gb,lt_of_le_of_lt->ax,lt_of_lt_of_le->al,lt_of_mul_lt_mul_right->jy,lt_or_ge->aq,lt_trans->jc,mod_eq_of_lt->be,mod_lt->bv,mul_add->bt,mul_add_div->jt,mul_add_mod->ju,mul_assoc->aw,mul_comm->ar,mul_div_cancel->jl,mul_div_cancel_left->gg,mul_div_mul_right->jv,mul_le_mul_left->cm,mul_le_mul_right->au,mul_left_comm->gz,mul_lt_mul_of_pos_right->cw,mul_mod_mul_right->dw,mul_ne_zero->lv,mul_one->gr,mul_pos->ic,mul_right_comm->io,mul_zero->fi,ne_of_gt->kz,one_mul->fu,pos_of_ne_zero->mh,pow_add->bb,pow_le_pow_right->ak,pow_lt_pow_iff_right->cd,pow_mul->lq,pow_pos->ij,pow_succ->dx,pow_zero->js,two_pow_pos->aj,zero_le->ee,zero_mul->fk
open Option.some renaming inj->jn,injEq->ab
open Prod.mk renaming injEq->ce
namespace VL
open Go Vx
theorem aD3{P U V O y c d:Nat}(h:O+P*c=U+V):O+P*((d+y+c)%2^64)+P*2^64*((d+y+c)/2^64)=U+P*d+(V+P*y):=by
 have h1:P*((d+y+c)%2^64+2^64*((d+y+c)/2^64))=P*(d+y+c):=by rw[Nat.mod_add_div]
 rw[bt,bt P (d+y),bt,←aw P (2^64)]at h1;omega
theorem aNq(A us C v:List Nat)(hlen:us.length=v.length+1)(hu:∀x∈us,x<2^64)(hv:∀x∈v,x<2^64)(hn:v.length<=1000000):
  ∃out:List Nat,out.length=us.length/\(∀z∈out,z<2^64)/\nv (2^64) out+(if(2^64)^us.length<=nv (2^64) us+nv (2^64) v then(2^64)^us.length else 0)=nv (2^64) us+nv (2^64) v /\
   Vs ((Wd (A++us++C),(A.length,us.length)),(Wd v,()))=some (Wd (A++out++C),decide ((2^64)^us.length<=nv (2^64) us+nv (2^64) v),()):=by
 show ∃out:List Nat,_/\_/\_/\f8 Ar.pre Ar.F ZK (Wd (A++us++C),(A.length,us.length)) (Wd v)=_;have key:=RM (aGp Ar.pre Ar.F) (fun s=>v.length-s.1.2.2.1.toNat)
  (fun s=>∃(i:Nat) (out:List Nat) (c:Nat),i<=v.length/\out.length=i/\(∀z∈out,z<2^64)/\c<=1/\nv (2^64) out+(2^64)^i*c=nv (2^64) (us.take i)+nv (2^64) (v.take i) /\
   s=(((v.length:Int),(Wd v,((i:Int),(Wd v,((A.length,us.length),((c:Int),())))))),(Wd (A++(out++us.drop i)++C),())))
  (fun y=>∃(out:List Nat) (c:Nat),out.length=v.length/\(∀z∈out,z<2^64)/\c<=1/\nv (2^64) out+(2^64)^v.length*c=nv (2^64) (us.take v.length)+nv (2^64) v /\
   y=.inl ((Wd v,((A.length,us.length),((c:Int),()))),(Wd (A++(out++us.drop v.length)++C),()))) ?_
  (((v.length:Int),(Wd v,((0:Int),(Wd v,((A.length,us.length),((0:Int),())))))),(Wd (A++us++C),()))
  ⟨0,[],0,ee _,rfl,(fun z hz=>by simp at hz),by decide,by simp[nv],rfl⟩
 ·obtain⟨y,hy,out,c,k1,k2,k3,k5,rfl⟩:=key;have hy:ZK (((v.length:Int),(Wd v,((0:Int),(Wd v,((A.length,us.length),((0:Int),())))))),(Wd (A++us++C),()))=_:=hy;have hlt:v.length<us.length:=by omega
  have hwl:(out++us.drop v.length).length=us.length:=by simp[k1];omega
  have hdg:=bS (us:=us) k1 hlt;have hg:=R1 (A:=A) (C:=C) (us:=out++us.drop v.length) (i:=v.length) (by omega);rw[hdg]at hg;have hst:=fun z=>iR (A:=A) (C:=C) (us:=out++us.drop v.length) (i:=v.length) (v:=z) (by omega);have hsd:=fun z=>XL (a:=us) (v:=z) k1 hlt;have hd:=CH (by decide) hu v.length;have q1:=S5 (us.getD v.length 0) 0 c;have q2:=S6 ((us.getD v.length 0:Nat):Int) ((0:Nat):Int) c k3;have z0:((0:Nat):Int)=0:=rfl;rw[z0]at q1 q2;have hnx:=Et (2^64) us v.length;rw[cj (show us.length<=v.length+1 by omega)]at hnx;have hnil:us.drop (v.length+1)=[]:=List.drop_of_length_le (by omega);unfold f8;dsimp only;rw[AF,hy];have e0:decide ((0:Int)<=(v.length:Int))=true:=decide_eq_true (by omega);have e1:decide ((v.length:Int)<(us.length:Int))=true:=decide_eq_true (by omega);dsimp only[A3,A1];simp only[e0,e1,bg,cond_true,AF,ag,hg,q2,q1,hst,hsd,hnil,cz];have hstep:=aD3 (P:=(2^64)^v.length) (y:=0) (d:=us.getD v.length 0) k5;generalize us.getD v.length 0=d at *
  have ho:(d+0+c)%2^64<2^64:=bv _ (by decide);have hO:nv (2^64) (out++[(d+0+c)%2^64])+(2^64)^us.length*((d+0+c)/2^64)=nv (2^64) us+nv (2^64) v:=by
   rw[Xu,k1,hnx,hlen,Jn];rw[fi]at hstep;omega
  have hod:=WF k2 ho;have hOl:=DN (B:=2^64) (by decide) (out++[(d+0+c)%2^64]) hod;have hol:(out++[(d+0+c)%2^64]).length=us.length:=by simp[k1];omega
  rw[hol]at hOl;by_cases hb:(d+0+c)/2^64=1
  ·rw[hb,gr]at hO;have hlt2:(2^64)^us.length<=nv (2^64) us+nv (2^64) v:=by omega
   refine⟨out++[(d+0+c)%2^64],hol,hod,by rw[if_pos hlt2];exact hO,?_⟩;rw[hb,decide_eq_true hlt2];rfl
  ·have hb0:(d+0+c)/2^64=0:=by omega
   rw[hb0,fi,dc]at hO;have hlt2:¬(2^64)^us.length<=nv (2^64) us+nv (2^64) v:=by omega
   refine⟨out++[(d+0+c)%2^64],hol,hod,by rw[if_neg hlt2,dc];exact hO,?_⟩;rw[hb0,decide_eq_false hlt2];rfl
 intro L s hs hL;obtain⟨i,out,c,hi,hol,hod,hc,hinv,rfl⟩:=hs;unfold TF;rcases aq i v.length with hlt|hge
 ·have hy:=CH (by decide) hv i;have hd:=CH (by decide) hu i;have hnv:=Et (2^64) v i;have hnu:=Et (2^64) us i;have hwl:(out++us.drop i).length=us.length:=by simp[hol];omega
  have hdg:=bS (us:=us) hol (by omega);have hg:=R1 (A:=A) (C:=C) (us:=out++us.drop i) (i:=i) (by omega);rw[hdg]at hg;have hst:=fun z=>iR (A:=A) (C:=C) (us:=out++us.drop i) (i:=i) (v:=z) (by omega);have hsd:=fun z=>XL (a:=us) (v:=z) hol (by omega);have hgv:(Wd v).getD i 0=((v.getD i 0:Nat):Int):=CD v i;generalize v.getD i 0=y at *
  generalize us.getD i 0=d at *
  have q1:=S5 d y c;have q2:=S6 (d:Int) (y:Int) c hc;have ho:(d+y+c)%2^64<2^64:=bv _ (by decide);have hc':(d+y+c)/2^64<=1:=by omega
  have hstep:=aD3 (P:=(2^64)^i) (y:=y) (d:=d) hinv;have e0:decide ((i:Int)<(v.length:Int))=true:=decide_eq_true (by omega);have e1:decide ((0:Int)<=(i:Int))=true:=decide_eq_true (by omega);have e2:decide ((i:Int)<((us.length:Nat):Int))=true:=decide_eq_true (by omega);have e3:aa .i64 ((i:Int)+1)=((i+1:Nat):Int):=by rw[Ax (by omega)];omega
  dsimp only;simp only[e0,e1,e2,e3,cond_true,bg,AF,ag,hgv,hg,q1,q2,hst,hsd];refine hL _ ⟨i+1,out++[(d+y+c)%2^64],(d+y+c)/2^64,by omega,by simp[hol],WF hod ho,hc',?_,rfl⟩ (by simp only[ag];omega);rw[Xu,hol,hnv,hnu,Jn];exact hstep
 ·have e:i=v.length:=by omega
  subst e;have e0:decide ((v.length:Int)<(v.length:Int))=false:=decide_eq_false (by omega);simp only[e0,cond_false];rw[du]at hinv;exact⟨_,rfl,out,c,hol,hod,hc,hinv,rfl⟩
theorem aN1(A C v:List Nat){k U:Nat}(hk:k=v.length+1)(hv:∀x∈v,x<2^64)(hn:v.length<=1000000)(us:List Nat)(g:Nat)(hlen:us.length=k)(hu:∀x∈us,x<2^64)(hg:g<2^64)
  (hinv:nv (2^64) us+g*nv (2^64) v=U+(2^64)^k) :
  ∃out:List Nat,out.length=k/\(∀z∈out,z<2^64)/\nv (2^64) out=U%nv (2^64) v /\
   V9 ((((g:Int),((A.length,k),(Wd v,()))),(Wd (A++us++C),())):Fc.D)=some (.inl ((((U/nv (2^64) v:Nat):Int),()),(Wd (A++out++C),()))):=by
 have key:=RM (aGq AP.pre AP.F AN.pre AN.F Ar.pre Ar.F BV.pre BV.F CC.pre CC.F) (fun s=>s.1.1.toNat)
  (fun s=>∃(us:List Nat) (g:Nat),us.length=k/\(∀x∈us,x<2^64)/\g<2^64/\nv (2^64) us+g*nv (2^64) v=U+(2^64)^k /\
   s=(((g:Int),((A.length,k),(Wd v,()))),(Wd (A++us++C),())))
  (fun y=>∃out:List Nat,out.length=k/\(∀z∈out,z<2^64)/\nv (2^64) out=U%nv (2^64) v/\y=.inl ((((U/nv (2^64) v:Nat):Int),()),(Wd (A++out++C),()))) ?_
  (((g:Int),((A.length,k),(Wd v,()))),(Wd (A++us++C),())) ⟨us,g,hlen,hu,hg,hinv,rfl⟩
 ·obtain⟨y,hy,out,k1,k2,k3,rfl⟩:=key;exact⟨out,k1,k2,k3,hy⟩
 clear hinv hg hu hlen us g;intro L s hs hL;obtain⟨us,g,hlen,hu,hg,hinv,rfl⟩:=hs;unfold TG;obtain⟨out,o1,o2,o3,o4⟩:=aNq A us C v (by omega) hu hv hn;rw[hlen]at o1 o3 o4;have hul:=DN (B:=2^64) (by decide) us hu;rw[hlen]at hul;have hg1:1<=g:=by
  rcases ba g with h|h
  ·rw[h,fk]at hinv;omega
  ·exact h
 obtain⟨p,rfl⟩:∃p,g=p+1:=⟨g-1,by omega⟩
 rw[cg,fu]at hinv;have e1:aa .u64 (((p+1:Nat):Int)-1)=(p:Int):=by rw[Ev (by omega)];omega
 dsimp only;rw[aT4 o4,aRF o4,cond_true,e1];dsimp only;by_cases hc:(2^64)^k<=nv (2^64) us+nv (2^64) v
 ·rw[if_pos hc]at o3;rw[decide_eq_true hc,cond_true];have hV:nv (2^64) out<nv (2^64) v:=by omega
  have hd:U=nv (2^64) v*p+nv (2^64) out:=by rw[ar];omega
  have hpos:0<nv (2^64) v:=by omega
  refine⟨_,rfl,out,o1,o2,?_,?_⟩
  ·rw[hd,ju,be hV]
  ·rw[hd,jt hpos,cq hV,dc]
 ·rw[if_neg hc]at o3;rw[decide_eq_false hc,cond_false];exact hL _ ⟨out,p,o1,o2,by omega,by omega,rfl⟩ (by simp only[ag];omega)
theorem aSw{h l r w:Nat}(hl:l<2^64)(hw:w<2^64):(decide ((h:Int)<(r:Int))||(((h:Int)==(r:Int))&&decide ((l:Int)<=(w:Int))))=decide (h*2^64+l<=r*2^64+w):=by
 rw[ej,dv,ae,decide_eq_true_eq,decide_eq_true_eq,decide_eq_true_eq,beq_iff_eq];omega
theorem aQ1{U V P v1 v2 u2 u0 g rest:Nat}(hP:0<P)(hV:(v1*2^64+v2)*P<=V)(hU:U<(u2*2^64+u0+1)*P)(hg:g*v1+rest=u2)(h:¬g*v2<=rest*2^64+u0):U/V<g:=by
 rcases aq (U/V) g with h1|h1
 ·exact h1
 ·exfalso;have h2:g*V<=U:=gb (au V h1) (lu U V);have h3:g*((v1*2^64+v2)*P)<=g*V:=cm g hV;rw[←aw]at h3;have h4:=jy (ax (gb h3 h2) hU);rw[bt,←aw]at h4;rw[←hg,cg]at h4;omega
theorem aQ2{U V P v1 v2 u2 u0:Nat}(hP:0<P)(h1:0<v1)(hV:(v1*2^64+v2)*P<=V)(hU:U<(u2*2^64+u0+1)*P)(hu0:u0<2^64):U/V<=u2/v1:=by
 rw[jq h1];have h2:U/V*V<=U:=lu U V;have h3:U/V*((v1*2^64+v2)*P)<=U/V*V:=cm _ hV;rw[←aw]at h3;have h4:=jy (ax (gb h3 h2) hU);rw[bt,←aw]at h4;omega
theorem aJK{v:List Nat}{n:Nat}(hn:v.length=n+2):(v.getD (n+1) 0*2^64+v.getD n 0)*(2^64)^n<=nv (2^64) v:=by
 have h1:=Et (2^64) v n;have h2:=Et (2^64) v (n+1);rw[cj (by omega)]at h2;rw[h2,h1,Jn,cg,ar _ ((2^64)^n),ar (v.getD n 0),aw,ar (2^64) (v.getD (n+1) 0)];omega
theorem aJD{u:List Nat}{n:Nat}(hu:∀x∈u,x<2^64)(hn:u.length=n+3):nv (2^64) u<((u.getD (n+2) 0*2^64+u.getD (n+1) 0)*2^64+u.getD n 0+1)*(2^64)^n:=by
 have h0:=Xv hu n;have h1:=Et (2^64) u n;have h2:=Et (2^64) u (n+1);have h3:=Et (2^64) u (n+2);rw[cj (show u.length<=n+2+1 by omega)]at h3;rw[h3,h2,h1];rw[show(2^64)^(n+2)=(2^64)^n*2^64*2^64 by rw[show n+2=n+1+1 by omega,Jn,Jn],Jn];generalize(2^64)^n=P at *
 generalize u.getD (n+2) 0=a;generalize u.getD (n+1) 0=b;generalize u.getD n 0=c;rw[ar (_+1) P,bt,bt,cg,bt,gr];have e1:P*(a*2^64*2^64)=P*2^64*2^64*a:=by rw[aw P,aw P,aw a,ar a]
 have e2:P*(b*2^64)=P*2^64*b:=by rw[aw P,ar b]
 rw[e1,e2];omega
end VL
namespace VL
open Go Vx
theorem aN0(A us C v:List Nat){n:Nat}(hvl:v.length=n+2)(hlen:us.length=n+3)(hu:∀x∈us,x<2^64)(hv:∀x∈v,x<2^64)(hn:v.length<=1000000)
  (hV0:0<v.getD (n+1) 0) (g rest:Nat) (hg:g<2^64) (hr:rest<2^64) (hinv:g*v.getD (n+1) 0+rest=us.getD (n+2) 0*2^64+us.getD (n+1) 0) (hq:nv (2^64) us/nv (2^64) v<=g) :
  ∃g':Nat,g'<2^64/\nv (2^64) us/nv (2^64) v<=g' /\
   ZL ((((g:Int),((rest:Int),((v.length:Int),((A.length,us.length),(Wd v,()))))),(Wd (A++us++C),())):Fe.D)=some (.inl (((A.length,us.length),(Wd v,((g':Int),()))),(Wd (A++us++C),()))):=by
 have key:=RM (aGr AP.pre AP.F AN.pre AN.F Ar.pre Ar.F BV.pre BV.F CC.pre CC.F) (fun s=>s.1.1.toNat)
  (fun s=>∃(g rest:Nat),g<2^64/\rest<2^64/\g*v.getD (n+1) 0+rest=us.getD (n+2) 0*2^64+us.getD (n+1) 0/\nv (2^64) us/nv (2^64) v<=g /\
   s=(((g:Int),((rest:Int),((v.length:Int),((A.length,us.length),(Wd v,()))))),(Wd (A++us++C),())))
  (fun y=>∃g':Nat,g'<2^64/\nv (2^64) us/nv (2^64) v<=g'/\y=.inl (((A.length,us.length),(Wd v,((g':Int),()))),(Wd (A++us++C),()))) ?_
  (((g:Int),((rest:Int),((v.length:Int),((A.length,us.length),(Wd v,()))))),(Wd (A++us++C),())) ⟨g,rest,hg,hr,hinv,hq,rfl⟩
 ·obtain⟨y,hy,g',k1,k2,rfl⟩:=key;exact⟨g',k1,k2,hy⟩
 clear hinv hg hr hq g rest;intro L s hs hL;obtain⟨g,rest,hg,hr,hinv,hq,rfl⟩:=hs;unfold TH;have hv1:=CH (by decide) hv (n+1);have hv2:=CH (by decide) hv n;have hu0:=CH (by decide) hu n;have g1:(Wd v).getD (n+1) 0=((v.getD (n+1) 0:Nat):Int):=CD v _;have g2:(Wd v).getD n 0=((v.getD n 0:Nat):Int):=CD v _;have g3:=R1 (A:=A) (C:=C) (us:=us) (i:=n) (by omega);have e11:aa .i64 ((v.length:Int)-2)=(n:Int):=by rw[Ax (by omega)];omega
 have e12:aa .i64 ((v.length:Int)-1)=((n+1:Nat):Int):=by rw[Ax (by omega)];omega
 have p0:=kC hg hv2;have e0:decide ((0:Int)<=(n:Int))=true:=decide_eq_true (by omega);have e1:decide ((n:Int)<(v.length:Int))=true:=decide_eq_true (by omega);have e2:decide ((n:Int)<(us.length:Int))=true:=decide_eq_true (by omega);have e3:decide ((0:Int)<=((n+1:Nat):Int))=true:=decide_eq_true (by omega);have e4:decide (((n+1:Nat):Int)<(v.length:Int))=true:=decide_eq_true (by omega);have hlo:g*v.getD n 0%2^64<2^64:=bv _ (by decide);have hlex:=aSw (h:=g*v.getD n 0/2^64) (r:=rest) hlo hu0;rw[show g*v.getD n 0/2^64*2^64+g*v.getD n 0%2^64=g*v.getD n 0 by omega]at hlex;dsimp only;simp only[e11,e12,e0,e1,e2,e3,e4,bg,bh,cond_true,AF,ag,g1,g2,g3,rM p0,pK p0,hlex];by_cases hc:g*v.getD n 0<=rest*2^64+us.getD n 0
 ·rw[decide_eq_true hc,cond_true];exact⟨_,rfl,g,hg,hq,rfl⟩
 ·rw[decide_eq_false hc,cond_false];have hdn:=aQ1 (ij (by decide)) (aJK hvl) (aJD hu hlen) hinv hc;have hg1:1<=g:=ax (ee _) hdn;obtain⟨p,rfl⟩:∃p,g=p+1:=⟨g-1,by omega⟩
  have e5:aa .u64 (((p+1:Nat):Int)-1)=(p:Int):=by rw[Ev (by omega)];omega
  have q1:=S5 rest (v.getD (n+1) 0) 0;have q2:=S6 (rest:Int) ((v.getD (n+1) 0:Nat):Int) 0 (by decide);have z0:((0:Nat):Int)=0:=rfl;rw[z0]at q1 q2;simp only[q1,q2,cond_true,e5];by_cases hb:(rest+v.getD (n+1) 0+0)/2^64=0
  ·have e6:((((rest+v.getD (n+1) 0+0)/2^64:Nat):Int)!=0)=false:=by rw[hb];rfl
   rw[e6,cond_false];have hs:(rest+v.getD (n+1) 0+0)%2^64=rest+v.getD (n+1) 0:=by omega
   rw[hs];refine hL _ ⟨p,rest+v.getD (n+1) 0,by omega,by omega,?_,og hdn,rfl⟩ (by simp only[ag];omega);rw[cg,fu]at hinv;omega
  ·have e6:((((rest+v.getD (n+1) 0+0)/2^64:Nat):Int)!=0)=true:=Bv _ hb;rw[e6,cond_true];exact⟨_,rfl,p,by omega,og hdn,rfl⟩
theorem aNr(A us C v:List Nat){n:Nat}(hvl:v.length=n+2)(hlen:us.length=n+3)(hu:∀x∈us,x<2^64)(hv:∀x∈v,x<2^64)(hn:v.length<=1000000)
  (hlt:nv (2^64) us<nv (2^64) v*2^64) :
  ∃out:List Nat,out.length=us.length/\(∀z∈out,z<2^64)/\nv (2^64) out=nv (2^64) us%nv (2^64) v /\
   Vt ((Wd (A++us++C),(A.length,us.length)),(Wd v,()))=some (Wd (A++out++C),((nv (2^64) us/nv (2^64) v:Nat):Int),()):=by
 show ∃out:List Nat,_/\_/\_/\gA AP.pre AP.F AN.pre AN.F Ar.pre Ar.F BV.pre BV.F CC.pre CC.F ZL V9 (Wd (A++us++C),(A.length,us.length)) (Wd v)=_;have hVp:0<nv (2^64) v:=by omega
 have hq64:nv (2^64) us/nv (2^64) v<2^64:=by rw[bm hVp,ar];exact hlt
 have hv1:=CH (by decide) hv (n+1);have hu2:=CH (by decide) hu (n+2);have hu1:=CH (by decide) hu (n+1);have hu0:=CH (by decide) hu n;have Ce:∀g:Nat,g<2^64->nv (2^64) us/nv (2^64) v<=g ->
   ∃out:List Nat,out.length=us.length/\(∀z∈out,z<2^64)/\nv (2^64) out=nv (2^64) us%nv (2^64) v /\
    (bif BV.pre ((Wd (A++us++C),(A.length,us.length)),(Wd v,((g:Int),())))then
     (bif(BV.F ((Wd (A++us++C),(A.length,us.length)),(Wd v,((g:Int),())))).2.1 then
      (Vx.A3 (V9 (((g:Int),((A.length,us.length),(Wd v,()))),((BV.F ((Wd (A++us++C),(A.length,us.length)),(Wd v,((g:Int),())))).1,()))) fun y5=>
      Vx.A1 y5 (fun y6=>some (y6.2.1,y6.1)) (fun _=>none))
     else some ((BV.F ((Wd (A++us++C),(A.length,us.length)),(Wd v,((g:Int),())))).1,((g:Int),())))
    else none)=(some (Wd (A++out++C),(((nv (2^64) us/nv (2^64) v:Nat):Int),())):Option (LK.B EB×DenS In)):=by
  intro g hg hq;obtain⟨out,o1,o2,o3,o4⟩:=aNp A us C v (by omega) hu hv hn hg;have hpr:BV.pre ((Wd (A++us++C),(A.length,us.length)),(Wd v,((g:Int),())))=true:=aT3 o4;have hfr:BV.F ((Wd (A++us++C),(A.length,us.length)),(Wd v,((g:Int),())))=(Wd (A++out++C),decide (nv (2^64) us<g*nv (2^64) v),()):=aRE o4;rw[hpr,hfr];rw[cond_true];by_cases hb:nv (2^64) us<g*nv (2^64) v
  ·rw[if_pos hb]at o3;obtain⟨out2,u1,u2,u3,u4⟩:=aN1 A C v (k:=us.length) (U:=nv (2^64) us) (by omega) hv hn out g o1 o2 hg o3;refine⟨out2,u1,u2,u3,?_⟩;dsimp only;rw[decide_eq_true hb,cond_true,u4]
  ·rw[if_neg hb,dc]at o3;have h1:nv (2^64) us/nv (2^64) v=g:=by
    have:g<=nv (2^64) us/nv (2^64) v:=by rw[jq hVp];omega
    exact Nat.le_antisymm hq this
   have h2:nv (2^64) out=nv (2^64) us%nv (2^64) v:=by
    have:=ci (nv (2^64) us) (nv (2^64) v);rw[h1,ar]at this;omega
   refine⟨out,o1,o2,h2,?_⟩;dsimp only;rw[decide_eq_false hb,cond_false,h1]
 have g1:(Wd v).getD (n+1) 0=((v.getD (n+1) 0:Nat):Int):=CD v _;have g2:=R1 (A:=A) (C:=C) (us:=us) (i:=n+2) (by omega);have g3:=R1 (A:=A) (C:=C) (us:=us) (i:=n+1) (by omega);have e10:aa .i64 ((v.length:Int)-1)=((n+1:Nat):Int):=by rw[Ax (by omega)];omega
 have e0:decide ((0:Int)<=(v.length:Int))=true:=decide_eq_true (by omega);have e1:decide ((v.length:Int)<(us.length:Int))=true:=decide_eq_true (by omega);have e2:decide ((0:Int)<=((n+1:Nat):Int))=true:=decide_eq_true (by omega);have e3:decide (((n+1:Nat):Int)<(v.length:Int))=true:=decide_eq_true (by omega);have e4:decide (((n+1:Nat):Int)<(us.length:Int))=true:=decide_eq_true (by omega);have evl:v.length=n+2:=hvl;have g2':(Wd (A++us++C)).getD (A.length+v.length) 0=((us.getD (n+2) 0:Nat):Int):=by rw[evl];exact g2
 unfold gA;dsimp only;simp only[AF,ag,e10,g1,g2',g3,e0,e1,e2,e3,e4,bg,cond_true];by_cases hc:us.getD (n+2) 0<v.getD (n+1) 0
 ·have e5:decide (((us.getD (n+2) 0:Nat):Int)<((v.getD (n+1) 0:Nat):Int))=true:=decide_eq_true (by omega);have p0:=yG hu1 hv1 hc;simp only[e5,cond_true,aHc p0,aFy p0];have hgl:(us.getD (n+2) 0*2^64+us.getD (n+1) 0)/v.getD (n+1) 0<2^64:=by
   rw[bm (by omega)];have:(us.getD (n+2) 0+1)*2^64<=v.getD (n+1) 0*2^64:=au _ hc;rw[cg,fu]at this;rw[ar (2^64)];omega
  have hrl:(us.getD (n+2) 0*2^64+us.getD (n+1) 0)%v.getD (n+1) 0<2^64:=jc (bv _ (by omega)) hv1;have hst:=aQ2 (ij (n:=n) (show 0<2^64 by decide)) (show 0<v.getD (n+1) 0 by omega) (aJK hvl) (aJD hu hlen) hu0;obtain⟨g',k1,k2,k3⟩:=aN0 A us C v hvl hlen hu hv hn (by omega) _ _ hgl hrl (by rw[ar];exact ci _ _) hst;rw[k3];obtain⟨out,o1,o2,o3,o4⟩:=Ce g' k1 k2;exact⟨out,o1,o2,o3,o4⟩
 ·have e5:decide (((us.getD (n+2) 0:Nat):Int)<((v.getD (n+1) 0:Nat):Int))=false:=decide_eq_false (by omega);simp only[e5,cond_false];obtain⟨out,o1,o2,o3,o4⟩:=Ce (2^64-1) (by decide) (Nat.le_pred_of_lt hq64);exact⟨out,o1,o2,o3,o4⟩
end VL
namespace VL
open Go Vx
theorem aQq{X Q d r a B:Nat}(hX:X=Q*d+r):X*B+a=(Q*B+(r*B+a)/d)*d+(r*B+a)%d:=by
 have h1:=ci (r*B+a) d;rw[hX,cg,cg,io,ar ((r*B+a)/d) d];omega
theorem aNQ(l:List Nat)(hl:∀x∈l,x<2^64)(hn:l.length<=1000000){d:Nat}(hd:0<d)(hd2:d<2^64):
  ∃qs:List Nat,qs.length=l.length/\(∀x∈qs,x<2^64)/\nv (2^64) qs=nv (2^64) l/d /\
   V6 ((((d:Int),(((l.length:Int)-1),((),((0:Int),())))),(Wd l,())):Fb.D)=some (.inl (((),(((nv (2^64) l%d:Nat):Int),())),(Wd qs,()))):=by
 have key:=RM (aGe AP.pre AP.F Ah.pre Ah.F) (fun s=>(s.1.2.1+1).toNat)
  (fun s=>∃(k:Nat) (qs:List Nat) (r:Nat),k<=l.length/\qs.length+k=l.length/\(∀x∈qs,x<2^64)/\r<d/\nv (2^64) (l.drop k)=nv (2^64) qs*d+r /\
   s=(((d:Int),(((k:Int)-1),((),((r:Int),())))),(Wd (l.take k++qs),())))
  (fun y=>∃qs:List Nat,qs.length=l.length/\(∀x∈qs,x<2^64)/\nv (2^64) qs=nv (2^64) l/d/\y=.inl (((),(((nv (2^64) l%d:Nat):Int),())),(Wd qs,()))) ?_
  (((d:Int),(((l.length:Int)-1),((),((0:Int),())))),(Wd l,()))
  ⟨l.length,[],0,bf _,by simp,(fun z hz=>by simp at hz),hd,by simp[nv],by simp⟩
 ·obtain⟨y,hy,qs,k1,k2,k3,rfl⟩:=key;exact⟨qs,k1,k2,k3,hy⟩
 intro L s hs hL;obtain⟨k,qs,r,hk,hql,hqd,hr,hinv,rfl⟩:=hs;unfold Tu;rcases k with _|i
 ·have e0:decide ((((0:Nat):Int)-1)>=0)=false:=rfl;dsimp only;rw[e0,cond_false];rw[kx]at hinv;have hdv:nv (2^64) l/d=nv (2^64) qs:=by rw[hinv,ar,jt hd,cq hr,dc]
  have hmd:nv (2^64) l%d=r:=by rw[hinv,ar,ju,be hr]
  exact⟨_,rfl,qs,by omega,hqd,hdv.symm,by rw[hmd,List.take_zero,List.nil_append]⟩
 ·have ei:(((i+1:Nat):Int)-1)=(i:Int):=by omega
  have ha:=CH (by decide) hl i;have hg:(Wd (l.take (i+1)++qs)).getD i 0=((l.getD i 0:Nat):Int):=by
   rw[CD];congr 1;rw[ai,ai,bo (by simp;omega),List.getElem?_take_of_lt (by omega)]
  have hdn:=Xt (2^64) l i (by omega);have hset:∀z:Nat,(Wd (l.take (i+1)++qs)).set i (z:Int)=Wd (l.take i++(z::qs)):=fun z=>by
   rw[EQ,lj _ _ (by simp;omega),ir (show i<l.length by omega),fm _ _ (by simp;omega)];have:i-(l.take i).length=0:=by simp;omega
   rw[this];simp
  have hlen:(Wd (l.take (i+1)++qs)).length=l.length:=by rw[AF];simp;omega
  generalize l.getD i 0=a at *
  have p0:=yG (hi:=r) ha hd2 hr;have e0:decide ((i:Int)>=0)=true:=decide_eq_true (by omega);have e1:decide ((0:Int)<=(i:Int))=true:=decide_eq_true (by omega);have e2:decide ((i:Int)<(l.length:Int))=true:=decide_eq_true (by omega);have e3:aa .i64 ((i:Int)-1)=(i:Int)-1:=Ax (by omega);dsimp only;simp only[ei,e0,e1,e2,e3,hlen,bg,cond_true,ag,hg,aHc p0,aFy p0,hset];have hq:(r*2^64+a)/d<2^64:=by
   rw[bm hd];have:(r+1)*2^64<=d*2^64:=au _ hr;rw[ar (2^64)];omega
  refine hL _ ⟨i,(r*2^64+a)/d::qs,(r*2^64+a)%d,by omega,by simp;omega,?_,bv _ hd,?_,rfl⟩ (by dsimp only;omega)
  ·intro x hx;rcases ck.1 hx with rfl|hx
   ·exact hq
   ·exact hqd x hx
  ·have:=aQq (B:=2^64) (a:=a) hinv;rw[hdn];show a+2^64*_=((r*2^64+a)/d+2^64*nv (2^64) qs)*d+_;rw[ar (2^64) (nv (2^64) qs),gx ((r*2^64+a)/d),←this];omega
theorem sY{l:List Nat}(h:∀x∈l,x<2^64):Wd (Aj l)=Dw (nv (2^64) l):=by
 unfold Dw;rw[Gp (by decide) l h]
theorem aNb{a:Nat}(ha:a<(2^64)^5000){d:Nat}(hd:0<d)(hd2:d<2^64):Va (Dw a,(d:Int),())=some (Dw (a/d),((a%d:Nat):Int),()):=by
 show eU AP.pre AP.F Ah.pre Ah.F V6 (Dw a) (d:Int)=_;unfold eU;have hw:=Dd ha;obtain⟨qs,k1,k2,k3,k4⟩:=aNQ (dg (2^64) a) hw.1 hw.2 hd hd2;rw[CA]at k3 k4;have hl:(dg (2^64) a).length<=1000000:=hw.2;have e0:aa .i64 (((Dw a).length:Int)-1)=(((dg (2^64) a).length:Int)-1):=by
  unfold Dw;rw[AF,Ax (by omega)]
 have p0:=DG qs (by omega);rw[e0];have k4:V6 ((((d:Int),((((dg (2^64) a).length:Int)-1),((),((0:Int),())))),(Dw a,())):Fb.D)=_:=k4;rw[k4];show(bif Ah.pre (Wd qs,())then some ((Ah.F (Wd qs,())).1,(((a%d:Nat):Int),()))else none)=_;simp only[CU p0,CT p0,cond_true,sY k2,k3]
theorem aN2(v:List Nat){n:Nat}(hvl:v.length=n+2)(hv:∀x∈v,x<2^64)(hn:v.length<=900000){X:Nat}(Q:Nat)(hQ:Q<=50000)(s:Int)(us:List Nat)(hus:us.length=Q+n+2)
  (hud:∀x∈us,x<2^64) (hX:nv (2^64) us=X) (hlt:X<nv (2^64) v*(2^64)^Q) :
  ∃qs us':List Nat,qs.length=Q/\(∀x∈qs,x<2^64)/\nv (2^64) qs=X/nv (2^64) v/\us'.length=Q+n+2/\(∀x∈us',x<2^64)/\nv (2^64) us'=X%nv (2^64) v /\
   Wa (((Wd v,(((Q:Int)-1),((),((),((v.length:Int),(s,())))))),(Wd us,(Wd (ap Q 0),()))):Ff.D)=some (.inl (((),((),((v.length:Int),(s,())))),(Wd us',(Wd qs,())))):=by
 have hV0:0<nv (2^64) v:=by
  rcases ba (nv (2^64) v)with h|h
  ·rw[h,fk]at hlt;omega
  ·exact h
 have hVl:=DN (B:=2^64) (by decide) v hv;have key:=RM (aGs CX.pre CX.F D1.pre D1.F Bq.pre Bq.F Ct.pre Ct.F EO.pre EO.F Br.pre Br.F CY.pre CY.F D3.pre D3.F Ah.pre Ah.F Cu.pre Cu.F) (fun s=>(s.1.2.1+1).toNat)
  (fun x=>∃(k:Nat) (qs us:List Nat),k<=Q/\qs.length+k=Q/\(∀x∈qs,x<2^64)/\us.length=Q+n+2/\(∀x∈us,x<2^64)/\nv (2^64) us<nv (2^64) v*(2^64)^k /\
   X=nv (2^64) qs*(2^64)^k*nv (2^64) v+nv (2^64) us /\
   x=((Wd v,(((k:Int)-1),((),((),((v.length:Int),(s,())))))),(Wd us,(Wd (ap k 0++qs),()))))
  (fun y=>∃qs us':List Nat,qs.length=Q/\(∀x∈qs,x<2^64)/\nv (2^64) qs=X/nv (2^64) v/\us'.length=Q+n+2/\(∀x∈us',x<2^64)/\nv (2^64) us'=X%nv (2^64) v /\
   y=.inl (((),((),((v.length:Int),(s,())))),(Wd us',(Wd qs,())))) ?_
  ((Wd v,(((Q:Int)-1),((),((),((v.length:Int),(s,())))))),(Wd us,(Wd (ap Q 0),())))
  ⟨Q,[],us,bf _,by simp,(fun z hz=>by simp at hz),hus,hud,by rw[hX];exact hlt,by simp[nv,hX],by simp⟩
 ·obtain⟨y,hy,qs,us',k1,k2,k3,k4,k5,k6,rfl⟩:=key;exact⟨qs,us',k1,k2,k3,k4,k5,k6,hy⟩
 clear hlt hX hud hus us;intro L x hx hL;obtain⟨k,qs,us,hk,hql,hqd,hus,hud,hlt,hinv,rfl⟩:=hx;unfold TI;rcases k with _|j
 ·have e0:decide ((((0:Nat):Int)-1)>=0)=false:=rfl;dsimp only;rw[e0,cond_false];rw[js,gr]at hlt hinv;have hdv:X/nv (2^64) v=nv (2^64) qs:=by rw[hinv,ar,jt hV0,cq hlt,dc]
  have hmd:X%nv (2^64) v=nv (2^64) us:=by rw[hinv,ar,ju,be hlt]
  exact⟨_,rfl,qs,us,by omega,hqd,hdv.symm,hus,hud,hmd.symm,by simp⟩
 ·have ei:(((j+1:Nat):Int)-1)=(j:Int):=by omega
  have hjl:j+(n+3)<=us.length:=by omega
  have hsplit:us=us.take j++(us.drop j).take (n+3)++us.drop (j+(n+3)):=by
   rw[List.append_assoc,←pm,jr,jr]
  have hAl:(us.take j).length=j:=by simp;omega
  have hwl:((us.drop j).take (n+3)).length=n+3:=by simp;omega
  have hAd:∀x∈us.take j,x<2^64:=fun x hx=>hud x (dr hx);have hwd:∀x∈(us.drop j).take (n+3),x<2^64:=fun x hx=>hud x (ka (dr hx));have hCd:∀x∈us.drop (j+(n+3)),x<2^64:=fun x hx=>hud x (ka hx);have hCl:(us.drop (j+(n+3))).length+j+(n+3)=us.length:=by simp;omega
  generalize us.take j=A at *
  generalize(us.drop j).take (n+3)=w at *
  generalize us.drop (j+(n+3))=C at *
  subst hsplit;have hAlt:=DN (B:=2^64) (by decide) A hAd;have hval:∀w:List Nat,w.length=n+3->nv (2^64) (A++w++C)=nv (2^64) A+(2^64)^j*nv (2^64) w+(2^64)^(j+(n+3))*nv (2^64) C:=fun w hw=>by
   rw[RQ,RQ,hAl,show(A++w).length=j+(n+3) by simp[hAl,hw]]
  have hPj:=ij (n:=j) (show 0<2^64 by decide);have hv1:=hval w hwl;rw[hAl]at hAlt;have hC0:nv (2^64) C=0:=by
   rcases ba (nv (2^64) C)with h|h
   ·exact h
   ·exfalso;have h1:(2^64)^(j+(n+3))*1<=(2^64)^(j+(n+3))*nv (2^64) C:=cm _ h;have h2:nv (2^64) v*(2^64)^(j+1)<=(2^64)^(n+2)*(2^64)^(j+1):=au _ (by rw[hvl]at hVl;omega);rw[←bb,show n+2+(j+1)=j+(n+3) by omega]at h2;omega
  rw[hC0,fi,dc]at hv1;have hwlt:nv (2^64) w<nv (2^64) v*2^64:=by
   have h1:(2^64)^j*nv (2^64) w<(2^64)^j*(nv (2^64) v*2^64):=by
    rw[Jn,←aw]at hlt;rw[gz,←aw];omega
   exact Nat.lt_of_mul_lt_mul_left h1
  obtain⟨out,o1,o2,o3,o4⟩:=aNr A w C v hvl hwl hwd hv (by omega) hwlt;rw[hAl,hwl]at o4;have hout:out.length=n+3:=by omega
  have hv2:=hval out hout;rw[hC0,fi,dc,o3]at hv2;have hdm:=ci (nv (2^64) w) (nv (2^64) v);have hml:=bv (nv (2^64) w) hV0;have hq64:nv (2^64) w/nv (2^64) v<2^64:=by rw[bm hV0,ar];exact hwlt
  have e0:decide ((j:Int)>=0)=true:=decide_eq_true (by omega);have e1:decide ((0:Int)<=(j:Int))=true:=decide_eq_true (by omega);have e3:aa .i64 (aa .i64 ((j:Int)+(v.length:Int))+1)=((j+(n+3):Nat):Int):=by
   rw[Ax (n:=(j:Int)+_) (by omega),Ax (by omega)];omega
  have e4:decide ((j:Int)<=((j+(n+3):Nat):Int))=true:=decide_eq_true (by omega);have e5:decide ((((j+(n+3):Nat):Int))<=((Wd (A++w++C)).length:Int))=true:=decide_eq_true (by rw[AF];simp;omega);have e6:decide ((j:Int)<((Wd (ap (j+1) 0++qs)).length:Int))=true:=decide_eq_true (by rw[AF];simp;omega);have e7:aa .i64 ((j:Int)-1)=(j:Int)-1:=Ax (by omega);have hset:∀z:Nat,(Wd (ap (j+1) 0++qs)).set j (z:Int)=Wd (ap j 0++(z::qs)):=fun z=>by
   rw[EQ,lj _ _ (by simp),List.replicate_succ',fm _ _ (by simp)];simp
  have e8:j+(n+3)-j=n+3:=by omega
  dsimp only;simp only[ei,e0,e1,e3,e4,e5,e6,e7,bg,cond_true,ag,e8];rw[aT5 o4,aRG o4,cond_true];dsimp only;rw[hset];refine hL _ ⟨j,nv (2^64) w/nv (2^64) v::qs,A++out++C,by omega,by simp;omega,?_,by simp;omega,?_,?_,?_,rfl⟩ (by dsimp only;omega)
  ·intro x hx;rcases ck.1 hx with rfl|hx
   ·exact hq64
   ·exact hqd x hx
  ·intro x hx;rcases cn.1 hx with hx|hx
   ·rcases cn.1 hx with hx|hx
    ·exact hAd x hx
    ·exact o2 x hx
   ·exact hCd x hx
  ·rw[hv2];have:(2^64)^j*(nv (2^64) w%nv (2^64) v+1)<=(2^64)^j*nv (2^64) v:=cm _ hml;rw[bt,gr]at this;rw[ar (nv (2^64) v)];omega
  ·rw[hv2,hinv,hv1];show _=(nv (2^64) w/nv (2^64) v+2^64*nv (2^64) qs)*(2^64)^j*nv (2^64) v+_;have h1:(2^64)^j*nv (2^64) w=(2^64)^j*(nv (2^64) v*(nv (2^64) w/nv (2^64) v))+(2^64)^j*(nv (2^64) w%nv (2^64) v):=by rw[←bt,hdm]
   rw[h1,Jn,cg,cg];generalize nv (2^64) w/nv (2^64) v=q;generalize nv (2^64) v=V;generalize(2^64)^j=P;have h2:nv (2^64) qs*(P*2^64)*V=2^64*nv (2^64) qs*P*V:=by rw[ar P,←aw,ar (nv (2^64) qs)]
   have h3:P*(V*q)=q*P*V:=by rw[ar V,←aw,ar P]
   rw[h2,h3];omega
end VL
namespace VL
open Go Vx
theorem aQK{x k:Nat}(h:(2^64)^k<=x):k<(dg (2^64) x).length:=by
 have:=WN (B:=2^64) (by decide) x;exact(cd (a:=2^64) (by decide)).1 (ax h this)
theorem aQL{x:Nat}(h0:x≠0):∃t,(dg (2^64) x).getD ((dg (2^64) x).length-1) 0=t/\t≠0/\t<2^64/\Am x=64*((dg (2^64) x).length-1)+Am t/\0<(dg (2^64) x).length:=by
 have hl:0<(dg (2^64) x).length:=by rw[Fw (by decide) (by omega)];simp
 have ht:=Ql (B:=2^64) (by decide) x;have h1:=XY (dg (2^64) x) (by rw[ht];exact hl);have h2:=aD9 (Qk (B:=2^64) (by decide) x) (by rw[ht];exact hl);rw[ht]at h1 h2;rw[CA]at h2;exact⟨_,rfl,h1,CH (by decide) (Qk (by decide) x) _,h2,hl⟩
theorem T8(k:Nat):(2^64)^k=2^(64*k):=(lq ..).symm
theorem aNs{a b:Nat}(ha:a<(2^64)^4000)(hb:b<(2^64)^4000)(h0:b≠0):Vu (Dw a,Dw b,())=some (Dw (a/b),Dw (a%b),()):=by
 have up:∀{x:Nat},x<(2^64)^4000->x<(2^64)^5000:=fun h=>al h (ak (by decide) (by decide));show gB CX.pre CX.F D1.pre D1.F Bq.pre Bq.F Ct.pre Ct.F EO.pre EO.F Br.pre Br.F CY.pre CY.F D3.pre D3.F Ah.pre Ah.F Cu.pre Cu.F Wa (Dw a) (Dw b)=_;unfold gB;have pa:=Ss (up ha);have pb:=Ss (up hb);have pc:=j9 (up ha) (up hb);have wa:=Dd (up ha);have wb:=Dd (up hb);have hla:(dg (2^64) a).length<=4000:=DH (by decide) _ _ ha;have hlb:(dg (2^64) b).length<=4000:=DH (by decide) _ _ hb;have pcopy:=xI (dg (2^64) a) wa;rw[CA]at pcopy;have pcopy:Q1 (Dw a,())=some (Dw a,()):=pcopy;obtain⟨t,ht,ht0,ht64,hbt,hlp⟩:=aQL h0;have hLen:∀x:Nat,(Dw x).length=(dg (2^64) x).length:=fun x=>AF _;have hGet:∀(x i:Nat),(Dw x).getD i 0=(((dg (2^64) x).getD i 0:Nat):Int):=fun x i=>CD _ _;dsimp only;simp only[CU pa,CT pa,CU pb,CT pb,rH pc,pF pc,cond_true];by_cases hlt:a<b
 ·have e0:decide ((if a=b then(0:Int)else if a<b then -1 else 1)<0)=true:=by rw[if_neg (by omega),if_pos hlt];rfl
  simp only[e0,cond_true,rF pcopy,pD pcopy];rw[cq hlt,be hlt,Ew]
 have e0:decide ((if a=b then(0:Int)else if a<b then -1 else 1)<0)=false:=by
  rw[if_neg hlt];split<;>rfl
 simp only[e0,cond_false];by_cases h1:(dg (2^64) b).length=1
 ·have e1:(((Dw b).length:Int)==1)=true:=by rw[hLen,h1];rfl
  have hb64:b<2^64:=by
   have:=WN (B:=2^64) (by decide) b;rw[h1,Nat.pow_one]at this;exact this
  have e2:decide ((0:Int)<((Dw b).length:Int))=true:=by rw[hLen,h1];rfl
  have e3:(Dw b).getD (ah 0) 0=(b:Int):=by rw[bd,QQ,be hb64]
  have p0:=aNb (up ha) (mh h0) hb64;have hr:a%b<b:=bv _ (mh h0);have p1:=DG [a%b] (by simp);rw[sY (by intro x hx;rw[kh]at hx;omega),show nv (2^64) [a%b]=a%b by simp[nv]]at p1;have p1:Q5 ((((a%b:Nat):Int)::[]),())=_:=p1;simp only[e1,e2,e3,cond_true,rF pcopy,pD pcopy,aTU p0,aRv p0,CU p1,CT p1]
 have e1:(((Dw b).length:Int)==1)=false:=by
  rw[hLen];exact TO _ _ (by omega)
 simp only[e1,cond_false];obtain⟨n,hn⟩:∃n,(dg (2^64) b).length=n+2:=⟨(dg (2^64) b).length-2,by omega⟩
 have hab:(dg (2^64) b).length<=(dg (2^64) a).length:=aEE (by decide) (by omega);obtain⟨Q,hQ⟩:∃Q,(dg (2^64) a).length+1=Q+n+2:=⟨(dg (2^64) a).length+1-(n+2),by omega⟩
 rw[show(dg (2^64) b).length-1=n+1 by omega]at ht hbt;have hbl:=Qf ht64;have hbl1:=aD8 ht0;generalize hs:64-Am t=s at *
 have p327:=yF ht64;rw[hs]at p327;have hub:=Qg b;have hlob:=Rw h0;have hp:=aj s;have hV1:b*2^s<2^(64*(n+2)):=by
  have h2:b*2^s<2^Am b*2^s:=cw hub hp;rw[←bb,show Am b+s=64*(n+2) by omega]at h2;exact h2
 have hV2:2^(64*(n+2)-1)<=b*2^s:=by
  have h2:2^(Am b-1)*2^s<=b*2^s:=au _ hlob;rw[←bb,show Am b-1+s=64*(n+2)-1 by omega]at h2;exact h2
 have hvlen:(dg (2^64) (b*2^s)).length=n+2:=by
  have h2:(dg (2^64) (b*2^s)).length<=n+2:=DH (by decide) _ _ (by rw[T8];exact hV1);have h3:=aQK (x:=b*2^s) (k:=n+1) (by
   rw[T8];exact gb (ak (by decide) (by omega)) hV2)
  omega
 have hA:a*2^s<2^(64*(dg (2^64) a).length+s):=by
  have h2:=WN (B:=2^64) (by decide) a;rw[T8]at h2;rw[bb];exact cw h2 hp
 have hulen:(dg (2^64) (a*2^s)).length<=Q+n+2:=DH (by decide) _ _ (by
  rw[T8];exact al hA (ak (by decide) (by omega)))
 have hstart:a*2^s<b*2^s*(2^64)^Q:=by
  have h2:2^(64*(n+2)-1)*2^(64*Q)<=b*2^s*2^(64*Q):=au _ hV2;rw[←bb]at h2;rw[T8];exact al (al hA (ak (by decide) (by omega))) h2
 have pv:=kA (dg (2^64) b) wb s (by rw[Ql (by decide)];omega);have pu:=kA (dg (2^64) a) wa s (by rw[Ql (by decide)];omega);rw[CA]at pv pu;have pv:Q8 (Dw b,(s:Int),())=some (Dw (b*2^s),()):=pv;have pu:Q8 (Dw a,(s:Int),())=some (Dw (a*2^s),()):=pu;have e17:aa .i64 (((Dw b).length:Int)-1)=((n+1:Nat):Int):=by rw[hLen,Ax (by omega)];omega
 have e18:aa .i64 (((Dw a).length:Int)+1)=((Q+n+2:Nat):Int):=by rw[hLen,Ax (by omega)];omega
 have eg:(Dw b).getD (ah ((n+1:Nat):Int)) 0=(t:Int):=by rw[ag,hGet,ht]
 have e2:(decide ((0:Int)<=((n+1:Nat):Int))&&decide (((n+1:Nat):Int)<((Dw b).length:Int)))=true:=by
  rw[hLen,decide_eq_true (by omega),decide_eq_true (by omega)];rfl
 have e3:(decide ((0:Int)<=((Q+n+2:Nat):Int))&&decide (((Q+n+2:Nat):Int)*8<=140737488355328))=true:=by
  rw[decide_eq_true (by omega),decide_eq_true (by omega)];rfl
 generalize hud:dg (2^64) (a*2^s)++ap (Q+n+2-(dg (2^64) (a*2^s)).length) 0=us;have husl:us.length=Q+n+2:=by rw[←hud,List.length_append,fc];omega
 have hus:∀x∈us,x<2^64:=by
  rw[←hud];intro x hx;rcases cn.1 hx with hx|hx
  ·exact Qk (by decide) _ x hx
  ·have:=(List.mem_replicate.1 hx).2;omega
 have husv:nv (2^64) us=a*2^s:=by rw[←hud,RQ,aS2,fi,dc,CA]
 have hrow:(Dw (a*2^s)).take (ap (ah ((Q+n+2:Nat):Int)) (0:Int)).length++(ap (ah ((Q+n+2:Nat):Int)) (0:Int)).drop (Dw (a*2^s)).length=Wd us:=by
  rw[ag,fc,Wc,hLen,aN7,List.drop_replicate];unfold Dw;rw[ZP,cj hulen,←hud];unfold Wd;rw[List.map_append]
 have e11:aa .i64 (((Wd us).length:Int)-((Dw (b*2^s)).length:Int))=(Q:Int):=by
  rw[AF,husl,hLen,hvlen,Ax (by omega)];omega
 have e4:(decide ((0:Int)<=(Q:Int))&&decide ((Q:Int)*8<=140737488355328))=true:=by
  rw[decide_eq_true (by omega),decide_eq_true (by omega)];rfl
 have e5:aa .i64 (((ap (ah (Q:Int)) (0:Int)).length:Int)-1)=(Q:Int)-1:=by
  rw[ag,fc,Ax (by omega)]
 obtain⟨qs,us',k1,k2,k3,k4,k5,k6,k7⟩:=aN2 (dg (2^64) (b*2^s)) hvlen (Qk (by decide) _) (by omega) (X:=a*2^s) Q (by omega) (s:Int) us husl hus husv (by rw[CA];exact hstart);rw[CA]at k3 k6;rw[jv _ _ hp]at k3;rw[dw]at k6;have k7:Wa (((Dw (b*2^s),(((Q:Int)-1),((),((),(((Dw (b*2^s)).length:Int),((s:Int),())))))),(Wd us,((ap (ah (Q:Int)) (0:Int)),()))):Ff.D)=some (.inl (((),((),(((n+2:Nat):Int),((s:Int),())))),(Wd us',(Wd qs,())))):=by
  rw[ag,Wc,hLen];rw[hvlen]at k7⊢;exact k7
 simp only[e17,eg,aHb p327,aFx p327,rK pv,pI pv,rK pu,pI pu,e18,e2,e3,cond_true,hrow,e11,e4,e5];rw[k7];dsimp only[A3,A1];have pq:=DG qs (by omega);rw[sY k2,k3]at pq;have hnl:nv (2^64) (us'.take (n+2))=a%b*2^s:=by
  have h2:=QB (2^64) us' (n+2) (by omega);have h3:nv (2^64) (us'.drop (n+2))=0:=by
   rcases ba (nv (2^64) (us'.drop (n+2)))with h|h
   ·exact h
   ·exfalso;have h4:(2^64)^(n+2)*1<=(2^64)^(n+2)*nv (2^64) (us'.drop (n+2)):=cm _ h;have h5:a%b*2^s<b*2^s:=cw (bv _ (mh h0)) hp;rw[T8]at h4 h2;omega
  rw[h3,fi,dc]at h2;rw[←h2,k6]
 have pr:=xT (us'.take (n+2)) ⟨fun x hx=>k5 x (dr hx),by simp;omega⟩ s (by omega);rw[hnl,jl _ hp]at pr;have pr:Sr (Wd (us'.take (n+2)),(s:Int),())=some (Dw (a%b),()):=pr;have e6:(decide ((0:Int)<=((n+2:Nat):Int))&&decide (((n+2:Nat):Int)<=((Wd us').length:Int)))=true:=by
  rw[AF,k4,decide_eq_true (by omega),decide_eq_true (by omega)];rfl
 have e7:((Wd us').take (ah ((n+2:Nat):Int))).drop (ah 0)=Wd (us'.take (n+2)):=by
  rw[ag,bd,ZP,kx]
 simp only[CU pq,CT pq,e6,e7,aG9 pr,aFv pr,cond_true]
theorem aSb{l:List (List Nat)}(hl:∀x∈l,x.length<=1024)(hn:l.length<=1000000):P6 (l.map Wd,())=some (false,()):=by
 have:=xY l (fun x hx=>by have:=hl x hx;omega) hn;rw[this,decide_eq_true (fun x hx=>gb (DD x).1 (hl x hx))];rfl
theorem aNt{a b:Nat}(ha:a<(2^64)^1024)(hb:b<(2^64)^1024)(h0:b≠0):Vv (Dw a,Dw b,())=some (Dw (a/b),Dw (a%b),0,()):=by
 have up:∀{x:Nat},x<(2^64)^1024->x<(2^64)^4000:=fun h=>al h (ak (by decide) (by decide));have up5:∀{x:Nat},x<(2^64)^1024->x<(2^64)^5000:=fun h=>al h (ak (by decide) (by decide));show gC D2.pre D2.F Ah.pre Ah.F Px.pre Px.F (Dw a) (Dw b)=_;unfold gC;have p0:=aSb (l:=[dg (2^64) a,dg (2^64) b]) (by
  intro x hx;rcases ck.1 hx with rfl|hx
  ·exact DH (by decide) _ _ ha
  ·rw[kh]at hx;rw[hx];exact DH (by decide) _ _ hb) (by simp)
 have p0:P6 ((Dw a::Dw b::[]),())=some (false,()):=p0;have p1:=Ss (up5 hb);have p2:=aNs (up ha) (up hb) h0;have e0:(((Dw b).length:Int)==0)=false:=by rw[aJR,decide_eq_false h0]
 simp only[rJ p0,pH p0,CU p1,CT p1,aT6 p2,aRH p2,cond_true,cond_false,e0]
end VL
namespace VL
open Go Vx
def pv(f:Int)(x:Nat):Nat:=Aw f x*2^(Au f x-qm f).toNat
end VL
namespace VL
open Go Vx
def VV(f:Int)(x:Nat):Nat:=Aw f x*2^(Au f x+2600).toNat
end VL
namespace VL
open Go Vx
theorem aHE{f m:Int}{neg:Bool}{N k:Nat}{E:Int}(hf:Fm f)(hn:N/2^k≠0)(hm:N%2^k≠0->fP f+1<=Am (N/2^k)):Ba f m neg (N/2^k) (E+k) (decide (N%2^k≠0))=Ba f m neg N E false:=by
 have ht:=aJF (E:=E) hn;have htd:AK (N/2^k) (E+k)=E+k+(Am (N/2^k):Int)-1:=rfl;have hq1:N%2^k≠0->E+k<C4 f (AK N E):=fun h=>by
  have:=hm h;unfold C4;split<;>omega
 have hq2:N%2^k≠0->E+k<AK N E-fP f+1:=fun h=>by
  have:=hm h;omega
 have hti:DM f m neg (N/2^k) (E+k) (decide (N%2^k≠0))=DM f m neg N E false:=by
  unfold DM;rw[ht,bQ hq2]
 unfold Ba;simp only[ht,bQ hq1,(oK hq1).2,hti]
theorem aHD{f m:Int}{neg:Bool}{N k:Nat}{E:Int}(hf:Fm f)(hb:fP f+1<=Am (N/2^k)):Ba f m neg (N/2^k) E true=Ba f m neg (2*N+1) (E-k-1) false:=by
 have hP:=Fx hf;have e1:(2*N+1)/2^(k+1)=N/2^k:=by
  rw[dx,ar (2^k),←dl,show(2*N+1)/2=N by omega]
 have e2:(2*N+1)%2^(k+1)≠0:=by
  rw[dx,ar (2^k),Nat.mod_mul];omega
 have h0:N/2^k≠0:=fun h=>by
  rw[h]at hb;have:Am 0=0:=rfl;omega
 have:=aHE (f:=f) (m:=m) (neg:=neg) (N:=2*N+1) (k:=k+1) (E:=E-k-1) hf (by rw[e1];exact h0) (fun _=>by rw[e1];exact hb);rw[e1,decide_eq_true e2,show E-k-1+((k+1:Nat):Int)=E by omega]at this;exact this
def LU(f m:Int)(neg:Bool)(R:Nat)(E:Int)(more:Bool):Nat×Nat:=if more=true then Ba f m neg (2*R+1) (E-1) false else Ba f m neg R E false
theorem aHC{f m:Int}{neg:Bool}(hf:Fm f){R:Nat}{E:Int}{more:Bool}(hb:more=true->fP f+1<=Am R):Ba f m neg R E more=LU f m neg R E more:=by
 unfold LU;cases more
 ·rw[if_neg (by decide)]
 ·have:=aHD (f:=f) (m:=m) (neg:=neg) (N:=R) (k:=0) (E:=E) hf (by rw[js,pi];exact hb rfl);rw[js,pi]at this;rw[if_pos rfl,this];congr 1;omega
theorem aXF{f m:Int}{neg:Bool}(hf:Fm f){R k:Nat}{E:Int}{more:Bool}(hb:fP f+1<=Am (R/2^k)):LU f m neg (R/2^k) (E+k) (more||decide (R%2^k≠0))=LU f m neg R E more:=by
 have h0:R/2^k≠0:=fun h=>by
  rw[h]at hb;have:Am 0=0:=rfl;omega
 rw[←aHC hf (fun _=>hb)];unfold LU;cases more
 ·rw[if_neg (by decide),co];exact aHE hf h0 fun _=>hb
 ·rw[if_pos rfl,bh];have:=aHD (f:=f) (m:=m) (neg:=neg) (N:=R) (k:=k) (E:=E+k) hf hb;rw[this,show E+(k:Int)-(k:Int)-1=E-1 by omega]
def Hm(f m:Int)(neg:Bool)(n k:Nat)(e:Int):Nat×Nat:=LU f m neg (n*2^300/k) (e-300) (decide (n*2^300%k≠0))
theorem aUy{n k:Nat}(hk:0<k)(t:Nat):(n*2^t/k)/2^t=n/k/\(n%k≠0↔(n*2^t%k≠0∨(n*2^t/k)%2^t≠0)):=by
 have hpp:=aj t;have h1:(n*2^t/k)/2^t=n/k:=by
  rw[dl,ar k,←dl,jl _ hpp]
 refine⟨h1,?_⟩;have a1:=ci (n*2^t) k;have a2:=ci (n*2^t/k) (2^t);have a3:=ci n k;rw[h1]at a2;generalize n*2^t%k=r at *
 generalize hQ:n*2^t/k=Q at *
 generalize Q%2^t=u at *
 generalize n%k=w at *
 generalize n/k=q at *
 have e:k*u+r=w*2^t:=by
  have h2:(k*q+w)*2^t=k*(2^t*q+u)+r:=by rw[a3,a2,a1]
  rw[cg,bt,io,aw k,←aw k]at h2;omega
 constructor
 ·intro hw;rcases ba r with hr|hr
  ·right;intro hu;rw[hu,hr,fi]at e;have:=ic (show 0<w by omega) hpp;omega
  ·left;omega
 ·intro h hw;rw[hw,fk]at e;rcases h with h|h
  ·omega
  ·have:=ic hk (show 0<u by omega);omega
theorem oN{f m:Int}{neg:Bool}(hf:Fm f){n k:Nat}(hn:n≠0)(hk:0<k)(e:Int){s:Nat}(hs:s<=300)(h:n*2^s%k≠0->fP f+1<=Am (n*2^s/k)):
  LU f m neg (n*2^s/k) (e-s) (decide (n*2^s%k≠0))=Hm f m neg n k e:=by
 obtain⟨t,ht⟩:∃t,s+t=300:=⟨300-s,by omega⟩
 have e300:n*2^300=n*2^s*2^t:=by rw[aw,←bb,ht]
 obtain⟨q1,q2⟩:=aUy (n:=n*2^s) hk t;unfold Hm;rw[e300];by_cases hex:n*2^s%k=0
 ·have hq:n*2^s=k*(n*2^s/k):=by have:=ci (n*2^s) k;omega
  have hq0:n*2^s/k≠0:=fun h0=>by
   rw[h0,fi]at hq;exact lv hn (kz (aj s)) hq
  have h1:n*2^s*2^t/k=(n*2^s/k)*2^t:=by
   rw[hq,aw k,gg _ hk,gg _ hk]
  have h2:n*2^s*2^t%k=0:=by
   rw[hq,aw k,Nat.mul_mod_right]
  rw[h1,h2,hex];unfold LU;rw[if_neg (by decide),if_neg (by decide),dX hf hq0];congr 1;omega
 ·have hb:=h hex;have:=aXF (f:=f) (m:=m) (neg:=neg) hf (R:=n*2^s*2^t/k) (k:=t) (E:=e-300) (more:=decide (n*2^s*2^t%k≠0)) (by rw[q1];exact hb);rw[←this,q1,show e-300+(t:Int)=e-s by omega];congr 1;rw[ej,dv,decide_eq_true_eq,decide_eq_true_eq,decide_eq_true_eq];exact q2
def oM(f m:Int)(a b:Nat):Int×Int×Int×Unit:=bif nan f a||nan f b then((Cp f:Int),(bif Bu f a||Bu f b then 1 else 0),0,())else bif(AD f a&&AD f b)||(BJ f a&&BJ f b)then((Cp f:Int),1,0,())else bif AD f a then((DL f (!(sF f a==sF f b)):Int),0,0,())else bif BJ f b then((DL f (!(sF f a==sF f b)):Int),2,0,())else bif AD f b||BJ f a then((Ca f (!(sF f a==sF f b)):Int),0,0,())else(((Hm f m (!(sF f a==sF f b)) (Aw f a) (Aw f b) (Au f a-Au f b)).1:Int),((Hm f m (!(sF f a==sF f b)) (Aw f a) (Aw f b) (Au f a-Au f b)).2:Int),0,())
def Tf(f m:Int)(a b:Nat):Int×Int×Int×Unit:=if ¬Fm f then(0,0,2,())else if m<0∨m>5 then(0,0,3,())else if Ak f a≠0 then(0,0,Ak f a,())else if Ak f b≠0 then(0,0,Ak f b,())else oM f m a b
end VL
namespace VL
open Go Vx
def Bc(c:Int)(n:Nat)(e:Int):Prop:=c<=e/\e<=6000/\n*2^(e-c).toNat<2^5000
theorem Bc.lt{c:Int}{n:Nat}{e:Int}(h:Bc c n e):n<2^5000:=by
 have:=fe n (aj (e-c).toNat);exact ax this h.2.2
theorem Bc.od{c:Int}(hc:-4000<=c/\c<=0){n:Nat}{e:Int}(s:Bool)(h:Bc c n e):Bc c (VL.od s n e).2.1 (VL.od s n e).2.2:=by
 rcases RR s n e with⟨hz,_⟩|⟨_,h2,h3,h4,h5⟩
 ·rw[hz];exact⟨hc.2,by dsimp only;omega,by dsimp only;rw[fk];exact aj _⟩
 ·have hle:2^(tz n+(e-c).toNat)<=n*2^(e-c).toNat:=by
   rw[bb];refine au _ ?_;have:=fe (2^tz n) (show 0<(VL.od s n e).2.1 by omega);omega
  have hlt:=(cd (a:=2) (by decide)).1 (ax hle h.2.2);have hq:=hc.2;have h1:=h.1;refine⟨by omega,by omega,?_⟩;have e1:(VL.od s n e).2.1*2^((VL.od s n e).2.2-c).toNat=n*2^(e-c).toNat:=by
   rw[h5,show(e+(tz n:Int)-c).toNat=tz n+(e-c).toNat by omega,bb,←aw,ar _ (2^tz n),←h4]
  rw[e1];exact h.2.2
end VL
namespace VL
open Go Vx
structure Beside (f:Int) (R d:Nat) (more:Bool) (B:Nat) (inex:Bool) (r:Int->Nat×Nat):Prop where
 Ce:B+1<DC f
 pos:B≠0
 low:pv f B*2^d<=R
 high:R<pv f (B+1)*2^d
 ex:inex=(more||decide (pv f B*2^d≠R))
 any:∀m,0<=m/\m<=5->((r m).1=B∨(inex=true/\(r m).1=B+1))/\(r m).2=(bif inex then 16 else 0)
 down:(r 4).1=B
 up:(r 3).1=B+(bif inex then 1 else 0)
end VL
namespace VL
open Go Vx
theorem aN3{f:Int}(hf:Fm f)(l:List Nat)(hl:∀a∈l,a<2^64)(hlen:l.length<1000):
  ZM (((l.length:Int),(Wd l,(f,((0:Int),())))),())=some (bif LP f l then .inl ((),())else .inr (((4:Int),()),())):=by
 have key:=Er (aGt Al.pre Al.F Ao.pre Ao.F) (fun x=>l.length-x.1.2.2.2.1.toNat)
  (fun x=>∃i:Nat,i<=l.length/\LP f (l.take i)=true/\x=(((l.length:Int),(Wd l,(f,((i:Int),())))),()))
  (fun _=>bif LP f l then .inl ((),())else .inr (((4:Int),()),())) ?_ _ ⟨0,ee _,rfl,rfl⟩
 ·exact key
 intro L x hx hL;obtain⟨i,hi,hok,rfl⟩:=hx;unfold TJ;rcases aq i l.length with hlt|hge
 ·have hg:l.getD i 0=l[i]:=by simp[ai,hlt]
  have hmem:l[i]∈l:=jf hlt;have ha:=hl _ hmem;have p0:=IQ f l[i] ha;have e0:decide ((i:Int)<(l.length:Int))=true:=decide_eq_true (by omega);have e1:(decide ((0:Int)<=(i:Int))&&decide ((i:Int)<((Wd l).length:Int)))=true:=by rw[AF,decide_eq_true (by omega),decide_eq_true (by omega)];rfl
  have e2:(Wd l).getD (ah (i:Int)) 0=((l[i]:Nat):Int):=by rw[ag,CD,hg]
  have e3:aa .i64 ((i:Int)+1)=((i+1:Nat):Int):=by rw[Ax (by omega)];omega
  have htk:l.take (i+1)=l.take i++[l[i]]:=by rw[ir hlt]
  dsimp only;simp only[e0,e1,e2,e3,cond_true,Hy p0,Hq p0];by_cases hc:Ak f l[i]=0
  ·rw[hc,bne_self_eq_false,cond_false];refine hL _ ⟨i+1,by omega,?_,rfl⟩ (by simp only[ag];omega);unfold LP at hok⊢;rw[htk,List.all_append,hok,mm,hc];rfl
  ·have h4:Ak f l[i]=4:=(oE hf _).resolve_left hc;have hno:LP f l=false:=by
    unfold LP;rw[List.all_eq_false];exact⟨l[i],hmem,by rw[h4];decide⟩
   rw[h4,hno];rfl
 ·have e:i=l.length:=by omega
  subst e;rw[du]at hok;have e0:decide ((l.length:Int)<(l.length:Int))=false:=decide_eq_false (by omega);simp only[e0,cond_false];rw[hok];rfl
theorem aNv(f m:Int)(l:List Nat)(hl:∀a∈l,a<2^64)(hlen:l.length<1000):Sx (f,m,Wd l,())=some (Eo f m l,()):=by
 show gE Al.pre Al.F Ao.pre Ao.F ZM f m (Wd l)=_;unfold gE Eo;by_cases hf:Fm f
 ·have p0:=IR hf;rw[if_neg (show ¬¬Fm f from fun h=>h hf)];simp only[C7 p0,C3 p0,cond_true,bne_self_eq_false,cond_false];by_cases hm:m<0∨m>5
  ·rw[if_pos hm];have:(decide (m<0)||decide (m>5))=true:=by rcases hm with h|h<;>simp[h]
   rw[this,cond_true]
  ·rw[if_neg hm];have:(decide (m<0)||decide (m>5))=false:=by
    rw[decide_eq_false (by omega),decide_eq_false (by omega)];rfl
   rw[this,cond_false,AF,aN3 hf l hl hlen];cases LP f l<;>rfl
 ·have p0:=KT hf;rw[if_pos hf];simp only[C7 p0,C3 p0,cond_true];rfl
theorem yL{f:Int}{a:Nat}(h:Ak f a=0):VB (f,(a:Int),())=some ((nan f a,Bu f a,AD f a,BJ f a,sF f a,()),()):=by
 show gF AS.pre AS.F BM.pre BM.F f a=_;unfold gF;obtain⟨hf,_⟩:=Hl h;have p0:=Zw (T5 h) h;have p1:=kI h;simp only[QF p0,Qw p0,rR p1,pP p1,cond_true];rw[bL,bM,pp (BN f a==9),oH,pp (BN f a==6),aEw hf]
theorem yM{f:Int}(hf:Fm f)(x:Int):VC (f,x,())=some ((Cp f:Int),x,0,()):=by
 show gG AO.pre AO.F f x=_;unfold gG;have p0:=Zx hf;simp only[dK p0,cN p0,cond_true]
theorem aQG(N:Nat){k:Nat}(hk:0<k):(k<=2*(N%k)->2*N/k=2*(N/k)+1/\2*N%k=2*(N%k)-k)/\(2*(N%k)<k->2*N/k=2*(N/k)/\2*N%k=2*(N%k)):=by
 have h1:=ci N k;have h2:=bv N hk;generalize N/k=q at *
 generalize N%k=r at *
 constructor
 ·intro h;have e:2*N=k*(2*q+1)+(2*r-k):=by
   rw[bt,gr,gz k 2 q];omega
  rw[e,jt hk,ju,cq (by omega),be (by omega)];exact⟨rfl,rfl⟩
 ·intro h;have e:2*N=k*(2*q)+2*r:=by
   rw[gz k 2 q];omega
  rw[e,jt hk,ju,cq (by omega),be (by omega)];exact⟨rfl,rfl⟩
theorem aUw{n k D s:Nat}(hk0:0<k)(hk:k<2^64)(hn0:n≠0)(h:Am (n*2^s/k)<D):s<64+D/\n*2^s<2^(64+D):=by
 have h1:n*2^s/k<2^D:=al (Qg _) (ak (by decide) (by omega));have h2:n*2^s<2^D*k:=(bm hk0).1 h1;have h3:2^D*k<=2^D*2^64:=cm _ (by omega);rw[←bb]at h3;have h4:1*2^s<=n*2^s:=au _ (by omega);rw[fu]at h4;have h5:2^s<2^(D+64):=by omega
 have h6:=(cd (a:=2) (by decide)).1 h5;rw[gx 64 D];exact⟨h6,by omega⟩
theorem aN4{n k D s0:Nat}(hk0:0<k)(hk:k<2^64)(hn0:n≠0)(hn:n<2^64)(hD:D<=100)(hs0:s0<=64):
  ∃s:Nat,s<=64+D/\(n*2^s%k≠0->D<=Am (n*2^s/k)) /\
   ZN (((D:Int),(Dw k,(Dw (n*2^s0%k),((),((),()))))),((false,([],((0:Int),(false,())))),((false,(Dw (n*2^s0/k),(-(s0:Int),(false,())))),()))) =
    some (.inl ((Dw (n*2^s%k),((),((),()))),((false,([],((0:Int),(false,())))),((false,(Dw (n*2^s/k),(-(s:Int),(false,())))),())))):=by
 have key:=RM (aGu Di.pre Di.F D4.pre D4.F BL.pre BL.F Bq.pre Bq.F Dh.pre Dh.F CQ.pre CQ.F) (fun x=>(300+x.2.2.1.2.2.1).toNat)
  (fun x=>∃s:Nat,s<=64+D/\x=(((D:Int),(Dw k,(Dw (n*2^s%k),((),((),()))))),((false,([],((0:Int),(false,())))),((false,(Dw (n*2^s/k),(-(s:Int),(false,())))),()))))
  (fun y=>∃s:Nat,s<=64+D/\(n*2^s%k≠0->D<=Am (n*2^s/k))/\y=.inl ((Dw (n*2^s%k),((),((),()))),((false,([],((0:Int),(false,())))),((false,(Dw (n*2^s/k),(-(s:Int),(false,())))),())))) ?_
  _ ⟨s0,by omega,rfl⟩
 ·obtain⟨y,hy,s,k1,k2,rfl⟩:=key;exact⟨s,k1,k2,hy⟩
 intro L x hx hL;obtain⟨s,hs,rfl⟩:=hx;unfold TK;have hr:=bv (n*2^s) hk0;have hN:n*2^s<2^(64+(64+D)):=by
  rw[bb];exact al (cw hn (aj s)) (cm _ (ak (by decide) hs))
 have hq:n*2^s/k<2^(64+(64+D)):=ax (fa _ _) hN;have hqb:=Hi hq (by omega);have hrb:=Hi (jc hr hk) (by decide);have hkb:=Hi hk (by decide);have p0:=Q4 hqb;have e2s:2*(n*2^s)=n*2^(s+1):=by rw[dx];ac_rfl
 obtain⟨d1,d2⟩:=aQG (n*2^s) hk0;rw[e2s]at d1 d2;have hstop:=aUw (n:=n) (k:=k) (D:=D) (s:=s) hk0 hk hn0;have gen:=hL;dsimp only at gen⊢;generalize hQ:n*2^s/k=q at *
 generalize hR:n*2^s%k=r at *
 simp only[RT p0,RF p0,cond_true];by_cases hgo:Am q<D/\r≠0
 ·obtain⟨g1,g2⟩:=hgo;have hs1:=(hstop g1).1;rw[decide_eq_true (show(Am q:Int)<(D:Int) by omega),L5 g2];have p1:=j8 hqb hqb;have p2:=j8 hrb hrb;have h65:r+r<2^65:=by
   have:(2:Nat)^65=2*2^64:=by decide
   omega
  have hrr:=Hi h65 (by decide);have hqq:q+q<2^(65+(64+D)):=by
   have:(2:Nat)^(65+(64+D))=2*2^(64+(64+D)):=by rw[show 65+(64+D)=(64+(64+D))+1 by omega,dx,ar]
   omega
  have p3:=j9 hrr hkb;have ew:aa .i64 (-(s:Int)-1)=-((s+1:Nat):Int):=by rw[Ax (by omega)];omega
  simp only[bg,cond_true,LS p1,LI p1,LS p2,LI p2,rH p3,pF p3,ew];have hμ:(300 + -((s+1:Nat):Int)).toNat<(300 + -(s:Int)).toNat:=by omega
  by_cases hge:k<=2*r
  ·obtain⟨f1,f2⟩:=d1 hge;have p4:=aNd hrr (show k<=r+r by omega);have p5:=j8 (Hi hqq (by omega)) (show 1<(2^64)^5000 from Hi (k:=1) (by decide) (by decide));rw[aJS]at p5;have eg:decide ((if r+r=k then(0:Int)else if r+r<k then -1 else 1)>=0)=true:=by
    by_cases h:r+r=k
    ·rw[if_pos h];rfl
    ·rw[if_neg h,if_neg (by omega)];rfl
   rw[eg];simp only[cond_true,aTV p4,aRw p4,LS p5,LI p5];refine gen _ ⟨s+1,by omega,?_⟩ hμ;rw[f1,f2,show 2*q+1=q+q+1 by omega,show 2*r-k=r+r-k by omega]
  ·obtain⟨f1,f2⟩:=d2 (by omega);have eg:decide ((if r+r=k then(0:Int)else if r+r<k then -1 else 1)>=0)=false:=by
    rw[if_neg (by omega),if_pos (by omega)];rfl
   rw[eg];simp only[cond_false];refine gen _ ⟨s+1,by omega,?_⟩ hμ;rw[f1,f2,show 2*q=q+q by omega,show 2*r=r+r by omega]
 ·have e:(decide ((Am q:Int)<(D:Int))&&decide (((Dw r).length:Int)>0))=false:=by
   by_cases g1:Am q<D
   ·have g2:r=0:=ib.1 fun h=>hgo ⟨g1,h⟩;rw[g2,Ew];exact bw _
   ·rw[decide_eq_false (show ¬(Am q:Int)<(D:Int) by omega),bc]
  rw[e,cond_false];refine⟨_,rfl,s,hs,?_,?_⟩
  ·intro h;rw[hR]at h;rw[hQ];by_cases g1:Am q<D
   ·exact absurd ⟨g1,h⟩ hgo
   ·omega
  ·rw[hQ,hR]
theorem aNw{n k D:Nat}(hk0:k≠0)(hk:k<2^64)(hn0:n≠0)(hn:n<2^64)(hD:D<=100):
  ∃s:Nat,s<=64+D/\(n*2^s%k≠0->D<=Am (n*2^s/k)) /\
   VD (Dw n,Dw k,(D:Int),())=some ((false,Dw (n*2^s/k),(-(s:Int)),decide (n*2^s%k≠0),()),()):=by
 have bk:=Qf hk;have bn:=Qf hn;have p0:=Q4 (Hi hk (by decide));have p1:=Q4 (Hi hn (by decide));obtain⟨s0,hs0,hsl⟩:∃s0:Nat,(if(Am k:Int)-(Am n:Int)-1>0 then(Am k:Int)-(Am n:Int)-1 else 0)=(s0:Int)/\s0<=64:=by
  by_cases h:(Am k:Int)-(Am n:Int)-1>0
  ·exact⟨Am k-Am n-1,by rw[if_pos h];omega,by omega⟩
  ·exact⟨0,by rw[if_neg h];rfl,by omega⟩
 obtain⟨s,k1,k2,k3⟩:=aN4 (D:=D) (s0:=s0) (by omega) hk hn0 hn hD hsl;refine⟨s,k1,k2,?_⟩;show gH Di.pre Di.F D4.pre D4.F BL.pre BL.F Bq.pre Bq.F Dh.pre Dh.F CQ.pre CQ.F ZN (Dw n) (Dw k) D=_;unfold gH;have hN:n*2^s0<2^128:=by
  rw[show(128:Nat)=64+64 from rfl,bb];exact al (cw hn (aj s0)) (cm _ (ak (by decide) hsl))
 have hN':n*2^s0<(2^64)^1024:=al hN (by rw[←lq];exact ak (by decide) (by decide));have hk':k<(2^64)^1024:=al hk (by rw[←lq];exact ak (by decide) (by decide));have p2:=xW (dg (2^64) n) (Dd (Hi hn (by decide))) s0 (by omega) (by rw[CA];exact hN');rw[CA]at p2;have p2:Q6 (Dw n,(s0:Int),())=_:=p2;have p3:=aNt hN' hk' hk0;have w1:aa .i64 ((Am k:Int)-(Am n:Int))=(Am k:Int)-(Am n:Int):=Ax (by omega);have w2:aa .i64 ((Am k:Int)-(Am n:Int)-1)=(Am k:Int)-(Am n:Int)-1:=Ax (by omega);have w3:aa .i64 (0-(s0:Int))=-(s0:Int):=by rw[Ax (by omega)];omega
 simp only[RT p0,RF p0,RT p1,RF p1,cond_true,w1,w2,hs0,XA p2,W2 p2,aT7 p3,aRI p3,w3,k3];show some _=_;congr 4;by_cases h:n*2^s%k=0
 ·rw[h,Ew];rfl
 ·rw[L5 h,decide_eq_true h]
theorem xA{n:Nat}(hn:n<(2^64)^5000):Sn (Dw n,())=some (Dw n,()):=by
 have p0:=xB (dg (2^64) n) (Dd hn);rw[CA]at p0;exact p0
theorem aNx{f m:Int}(hf:Fm f)(hm:0<=m/\m<=5)(neg:Bool){n k:Nat}(hk0:k≠0)(hk:k<2^64)(hn0:n≠0)(hn:n<2^64){e:Int}(he:-40000<=e/\e<=40000):
  VE (f,m,neg,Dw n,Dw k,e,())=some (((Hm f m neg n k e).1:Int),((Hm f m neg n k e).2:Int),0,()):=by
 show gI EK.pre EK.F BK.pre BK.F G7.pre G7.F PH.pre PH.F EL.pre EL.F f m neg (Dw n) (Dw k) e=_;unfold gI;have hP:=Gk hf;have hP2:=LC hf;have p0:=xE hf hm;have p1:=xA (Hi hk (by decide));have p2:=xA (Hi hn (by decide));obtain⟨s,k1,k2,p3⟩:=aNw (D:=fP f+3) hk0 hk hn0 hn (by omega);have hN:n*2^s<2^(64+s):=by
  rw[bb];exact cw hn (aj s)
 have hq:n*2^s/k<2^(64+s):=ax (fa _ _) hN;have p4:=xG neg (n*2^s/k) (e-s) (decide (n*2^s%k≠0)) f m hf (aQi hq (by omega)) (by omega);rw[aHC hf (fun h=>by have:=k2 (of_decide_eq_true h);omega),oN hf hn0 (by omega) e (by omega) (fun h=>by have:=k2 h;omega)]at p4;have r1:(BT f).2.1=(fP f:Int):=rfl;have w1:aa .i64 ((fP f:Int)+3)=((fP f+3:Nat):Int):=by rw[Ax (by omega)];omega
 have w2:aa .i64 (-(s:Int)+e)=e-s:=by rw[Ax (by omega)];omega
 have l1:(Dw n).length=1:=by rw[Yt hn0 hn];rfl
 have l2:(Dw k).length=1:=by rw[Yt hk0 hk];rfl
 have w3:decide (aa .i64 (((1:Nat):Int)+((1:Nat):Int))>1024)=false:=by decide
 have w4:(decide (e<(-(40000:Int)))||decide (e>(40000:Int)))=false:=by rw[decide_eq_false (by omega),decide_eq_false (by omega)];rfl
 have w5:((((1:Nat):Int))==(0:Int))=false:=by decide
 simp only[aG3 p0,aFp p0,bne_self_eq_false,cond_true,cond_false,rE p1,pC p1,rE p2,pC p2,l1,l2,w3,w4,w5,r1,w1,aUa p3,aRL p3,w2,aG4 p4,aFq p4]
theorem aQO{f m:Int}{neg:Bool}(hf:Fm f){n k t u:Nat}(hn0:n≠0)(hk0:k≠0)(hn:n*2^t<2^53)(hk:k*2^u<2^53)(e:Int):
  Hm f m neg (n*2^t) (k*2^u) e=Hm f m neg n k (e+t-u):=by
 have hP:=LC hf;have ht:t<53:=by
  have:1*2^t<=n*2^t:=au _ (by omega);exact(cd (a:=2) (by decide)).1 (by omega)
 have hu:u<53:=by
  have:1*2^u<=k*2^u:=au _ (by omega);exact(cd (a:=2) (by decide)).1 (by omega)
 obtain⟨s,hs⟩:∃s,s+u=120+t:=⟨120+t-u,by omega⟩
 have hk1:0<k:=by omega
 have hup:=aj u;have e1:n*2^t*2^120=n*2^s*2^u:=by
  rw[aw,aw,←bb,←bb,hs,gx]
 have hbig:fP f+1<=Am (n*2^s/k):=by
  apply bG;rw[jq hk1];have h1:2^fP f*(k*2^u)<=2^53*2^53:=Nat.mul_le_mul (ak (by decide) hP) (by omega);have h2:1*2^(120+t)<=n*2^(120+t):=au _ (by omega);have h3:(2:Nat)^53*2^53<=2^(120+t):=by rw[←bb];exact ak (by decide) (by omega)
  have h4:2^fP f*k*2^u<=n*2^s*2^u:=by
   rw[aw,aw n,←bb,hs];omega
  exact Nat.le_of_mul_le_mul_right h4 hup
 have a1:=oN (f:=f) (m:=m) (neg:=neg) hf (n:=n*2^t) (k:=k*2^u) (lv hn0 (kz (aj t))) (ic hk1 hup) e (s:=120) (by decide)
  (by rw[e1,jv _ _ hup];exact fun _=>hbig)
 have a2:=oN (f:=f) (m:=m) (neg:=neg) hf hn0 hk1 (e+t-u) (s:=s) (by omega) (fun _=>hbig);rw[←a1,←a2,e1,jv _ _ hup,dw,show e-((120:Nat):Int)=e+(t:Int)-(u:Int)-(s:Int) by omega];congr 1;rw[ej,decide_eq_true_eq,decide_eq_true_eq];constructor
 ·intro h hc;rw[hc,fk]at h;exact h rfl
 ·intro h;exact lv h (by omega)
theorem aQN{f m:Int}{neg:Bool}(hf:Fm f)(s s':Bool){n k:Nat}(hn0:n≠0)(hk0:k≠0)(hn:n<2^53)(hk:k<2^53)(x y:Int):
  Hm f m neg (od s n x).2.1 (od s' k y).2.1 ((od s n x).2.2-(od s' k y).2.2)=Hm f m neg n k (x-y):=by
 rcases RR s n x with⟨_,h⟩|⟨_,h2,_,h4,h5⟩
 ·exact absurd h hn0
 rcases RR s' k y with⟨_,h⟩|⟨_,g2,_,g4,g5⟩
 ·exact absurd h hk0
 generalize(od s n x).2.1=n1 at *
 generalize(od s' k y).2.1=k1 at *
 rw[h5,g5];rw[ar]at h4 g4;have:=aQO (f:=f) (m:=m) (neg:=neg) hf (n:=n1) (k:=k1) (t:=tz n) (u:=tz k) (by omega) (by omega) (by rw[←h4];exact hn) (by rw[←g4];exact hk) (x-y);rw[←h4,←g4]at this;rw[this];congr 1;omega
theorem aHZ{f:Int}{a:Nat}(h:Bu f a=true):nan f a=true:=by
 cases hn:nan f a
 ·rw[aYv hn]at h;exact absurd h (by decide)
 ·rfl
theorem aEY{f:Int}{a:Nat}(h1:nan f a=false)(h2:AD f a=false):eF f a≠C2 f:=fun he=>by
 unfold nan at h1
 unfold AD at h2
 rw[he]at h1 h2
 simp at h1 h2
 exact h2 h1
theorem aNy(f m:Int){a b:Nat}(ha:a<2^64)(hb:b<2^64):VF (f,m,(a:Int),(b:Int),())=some (Tf f m a b):=by
 show gJ PE.pre PE.F PF.pre PF.F PG.pre PG.F Cv.pre Cv.F Bp.pre Bp.F C8.pre C8.F PI.pre PI.F f m a b=_;unfold gJ Tf;have p0:=aNv f m [a,b] (fun c hc=>by
  rcases ck.1 hc with rfl|hc
  ·exact ha
  ·rw[kh]at hc;omega) (show(2:Nat)<1000 by decide)
 have p0:Sx (f,m,((a:Int)::((b:Int)::[])),())=_:=p0;simp only[aT9 p0,aRK p0,cond_true];clear p0;unfold Eo;by_cases hf:¬Fm f
 ·rw[if_pos hf,if_pos hf];rfl
 have hf:=ib.1 hf;rw[if_neg (show ¬¬Fm f from fun h=>h hf),if_neg (show ¬¬Fm f from fun h=>h hf)];by_cases hm:m<0∨m>5
 ·rw[if_pos hm,if_pos hm];rfl
 rw[if_neg hm,if_neg hm];have hm':0<=m/\m<=5:=by omega
 have ho:LP f [a,b]=(Ak f a==0&&(Ak f b==0&&true)):=rfl;rw[ho];by_cases hca:Ak f a≠0
 ·have h4:=(oE hf a).resolve_left hca;rw[if_pos hca,h4];rfl
 have hca:=ib.1 hca;rw[if_neg (fun h=>h hca),hca];by_cases hcb:Ak f b≠0
 ·have h4:=(oE hf b).resolve_left hcb;rw[if_pos hcb,h4];rfl
 have hcb:=ib.1 hcb;rw[if_neg (fun h=>h hcb),hcb];have e0:((bif((0:Int)==0&&((0:Int)==0&&true))then(0:Int)else 4)!=0)=false:=rfl;rw[e0,cond_false];have p1:=yL hca;have p2:=yL hcb;have p3:=yM hf 0;have p4:=yM hf 1;have p5:=kH hf (!(sF f a==sF f b));have p6:=U4 hf (!(sF f a==sF f b));have ma:=TR hf a;have mb:=TR hf b;have xa:=Up hf a;have xb:=Up hf b;simp only[aHg p1,aFC p1,aHg p2,aFC p2,cond_true,aHh p3,aFD p3,aHh p4,aFD p4,rQ p5,pO p5,Xy p6,W0 p6];unfold oM;cases sa:Bu f a
 ·cases sb:Bu f b
  ·simp only[cr,cond_false];cases na:nan f a
   ·cases nb:nan f b
    ·simp only[cr,cond_false];cases hi:AD f a&&AD f b||BJ f a&&BJ f b
     ·simp only[cond_false];cases ia:AD f a
      ·simp only[cond_false];cases zb:BJ f b
       ·simp only[cond_false];cases iz:AD f b||BJ f a
        ·simp only[cond_false];rw[Bool.or_eq_false_iff]at iz;have q1:=zF hca (aEY na ia);have q2:=zF hcb (aEY nb iz.1);have mza:=iW iz.2;have mzb:=iW zb;obtain⟨o1,o2,o3⟩:=aGL (sF f a) (n:=Aw f a) (Au f a) ma xa;obtain⟨o4,o5,o6⟩:=aGL (sF f b) (n:=Aw f b) (Au f b) mb xb;have n1:(od (sF f a) (Aw f a) (Au f a)).2.1≠0:=by
          rcases RR (sF f a) (Aw f a) (Au f a)with⟨_,h⟩|⟨_,h2,_,_,_⟩
          ·exact absurd h mza
          ·omega
         have n2:(od (sF f b) (Aw f b) (Au f b)).2.1≠0:=by
          rcases RR (sF f b) (Aw f b) (Au f b)with⟨_,h⟩|⟨_,h2,_,_,_⟩
          ·exact absurd h mzb
          ·omega
         have q3:=aNx hf hm' (!(sF f a==sF f b)) (n:=(od (sF f a) (Aw f a) (Au f a)).2.1) (k:=(od (sF f b) (Aw f b) (Au f b)).2.1) n2 (by omega) n1 (by omega) (e:=(od (sF f a) (Aw f a) (Au f a)).2.2-(od (sF f b) (Aw f b) (Au f b)).2.2) (by omega);rw[aQN hf _ _ mza mzb ma mb]at q3;have w1:aa .i64 ((od (sF f a) (Aw f a) (Au f a)).2.2-(od (sF f b) (Aw f b) (Au f b)).2.2)=(od (sF f a) (Aw f a) (Au f a)).2.2-(od (sF f b) (Aw f b) (Au f b)).2.2:=Ax (by omega);have d1:∀t:Bool×Nat×Int,(Tg t).2.1=Dw t.2.1:=fun _=>rfl;have d2:∀t:Bool×Nat×Int,(Tg t).2.2.1=t.2.2:=fun _=>rfl;simp only[aHi q1,aFE q1,aHi q2,aFE q2,cond_true,d1,d2,w1,aUb q3,aRM q3]
        ·rfl
       ·rfl
      ·rfl
     ·rfl
    ·rfl
   ·cases nb:nan f b<;>rfl
  ·have nb:=aHZ sb;rw[nb,bq,bq];rfl
 ·have na:=aHZ sa;rw[na];rfl
end VL
namespace VL
open Go Vx
theorem pX{w:Int}(hw:Fm w)(s:Bool):Ak w (DL w s)=0/\nan w (DL w s)=false/\AD w (DL w s)=true/\BJ w (DL w s)=false/\sF w (DL w s)=s:=by
 rcases CP hw with rfl|rfl|rfl|rfl<;>cases s<;>decide +kernel
theorem aJQ{w:Int}(hw:Fm w)(s:Bool):Ak w (Ca w s)=0/\nan w (Ca w s)=false/\AD w (Ca w s)=false/\BJ w (Ca w s)=true/\sF w (Ca w s)=s/\Aw w (Ca w s)=0:=by
 rcases CP hw with rfl|rfl|rfl|rfl<;>cases s<;>decide +kernel
def same(f w:Int)(a x:Nat):Prop:=Ak f a=0/\Ak w x=0/\nan w x=nan f a/\AD w x=AD f a/\BJ w x=BJ f a/\(nan f a=false->sF w x=sF f a)/\(nan f a=false->AD f a=false->VV w x=VV f a)
end VL
namespace VL
open Go Vx
theorem r8{w:Int}(hw:Fm w)(m:Int)(s:Bool)(N:Nat)(E:Int):Ak w (Ba w m s N E false).1=0:=by
 rw[XH hw];have h1:=dW hw m s N E;have h2:=aFU hw;exact qK hw s (by omega)
end VL
namespace VL
open Go Vx
def aSi(f m:Int)(a:Nat)(tell:Bool):Int×Int×Int×Unit:=if Eo f m [a]≠0 then(0,0,Eo f m [a],())else bif nan f a then((Cp f:Int),(bif Bu f a then 1 else 0),0,())else bif AD f a||BJ f a||decide (0<=Au f a)then((a:Int),0,0,())else((if B5 m (sF f a) (Aw f a) (Au f a) 0 false=0 then(Ca f (sF f a):Int)else((Ba f m (sF f a) (B5 m (sF f a) (Aw f a) (Au f a) 0 false) 0 false).1:Int)),(bif decide (Ep (Aw f a) (Au f a) 0 false≠0)&&tell then 16 else 0),0,())
def cV(k:Int):Nat:=if k=0 then 2^31-1 else if k=1 then 2^63-1 else if k=2 then 2^32-1 else 2^64-1
def WI(k:Int):Nat:=if k=0 then 2^31 else if k=1 then 2^63 else 0
def qN(x:Nat):Nat:=(2^64-x)%2^64
def aFZ(k:Int)(neg:Bool)(u:Nat)(other:Bool):Int×Int×Int×Unit:=bif neg then(if u>WI k then((qN (WI k):Int),1,0,())else((qN u:Int),(bif other then 16 else 0),0,()))else(if u>cV k then((cV k:Int),1,0,())else((u:Int),(bif other then 16 else 0),0,()))
def aYZ(f m k:Int)(a:Nat):Int×Int×Int×Unit:=if Eo f m []≠0 then(0,0,Eo f m [],())else if k<0∨k>3 then(0,0,9,())else if Ak f a≠0 then(0,0,Ak f a,())else bif nan f a||(AD f a&&!sF f a)then((cV k:Int),1,0,())else bif AD f a then((qN (WI k):Int),1,0,())else if Au f a<0 then aFZ k (sF f a) (B5 m (sF f a) (Aw f a) (Au f a) 0 false) (decide (Ep (Aw f a) (Au f a) 0 false≠0))else aFZ k (sF f a) (Aw f a*2^(Au f a).toNat) false
def aRi(f m k:Int)(x:Nat):Int×Int×Int×Unit:=
 if Eo f m []≠0 then(0,0,Eo f m [],())
 else if k<0∨k>3 then(0,0,9,())
 else
  let neg:=decide (0<WI k)&&decide (2^63<=x)
  let n:=bif neg then 2^64-x else x
  if n>(bif neg then WI k else cV k)then(0,0,7,())
  else if n=0 then(0,0,0,())else(((Ba f m neg n 0 false).1:Int),((Ba f m neg n 0 false).2:Int),0,())
end VL
namespace VL
open Go Vx
def fv(f:Int)(a:Nat):Int:=bif nan f a||AD f a then 0 else vA f a
def aSj(f:Int)(a b:Nat):Bool:=(AD f a&&BJ f b)||(AD f b&&BJ f a)
def pv2(f:Int)(a b:Nat):Int:=bif AD f a||AD f b then 0 else fv f a*fv f b
def aYL(f m c:Int)(s t:Bool)(S T:Int):Int×Int×Int×Unit:=if S+T=0 then((Ca f (bif(S==0&&T==0)&&(s==t)then s else m==4):Int),0,0,())else(((Ba f m (decide (S+T<0)) (S+T).natAbs c false).1:Int),((Ba f m (decide (S+T<0)) (S+T).natAbs c false).2:Int),0,())
def aQ9(f m:Int)(a b c:Nat):Int×Int×Int×Unit:=bif(Bu f a||Bu f b||Bu f c)||(!(nan f a||nan f b)&&aSj f a b)then((Cp f:Int),1,0,())else bif nan f a||nan f b||nan f c then((Cp f:Int),0,0,())else bif((AD f a||AD f b)&&AD f c)&&!((!(sF f a==sF f b))==sF f c)then((Cp f:Int),1,0,())else bif AD f a||AD f b then((DL f (!(sF f a==sF f b)):Int),0,0,())else bif AD f c then((DL f (sF f c):Int),0,0,())else aYL f m (qm f+qm f) (!(sF f a==sF f b)) (sF f c) (pv2 f a b) (fv f c*(2^(qm f-(qm f+qm f)).toNat:Nat))
def aQ8(f m:Int)(a b c:Nat):Int×Int×Int×Unit:=if Eo f m [a,b,c]≠0 then(0,0,Eo f m [a,b,c],())else aQ9 f m a b c
end VL
namespace VL
open Go Vx
def dV(f:Int)(a b:Nat):Int×Int×Bool×Int×Unit:=if Eo f 0 [a,b]≠0 then(0,0,true,Eo f 0 [a,b],())else bif Bu f a||Bu f b then((Cp f:Int),1,true,0,())else bif nan f a||nan f b then((Cp f:Int),0,true,0,())else bif AD f a||BJ f b then((Cp f:Int),1,true,0,())else bif AD f b||BJ f a then((a:Int),0,true,0,())else(0,0,false,0,())
def wA(X:Nat)(ex ey:Int):Nat:=X*2^(ex-min ex ey).toNat
def wB(Y:Nat)(ex ey:Int):Nat:=Y*2^(ey-min ex ey).toNat
def aXy(A B:Nat)(near:Bool):Bool×Nat×Nat:=if(near&&(decide (2*(A%B)>B)||(decide (2*(A%B)=B)&&decide (A/B%2=1))))=true then(true,B-A%B,A/B+1)else(false,A%B,A/B)
def aXz(f:Int)(a b:Nat)(near:Bool):Int×Int×Int×Int×Unit:=let e:=min (Au f a) (Au f b);let t:=aXy (wA (Aw f a) (Au f a) (Au f b)) (wB (Aw f b) (Au f a) (Au f b)) near;((if t.2.1=0 then(Ca f (sF f a):Int)else((Ba f 2 (bif t.1 then !sF f a else sF f a) t.2.1 e false).1:Int)),((t.2.2%8:Nat):Int),0,0,())
def dU(f:Int)(a b:Nat)(near:Bool):Int×Int×Int×Int×Unit:=bif(dV f a b).2.2.1 then((dV f a b).1,0,(dV f a b).2.1,(dV f a b).2.2.2.1,())else aXz f a b near
end VL
namespace VL
open Go Vx
def aEx(f w m:Int)(a:Nat):Int:=if ¬(Fm f/\Fm w)then 2 else if m<0∨m>5 then 3 else Ak f a
def aQC(f w m:Int)(a:Nat):Int×Int×Int×Unit:=if aEx f w m a≠0 then(0,0,aEx f w m a,())else bif nan f a then((Cp w:Int),(bif Bu f a then 1 else 0),0,())else bif AD f a then((DL w (sF f a):Int),0,0,())else bif BJ f a then((Ca w (sF f a):Int),0,0,())else(((Ba w m (sF f a) (Aw f a) (Au f a) false).1:Int),((Ba w m (sF f a) (Aw f a) (Au f a) false).2:Int),0,())
def aEy(f:Int)(a b:Nat):Int×Int×Unit:=if Ak f a≠0 then(0,Ak f a,())else if Ak f b≠0 then(0,Ak f b,())else((Es f (sF f b) (Lr f a):Int),0,())
end VL
namespace VL
open Go Vx
def aQy(f:Int)(a:Nat):Int×Int×Int×Unit:=if Ak f a=0 then(aa .u64 (BN f a),0,0,())else(0,0,Ak f a,())
def aSW(f:Int)(a:Nat):Int×Int×Int×Unit:=if Ak f a=0 then((QA f a:Int),0,0,())else(0,0,Ak f a,())
def aP0(f:Int)(a:Nat):Int×Int×Int×Unit:=((IH.F (f,(a:Int),())).1,0,(IH.F (f,(a:Int),())).2.1,())
def Eu(m op f:Int)(a b c:Nat):Int×Int×Int×Unit:=if op=1 then Rs f m a b else if op=2 then Uh f m a b else if op=3 then TT f m a b else if op=4 then Tf f m a b else if op=5 then aYA f m a else if op=6 then aQ8 f m a b c else if op=7 then((dU f a b true).1,(dU f a b true).2.2)else if op=8 then((dU f a b false).1,(dU f a b false).2.2)else if op=9 then aSi f m a true else if op=10 then aQC f (aa .i64 (c:Int)) m a else if op=11 then aYZ f m (aa .i64 (c:Int)) a else if op=12 then aRi f m (aa .i64 (c:Int)) a else if op=13 then aG1 f a b false else if op=14 then aG1 f a b true else if op=15 then(aa .u64 (bN f a b false).1,(bN f a b false).2)else if op=16 then(aa .u64 (bN f a b true).1,(bN f a b true).2)else if op=17 then aYE f a 1 else if op=18 then aYq f m a (aa .i64 (b:Int))else if op=19 then aQy f a else if op=20 then aSW f a else if op=21 then aP0 f a else if op=22 then((aEy f a b).1,0,(aEy f a b).2)else(0,0,0,())
abbrev iY:=Ab (.pair (.int .i64) (.pair (.int .i64) (.pair (.int .u64) (.pair (.int .u64) (.pair (.int .u64) .unit)))))
def QP(w:Option (Nat×List Nat))(k:iY)(y:DenS Dv):Prop:=IF.pre w (k,())=true/\IF.F w (k,())=y
theorem bU{w:Option (Nat×List Nat)}{k:iY}{y:DenS Dv}{p:Bool}{v:DenS Dv}(h1:IF.pre w (k,())=p)(h2:IF.F w (k,())=v)(h3:p=true)(h4:v=y):QP w k y:=⟨h1.trans h3,h2.trans h4⟩
theorem QJ{op:Int}(h1:1<=op)(h2:op<=22){n:Int}{w:Option (Nat×List Nat)}(h:(Fk.F ()).1.getD op.toNat ((0:Int),none,())=(n,w,())):KS (op,())=some ((n,w,()),0,()):=by
 show Uj Fk.pre Fk.F op=_;unfold Uj;have hp:Fk.pre ()=true:=by kernel_rfl
 have hl:(Fk.F ()).1.length=23:=by kernel_rfl
 rw[hp,hl,h,decide_eq_false (show ¬op<1 by omega),decide_eq_false (show ¬op>=((23:Nat):Int) by omega),decide_eq_true (show(0:Int)<=op by omega),decide_eq_true (show op<((23:Nat):Int) by omega)];rfl
theorem aXG{op:Int}(h:op<1∨op>22):KS (op,())=some (((0:Int),none,()),190,()):=by
 show Uj Fk.pre Fk.F op=_;unfold Uj;have hp:Fk.pre ()=true:=by kernel_rfl
 have hl:(Fk.F ()).1.length=23:=by kernel_rfl
 have:(decide (op<1)||decide (op>=((23:Nat):Int)))=true:=by rw[dv,decide_eq_true_eq,decide_eq_true_eq];omega
 rw[hp,hl,this];rfl
theorem iP{g:Nat}{k:iY}{p:Bool}{y:DenS J4}(h1:Ps.pre (some (g,[])) (k.2.1,k.1,k.2.2.1,k.2.2.2.1,())=p)(h2:Ps.F (some (g,[])) (k.2.1,k.1,k.2.2.1,k.2.2.2.1,())=y)(h3:p=true):VG (k,g,())=some y:=by
 show gK Ps.pre Ps.F k g=_;unfold gK;dsimp only;rw[h1,h2,h3];rfl
theorem aY6(m f:Int){a b:Nat}(ha:a<2^64)(hb:b<2^64)(c:Int):
  QP (some (192,[158+2])) (m,f,(a:Int),(b:Int),c,()) (Rs f m a b)/\QP (some (192,[159+2])) (m,f,(a:Int),(b:Int),c,()) (Uh f m a b) /\
  QP (some (192,[160+2])) (m,f,(a:Int),(b:Int),c,()) (TT f m a b)/\QP (some (192,[161+2])) (m,f,(a:Int),(b:Int),c,()) (Tf f m a b):=by
 have p1:=kB f m ha hb;have p2:=aNn f m ha hb;have p3:=aNu f m ha hb;have p4:=aNy f m ha hb;have q1:=iP (g:=158) (k:=(m,f,(a:Int),(b:Int),c,())) (p:=EN.pre (f,m,(a:Int),(b:Int),())) (y:=EN.F (f,m,(a:Int),(b:Int),())) (by kernel_rfl) (by kernel_rfl) (rL p1);have q2:=iP (g:=159) (k:=(m,f,(a:Int),(b:Int),c,())) (p:=KN.pre (f,m,(a:Int),(b:Int),())) (y:=KN.F (f,m,(a:Int),(b:Int),())) (by kernel_rfl) (by kernel_rfl) (aT1 p2);have q3:=iP (g:=160) (k:=(m,f,(a:Int),(b:Int),c,())) (p:=KO.pre (f,m,(a:Int),(b:Int),())) (y:=KO.F (f,m,(a:Int),(b:Int),())) (by kernel_rfl) (by kernel_rfl) (aT8 p3);have q4:=iP (g:=161) (k:=(m,f,(a:Int),(b:Int),c,())) (p:=KP.pre (f,m,(a:Int),(b:Int),())) (y:=KP.F (f,m,(a:Int),(b:Int),())) (by kernel_rfl) (by kernel_rfl) (aUc p4);rw[pJ p1]at q1;rw[aRC p2]at q2;rw[aRJ p3]at q3;rw[aRN p4]at q4;exact⟨bU (p:=CR.pre ((m,f,(a:Int),(b:Int),c,()),158,())) (v:=CR.F ((m,f,(a:Int),(b:Int),c,()),158,())) (by kernel_rfl) (by kernel_rfl) (dG q1) (cH q1),
  bU (p:=CR.pre ((m,f,(a:Int),(b:Int),c,()),159,())) (v:=CR.F ((m,f,(a:Int),(b:Int),c,()),159,())) (by kernel_rfl) (by kernel_rfl) (dG q2) (cH q2),
  bU (p:=CR.pre ((m,f,(a:Int),(b:Int),c,()),160,())) (v:=CR.F ((m,f,(a:Int),(b:Int),c,()),160,())) (by kernel_rfl) (by kernel_rfl) (dG q3) (cH q3),
  bU (p:=CR.pre ((m,f,(a:Int),(b:Int),c,()),161,())) (v:=CR.F ((m,f,(a:Int),(b:Int),c,()),161,())) (by kernel_rfl) (by kernel_rfl) (dG q4) (cH q4)⟩
end VL
namespace VL
open Go Vx
def CE(x:Int):Bool:=WE .i64 x 31==0
def Jh(v:Int×Int×Int×Unit):Int:=if v.1<0∨v.1>5 then 3 else if(CE v.2.1&&CE v.2.2.1)=true then 0 else 7
theorem zZ(x:Int):Sy (x,())=some (CE x,()):=rfl
theorem aNz(v:Int×Int×Int×Unit):Sz (v,())=some (Jh v,()):=by
 show gM PN.pre PN.F v=_;unfold gM Jh;have p:=zZ v.2.1;have q:Sy v.2.2=some (CE v.2.2.1,()):=zZ v.2.2.1;rw[aHj p,aFF p,aHj q,aFF q];by_cases h:v.1<0∨v.1>5
 ·have:(decide (v.1<0)||decide (v.1>5))=true:=by rw[dv,decide_eq_true_eq,decide_eq_true_eq];exact h
  rw[this,if_pos h];rfl
 ·have:(decide (v.1<0)||decide (v.1>5))=false:=by
   rw[decide_eq_false (show ¬v.1<0 by omega),decide_eq_false (show ¬v.1>5 by omega)];rfl
  rw[this,if_neg h];cases CE v.2.1<;>cases CE v.2.2.1<;>rfl
def Fv(f:Int):List Nat->Int
 | []=>0
 |a::l=>if Ak f a≠0 then Ak f a else Fv f l
abbrev R5:=Int×Int×Int×Int×Int×Unit
theorem aN5(R:R5)(op:Int)(l:List Nat)(hl:∀a∈l,a<2^64)(hlen:l.length<1000):
  ZO (((l.length:Int),Wd l,(0:Int),op,(),()),(),R,())=some (if Fv R.2.1 l=0 then .inl ((op,(),()),(),R,())else .inr ((Fv R.2.1 l,()),())):=by
 have key:=Er (aGv Al.pre Al.F Ao.pre Ao.F) (fun x=>l.length-x.1.2.2.1.toNat)
  (fun x=>∃i:Nat,i<=l.length/\Fv R.2.1 (l.drop i)=Fv R.2.1 l/\x=(((l.length:Int),Wd l,(i:Int),op,(),()),(),R,()))
  (fun _=>if Fv R.2.1 l=0 then .inl ((op,(),()),(),R,())else .inr ((Fv R.2.1 l,()),())) ?_ _ ⟨0,ee _,rfl,rfl⟩
 ·exact key
 intro L x hx hL;obtain⟨i,hi,hok,rfl⟩:=hx;unfold TL;rcases aq i l.length with hlt|hge
 ·have hg:l.getD i 0=l[i]:=by simp[ai,hlt]
  have ha:=hl _ (jf hlt);have p0:=IQ R.2.1 l[i] ha;have e0:decide ((i:Int)<(l.length:Int))=true:=decide_eq_true (by omega);have e1:(decide ((0:Int)<=(i:Int))&&decide ((i:Int)<((Wd l).length:Int)))=true:=by rw[AF,decide_eq_true (by omega),decide_eq_true (by omega)];rfl
  have e2:(Wd l).getD (ah (i:Int)) 0=((l[i]:Nat):Int):=by rw[ag,CD,hg]
  have e3:aa .i64 ((i:Int)+1)=((i+1:Nat):Int):=by rw[Ax (by omega)];omega
  rw[dp hlt,Fv]at hok;dsimp only;simp only[e0,e1,e2,e3,cond_true,Hy p0,Hq p0];by_cases hc:Ak R.2.1 l[i]=0
  ·rw[if_neg (fun h=>h hc)]at hok;rw[hc,bne_self_eq_false,cond_false];exact hL _ ⟨i+1,by omega,hok,rfl⟩ (by simp only[ag];omega)
  ·rw[if_pos hc]at hok;have:(Ak R.2.1 l[i]!=0)=true:=by rw[bne_iff_ne];exact hc
   rw[this,←hok,if_neg hc];rfl
 ·have e:i=l.length:=by omega
  subst e;rw[jh]at hok;have e0:decide ((l.length:Int)<(l.length:Int))=false:=decide_eq_false (by omega);simp only[e0,cond_false];rw[←hok];rfl
def nY(a c:Int):Bool:=(((aa .i64 c)==0)&&((aa .u64 (aa .i64 (aa .i32 a)))!=a))||(((aa .i64 c)==2)&&((AJ .u64 a 32)!=0))
def Ly(f op:Int)(n a b c:Nat):Int:=if ¬Fm f then 2 else if op=10/\c>3 then 2 else if(op=11∨op=12)/\c>3 then 9 else if Fv f ([a,b,c].take n)≠0 then Fv f ([a,b,c].take n)else if(op==12&&nY a c)=true then 4 else 0
theorem aEt(op:Int)(c:Nat){d:Bool}(hd:d=decide ((c:Int)>3))(t:Int)(v:Option (Int×Unit))(hv:v=some (t,())):
  (bif op==10 then(bif d then some (2,())else v)else bif op==11 then(bif op==11 then(bif d then some (9,())else v)else v)else bif op==12 then(bif d then some (9,())else v)else v) =
  some (if op=10/\c>3 then 2 else if(op=11∨op=12)/\c>3 then 9 else t,()):=by
 rw[hd,hv];by_cases h:c>3
 ·rw[decide_eq_true (show(c:Int)>3 by omega)];by_cases h1:op=10
  ·subst h1;rw[if_pos ⟨rfl,h⟩];rfl
  ·rw[beq_false_of_ne h1,if_neg (fun x=>h1 x.1)];by_cases h2:op=11
   ·subst h2;rw[if_pos ⟨.inl rfl,h⟩];rfl
   ·by_cases h3:op=12
    ·subst h3;rw[if_pos ⟨.inr rfl,h⟩];rfl
    ·rw[beq_false_of_ne h2,beq_false_of_ne h3,if_neg (fun x=>x.1.elim h2 h3)];rfl
 ·rw[decide_eq_false (show ¬(c:Int)>3 by omega),if_neg (fun x=>h x.2),if_neg (fun x=>h x.2)];cases op==10<;>cases op==11<;>cases op==12<;>rfl
theorem aNA(m f op:Int)(w:Option (Nat×List Nat)){n a b c:Nat}(hn:n<=3)(ha:a<2^64)(hb:b<2^64)(hc:c<2^64):
  VJ (op,((n:Int),w,()),(m,f,(a:Int),(b:Int),(c:Int),()),())=some (Ly f op n a b c,()):=by
 show gN Al.pre Al.F Ao.pre Ao.F ZO op ((n:Int),w,()) (m,f,(a:Int),(b:Int),(c:Int),())=_;have e3:((((a:Int)::((b:Int)::((c:Int)::[]))).take (ah (n:Int))).drop (ah (0:Int)))=Wd ([a,b,c].take n):=by
  have:n=0∨n=1∨n=2∨n=3:=by omega
  rcases this with rfl|rfl|rfl|rfl<;>rfl
 have e2:((decide ((0:Int)<=(n:Int)))&&(decide ((n:Int)<=((((a:Int)::((b:Int)::((c:Int)::[]))).length:Nat):Int))))=true:=by
  rw[decide_eq_true (show(0:Int)<=(n:Int) by omega),decide_eq_true (show((n:Int)<=((((a:Int)::((b:Int)::((c:Int)::[]))).length:Nat):Int))from by show(n:Int)<=3;omega)];rfl
 have hW:=aN5 (m,f,(a:Int),(b:Int),(c:Int),()) op ([a,b,c].take n) (by intro x hx;have:=dr hx;simp at this;omega) (by rw[List.length_take];show min n 3<1000;omega);unfold gN Ly;dsimp only;by_cases hA:Fv f ([a,b,c].take n)=0
 ·rw[if_pos hA]at hW;rw[e3,e2,AF,hW];by_cases hf:Fm f
  ·have p0:=IR hf;rw[C7 p0,C3 p0,if_neg (show ¬¬Fm f from fun h=>h hf)];refine aEt op c rfl _ (bif op==12 then(bif nY a c then some (4,())else some (0,()))else some (0,())) ?_;rw[if_neg (fun h=>h hA)];cases op==12<;>cases nY (a:Int) c<;>rfl
  ·have p0:=KT hf;rw[C7 p0,C3 p0,if_pos hf];rfl
 ·rw[if_neg hA]at hW;rw[e3,e2,AF,hW];by_cases hf:Fm f
  ·have p0:=IR hf;rw[C7 p0,C3 p0,if_neg (show ¬¬Fm f from fun h=>h hf)];refine aEt op c rfl _ (some (Fv f ([a,b,c].take n),())) ?_;rw[if_pos hA]
  ·have p0:=KT hf;rw[C7 p0,C3 p0,if_pos hf];rfl
def RV(op:Int):Nat:=(KQ.F (op,())).1.1.toNat
def I9(v:Int×Int×Int×Unit)(op f:Int)(a b c:Nat):Int:=if Jh v≠0 then Jh v else if op<1∨op>22 then 190 else if Ly f op (RV op) a b c≠0 then Ly f op (RV op) a b c else(Eu v.1 op f a b c).2.2.1
abbrev jI:=Int×Int×Int×(Int×Int×Int×Unit)×Unit
def aZe:jI:=(0,0,0,(0,0,0,()),())
def n6(v:Int×Int×Int×Unit)(y:Int×Int×Int×Unit):jI:=if Bs .i64 y.2.1 v.2.2.1≠0 then(0,y.2.1,Bs .i64 (Bs .i64 y.2.1 v.2.2.1) (aa .i64 (0-Bs .i64 y.2.1 v.2.2.1)),v,())else(y.1,y.2.1,0,(v.1,An .i64 v.2.1 y.2.1,v.2.2),())
def RW(v:Int×Int×Int×Unit)(op f:Int)(a b c:Nat):jI×Int×Unit:=if I9 v op f a b c≠0 then(aZe,I9 v op f a b c,())else(n6 v (Eu v.1 op f a b c),0,())
theorem aNC(v:Int×Int×Int×Unit)(op f:Int){a b c:Nat}(ha:a<2^64)(hb:b<2^64)(hc:c<2^64)
  (hw:1<=op->op<=22->∃n w,KS (op,())=some ((n,w,()),0,())/\0<=n/\n<=3/\QP w (v.1,f,(a:Int),(b:Int),(c:Int),()) (Eu v.1 op f a b c)) :
  P7 (v,op,f,(a:Int),(b:Int),(c:Int),())=some (RW v op f a b c):=by
 show gO PO.pre PO.F KQ.pre KQ.F PP.pre PP.F IF.pre IF.F v op f a b c=_;unfold gO RW;dsimp only;have p0:Sz ((v.1,v.2),())=some (Jh v,()):=aNz v;rw[aUd p0,aRO p0,cond_true];by_cases hg:Jh v=0
 ·have hz:((Jh v:Int)!=0)=false:=by rw[hg];rfl
  rw[hz,cond_false];by_cases ho:op<1∨op>22
  ·have p1:=aXG ho;have he:I9 v op f a b c=190:=by unfold I9;rw[if_neg (fun h=>h hg),if_pos ho]
   rw[aHk p1,cJ p1,he];rfl
  ·obtain⟨n,w,p1,hn0,hn3,hd1,hd2⟩:=hw (by omega) (by omega);obtain⟨k,rfl⟩:=Int.eq_ofNat_of_zero_le hn0;have hk:RV op=k:=by unfold RV;rw[cJ p1];rfl
   have p2:=aNA v.1 f op w (n:=k) (Int.ofNat_le.1 hn3) ha hb hc;have he:I9 v op f a b c=if Ly f op k a b c≠0 then Ly f op k a b c else(Eu v.1 op f a b c).2.2.1:=by
    unfold I9;rw[if_neg (fun h=>h hg),if_neg ho,hk]
   rw[he,aHk p1,cJ p1,cond_true];dsimp only;rw[bne_self_eq_false,cond_false,aUf p2,aRQ p2,cond_true];dsimp only;by_cases hc0:Ly f op k a b c=0
   ·rw[hc0,bne_self_eq_false,cond_false,hd1,hd2,cond_true,if_neg (show ¬((0:Int)≠0) by decide)];by_cases hr:(Eu v.1 op f a b c).2.2.1=0
    ·rw[hr,bne_self_eq_false,cond_false,if_neg (show ¬((0:Int)≠0) by decide)];unfold n6;by_cases ht:Bs .i64 (Eu v.1 op f a b c).2.1 v.2.2.1=0
     ·rw[ht,bne_self_eq_false,cond_false,if_neg (show ¬((0:Int)≠0) by decide)]
     ·rw[if_pos ht,bne_iff_ne.2 ht];rfl
    ·rw[if_pos hr,bne_iff_ne.2 hr];rfl
   ·rw[if_pos hc0,if_pos hc0,bne_iff_ne.2 hc0];rfl
 ·have he:I9 v op f a b c=Jh v:=by unfold I9;rw[if_pos hg]
  rw[he,if_pos hg,bne_iff_ne.2 hg];rfl
end VL
namespace VL
open Go Vx
theorem aY5(m f:Int){op:Int}(h:op=1∨op=2∨op=3∨op=4){a b c:Nat}(ha:a<2^64)(hb:b<2^64):
  ∃n w,KS (op,())=some ((n,w,()),0,())/\0<=n/\n<=3/\QP w (m,f,(a:Int),(b:Int),(c:Int),()) (Eu m op f a b c):=by
 obtain⟨w1,w2,w3,w4⟩:=aY6 m f ha hb (c:Int);rcases h with rfl|rfl|rfl|rfl
 ·exact⟨2,some (192,[158+2]),QJ (by decide) (by decide) (by kernel_rfl),by decide,by decide,w1⟩
 ·exact⟨2,some (192,[159+2]),QJ (by decide) (by decide) (by kernel_rfl),by decide,by decide,w2⟩
 ·exact⟨2,some (192,[160+2]),QJ (by decide) (by decide) (by kernel_rfl),by decide,by decide,w3⟩
 ·exact⟨2,some (192,[161+2]),QJ (by decide) (by decide) (by kernel_rfl),by decide,by decide,w4⟩
theorem aNB(v:Int×Int×Int×Unit){op:Int}(h:op=1∨op=2∨op=3∨op=4)(f:Int){a b c:Nat}(ha:a<2^64)(hb:b<2^64)(hc:c<2^64):
  P7 (v,op,f,(a:Int),(b:Int),(c:Int),())=some (RW v op f a b c):=aNC v op f ha hb hc (fun _ _=>aY5 v.1 f h ha hb)
theorem dS{op n:Int}{w:Option (Nat×List Nat)}(p:KS (op,())=some ((n,w,()),0,())):RV op=n.toNat:=by
 unfold RV;rw[cJ p]
theorem aXx{op:Int}(h:op=1∨op=2∨op=3∨op=4):RV op=2:=by
 rcases h with rfl|rfl|rfl|rfl
 ·exact dS (n:=2) (w:=some (192,[158+2])) (QJ (by decide) (by decide) (by kernel_rfl))
 ·exact dS (n:=2) (w:=some (192,[159+2])) (QJ (by decide) (by decide) (by kernel_rfl))
 ·exact dS (n:=2) (w:=some (192,[160+2])) (QJ (by decide) (by decide) (by kernel_rfl))
 ·exact dS (n:=2) (w:=some (192,[161+2])) (QJ (by decide) (by decide) (by kernel_rfl))
end VL
namespace VL
open Go Vx
def Ki(f:Int)(y:Int×Int×Int×Unit):Prop:=∃x:Nat,y.1=(x:Int)/\Ak f x=0/\y.2.2.1=0
theorem Kj{f:Int}{c:Bool}{x y:Int×Int×Int×Unit}(hx:Ki f x)(hy:Ki f y):Ki f (bif c then x else y):=by
 cases c
 ·exact hy
 ·exact hx
theorem FX{f:Int}{x:Nat}{g:Int}(h:Ak f x=0):Ki f ((x:Int),g,0,()):=⟨x,rfl,h,rfl⟩
theorem aDT{f m:Int}(hf:Fm f)(hm:0<=m/\m<=5){a b:Nat}(ha:Ak f a=0)(hb:Ak f b=0):Ki f (Rs f m a b):=by
 unfold Rs;rw[if_pos hf,if_pos hm,if_pos ⟨ha,hb⟩,aP2];exact FX (aP1 hf hm ha hb)
theorem aYI{f m:Int}(hf:Fm f)(hm:0<=m/\m<=5){a b:Nat}(ha:Ak f a=0)(hb:Ak f b=0):Ki f (Uh f m a b):=by
 unfold Uh;rw[if_pos hb];exact aDT hf hm ha (aGH hf b)
theorem aSR{f m:Int}(hf:Fm f)(hm:0<=m/\m<=5){a b:Nat}(ha:Ak f a=0)(hb:Ak f b=0):Ki f (TT f m a b):=by
 unfold TT;rw[if_neg (show ¬¬Fm f from fun h=>h hf),if_neg (by omega),if_neg (fun h=>h ha),if_neg (fun h=>h hb)];unfold qL;exact Kj (FX (Xr hf).2) (Kj (FX (Xr hf).2) (Kj (FX (pX hf _).1) (Kj (FX (aJQ hf _).1) (FX (r8 hf _ _ _ _)))))
theorem aQQ{f m:Int}(hf:Fm f)(hm:0<=m/\m<=5){a b:Nat}(ha:Ak f a=0)(hb:Ak f b=0):Ki f (Tf f m a b):=by
 unfold Tf;rw[if_neg (show ¬¬Fm f from fun h=>h hf),if_neg (by omega),if_neg (fun h=>h ha),if_neg (fun h=>h hb)];unfold oM;refine Kj (FX (Xr hf).2) (Kj (FX (Xr hf).2) (Kj (FX (pX hf _).1) (Kj (FX (pX hf _).1) (Kj (FX (aJQ hf _).1) (FX ?_)))));unfold Hm LU;split
 ·exact r8 hf _ _ _ _
 ·exact r8 hf _ _ _ _
def R9(op:Int):Prop:=op=1∨op=2∨op=3∨op=4
theorem aRe{f m:Int}(hf:Fm f)(hm:0<=m/\m<=5){op:Int}(h:R9 op){a b:Nat}(ha:Ak f a=0)(hb:Ak f b=0):Ki f (Eu m op f a b 0):=by
 rcases h with rfl|rfl|rfl|rfl
 ·exact aDT hf hm ha hb
 ·exact aYI hf hm ha hb
 ·exact aSR hf hm ha hb
 ·exact aQQ hf hm ha hb
theorem aEr{f:Int}(hf:Fm f){a:Nat}(ha:Ak f a=0):a<2^64:=by
 have h1:=(Hl ha).2;have h2:fW f<=64:=Fy hf;exact al h1 (ak (by decide) h2)
def Ay(f m op:Int)(a b:Nat):Nat:=(Eu m op f a b 0).1.toNat
def Az(f m op:Int)(a b:Nat):Int:=(Eu m op f a b 0).2.1
theorem XQ{f m:Int}(hf:Fm f)(hm:0<=m/\m<=5){op:Int}(h:R9 op){a b:Nat}(ha:Ak f a=0)(hb:Ak f b=0):
  Ak f (Ay f m op a b)=0/\(Eu m op f a b 0).1=((Ay f m op a b:Nat):Int)/\(Eu m op f a b 0).2.2.1=0:=by
 obtain⟨x,h1,h2,h3⟩:=aRe hf hm h ha hb;have e:Ay f m op a b=x:=by unfold Ay;rw[h1];rfl
 rw[e];exact⟨h2,h1,h3⟩
theorem aXK{f m:Int}(hf:Fm f)(hm:0<=m/\m<=5){op:Int}(h:R9 op){a b:Nat}(ha:Ak f a=0)(hb:Ak f b=0):
  RW (m,0,0,()) op f a b 0=((((Ay f m op a b:Nat):Int),Az f m op a b,0,(m,An .i64 0 (Az f m op a b),0,()),()),0,()):=by
 obtain⟨h1,h2,h3⟩:=XQ hf hm h ha hb;have hc:Ly f op 2 a b 0=0:=by
  unfold Ly;have hop:¬op=10/\¬op=11/\¬op=12:=by unfold R9 at h;omega
  have hA:Fv f ([a,b,0].take 2)=0:=by
   show(if Ak f a≠0 then Ak f a else if Ak f b≠0 then Ak f b else 0)=0;rw[if_neg (fun x=>x ha),if_neg (fun x=>x hb)]
  rw[if_neg (show ¬¬Fm f from fun h=>h hf),if_neg (fun x=>hop.1 x.1),if_neg (fun x=>x.1.elim hop.2.1 hop.2.2),if_neg (fun x=>x hA),beq_false_of_ne hop.2.2];rfl
 have hg:Jh (m,0,0,())=0:=by
  unfold Jh;rw[if_neg (by show ¬(m<0∨m>5);omega)];have h0:CE 0=true:=by decide +kernel
  show(if(CE 0&&CE 0)=true then(0:Int)else 7)=0;rw[h0];rfl
 have he:I9 (m,0,0,()) op f a b 0=0:=by
  unfold I9;rw[if_neg (fun x=>x hg),if_neg (by unfold R9 at h;omega),aXx h,if_neg (fun x=>x hc)];exact h3
 unfold RW;rw[if_neg (fun x=>x he)];unfold n6;have hz:Bs .i64 (Eu m op f a b 0).2.1 0=0:=by
  unfold Bs;have:cu 64 (0:Int)=0#64:=rfl;show aa .i64 ((cu 64 (Eu m op f a b 0).2.1 &&& cu 64 0).toNat:Int)=0;rw[this,BitVec.and_zero];rfl
 have hz':¬(Bs .i64 (Eu (m,(0:Int),(0:Int),()).1 op f a b 0).2.1 (m,(0:Int),(0:Int),()).2.2.1≠0):=fun x=>x hz;rw[if_neg hz'];dsimp only;rw[h2];rfl
abbrev w7:=Int×Int×Int×Unit
theorem Zu{f m:Int}(hf:Fm f)(hm:0<=m/\m<=5)(g:Int){op:Int}(h:R9 op){a b:Nat}(ha:Ak f a=0)(hb:Ak f b=0):
  VK ((f,m,g,()),op,(a:Int),(b:Int),())=some ((f,m,An .i64 g (Az f m op a b),()),((Ay f m op a b:Nat):Int),()):=by
 have p:P7 ((m,0,0,()),op,f,(a:Int),(b:Int),((0:Nat):Int),())=_:=aNB (m,0,0,()) h f (aEr hf ha) (aEr hf hb) (by decide);rw[aXK hf hm h ha hb]at p;have p':P7 ((m,0,0,()),op,f,(a:Int),(b:Int),(0:Int),())=_:=p;show gP PQ.pre PQ.F (f,m,g,()) op (a:Int) (b:Int)=_;unfold gP;dsimp only;simp only[aUg p',aRR p',cond_true]
end VL
namespace VL
open Go Vx
abbrev Cy:=Nat×Nat
def cI(x:Cy):Int×Int×Unit:=((x.1:Int),(x.2:Int),())
def QC(f:Int)(x:Cy):Prop:=Ak f x.1=0/\Ak f x.2=0
section
variable {f m:Int}(hf:Fm f)(hm:0<=m/\m<=5)(g:Int)
include hf hm
theorem IP{a b:Nat}(ha:Ak f a=0)(hb:Ak f b=0):VM ((f,m,g,()),(a:Int),(b:Int),())=some ((f,m,An .i64 g (Az f m 3 a b),()),((Ay f m 3 a b:Nat):Int),()):=by
 have p:=Zu hf hm g (op:=3) (.inr (.inr (.inl rfl))) ha hb;show gQ CJ.pre CJ.F (f,m,g,()) (a:Int) (b:Int)=_;unfold gQ;dsimp only;simp only[dH p,cK p,cond_true]
theorem aAg{a b:Nat}(ha:Ak f a=0)(hb:Ak f b=0):VN ((f,m,g,()),(a:Int),(b:Int),())=some ((f,m,An .i64 g (Az f m 2 a b),()),((Ay f m 2 a b:Nat):Int),()):=by
 have p:=Zu hf hm g (op:=2) (.inr (.inl rfl)) ha hb;show gR CJ.pre CJ.F (f,m,g,()) (a:Int) (b:Int)=_;unfold gR;dsimp only;simp only[dH p,cK p,cond_true]
theorem kD{a b:Nat}(ha:Ak f a=0)(hb:Ak f b=0):VO ((f,m,g,()),(a:Int),(b:Int),())=some ((f,m,An .i64 g (Az f m 1 a b),()),((Ay f m 1 a b:Nat):Int),()):=by
 have p:=Zu hf hm g (op:=1) (.inl rfl) ha hb;show gS CJ.pre CJ.F (f,m,g,()) (a:Int) (b:Int)=_;unfold gS;dsimp only;simp only[dH p,cK p,cond_true]
theorem aAj{a b:Nat}(ha:Ak f a=0)(hb:Ak f b=0):VQ ((f,m,g,()),(a:Int),(b:Int),())=some ((f,m,An .i64 g (Az f m 4 a b),()),((Ay f m 4 a b:Nat):Int),()):=by
 have p:=Zu hf hm g (op:=4) (.inr (.inr (.inr rfl))) ha hb;show gW CJ.pre CJ.F (f,m,g,()) (a:Int) (b:Int)=_;unfold gW;dsimp only;simp only[dH p,cK p,cond_true]
end
section
variable (f m:Int)
def dC(g:Int):List (Int×Nat×Nat)->Int
 | []=>g
 |s::l=>dC (An .i64 g (Az f m s.1 s.2.1 s.2.2)) l
def dM(x y:Cy):Cy:=(Ay f m 2 (Ay f m 3 x.1 y.1) (Ay f m 3 x.2 y.2),Ay f m 1 (Ay f m 3 x.1 y.2) (Ay f m 3 x.2 y.1))
def rS(x y:Cy):List (Int×Nat×Nat):=[(3,x.1,y.1),(3,x.2,y.2),(3,x.1,y.2),(3,x.2,y.1),(2,Ay f m 3 x.1 y.1,Ay f m 3 x.2 y.2),(1,Ay f m 3 x.1 y.2,Ay f m 3 x.2 y.1)]
def dP(y:Cy):Nat:=Ay f m 1 (Ay f m 3 y.1 y.1) (Ay f m 3 y.2 y.2)
def aHv(x y:Cy):Nat:=Ay f m 1 (Ay f m 3 x.1 y.1) (Ay f m 3 x.2 y.2)
def aHw(x y:Cy):Nat:=Ay f m 2 (Ay f m 3 x.2 y.1) (Ay f m 3 x.1 y.2)
def dO(x y:Cy):Cy:=(Ay f m 4 (aHv f m x y) (dP f m y),Ay f m 4 (aHw f m x y) (dP f m y))
def rX(x y:Cy):List (Int×Nat×Nat):=[(3,y.1,y.1),(3,y.2,y.2),(1,Ay f m 3 y.1 y.1,Ay f m 3 y.2 y.2),(3,x.1,y.1),(3,x.2,y.2),(1,Ay f m 3 x.1 y.1,Ay f m 3 x.2 y.2),(3,x.2,y.1),(3,x.1,y.2),(2,Ay f m 3 x.2 y.1,Ay f m 3 x.1 y.2),(4,aHv f m x y,dP f m y),(4,aHw f m x y,dP f m y)]
end
theorem sM{f m:Int}(hf:Fm f)(hm:0<=m/\m<=5){a b:Nat}(ha:Ak f a=0)(hb:Ak f b=0):Ak f (Ay f m 1 a b)=0:=(XQ hf hm (.inl rfl) ha hb).1
theorem st2{f m:Int}(hf:Fm f)(hm:0<=m/\m<=5){a b:Nat}(ha:Ak f a=0)(hb:Ak f b=0):Ak f (Ay f m 2 a b)=0:=(XQ hf hm (.inr (.inl rfl)) ha hb).1
theorem Jr{f m:Int}(hf:Fm f)(hm:0<=m/\m<=5){a b:Nat}(ha:Ak f a=0)(hb:Ak f b=0):Ak f (Ay f m 3 a b)=0:=(XQ hf hm (.inr (.inr (.inl rfl))) ha hb).1
theorem st4{f m:Int}(hf:Fm f)(hm:0<=m/\m<=5){a b:Nat}(ha:Ak f a=0)(hb:Ak f b=0):Ak f (Ay f m 4 a b)=0:=(XQ hf hm (.inr (.inr (.inr rfl))) ha hb).1
theorem aNE{f m:Int}(hf:Fm f)(hm:0<=m/\m<=5)(g:Int){x y:Cy}(hx:QC f x)(hy:QC f y):
  VP ((f,m,g,()),cI x,cI y,())=some ((f,m,dC f m g (rS f m x y),()),cI (dM f m x y),())/\QC f (dM f m x y):=by
 have q1:=Jr hf hm hx.1 hy.1;have q2:=Jr hf hm hx.2 hy.2;have q3:=Jr hf hm hx.1 hy.2;have q4:=Jr hf hm hx.2 hy.1;refine⟨?_,st2 hf hm q1 q2,sM hf hm q3 q4⟩;have p1:=IP hf hm g hx.1 hy.1;have p2:=IP hf hm (An .i64 g (Az f m 3 x.1 y.1)) hx.2 hy.2;have p3:=IP hf hm (An .i64 (An .i64 g (Az f m 3 x.1 y.1)) (Az f m 3 x.2 y.2)) hx.1 hy.2;have p4:=IP hf hm (An .i64 (An .i64 (An .i64 g (Az f m 3 x.1 y.1)) (Az f m 3 x.2 y.2)) (Az f m 3 x.1 y.2)) hx.2 hy.1;have p5:=aAg hf hm (An .i64 (An .i64 (An .i64 (An .i64 g (Az f m 3 x.1 y.1)) (Az f m 3 x.2 y.2)) (Az f m 3 x.1 y.2)) (Az f m 3 x.2 y.1)) q1 q2;have p6:=kD hf hm (An .i64 (An .i64 (An .i64 (An .i64 (An .i64 g (Az f m 3 x.1 y.1)) (Az f m 3 x.2 y.2)) (Az f m 3 x.1 y.2)) (Az f m 3 x.2 y.1)) (Az f m 2 (Ay f m 3 x.1 y.1) (Ay f m 3 x.2 y.2))) q3 q4;show gT Fl.pre Fl.F Fo.pre Fo.F Fp.pre Fp.F (f,m,g,()) (cI x) (cI y)=_;unfold gT cI;dsimp only;simp only[Jo p1,Jg p1,Jo p2,Jg p2,Jo p3,Jg p3,Jo p4,Jg p4,aHl p5,aFG p5,rN p6,pL p6,cond_true];rfl
end VL
namespace VL
open Go Vx
theorem aNG{f m:Int}(hf:Fm f)(hm:0<=m/\m<=5)(g:Int){x y:Cy}(hx:QC f x)(hy:QC f y):
  VR ((f,m,g,()),cI x,cI y,())=some ((f,m,dC f m g (rX f m x y),()),cI (dO f m x y),())/\QC f (dO f m x y):=by
 have q1:=Jr hf hm hy.1 hy.1;have q2:=Jr hf hm hy.2 hy.2;have q3:=sM hf hm q1 q2;have q4:=Jr hf hm hx.1 hy.1;have q5:=Jr hf hm hx.2 hy.2;have q6:=sM hf hm q4 q5;have q7:=Jr hf hm hx.2 hy.1;have q8:=Jr hf hm hx.1 hy.2;have q9:=st2 hf hm q7 q8;have q10:=st4 hf hm q6 q3;have q11:=st4 hf hm q9 q3;refine⟨?_,q10,q11⟩;have p1:=IP hf hm g hy.1 hy.1;have p2:=IP hf hm (An .i64 g (Az f m 3 y.1 y.1)) hy.2 hy.2;have p3:=kD hf hm (An .i64 (An .i64 g (Az f m 3 y.1 y.1)) (Az f m 3 y.2 y.2)) q1 q2;have p4:=IP hf hm (An .i64 (An .i64 (An .i64 g (Az f m 3 y.1 y.1)) (Az f m 3 y.2 y.2)) (Az f m 1 (Ay f m 3 y.1 y.1) (Ay f m 3 y.2 y.2))) hx.1 hy.1;have p5:=IP hf hm (An .i64 (An .i64 (An .i64 (An .i64 g (Az f m 3 y.1 y.1)) (Az f m 3 y.2 y.2)) (Az f m 1 (Ay f m 3 y.1 y.1) (Ay f m 3 y.2 y.2))) (Az f m 3 x.1 y.1)) hx.2 hy.2;have p6:=kD hf hm (An .i64 (An .i64 (An .i64 (An .i64 (An .i64 g (Az f m 3 y.1 y.1)) (Az f m 3 y.2 y.2)) (Az f m 1 (Ay f m 3 y.1 y.1) (Ay f m 3 y.2 y.2))) (Az f m 3 x.1 y.1)) (Az f m 3 x.2 y.2)) q4 q5;have p7:=IP hf hm (An .i64 (An .i64 (An .i64 (An .i64 (An .i64 (An .i64 g (Az f m 3 y.1 y.1)) (Az f m 3 y.2 y.2)) (Az f m 1 (Ay f m 3 y.1 y.1) (Ay f m 3 y.2 y.2))) (Az f m 3 x.1 y.1)) (Az f m 3 x.2 y.2)) (Az f m 1 (Ay f m 3 x.1 y.1) (Ay f m 3 x.2 y.2))) hx.2 hy.1;have p8:=IP hf hm (An .i64 (An .i64 (An .i64 (An .i64 (An .i64 (An .i64 (An .i64 g (Az f m 3 y.1 y.1)) (Az f m 3 y.2 y.2)) (Az f m 1 (Ay f m 3 y.1 y.1) (Ay f m 3 y.2 y.2))) (Az f m 3 x.1 y.1)) (Az f m 3 x.2 y.2)) (Az f m 1 (Ay f m 3 x.1 y.1) (Ay f m 3 x.2 y.2))) (Az f m 3 x.2 y.1)) hx.1 hy.2;have p9:=aAg hf hm (An .i64 (An .i64 (An .i64 (An .i64 (An .i64 (An .i64 (An .i64 (An .i64 g (Az f m 3 y.1 y.1)) (Az f m 3 y.2 y.2)) (Az f m 1 (Ay f m 3 y.1 y.1) (Ay f m 3 y.2 y.2))) (Az f m 3 x.1 y.1)) (Az f m 3 x.2 y.2)) (Az f m 1 (Ay f m 3 x.1 y.1) (Ay f m 3 x.2 y.2))) (Az f m 3 x.2 y.1)) (Az f m 3 x.1 y.2)) q7 q8;have p10:=aAj hf hm (An .i64 (An .i64 (An .i64 (An .i64 (An .i64 (An .i64 (An .i64 (An .i64 (An .i64 g (Az f m 3 y.1 y.1)) (Az f m 3 y.2 y.2)) (Az f m 1 (Ay f m 3 y.1 y.1) (Ay f m 3 y.2 y.2))) (Az f m 3 x.1 y.1)) (Az f m 3 x.2 y.2)) (Az f m 1 (Ay f m 3 x.1 y.1) (Ay f m 3 x.2 y.2))) (Az f m 3 x.2 y.1)) (Az f m 3 x.1 y.2)) (Az f m 2 (Ay f m 3 x.2 y.1) (Ay f m 3 x.1 y.2))) q6 q3;have p11:=aAj hf hm (An .i64 (An .i64 (An .i64 (An .i64 (An .i64 (An .i64 (An .i64 (An .i64 (An .i64 (An .i64 g (Az f m 3 y.1 y.1)) (Az f m 3 y.2 y.2)) (Az f m 1 (Ay f m 3 y.1 y.1) (Ay f m 3 y.2 y.2))) (Az f m 3 x.1 y.1)) (Az f m 3 x.2 y.2)) (Az f m 1 (Ay f m 3 x.1 y.1) (Ay f m 3 x.2 y.2))) (Az f m 3 x.2 y.1)) (Az f m 3 x.1 y.2)) (Az f m 2 (Ay f m 3 x.2 y.1) (Ay f m 3 x.1 y.2))) (Az f m 4 (Ay f m 1 (Ay f m 3 x.1 y.1) (Ay f m 3 x.2 y.2)) (Ay f m 1 (Ay f m 3 y.1 y.1) (Ay f m 3 y.2 y.2)))) q9 q3;show gX Fp.pre Fp.F Fl.pre Fl.F Fo.pre Fo.F PT.pre PT.F (f,m,g,()) (cI x) (cI y)=_;unfold gX cI;dsimp only;simp only[Jo p1,Jg p1,Jo p2,Jg p2,rN p3,pL p3,Jo p4,Jg p4,Jo p5,Jg p5,rN p6,pL p6,Jo p7,Jg p7,Jo p8,Jg p8,aHl p9,aFG p9,aHm p10,aFH p10,aHm p11,aFH p11,cond_true];rfl
abbrev XI:=Int×Int×Unit
def CS(f:Int)(l:List Cy):Bool:=l.all fun x=>Ak f x.1==0&&Ak f x.2==0
theorem aN6(s:w7)(l:List Cy)(hl:∀x∈l,x.1<2^64/\x.2<2^64)(hlen:l.length<2^63):
  Wb (((l.length:Int),l.map cI,(),(0:Int),()),s,())=some (if CS s.1 l=true then .inl ((),s,())else .inr (((4:Int),()),s,())):=by
 have key:=Er (aGw Ao.pre Ao.F) (fun x=>l.length-x.1.2.2.2.1.toNat)
  (fun x=>∃i:Nat,i<=l.length/\CS s.1 (l.drop i)=CS s.1 l/\x=(((l.length:Int),l.map cI,(),(i:Int),()),s,()))
  (fun _=>if CS s.1 l=true then .inl ((),s,())else .inr (((4:Int),()),s,())) ?_ _ ⟨0,ee _,rfl,rfl⟩
 ·exact key
 intro L x hx hL;obtain⟨i,hi,hok,rfl⟩:=hx;unfold TM;rcases aq i l.length with hlt|hge
 ·have hg:(l.map cI).getD i ((0:Int),(0:Int),())=cI l[i]:=by simp[ai,hlt]
  obtain⟨h1,h2⟩:=hl _ (jf hlt);have p0:=IQ s.1 l[i].1 h1;have p1:=IQ s.1 l[i].2 h2;have e0:decide ((i:Int)<(l.length:Int))=true:=decide_eq_true (by omega);have e2:decide ((0:Int)<=(i:Int))=true:=decide_eq_true (by omega);have e1:decide ((i:Int)<(((l.map cI).length:Nat):Int))=true:=by rw[kg];exact e0
  have e3:aa .i64 ((i:Int)+1)=((i+1:Nat):Int):=by rw[Ax (by omega)];omega
  have hN:L (((l.length:Int),l.map cI,(),((i+1:Nat):Int),()),s,())=some (if CS s.1 (l.drop (i+1))=true then .inl ((),s,())else .inr (((4:Int),()),s,()))∨CS s.1 (l.drop (i+1))≠CS s.1 l:=by
   by_cases h:CS s.1 (l.drop (i+1))=CS s.1 l
   ·left;rw[h];exact hL _ ⟨i+1,by omega,h,rfl⟩ (by simp only[ag];omega)
   ·exact .inr h
  rw[dp hlt]at hok;have hok':((Ak s.1 l[i].1==0&&Ak s.1 l[i].2==0)&&CS s.1 (l.drop (i+1)))=CS s.1 l:=hok;dsimp only;simp only[e0,e1,e2,e3,ag,hg,cI,Hy p0,Hq p0,Hy p1,Hq p1,cond_true,bh,bg];by_cases c1:Ak s.1 l[i].1=0
  ·by_cases c2:Ak s.1 l[i].2=0
   ·rw[c1,c2]at hok' ⊢;have h3:CS s.1 (l.drop (i+1))=CS s.1 l:=hok';rcases hN with hN|hN
    ·simp only[bne_self_eq_false,cr,cond_false];rw[hN,h3]
    ·exact absurd h3 hN
   ·rw[beq_false_of_ne c2,bw,bc]at hok';rw[←hok',c1,bne_self_eq_false,co,bne_iff_ne.2 c2];rfl
  ·rw[beq_false_of_ne c1,bc,bc]at hok';rw[←hok',bne_iff_ne.2 c1];rfl
 ·have e:i=l.length:=by omega
  subst e;rw[jh]at hok;have e0:decide ((l.length:Int)<(l.length:Int))=false:=decide_eq_false (by omega);simp only[e0,cond_false];rw[←hok];rfl
theorem aAh(s:w7)(l:List Cy)(hl:∀x∈l,x.1<2^64/\x.2<2^64)(hlen:l.length<2^63):
  Q9 (s,l.map cI,())=some (s,(if CS s.1 l=true then(0:Int)else 4),()):=by
 show gU Ao.pre Ao.F Wb s (l.map cI)=_;unfold gU;have hw:=aN6 s l hl hlen;rw[kg];have hw':Wb (((l.length:Int),l.map cI,(),(0:Int),()),(s.1,s.2),())=_:=hw;rw[hw'];by_cases h:CS s.1 l=true
 ·rw[if_pos h,if_pos h];all_goals rfl
 ·rw[if_neg h,if_neg h];all_goals rfl
def Qi(w:Cy->Cy->Cy)(k:Cy->Cy->List (Int×Nat×Nat))(f m:Int)(x y:Cy):XI×Int×Int×Unit:=if ¬Fm f then((0,0,()),0,2,())else if m<0∨m>5 then((0,0,()),0,3,())else if ¬CS f [x,y]=true then((0,0,()),0,4,())else(cI (w x y),dC f m 0 (k x y),0,())
theorem aFb{f:Int}{x y:Cy}(h:CS f [x,y]=true):QC f x/\QC f y:=by
 simp only[CS,mm,List.all_nil,Bool.and_true,ae,beq_iff_eq]at h;exact⟨h.1,h.2⟩
theorem TS{m:Int}:(decide (m<0)||decide (m>5))=decide (m<0∨m>5):=by rw[Bool.decide_or]
theorem aNF(f m:Int){x y:Cy}(hx:x.1<2^64/\x.2<2^64)(hy:y.1<2^64/\y.2<2^64):Ra (f,m,cI x,cI y,())=some (Qi (dM f m) (rS f m) f m x y):=by
 show gV PR.pre PR.F Al.pre Al.F Fq.pre Fq.F f m (cI x) (cI y)=_;unfold gV Qi;by_cases hf:Fm f
 ·have p0:=IR hf;rw[if_neg (show ¬¬Fm f from fun h=>h hf)];by_cases hm:m<0∨m>5
  ·rw[if_pos hm];dsimp only;simp only[C7 p0,C3 p0,cond_true,bne_self_eq_false,cond_false,TS,decide_eq_true hm]
  ·rw[if_neg hm];have p1:Q9 ((f,m,0,()),(cI x::cI y::[]),())=_:=aAh (f,m,0,()) [x,y] (by intro z hz;simp at hz;rcases hz with rfl|rfl<;>assumption) (by show 2<2^63;decide);by_cases hF:CS f [x,y]=true
   ·rw[if_neg (fun h=>h hF)];rw[if_pos hF]at p1;obtain⟨ox,oy⟩:=aFb hF;obtain⟨p2,_⟩:=aNE hf (m:=m) (by omega) 0 ox oy;unfold cI at p1 p2⊢;dsimp only at p1 p2⊢;simp only[C7 p0,C3 p0,cond_true,bne_self_eq_false,cond_false,TS,decide_eq_false hm,dI p1,cL p1,aUh p2,aRS p2]
   ·rw[if_pos hF];rw[if_neg hF]at p1;unfold cI at p1⊢;dsimp only at p1⊢;simp only[C7 p0,C3 p0,cond_true,bne_self_eq_false,cond_false,TS,decide_eq_false hm,dI p1,cL p1];rfl
 ·have p0:=KT hf;rw[if_pos hf];dsimp only;simp only[C7 p0,C3 p0,cond_true];rfl
theorem aNH(f m:Int){x y:Cy}(hx:x.1<2^64/\x.2<2^64)(hy:y.1<2^64/\y.2<2^64):Rb (f,m,cI x,cI y,())=some (Qi (dO f m) (rX f m) f m x y):=by
 show gY PU.pre PU.F Al.pre Al.F Fq.pre Fq.F f m (cI x) (cI y)=_;unfold gY Qi;by_cases hf:Fm f
 ·have p0:=IR hf;rw[if_neg (show ¬¬Fm f from fun h=>h hf)];by_cases hm:m<0∨m>5
  ·rw[if_pos hm];dsimp only;simp only[C7 p0,C3 p0,cond_true,bne_self_eq_false,cond_false,TS,decide_eq_true hm]
  ·rw[if_neg hm];have p1:Q9 ((f,m,0,()),(cI x::cI y::[]),())=_:=aAh (f,m,0,()) [x,y] (by intro z hz;simp at hz;rcases hz with rfl|rfl<;>assumption) (by show 2<2^63;decide);by_cases hF:CS f [x,y]=true
   ·rw[if_neg (fun h=>h hF)];rw[if_pos hF]at p1;obtain⟨ox,oy⟩:=aFb hF;obtain⟨p2,_⟩:=aNG hf (m:=m) (by omega) 0 ox oy;unfold cI at p1 p2⊢;dsimp only at p1 p2⊢;simp only[C7 p0,C3 p0,cond_true,bne_self_eq_false,cond_false,TS,decide_eq_false hm,dI p1,cL p1,aUj p2,aRU p2]
   ·rw[if_pos hF];rw[if_neg hF]at p1;unfold cI at p1⊢;dsimp only at p1⊢;simp only[C7 p0,C3 p0,cond_true,bne_self_eq_false,cond_false,TS,decide_eq_false hm,dI p1,cL p1];rfl
 ·have p0:=KT hf;rw[if_pos hf];dsimp only;simp only[C7 p0,C3 p0,cond_true];rfl
end VL
namespace VL
open Go Vx
theorem aw1:Qi (dM 2 0) (rS 2 0) 2 0 (1065353216,1073741824) (1065353216,1073741824)=(((3225419776:Int),(1082130432:Int),()),0,0,()):=by
 unfold Qi;rw[if_neg (show ¬¬Fm 2 by decide),if_neg (by decide),if_neg (show ¬¬CS 2 [(1065353216,1073741824),(1065353216,1073741824)]=true by decide +kernel)];kernel_rfl
theorem aw2:Qi (dO 2 0) (rX 2 0) 2 0 (1065353216,1073741824) (1065353216,1065353216)=(((1069547520:Int),(1056964608:Int),()),0,0,()):=by
 unfold Qi;rw[if_neg (show ¬¬Fm 2 by decide),if_neg (by decide),if_neg (show ¬¬CS 2 [(1065353216,1073741824),(1065353216,1065353216)]=true by decide +kernel)];kernel_rfl
theorem aQf:VS ()=some (true,()):=by
 show gZ PS.pre PS.F PW.pre PW.F=_;have p1:Ra (2,0,cI (1065353216,1073741824),cI (1065353216,1073741824),())=_:=aNF 2 0 (x:=(1065353216,1073741824)) (y:=(1065353216,1073741824)) (by decide) (by decide);have p2:Rb (2,0,cI (1065353216,1073741824),cI (1065353216,1065353216),())=_:=aNH 2 0 (x:=(1065353216,1073741824)) (y:=(1065353216,1065353216)) (by decide) (by decide);rw[aw1]at p1;rw[aw2]at p2;have q1:Ra ((2:Int),(0:Int),((1065353216:Int),(1073741824:Int),()),((1065353216:Int),(1073741824:Int),()),())=_:=p1;have q2:Rb ((2:Int),(0:Int),((1065353216:Int),(1073741824:Int),()),((1065353216:Int),(1065353216:Int),()),())=_:=p2;unfold gZ;dsimp only;simp only[aUi q1,aRT q1,aUk q2,aRV q2,cond_true];rfl
end VL
namespace VL
open Go Vx
def Un(x:Option Nat):Int:=if Da .f64 x x=some .eq then((x.getD 0:Nat):Int)else 9221120237041090560
theorem aEe(x:Option Nat):((Da .f64 x x)!=(some Ordering.eq))=!(decide (Da .f64 x x=some .eq)):=by
 by_cases h:Da .f64 x x=some .eq
 ·rw[h];rfl
 ·rw[decide_eq_false h,bne_iff_ne.2 h];rfl
theorem aGU{x:Option Nat}(h:Da .f64 x x=some .eq):x.isSome=true:=by
 cases x with
 |none=>cases h
 |some _=>rfl
theorem aAm(x:Option Nat):VW (x,())=some (Un x,()):=by
 show iB Fj.pre Fj.F x=_;unfold iB Un;rw[aEe];by_cases h:Da .f64 x x=some .eq
 ·rw[decide_eq_true h,if_pos h];have hp:Fj.pre (x,())=true:=aGU h;rw[hp];rfl
 ·rw[decide_eq_false h,if_neg h];rfl
theorem Zv(x:Option Nat):VT (x,())=some (Un x,()):=by
 show g9 AO.pre AO.F Fj.pre Fj.F x=_;have p:SJ (3,())=some ((9221120237041090560:Int),0,()):=Zx (f:=3) (by decide);unfold g9 Un;rw[aEe];by_cases h:Da .f64 x x=some .eq
 ·rw[decide_eq_true h,if_pos h];have hp:Fj.pre (x,())=true:=aGU h;rw[hp];rfl
 ·rw[decide_eq_false h,if_neg h,dK p,cN p];rfl
abbrev CF:=Option Nat×Option Nat
def BO(x:XI):CF:=(some x.1.toNat,some x.2.1.toNat)
def S8(z:CF):XI:=(Un z.1,Un z.2,())
def cW(x y:CF):CF:=(AG .sub .f64 (AG .mul .f64 x.1 y.1) (AG .mul .f64 x.2 y.2),AG .add .f64 (AG .mul .f64 x.1 y.2) (AG .mul .f64 x.2 y.1))
def aY(x y:CF):CF:=(AG .add .f64 x.1 y.1,AG .add .f64 x.2 y.2)
def XE(u v:CF):CF:=let t:=AG .add .f64 (AG .mul .f64 v.1 v.1) (AG .mul .f64 v.2 v.2);(AG .quo .f64 (AG .add .f64 (AG .mul .f64 u.1 v.1) (AG .mul .f64 u.2 v.2)) t,AG .quo .f64 (AG .sub .f64 (AG .mul .f64 u.2 v.1) (AG .mul .f64 u.1 v.2)) t)
theorem SA(x:XI):G9 (x,())=some (BO x,()):=rfl
theorem aAl(z:CF):SD (z,())=some (S8 z,()):=by
 show hJ Fr.pre Fr.F z=_;have p1:=Zv z.1;have p2:=Zv z.2;unfold hJ;rw[dJ p1,cM p1,dJ p2,cM p2];rfl
theorem aNI(x y:XI):SE (x,y,())=some (S8 (aY (BO x) (BO y)),()):=by
 have p:=aAl (aY (BO x) (BO y));show hZ Dz.pre Dz.F Fs.pre Fs.F x y=_;unfold hZ;have q1:G9 ((x.1,x.2),())=some (BO x,()):=SA x;have q2:G9 ((y.1,y.2),())=some (BO y,()):=SA y;have p':SD ((AG .add .f64 (BO x).1 (BO y).1,AG .add .f64 (BO x).2 (BO y).2),())=some (S8 (aY (BO x) (BO y)),()):=p;dsimp only;simp only[Ub q1,To q1,Ub q2,To q2,aHn p',aFI p',cond_true]
theorem aNJ(x y:XI):SF (x,y,())=some (S8 (cW (BO x) (BO y)),()):=by
 have p:=aAl (cW (BO x) (BO y));show h9 Dz.pre Dz.F PZ.pre PZ.F Fs.pre Fs.F x y=_;unfold h9;have q1:G9 ((x.1,x.2),())=some (BO x,()):=SA x;have q2:G9 ((y.1,y.2),())=some (BO y,()):=SA y;have q3:VU (BO x,BO y,())=some (cW (BO x) (BO y),()):=rfl;dsimp only;simp only[Ub q1,To q1,Ub q2,To q2,aUn q3,aRY q3,aHn p,aFI p,cond_true]
theorem aNK(x y:XI):SG (x,y,())=some (S8 (XE (BO x) (BO y)),()):=by
 show iA Dz.pre Dz.F Fr.pre Fr.F x y=_;have p1:=Zv (XE (BO x) (BO y)).1;have p2:=Zv (XE (BO x) (BO y)).2;have q1:G9 ((x.1,x.2),())=some (BO x,()):=SA x;have q2:G9 ((y.1,y.2),())=some (BO y,()):=SA y;unfold iA;unfold XE at p1 p2;dsimp only at p1 p2⊢;simp only[Ub q1,To q1,Ub q2,To q2,dJ p1,cM p1,dJ p2,cM p2,cond_true];rfl
theorem T502_true(x y:XI):T502 (x,y,())=some (true,()):=by
 show iC PX.pre PX.F F5.pre F5.F PY.pre PY.F P0.pre P0.F P1.pre P1.F P2.pre P2.F x y=_;have p0:=aQf;have q1:SE ((x.1,x.2),(y.1,y.2),())=_:=aNI x y;have q2:SF ((x.1,x.2),(y.1,y.2),())=_:=aNJ x y;have q3:SG ((x.1,x.2),(y.1,y.2),())=_:=aNK x y;have hF:∀a:Int,F5.F (a,())=(some a.toNat,()):=fun _=>rfl;have hx2:F5.F x.2=(some x.2.1.toNat,()):=rfl;have hy2:F5.F y.2=(some y.2.1.toNat,()):=rfl;have t1:=fun z=>aUq (aAm z);have t2:=fun z=>aR1 (aAm z);unfold iC;dsimp only;simp only[aUl p0,aRW p0,cond_true,ca,cond_false,hF,hx2,hy2,aUm q1,aRX q1,aUo q2,aRZ q2,aUp q3,aR0 q3,t1,t2,S8,aY,cW,XE,BO,bne_self_eq_false,cr,Bool.not_false,bq,beq_self_eq_true,bg,decide_true,ca,Bool.or_false,bh];rfl
end VL
namespace Vx
open Go Go.RowKit Go.ChangeShapes Go.WideShapes
def wfD:(τ:Shape)->Ab τ->Prop
 |.int k,n=>k.min<=n/\n<=k.max
 |.flt _,_=>True
 |.slice e,xs=>xs.length<Bo/\∀x∈xs,wfD e x
 |.pair a b,x=>wfD a x.1/\wfD b x.2
 |.bool,_=>True
 |.str,_=>True
 |.fn,_=>True
 |.unit,_=>True
 |.box a,x=>wfD a x
 |.ifc,_=>True
 |.pfn,_=>True
 |.cx _,_=>True
theorem AI.wfD{w:World}{S:Nat->Prop}:∀{τ:Shape} {x:Ab τ} {cs:List Value},AI w S τ x cs->wfD τ x
 |.int _,_,_,h=>h.2
 |.flt _,_,_,_=>trivial
 |.bool,_,_,_=>trivial
 |.str,_,_,_=>trivial
 |.fn,_,_,_=>trivial
 |.unit,_,_,_=>trivial
 |.box _,_,_,⟨_,_,_,_,_,_,_,_,_,h,_⟩=>h.wfD
 |.ifc,_,_,_=>trivial
 |.pfn,_,_,_=>trivial
 |.cx _,_,_,_=>trivial
 |.slice _,xs,_,⟨A,c,_,h1,h2,h3⟩=>by
  refine⟨ax h1 h2,fun x hx=>?_⟩
  obtain⟨r,o,vs,T,fz,_,_,_,h⟩:=h3 (List.ne_nil_of_mem hx)
  obtain⟨i,hi⟩:=List.getElem?_of_mem hx
  obtain⟨ds,hd,_⟩:=h i x hi
  exact hd.wfD
 |.pair _ _,_,_,⟨c1,c2,_,h1,h2⟩=>⟨h1.wfD,h2.wfD⟩
def wfS:(sg:Aa)->DenS sg->Prop
 | [],_=>True
 |(_,τ)::r,x=>wfD τ x.1/\wfS r x.2
def EY{H:Type}:(τ:Shape)->(DataW H->Option (Ab τ))×(List (DataW H)->Option (Ab τ))
 |.int k=>(fun d=>match d with|.lit (.int k' n)=>if k'=k then some n else none|_=>none,fun _=>none)
 |.bool=>(fun d=>match d with|.lit (.bool b)=>some b|_=>none,fun _=>none)
 |.unit=>(fun d=>match d with|.agg []=>some ()|_=>none,fun l=>match l with | []=>some ()|_=>none)
 |.pair a b=>
  let f:=fun l=>match l with
   |d::r=>(match(EY a).1 d,(EY b).2 r with|some x,some y=>some (x,y)|_,_=>none)
   | []=>none
  (fun d=>match d with|.agg l=>f l|_=>none,f)
 |.flt _=>(fun _=>none,fun _=>none)
 |.str=>(fun _=>none,fun _=>none)
 |.fn=>(fun _=>none,fun _=>none)
 |.box _=>(fun _=>none,fun _=>none)
 |.ifc=>(fun _=>none,fun _=>none)
 |.pfn=>(fun _=>none,fun _=>none)
 |.cx _=>(fun _=>none,fun _=>none)
 |.slice _=>(fun _=>none,fun _=>none)
def RD(P:Program)(g:TypeId->Shape->Bool):List Field->Nat->Shape->Bool
 | [],_,.unit=>true
 |f::fs,o,.pair a b=>(f.offset==o)&&(P.cellsOf f.type==a.width)&&g f.type a&&RD P g fs (o+a.width) b
 |_,_,_=>false
def CE(P:Program):Nat->TypeId->Shape->Bool
 |0,_,_=>false
 |n+1,t,τ=>match P.underlying t with
  |some (.int k)=>(match τ with|.int k'=>decide (k=k')|_=>false)
  |some .bool=>(match τ with|.bool=>true|_=>false)
  |some (.slice e)=>(match τ with|.slice σ=>(P.cellsOf e==σ.width)&&decide (0<σ.width)&&CE P n e σ|_=>false)
  |some (.struct fs)=>(P.cellsOf t==τ.width)&&RD P (CE P n) fs.toList 0 τ
  |_=>false
theorem aEu{A:Type}{Q:Nat->A->Prop}:∀(n:Nat),(∀i,i<n->∃x,Q i x)->∃xs:List A,xs.length=n/\∀i x,xs[i]? = some x->Q i x
 |0,_=>⟨[],rfl,fun i x h=>by simp at h⟩
 |n+1,h=>by
  obtain⟨xs,h1,h2⟩:=aEu n fun i hi=>h i (by omega)
  obtain⟨x,hx⟩:=h n (by omega)
  refine⟨xs++[x],by simp[h1],fun i y hy=>?_⟩
  rcases aq i n with hi|hi
  ·rw[bo (by omega)]at hy
   exact h2 i y hy
  ·rw[List.getElem?_append_right (by omega)]at hy
   have:i=n:=by
    have:=(ao.1 hy).1
    simp at this;omega
   subst this
   simp[h1]at hy
   exact hy▸hx
theorem aY4{k:IntKind}{n:Int}(h:(Lit.int k n).wf=true):k.min<=n/\n<=k.max:=by
 simpa[Lit.wf]using h
section
variable {H:Type}{enc:TypeId×Value->H}{P:Program}{W:World}{spare:Nat->Bool}{held:Bool}
theorem aE9{n:Nat}{m:Nat}{cs:List Value}(ih:∀(t:TypeId) (τ:Shape) (cs:List Value) (d:DataW H) (p:List MemPlace),CE P n t τ=true->DataW.trod enc P W 0 spare held m t cs=some (d,p)->∃x:Ab τ,AI W (fun q=>q<W.heap.size) τ x cs/\∀y,(EY τ).1 d=some y->x=y):
  ∀(l:List Field) (o:Nat) (τ:Shape) (xs:List (DataW H×List MemPlace)),RD P (CE P n) l o τ=true->xs.length=l.length->cs.length=o+τ.width ->
   (∀(i:Nat) (f:Field),l[i]? = some f->DataW.trod enc P W 0 spare held m f.type ((cs.drop f.offset).take (P.cellsOf f.type))=xs[i]?) ->
   ∃x:Ab τ,AI W (fun q=>q<W.heap.size) τ x (cs.drop o)/\∀y,(EY τ).2 (xs.map (·.1))=some y->x=y
 | [],o,τ,xs,hf,hx,hl,_=>by
  cases τ<;>simp[RD]at hf
  refine⟨(),?_,fun _ _=>rfl⟩
  show cs.drop o=[]
  apply List.drop_eq_nil_of_le
  simp[Shape.width]at hl
  omega
 |f::fs,o,τ,xs,hf,hx,hl,h=>by
  cases τ with
  |pair a b=>
   simp only[RD,ae,beq_iff_eq]at hf
   obtain⟨⟨⟨ho,hc⟩,hg⟩,hr⟩:=hf
   cases xs with
   |nil=>simp at hx
   |cons x0 xs=>
    have h0:=h 0 f rfl
    rw[ho,hc]at h0
    simp only[List.getElem?_cons_zero]at h0
    obtain⟨xa,ha,hua⟩:=ih f.type a _ x0.1 x0.2 hg h0
    simp only[Shape.width]at hl
    obtain⟨xb,hb,hub⟩:=aE9 ih fs (o+a.width) b xs hr (by simpa using hx) (by rw[hl];omega) fun i g hi=>by
     have:=h (i+1) g (by simpa using hi)
     simpa using this
    refine⟨(xa,xb),⟨(cs.drop o).take a.width,cs.drop (o+a.width),?_,ha,hb⟩,fun y hy=>?_⟩
    ·rw[←pm,jr]
    ·simp only[EY,List.map_cons]at hy
     split at hy
     ·rename_i e1 e2
      have:=hua _ e1;have:=hub _ e2
      subst_vars
      exact jn hy
     ·cases hy
  |_=>simp[RD]at hf
theorem cC:∀(n:Nat) (m:Nat) (t:TypeId) (τ:Shape) (cs:List Value) (d:DataW H) (p:List MemPlace),CE P n t τ=true->DataW.trod enc P W 0 spare held m t cs=some (d,p) ->
  ∃x:Ab τ,AI W (fun q=>q<W.heap.size) τ x cs/\∀y,(EY τ).1 d=some y->x=y
 |0,_,_,_,_,_,_,h,_=>by simp[CE]at h
 |n+1,m,t,τ,cs,d,p,h,ht=>by
  unfold CE at h
  split at h
  ·rename_i k hk
   cases τ with
   |int k' =>
    simp only[decide_eq_true_eq]at h
    subst h
    obtain⟨v,hv,hx,hw⟩:=DataW.trod_int hk ht
    simp only[ce]at hx
    refine⟨v,⟨hv,aY4 hw⟩,fun y hy=>?_⟩
    rw[hx.1]at hy
    simp only[EY,if_true]at hy
    exact jn hy
   |_=>cases h
  ·rename_i hk
   cases τ with
   |bool=>
    obtain⟨v,hv,hx⟩:=DataW.trod_bool hk ht
    simp only[ce]at hx
    refine⟨v,hv,fun y hy=>?_⟩
    rw[hx.1]at hy
    simp only[EY]at hy
    exact jn hy
   |_=>cases h
  ·rename_i e hk
   cases τ with
   |slice σ=>
    simp only[ae,beq_iff_eq,decide_eq_true_eq]at h
    obtain⟨⟨hc,hpos⟩,hf⟩:=h
    rcases DataW.trod_slice hk ht with⟨hcs,hx⟩|⟨a,len,cap,elems,rest,m',rfl,hcs,hx,hb,hlc,hcap,hlen,hel,_⟩
    ·exact⟨[],⟨none,0,hcs,bf _,by decide,fun h=>absurd rfl h⟩,fun y hy=>by simp[EY]at hy⟩
    ·have each:∀i,i<len->∃x:Ab σ,∃ds,W.cells? 0 (a.add (i*P.cellsOf e)) (P.cellsOf e)=some ds/\AI W (fun q=>q<W.heap.size) σ x ds:=fun i hi=>by
      have:=hel i hi
      rw[av (by omega),Option.bind_eq_some_iff]at this
      obtain⟨ds,h1,h2⟩:=this
      obtain⟨x,hx,_⟩:=cC n m' e σ ds (elems[i]'(by omega)).1 (elems[i]'(by omega)).2 hf h2
      exact⟨x,ds,h1,hx⟩
     obtain⟨xs,hxl,hxs⟩:=aEu len each
     refine⟨xs,⟨some a,cap,by rw[hxl];exact hcs,by omega,by unfold Bo;unfold maxLen at hcap;omega,fun hne=>?_⟩,fun y hy=>by simp[EY]at hy⟩
     have h0:0<xs.length:=List.length_pos_iff.2 hne
     obtain⟨ds0,hd0,_⟩:=hxs 0 xs[0] (av h0)
     obtain⟨_,hl0,hc0⟩:=oh hd0
     have hz:a.add (0*P.cellsOf e)=a:=by simp[Addr.add]
     have hz':a.add 0=a:=by simp[Addr.add]
     rw[hz]at hc0
     have hc00:=hc0 0 (by omega)
     rw[hz',av (by omega)]at hc00
     unfold oq at hc00
     split at hc00
     ·rename_i c T fz hheap
      split at hc00
      ·cases hc00
      ·rename_i hspot
       have hs:a.spot=none:=by simpa using hspot
       have hadd:∀q,a.add q=⟨a.block,a.off+q,none⟩:=fun q=>by
        unfold Addr.add
        split
        ·subst_vars;cases a;simp at hs;simp[hs]
        ·rfl
       have ha:a=⟨a.block,a.off,none⟩:=by cases a;simp at hs;simp[hs]
       refine⟨a.block,a.off,c,T,fz,by rw[←ha],?_,hheap,fun i x hi=>?_⟩
       ·exact(cp.1 hheap).1
       ·obtain⟨ds,hd,hr⟩:=hxs i x hi
        refine⟨ds,hr,fun j v hj=>?_⟩
        obtain⟨_,hl,hcj⟩:=oh hd
        have hjl:j<P.cellsOf e:=by rw[←hl];exact(ao.1 hj).1
        have:=hcj j hjl
        rw[hadd,hj]at this
        have hadd2:(⟨a.block,a.off+i*P.cellsOf e,none⟩:Addr).add j=⟨a.block,a.off+i*P.cellsOf e+j,none⟩:=by
         unfold Addr.add
         split
         ·subst_vars;rfl
         ·rfl
        rw[hadd2]at this
        unfold oq at this
        simp only[hheap]at this
        rw[hc]at this
        exact this
     ·cases hc00
   |_=>cases h
  ·rename_i fs hk
   simp only[ae,beq_iff_eq]at h
   obtain⟨hc,hf⟩:=h
   obtain⟨xs,m',rfl,hx,hl,hxl,hel⟩:=DataW.trod_struct hk ht
   simp only[ce]at hx
   obtain⟨x,h1,h2⟩:=aE9 (fun t τ cs d p=>cC n m' t τ cs d p) fs.toList 0 τ xs hf (by simpa using hxl) (by rw[hl,hc];omega) fun i f hi=>hel i f (by simpa using hi)
   refine⟨x,by simpa using h1,fun y hy=>h2 y ?_⟩
   rw[hx.1]at hy
   cases τ with
   |pair a b=>exact hy
   |unit=>
    simp only[EY]at hy⊢
    split at hy
    ·rename_i e;simp only[DataW.agg.injEq]at e;rw[e]
    ·cases hy
   |_=>simp[EY]at hy
  ·cases h
end
end Vx
namespace Vx
open Go Go.RowKit Go.ChangeShapes Go.WideShapes
def RI(P:Program)(t:TypeId):Bool:=match P.underlying t with
 |some (.struct _)=>true
 |_=>false
def Tk(P:Program)(n:Nat):List TypeId->Aa->Bool
 | [],[]=>true
 |t::ts,(a,τ)::r=>CE P n t τ&&(a==RI P t)&&Tk P n ts r
 |_,_=>false
section
variable {H:Type}{enc:TypeId×Value->H}{P:Program}{W:World}
theorem aQu{n:Nat}{t:TypeId}{τ:Shape}{r:Reach}{b0:Nat}{v:Value}(hf:CE P n t τ=true)(hs:RI P t=false)(hv:nk P W r b0 t v):v.cells.toList=[v]:=by
 cases n with
 |zero=>simp[CE]at hf
 |succ n=>
  unfold CE at hf;split at hf
  ·rename_i k hk;obtain⟨_,rfl⟩:=okWide_int hk hv;rfl
  ·rename_i hk;obtain⟨_,rfl⟩:=okWide_bool hk hv;rfl
  ·rename_i e hk;obtain⟨_,_,_,rfl⟩:=okWide_slice hk hv;rfl
  ·rename_i fs hk;simp[RI,hk]at hs
  ·cases hf
theorem aQ0{S:Nat->Prop}{a:Bool}{τ:Shape}{x:Ab τ}{y:Value}(ho:Jl a τ=false)(h:Dg W S a τ x y):E0 W S a τ x y []:=by
 cases τ with
 |slice e=>
  cases a with
  |true=>cases ho
  |false=>exact⟨rfl,h⟩
 |_=>exact⟨rfl,h⟩
theorem aD2{n:Nat}{sp:Nat->Bool}{held:Bool}{b0:Nat}:∀(ts:List TypeId) (I:Aa) (vs:List Value) (ds:List (DataW H)) (ps:List MemPlace),Tk P n ts I=true ->
  (∀(j:Nat) (t:TypeId) (v:Value),ts[j]? = some t->vs[j]? = some v->nk P W .any b0 t v)->DataW.TrodAll enc P W 0 sp held ts vs ds ps->∃x:DenS I,B0 W (fun q=>q<W.heap.size) I x vs []/\wfS I x/\ds.length=ts.length
 | [],[],vs,ds,ps,_,_,h=>by
  cases vs<;>cases ds<;>simp[DataW.TrodAll]at h
  exact⟨(),⟨rfl,rfl⟩,trivial,rfl⟩
 | [],_::_,_,_,_,hf,_,_=>by simp[Tk]at hf
 |_::_,[],_,_,_,hf,_,_=>by simp[Tk]at hf
 |t::ts,(a,τ)::I,vs,ds,ps,hf,hv,h=>by
  cases vs with
  |nil=>simp[DataW.TrodAll]at h
  |cons v vs=>
   cases ds with
   |nil=>simp[DataW.TrodAll]at h
   |cons d ds=>
    obtain⟨p,q,⟨m,hp⟩,hq,_⟩:=h
    simp only[Tk,ae,beq_iff_eq]at hf
    obtain⟨⟨h1,h2⟩,h3⟩:=hf
    obtain⟨x,hx,hw,hl⟩:=aD2 ts I vs ds q h3 (fun j t v ht hv'=>hv (j+1) t v (by simpa using ht) (by simpa using hv')) hq
    obtain⟨y,hy,_⟩:=cC n m t τ _ d p h1 hp
    have hok:=hv 0 t v rfl rfl
    refine⟨(y,x),⟨v,vs,[],[],rfl,rfl,aQ0 ?_ ?_,hx⟩,⟨hy.wfD,hw⟩,by simp[hl]⟩
    ·cases τ with
     |slice σ=>
      show a=false
      rw[h2]
      cases n with
      |zero=>simp[CE]at h1
      |succ n=>
       unfold CE at h1
       unfold RI
       split at h1<;>rename_i hk<;>first|(rw[hk];done)|(simp only[hk];done)|(simp[RD]at h1;done)|skip
     |_=>rfl
    cases a with
    |true=>
     have hs:RI P t=true:=h2.symm
     unfold RI at hs
     split at hs
     ·rename_i fs hk
      unfold nk at hok
      rw[hk]at hok
      obtain⟨cs,rfl,_⟩:=hok
      exact⟨cs.toList,by simp,hy⟩
     ·cases hs
    |false=>
     have hs:RI P t=false:=h2.symm
     rw[aQu h1 hs hok]at hy
     exact hy
theorem aJI(hl:laidOutB P=true){W':World}(hb:Below W.heap.size W W'):∀(ts:List TypeId) (vs:List Value) (ds:List (DataW H)) (ps:List MemPlace),(ts.all fun t=>P.readableRec t&&decide (t<P.types.size))=true ->
  DataW.TrodAll enc P W 0 (fun _=>true) true ts vs ds ps->(∀x∈ps,x.block<W.heap.size)->DataW.TrodAll enc P W' 0 (fun b=>decide (b<W.heap.size)) true ts vs ds ps
 | [],vs,ds,ps,_,h,_=>by
  cases vs<;>cases ds<;>simp[DataW.TrodAll]at h⊢
  exact h
 |t::ts,vs,ds,ps,hr,h,hlt=>by
  cases vs with
  |nil=>simp[DataW.TrodAll]at h
  |cons v vs=>
   cases ds with
   |nil=>simp[DataW.TrodAll]at h
   |cons d ds=>
    obtain⟨p,q,hp,hq,rfl⟩:=h
    simp only[mm,ae,decide_eq_true_eq]at hr
    exact⟨p,q,Below.trod hl hr.1.1 hr.1.2 hp hb (fun x hx=>hlt x (cn.2 (.inl hx))),
     aJI hl hb ts vs ds q hr.2 hq (fun x hx=>hlt x (cn.2 (.inr hx))),rfl⟩
theorem glob_of{n:String}{g:Nat}{t e:TypeId}{m k:Nat}{τ:Shape}{ds:List (DataW Unit)}{xs:List (Ab τ)}{r:List (String×DataW Unit)}{ps:List MemPlace}
  (hL:DataW.LaidVars P W ((n,.agg ds)::r) ps) (hg:P.globalNamed n=some g) (ht:(P.globals[g]?).map (·.type)=some t) (hu:P.underlying t=some (.array m e)) (hc:P.cellsOf e=τ.width) (hf:CE P k e τ=true)
  (hx:ds.map (EY τ).1=xs.map some) :
  (g<W.heap.size/\∃vs T fz,W.heap[g]? = some (.cells vs T fz)/\Rows W (fun q=>q<W.heap.size) τ vs 0 xs)/\∃ps',DataW.LaidVars P W r ps':=by
 obtain⟨g',t',cs,fuel,p,q,h1,h2,h3,h4,h5,_⟩:=hL;rw[hg]at h1;cases h1;rw[ht]at h2;cases h2;refine⟨?_,q,h5⟩;unfold World.var? at h3;rw[hg]at h3;simp only[Option.bind_some]at h3;split at h3
 ·rename_i c T fz hh;cases h3;refine⟨(cp.1 hh).1,cs,T,fz,hh,?_⟩;obtain⟨ys,m',rfl,hy,hl,hyl,hel⟩:=DataW.trod_array hu h4;simp only[ce,DataW.agg.injEq]at hy;intro i x hi;have hxl:xs.length=m:=by
   have:=congrArg List.length hx;simp[hy.1,hyl]at this;omega
  have him:i<m:=by rw[←hxl];exact(ao.1 hi).1
  have he:=hel i him;have hyi:ys[i]? = some (ys[i]'(by omega)):=av (by omega);rw[hyi,hc]at he;obtain⟨x',h6,h7⟩:=cC k m' e τ _ _ _ hf he;have hd:(EY τ).1 (ys[i]'(by omega)).1=some x:=by
   have:=congrArg (·[i]?) hx;simp only[List.getElem?_map,hy.1,hyi,hi,Option.map_some]at this;exact jn this
  have:=h7 x hd;subst this;refine⟨_,h6,fun j v hj=>?_⟩;rw[List.getElem?_take]at hj;split at hj
  ·rw[List.getElem?_drop]at hj;simpa using hj
  ·cases hj
 ·cases h3
theorem aXC {G : List (Nat × Sigma fun τ => List (Ab τ))} {f : FuncId} {I : Aa} {T : DenS I -> Option (DenS [(false, .bool)])} {d : DenS [(false, .bool)]} (hS : Sound P G f (Ai I [(false, .bool)] T d)) {x : DenS I} (hT : T x = some (true, ())) (hcal : ∃ fn, P.funcs[f]? = some fn /\ fn.body.isNone = false /\ (fn.name == "runtime.NumGoroutine") = false) {W : World} {args : Array Value}
  (hG:GlobsOk G W fun q=>q<W.heap.size) (ha:B0 W (fun q=>q<W.heap.size) I x args.toList []):Calls P f args W fun e W'=>e=.returned (.bool true)/\Below W.heap.size W W':=by
 have:=hS.calls x (by show(T x).isSome=true;rw[hT];rfl) W (fun q=>q<W.heap.size) args.toList [] (fun q h=>h) hG ha List.nodup_nil (fun r h=>by simp at h)
 rw[Array.toArray_toList]at this
 have this:=this.resolve_right (fun⟨v,hv,_⟩=>by rw[dY hcal]at hv;cases hv)
 refine this.2.mono fun e W' ⟨zs,rs',he,hb,_,_,hz⟩=>⟨?_,⟨hb.os,hb.tape,hb.output,hb.size,fun k hk=>hb.block k hk (fun h=>by simp at h)⟩⟩
 obtain⟨y,ys,r1,r2,rfl,_,⟨_,h1⟩,rfl,_⟩:=hz
 have h2:[y]=[Value.bool ((T x).getD d).1]:=h1
 rw[hT]at h2
 cases h2
 exact he
theorem law_post{G:List (Nat×Sigma fun τ=>List (Ab τ))}{f:FuncId}{fn:Func}{I:Aa}{T:DenS I->Option (DenS [(false,.bool)])}{d:DenS [(false,.bool)]}{s:ChangeSpec}{n:Nat}{tb:TypeId}
  (hS : Sound P G f (Ai I [(false, .bool)] T d)) (hT : ∀ x, wfS I x -> T x = some (true, ())) (hcal : ∃ fn, P.funcs[f]? = some fn /\ fn.body.isNone = false /\ (fn.name == "runtime.NumGoroutine") = false) (hlay : laidOutB P = true) (hfit : Tk P n fn.params.toList I = true)
  (hread:(fn.params.toList.all fun t=>P.readableRec t&&decide (t<P.types.size))=true) (hres:fn.resultTypes=#[tb]) (hbool:P.underlying tb=some .bool) (hvars:s.vars=[])
  (hspec:∀ds:List (DataW H),ds.length=fn.params.toList.length->s.fn H ds={results:=[.lit (.bool true)],args:=ds})
  {W:World} {base:Nat} {args:Array Value} {ds gs:List (DataW H)} {before:List MemPlace}
  (hval:∀(j:Nat) (t:TypeId) (v:Value),fn.params[j]? = some t->args[j]? = some v->nk P W .any base t v)
  (hW:DataW.Whole enc P fn.params.toList s.vars false W args.toList ds gs before) (hG:GlobsOk G W fun q=>q<W.heap.size) :
  Calls P f args W fun e W'=>∃v,e=.returned v/\ChangeSpec.post enc P fn s false true false false W args v W':=by
 have hW':=hW
 obtain⟨p,q,hA,hV,rfl,_,_⟩:=hW
 rw[hvars]at hV
 obtain⟨rfl,rfl⟩:=trodVars_none hV
 obtain⟨x,hx,hw,hlen⟩:=aD2 (b0:=base) fn.params.toList I args.toList ds p hfit (fun j t v ht hv=>hval j t v (by simpa using ht) (by simpa using hv)) hA
 refine(aXC hS (hT x hw) hcal hG hx).mono fun e W' ⟨he,hb⟩=>⟨.bool true,he,ds,[],p++[],[],p,[],hW',?_,?_,?_,hb.frame _,fun h=>by cases h⟩
 ·rw[cz,hspec ds hlen,hres]
  exact trodAll_mk1 (shut_bool hbool true)
 ·rw[cz,hspec ds hlen]
  exact aJI hlay hb _ _ _ _ hread hA fun y hy=>by simpa using hW'.lt y (by simpa using hy)
 ·rw[cz,hspec ds hlen,hvars]
  rfl
end
theorem globs_nil{W:World}{S:Nat->Prop}:GlobsOk [] W S:=fun _ _ _ h=>by simp[LD]at h
theorem globs_cons{W:World}{S:Nat->Prop}{g:Nat}{τ:Shape}{xs:List (Ab τ)}{G:List (Nat×Sigma fun τ=>List (Ab τ))}(h:S g/\∃vs T fz,W.heap[g]? = some (.cells vs T fz)/\Rows W S τ vs 0 xs)(r:GlobsOk G W S):
  GlobsOk ((g,⟨τ,xs⟩)::G) W S:=fun g' τ' xs' hf=>by
 simp only[LD]at hf
 cases hb:Nat.beq g g' with
 |true=>
  have:=Nat.eq_of_beq_eq_true hb
  subst this
  rw[hb]at hf
  simp only[cond_true,ab]at hf
  cases hf
  exact h
 |false=>
  rw[hb]at hf
  exact r g' τ' xs' hf
end Vx
end
