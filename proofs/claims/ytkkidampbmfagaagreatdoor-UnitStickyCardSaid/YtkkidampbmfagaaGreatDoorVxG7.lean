/- Part 7 of the proof. What is proved: symbolic execution of the functions, proved sound; what each function of the program computes, and that every run ends with it; what these functions compute, in plain numbers. Conditions: each theorem bears its own. -/
import Derived.Test.YtkkidampbmfagaaGreatDoorVxG6
set_option linter.all false
set_option exponentiation.threshold 1000000
noncomputable section
open Bool renaming and_eq_true->ai,and_false->bm,and_self->bf,and_true->bw,eq_false_iff->nh,eq_iff_iff->cu,false_and->az,false_or->bp,not_eq_true'->dm,not_false->bd,not_true->bg,or_assoc->pe,or_comm->oe,or_eq_false_iff->dv,or_eq_true->dl,or_false->ci,or_self->bq,or_true->br,true_and->bh,true_or->be
open Classical renaming not_not->di
open Go.IntKind renaming wrap->aa
open Int renaming add_zero->jn,eq_ofNat_of_zero_le->cw,le_refl->jy,natAbs_mul->ql,natAbs_natCast->iv,natCast_mul->jf,neg_mul->qt,sub_self->jo,tmod->jp,toNat->aj,toNat_natCast->ab,toNat_zero->bi,zero_add->qq
open List renaming all_append->lr,all_cons->jw,all_eq_false->ky,append_assoc->fj,append_nil->dp,drop_of_length_le->ji,drop_zero->lx,getD_eq_getElem?_getD->al,getElem?_append_left->co,getElem?_append_right->cj,getElem_mem->gx,length_replicate->fx,length_set->iq,mem_append->cz,mem_cons->cx,mem_of_mem_drop->lc,mem_of_mem_take->fd,mem_replicate->pf,mem_singleton->gz,replicate->ax,set_append_left->ml,set_append_right->gh,take_append_drop->kt,take_length->dj,take_of_length_le->cv,take_succ_eq_append_getElem->fe
open Nat renaming add_comm->jc,add_mod->qu,add_mul->cp,add_sub_cancel_left->ka,add_zero->de,div_add_mod->ck,div_div_eq_div_mul->dk,div_eq_of_lt->bu,div_le_self->dx,div_lt_iff_lt_mul->cn,div_mul_le_self->kb,div_one->ms,eq_zero_or_pos->bj,le_div_iff_mul_le->ks,le_mul_of_pos_right->dz,le_of_lt_succ->pk,le_refl->cg,le_trans->fk,lt_of_le_of_lt->av,lt_of_lt_of_le->ah,lt_of_mul_lt_mul_left->ip,lt_of_mul_lt_mul_right->jj,lt_or_ge->au,lt_trans->jd,mod_eq_of_lt->ar,mod_lt->bo,mod_mul_mod->og,mod_two_eq_zero_or_one->ik,mul_add->bt,mul_add_div->jh,mul_add_mod->kv,mul_assoc->ao,mul_comm->aq,mul_div_cancel->ki,mul_div_cancel_left->ga,mul_div_mul_right->gj,mul_le_mul->io,mul_le_mul_left->ce,mul_le_mul_right->ay,mul_left_comm->fu,mul_lt_mul_of_pos_left->gw,mul_lt_mul_of_pos_right->cm,mul_mod_mul_right->fb,mul_ne_zero->lq,mul_one->gf,mul_pos->gd,mul_right_comm->jm,mul_zero->fm,ne_of_gt->lz,one_mul->fi,pos_of_ne_zero->iw,pow_add->ap,pow_le_pow_right->ae,pow_lt_pow_iff_right->ct,pow_mul->lv,pow_pos->iy,pow_succ->df,pow_zero->ij,sub_mul->ot,sub_self->gy,testBit_two_pow->jz,two_pow_add_eq_or_of_lt->ku,two_pow_pos->ag,zero_le->ej,zero_mul->fc
namespace VL
open Go Vx
theorem aVh(e:Int):(jp e 2 !=0)=decide (e%2=1):=by
 have:jp e 2=0↔e%2=0:=by
  rw[←Int.dvd_iff_tmod_eq_zero,Int.dvd_iff_emod_eq_zero]
 rw[cu,bne_iff_ne,decide_eq_true_eq];omega
theorem aQ1(z:Int)(h:-1000000<=z/\z<=1000000):BC .i64 (2*z) 2=z:=by
 unfold BC;rw[Int.mul_tdiv_cancel_left z (by decide)];exact As (by omega)
theorem aLs(n:Nat)(hn:n<2^128):YH ((((0:Int),((0:Int),((),()))),(Wi n,())):Pat.D GQ)=some (.inl (((AA n:Int),((),())),(Wi n,()))):=by
 have hb:AA n<2^64:=uP (k:=64) hn;have key:=Dc (aFM Du.pre Du.F C1.pre C1.F) (fun x=>64-x.1.1.toNat)
  (fun x=>∃i:Nat,i<=64/\x=(((i:Int),(((AA n/2^(64-i)*2^(64-i):Nat):Int),((),()))),(Wi n,())))
  (fun _=>.inl (((AA n:Int),((),())),(Wi n,()))) ?_ _ ⟨0,by omega,by rw[bu hb]⟩
 ·exact key
 intro L x hx hL;obtain⟨i,hi,rfl⟩:=hx;unfold Vg;rcases au i 64 with hlt|hge
 ·have e5:aa .i64 ((63:Int)-(i:Int))=((63-i:Nat):Int):=by rw[As (by omega)];omega
  have e6:aa .i64 ((i:Int)+1)=((i+1:Nat):Int):=by rw[As (by omega)];omega
  have e7:decide ((0:Int)<=((63-i:Nat):Int))=true:=decide_eq_true (by omega);have e8:decide ((i:Int)<64)=true:=decide_eq_true (by omega);have es:64-i=(63-i)+1:=by omega
  rw[es];generalize hs:63-i=s at *
  have hs63:s<=63:=by omega
  have hsh:=M9 hs63;have hp:=ag s;have hd:AA n/2^(s+1)=AA n/2^s/2:=by rw[df,dk]
  have hdm:=ck (AA n) (2^s);have hml:=bo (AA n) hp;have hps:2^(s+1)=2^s*2:=df ..;generalize hc:AA n/2^s=c at *
  have hcle:c*2^s<=AA n:=by rw[aq];omega
  have e1:c/2*2^(s+1)=2^s*(2*(c/2)):=by rw[hps,aq,ao]
  have hw:A7 .u64 ((c/2*2^(s+1):Nat):Int) ((2^s:Nat):Int)=((2^s*(2*(c/2)+1):Nat):Int):=by
   have hlt2:2^s*(2*(c/2)+1)<2^64:=by
    have h1:AA n<2^s*(c+1):=by rw[bt,gf];omega
    have h2:2^s*(c+1)<=2^64:=by
     have e:2^64=2^s*2^(64-s):=by rw[←ap];congr 1;omega
     have h3:c<2^(64-s):=by
      rw[e]at hb;have:2^s*c<2^s*2^(64-s):=by omega
      exact ip this
     rw[e];exact ce _ h3
    have e2:2^64=2^(s+1)*2^(63-s):=by rw[←ap];congr 1;omega
    have h4:c/2<2^(63-s):=by
     have h3:2^s*c<2^64:=by omega
     rw[e2,hps,ao]at h3;have:=ip h3;omega
    have h5:2^s*(2*(c/2)+1)<2^s*(2*(c/2+1)):=gw (by omega) hp;have h6:2^s*(2*(c/2+1))<=2^64:=by
     rw[e2,hps,ao];exact ce _ (ce _ h4)
    omega
   have ha:c/2*2^(s+1)<2^64:=by
    rw[e1];have:=ce (2^s) (show 2*(c/2)<=2*(c/2)+1 by omega);omega
   rw[VQ ha (Nat.pow_lt_pow_right (by decide) (by omega))];congr 1;have:=ku (i:=s+1) (b:=2^s) (by rw[hps];omega) (c/2);rw[aq (c/2),←this,hps,bt,gf,ao]
  have hW:2^s*(2*(c/2)+1)<2^64:=by
   have h3:2^s*c<2^64:=by omega
   have e:2^64=2^s*(2*2^(63-s)):=by rw[←ao,←df,←ap];congr 1;omega
   rw[e]at h3⊢;have h4:=ip h3;exact gw (by omega) hp
  have p0:=pI hW hW;have p1:=zG (2^s*(2*(c/2)+1)*(2^s*(2*(c/2)+1))) n;have hle:decide ((if 2^s*(2*(c/2)+1)*(2^s*(2*(c/2)+1))=n then(0:Int)else if 2^s*(2*(c/2)+1)*(2^s*(2*(c/2)+1))<n then -1 else 1)<=0)=decide (c%2=1):=by
   have h1:2^s*(2*(c/2)+1)*(2^s*(2*(c/2)+1))<=n↔c%2=1:=by
    constructor
    ·intro h;have h2:=uQ h;have h3:2^s*(2*(c/2)+1)<2^s*(c+1):=by rw[bt (2^s) c,gf];omega
     have:=ip h3;omega
    ·intro h;have e:2*(c/2)+1=c:=by omega
     rw[e,aq (2^s) c];exact fk (jF hcle) (iF n)
   rw[cu,decide_eq_true_eq,decide_eq_true_eq,←h1];split
   ·omega
   ·split<;>omega
  dsimp only;simp only[e5,e6,e7,e8,hd,hsh,hw,cond_true,v3 p0,t6 p0,aGI p1,aEA p1,hle];by_cases hc1:c%2=1
  ·rw[decide_eq_true hc1,cond_true];have e:2*(c/2)+1=c:=by omega
   rw[e];exact hL _ ⟨i+1,by omega,by rw[show 64-(i+1)=s by omega,hc,aq]⟩ (by simp only[ab];omega)
  ·rw[decide_eq_false hc1,cond_false];have e:2*(c/2)=c:=by omega
   rw[e1,e];exact hL _ ⟨i+1,by omega,by rw[show 64-(i+1)=s by omega,hc,aq]⟩ (by simp only[ab];omega)
 ·have e:i=64:=by omega
  subst e;have e8:decide (((64:Nat):Int)<64)=false:=rfl;simp only[e8,cond_false,gy,ij,ms,gf]
theorem aLJ{a b:Nat}:(((Wi a).1==(Wi b).1)&&((Wi a).2.1==(Wi b).2.1))=decide (a=b):=by
 show(((a/2^64:Nat):Int)==((b/2^64:Nat):Int)&&((a%2^64:Nat):Int)==((b%2^64:Nat):Int))=_;rw[Is,Is,cu,ai,beq_iff_eq,beq_iff_eq,decide_eq_true_eq];omega
theorem aKw(n:Nat)(hn:n<2^128):TZ (Wi n,())=some ((AA n:Int),decide (AA n*AA n=n),()):=by
 have hb:AA n<2^64:=uP (k:=64) hn;show k8 Du.pre Du.F C1.pre C1.F YH (Wi n)=_;unfold k8;have hw:=aLs n hn;have p0:=pI hb hb;show Vx.AY (YH (((0:Int),((0:Int),((),()))),(Wi n,()))) _=_;rw[hw];show(bif C1.pre ((AA n:Int),((AA n:Int),()))then some ((AA n:Int),((((C1.F ((AA n:Int),((AA n:Int),()))).1.1==(Wi n).1)&&((C1.F ((AA n:Int),((AA n:Int),()))).1.2.1==(Wi n).2.1)),()))else none)=_;simp only[v3 p0,t6 p0,cond_true];exact congrArg (fun b:Bool=>some ((AA n:Int),(b,()))) aLJ
theorem aKv{n:Nat}(hn:n<2^64):Xo (((0:Int),((n:Int),())),())=some ((An n:Int),()):=by
 show kX Bx.pre Bx.F ((0:Int),((n:Int),()))=_;unfold kX;have p0:=TX n hn;simp only[bne_self_eq_false,cond_false,VX p0,UW p0,cond_true]
theorem aKu{f:Int}{a:Nat}(h:Am f a=0):Xn (f,Bt f,(a:Int),())=some ((Ad f a:Int),Ag f a,()):=by
 obtain⟨hf,h0⟩:=CT h;show kW Br.pre Br.F f (Bt f) a=_;unfold kW;have h1:=DJ hf;have h2:=EX hf;have h3:=Eg hf;have h4:=Ik hf;have h5:=Ff hf;have h6:=SU hf;have hE:=SQ hf a;have hM:=VF f a;have hPp:2^(fP f-1)<=2^52:=ae (by decide) (by omega);have p98:=So h;have r2:(Bt f).2.1=(fP f:Int):=rfl;have r3:(Bt f).2.2.1=1-(fX f:Int):=rfl;have e2:aa .i64 ((fP f:Int)-1)=((fP f-1:Nat):Int):=Bo _ (by omega);have e3:AQ .u64 1 ((fP f-1:Nat):Int)=((2^(fP f-1):Nat):Int):=M9 (by omega);have e4:A7 .u64 (mF f a:Int) ((2^(fP f-1):Nat):Int)=((mF f a+2^(fP f-1):Nat):Int):=by
  have:=FR (a:=mF f a) (b:=1) (k:=fP f-1) hM (by omega);rwa [fi]at this
 have hE2:eF f a<65536:=by
  have:=aD4 (f:=f) a;have e:BI f=2*fX f+1:=by unfold BI;rw[←aD8 hf]
  omega
 have e5:∀k:Nat,k<65536->aa .i64 (aa .i64 (aa .i64 (aa .i64 (aa .i64 (k:Int)-1)+(1-(fX f:Int)))-(fP f:Int))+1)=(k:Int)-1+(1-(fX f:Int))-(fP f:Int)+1:=fun k hk=>by
  rw[As (n:=(k:Int)) (by omega),As (n:=(k:Int)-1) (by omega),As (n:=(k:Int)-1+_) (by omega),As (n:=(k:Int)-1+_-_) (by omega),As (by omega)]
 have e6:=e5 1 (by decide);rw[show((1:Nat):Int)=1 from rfl]at e6;dsimp only;simp only[r2,r3,e2,AV,cond_true,Tj p98,S6 p98,e3,e4,e6,e5 _ hE2,FM];unfold Ad Ag;by_cases hz:eF f a=0
 ·rw[hz,if_pos rfl,if_pos rfl];show some ((mF f a:Int),((1:Int)-1+(1-(fX f:Int))-(fP f:Int)+1,()))=_;rw[show(1:Int)-1+(1-(fX f:Int))-(fP f:Int)+1=1-(fX f:Int)-(fP f:Int)+1+0 by omega]
 ·have:(eF f a==0)=false:=by simpa using hz
  rw[this,cond_false,if_neg hz,if_neg hz];rw[show(eF f a:Int)-1+(1-(fX f:Int))-(fP f:Int)+1=1-(fX f:Int)-(fP f:Int)+1+((eF f a:Int)-1) by omega]
def CD(f:Int)(l:List Nat):Bool:=l.all fun a=>Am f a==0
theorem UN{f:Int}(hf:Fm f)(a:Nat):Am f a=0∨Am f a=4:=by
 unfold Am;rw[if_pos hf];split<;>simp
theorem aLr{f:Int}(hf:Fm f)(l:List Nat)(hl:∀a∈l,a<2^64)(hlen:l.length<1000)(z r:Aa (.pair (.int .i64) (.pair (.int .i64) (.pair (.int .i64) (.pair (.int .i64) (.unit)))))):
  YG ((((l.length:Int),(Wd l,(f,((0:Int),((),((),())))))),(z,(r,()))):Pat.D GP)=some (bif CD f l then .inl (((),((),())),(z,(r,())))else .inr (((),((4:Int),())),(r,()))):=by
 have key:=Dc (aFL Aq.pre Aq.F Ar.pre Ar.F) (fun x=>l.length-x.1.2.2.2.1.toNat)
  (fun x=>∃i:Nat,i<=l.length/\CD f (l.take i)=true/\x=(((l.length:Int),(Wd l,(f,((i:Int),((),((),())))))),(z,(r,()))))
  (fun _=>bif CD f l then .inl (((),((),())),(z,(r,())))else .inr (((),((4:Int),())),(r,()))) ?_ _ ⟨0,ej _,rfl,rfl⟩
 ·exact key
 intro L x hx hL;obtain⟨i,hi,hok,rfl⟩:=hx;unfold Vf;rcases au i l.length with hlt|hge
 ·have hg:l.getD i 0=l[i]:=by simp[al,hlt]
  have hmem:l[i]∈l:=gx hlt;have ha:=hl _ hmem;have p0:=En f l[i] ha;have e0:decide ((i:Int)<(l.length:Int))=true:=decide_eq_true (by omega);have e1:(decide ((0:Int)<=(i:Int))&&decide ((i:Int)<((Wd l).length:Int)))=true:=by rw[Az,decide_eq_true (by omega),decide_eq_true (by omega)];rfl
  have e2:(Wd l).getD (aj (i:Int)) 0=((l[i]:Nat):Int):=by rw[ab,BZ,hg]
  have e3:aa .i64 ((i:Int)+1)=((i+1:Nat):Int):=by rw[As (by omega)];omega
  have htk:l.take (i+1)=l.take i++[l[i]]:=by rw[fe hlt]
  dsimp only;simp only[e0,e1,e2,e3,cond_true,DC p0,Dz p0];by_cases hc:Am f l[i]=0
  ·rw[hc,bne_self_eq_false,cond_false];refine hL _ ⟨i+1,by omega,?_,rfl⟩ (by simp only[ab];omega);unfold CD at hok⊢;rw[htk,lr,hok,jw,hc];rfl
  ·have h4:Am f l[i]=4:=(UN hf _).resolve_left hc;have hno:CD f l=false:=by
    unfold CD;rw[ky];exact⟨l[i],hmem,by rw[h4];decide⟩
   rw[h4,hno];rfl
 ·have e:i=l.length:=by omega
  subst e;rw[dj]at hok;have e0:decide ((l.length:Int)<(l.length:Int))=false:=decide_eq_false (by omega);simp only[e0,cond_false];rw[hok];rfl
def AT(f m:Int)(l:List Nat):Int:=if ¬Fm f then 2 else if m<0∨m>5 then 3 else bif CD f l then 0 else 4
theorem aKs{f m:Int}(hf:Fm f)(l:List Nat)(hl:∀a∈l,a<2^64)(hlen:l.length<1000):TY (f,m,Wd l,())=some (Bt f,AT f m l,()):=by
 show Wb Aq.pre Aq.F Ar.pre Ar.F YG f m (Wd l)=_;unfold Wb AT;have p0:=FE hf;rw[if_neg (show ¬¬Fm f from fun h=>h hf)];simp only[Dd p0,C9 p0,cond_true,bne_self_eq_false,cond_false];by_cases hm:m<0∨m>5
 ·have:(decide (m<0)||decide (m>5))=true:=by rw[dl,decide_eq_true_eq,decide_eq_true_eq];exact hm
  rw[this,if_pos hm];rfl
 ·have:(decide (m<0)||decide (m>5))=false:=by rw[dv,decide_eq_false_iff_not,decide_eq_false_iff_not];omega
  rw[this,if_neg hm,cond_false,Az,aLr hf l hl hlen];cases CD f l<;>rfl
theorem aKr{f m:Int}(hf:¬Fm f)(l:List Nat):TY (f,m,Wd l,())=some ((0,0,0,0,()),2,()):=by
 show Wb Aq.pre Aq.F Ar.pre Ar.F YG f m (Wd l)=_;unfold Wb;have p0:=GZ hf;simp only[Dd p0,C9 p0,cond_true];rfl
theorem aKt{f:Int}(hf:Fm f)(c:Int):Xm (f,c,())=some (bif c==1 then((CC f:Int),0,true,())else bif(c==0||c==2||c==3||c==4)then((CC f:Int),1,true,())else((0:Int),0,false,())):=by
 show kV AB.pre AB.F f c=_;unfold kV;have p0:=Eo hf;simp only[FS p0,FI p0,cond_true];cases c==1<;>cases c==0<;>cases c==2<;>cases c==3<;>cases c==4<;>rfl
theorem aMp{f:Int}(hf:Fm f)(a:Nat):(Av f a==2||Av f a==3||Av f a==4)=(sF f a&&!AK f a&&!nan f a):=by
 have hfull:=RD hf;unfold Av AK nan;simp only[bne];cases h1:eF f a==BI f<;>cases h2:mF f a==0<;>cases sF f a<;>cases h3:eF f a==0<;>cases mF f a/2^(fP f-2)==0<;>first|rfl|(exfalso;rw[beq_iff_eq]at h1 h3;omega)
theorem aMu{f:Int}(hf:Fm f)(a:Nat):(Av f a==9)=(Au f a&&!sF f a):=by
 have hfull:=RD hf;unfold Av Au;simp only[bne];cases h1:eF f a==BI f<;>cases h2:mF f a==0<;>cases sF f a<;>cases h3:eF f a==0<;>cases mF f a/2^(fP f-2)==0<;>first|rfl|(exfalso;rw[beq_iff_eq]at h1 h3;omega)
def Tm(f m:Int)(n:Nat)(e:Int):Nat×Nat:=if e%2=1 then M6 f m (n*2*2^200) ((e-1)/2-100)else M6 f m (n*2^200) (e/2-100)
def Tr(f m:Int)(a:Nat):Int×Int×Int×Unit:=if AT f m [a]≠0 then(0,0,AT f m [a],())else bif nan f a then((CC f:Int),(bif AG f a then 1 else 0),0,())else bif sF f a&&!AK f a then((CC f:Int),1,0,())else bif AK f a||Au f a then((a:Int),0,0,())else(((Tm f m (Ad f a) (Ag f a)).1:Int),((Tm f m (Ad f a) (Ag f a)).2:Int),0,())
theorem SK{f m:Int}{l:List Nat}(h:AT f m l=0):Fm f/\(0<=m/\m<=5)/\∀a∈l,Am f a=0:=by
 unfold AT at h;by_cases hf:Fm f
 ·rw[if_neg (show ¬¬Fm f from fun h=>h hf)]at h;by_cases hm:m<0∨m>5
  ·rw[if_pos hm]at h;cases h
  ·rw[if_neg hm]at h;refine⟨hf,by omega,?_⟩;cases hk:CD f l
   ·rw[hk]at h;cases h
   ·unfold CD at hk;rw[List.all_eq_true]at hk;exact fun a ha=>by simpa using hk a ha
 ·rw[if_pos hf]at h;cases h
theorem aTY{f m:Int}(hf:Fm f){n:Nat}(h0:n≠0)(hn:n<2^64)(e:Int)(s:Nat)(hs:An n+s=126∨An n+s=127)(hpar:(e-s)%2=0):
  Tm f m n e=M6 f m (n*2^s) ((e-s)/2)/\63<=An (AA (n*2^s))/\n*2^s<2^128:=by
 have hPl:=Ff hf;have hb:=Fb hn;have hb1:=JZ h0;have hle:=JY h0;have hlt:=G8 n;have hlow:2^(2*62)<=n*2^s:=by
  have:2^(An n-1)*2^s<=n*2^s:=ay _ hle;rw[←ap]at this;exact fk (ae (by decide) (by omega)) this
 have hbl:=aOy hlow;have hX0:n*2^s≠0:=fun h=>by rw[h]at hlow;exact absurd hlow (by decide)
 have hup:n*2^s<2^128:=by
  have:n*2^s<2^An n*2^s:=cm hlt (ag s);rw[←ap]at this;exact ah this (ae (by decide) (by omega))
 refine⟨?_,hbl,hup⟩;unfold Tm;by_cases ho:e%2=1
 ·rw[if_pos ho];obtain⟨k,hk⟩:∃k,s+2*k=201:=⟨(201-s)/2,by omega⟩
  have:=aHu (f:=f) (m:=m) (k:=k) (E:=(e-s)/2) hf hX0 (by omega);rw[←this];have e1:n*2*2^200=n*2^s*(2^k*2^k):=by
   rw[ao n 2,show 2*2^200=2^201 by decide,←hk,←ap,show k+k=2*k by omega,ap,ao]
  rw[e1,show(e-1)/2-100=(e-(s:Int))/2-(k:Int) by omega]
 ·rw[if_neg ho];obtain⟨k,hk⟩:∃k,s+2*k=200:=⟨(200-s)/2,by omega⟩
  have:=aHu (f:=f) (m:=m) (k:=k) (E:=(e-s)/2) hf hX0 (by omega);rw[←this];have e1:n*2^200=n*2^s*(2^k*2^k):=by
   rw[←hk,←ap,show k+k=2*k by omega,ap,ao]
  rw[e1,show e/2-100=(e-(s:Int))/2-(k:Int) by omega]
theorem aKx(f m:Int){a:Nat}(ha:a<2^64):Xr (f,m,(a:Int),())=some (Tr f m a):=by
 show k9 Qn.pre Qn.F AD.pre AD.F Qo.pre Qo.F Qp.pre Qp.F Qq.pre Qq.F AE.pre AE.F Qr.pre Qr.F A3.pre A3.F f m a=_;unfold k9 Tr;rw[show((a:Int)::[])=Wd [a]from rfl];by_cases hf:Fm f;case neg=>
  have p0:=aKr (m:=m) hf [a];have e0:AT f m [a]=2:=by unfold AT;rw[if_pos hf]
  rw[e0];simp only[v0 p0,t5 p0,cond_true];rfl
 have p0:=aKs (m:=m) hf [a] (fun b hb=>by rw[gz]at hb;omega) (show(1:Nat)<1000 by decide);by_cases hk:AT f m [a]≠0
 ·rw[if_pos hk];have:(AT f m [a]!=0)=true:=bne_iff_ne.2 hk;simp only[v0 p0,t5 p0,cond_true,this]
 have hk:AT f m [a]=0:=di.1 hk;obtain⟨_,hm,hc⟩:=SK hk;have h:=hc a (gz.2 rfl);rw[if_neg (show ¬AT f m [a]≠0 from fun h=>h hk)];rw[hk]at p0;have p1:=Gn ha h;have p2:=aKt hf (Av f a);have hcn:=Hb f a;have hcs:=Fc f a;have hcb:=aMp hf a;have hcz:=Zf hf a;have hcu:=aMu hf a;simp only[v0 p0,t5 p0,cond_true,bne_self_eq_false,cond_false,DB p1,Dy p1,aQb p2,aNz p2];cases hn:nan f a;case true=>
  cases hs:AG f a
  ·rw[hs]at hcs;rw[hn,hcs,ci]at hcn;rw[hcn];rfl
  ·rw[hs]at hcs;have h1:(Av f a==1)=false:=by
    rw[beq_iff_eq]at hcs;rw[hcs];rfl
   rw[h1,hcs];rfl
 rw[hn,dv]at hcn;rw[hn,bd,bw]at hcb;rw[hcn.1,hcn.2,bp];simp only[cond_false];rw[hcb];cases hb:sF f a&&!AK f a;case true=>rfl
 simp only[cond_false];have e1:((Av f a==9)||(Av f a==6)||(Av f a==5))=(AK f a||Au f a):=by
  rw[pe,oe (Av f a==6),hcz,hcu];cases hz:AK f a
  ·rw[hz,bd,bw]at hb;rw[hb];cases Au f a<;>rfl
  ·rw[br,be]
 rw[e1];cases hzi:AK f a||Au f a;case true=>rfl
 simp only[cond_false];rw[dv]at hzi;have h0:=Kh hzi.1;have hml:=FL hf a;have hx:=Gz hf a;have h64:Ad f a<2^64:=ah hml (ae (by decide) (by decide));have hbl:=Fb hml;have hbl1:=JZ h0;have p3:=aKu h;have p4:=aKv h64;have hWi:((0:Int),((Ad f a:Int),()))=Wi (Ad f a):=by
  unfold Wi;rw[bu h64,ar h64];rfl
 rw[hWi]at p4;generalize hs:126-An (Ad f a)=s at *
 have e12:aa .i64 ((126:Int)-(An (Ad f a):Int))=(s:Int):=by rw[As (by omega)];omega
 have e11:aa .i64 ((s:Int)+1)=((s+1:Nat):Int):=by rw[As (by omega)];omega
 have e13:aa .i64 (Ag f a-(s:Int))=Ag f a-(s:Int):=As (by omega);have e14:aa .i64 (Ag f a-((s+1:Nat):Int))=Ag f a-((s+1:Nat):Int):=As (by omega);have go:∀t:Nat,(An (Ad f a)+t=126∨An (Ad f a)+t=127)->(Ag f a-t)%2=0 ->
   Q4 (Wi (Ad f a),(t:Int),())=some (Wi (Ad f a*2^t),()) /\
   TZ (Wi (Ad f a*2^t),())=some ((AA (Ad f a*2^t):Int),decide (AA (Ad f a*2^t)*AA (Ad f a*2^t)=Ad f a*2^t),()) /\
   BC .i64 (Ag f a-(t:Int)) 2=(Ag f a-(t:Int))/2 /\
   R9 (f,m,false,((0:Int),((AA (Ad f a*2^t):Int),())),(Ag f a-(t:Int))/2,!decide (AA (Ad f a*2^t)*AA (Ad f a*2^t)=Ad f a*2^t),()) =
    some (((Tm f m (Ad f a) (Ag f a)).1:Int),((Tm f m (Ad f a) (Ag f a)).2:Int),0,()):=fun t ht hp=>by
  obtain⟨r1,r2,r3⟩:=aTY (m:=m) hf h0 h64 (Ag f a) t ht hp;have q1:=pD (Ad f a) t (ah h64 (ae (by decide) (by decide)));rw[ar r3]at q1;have hq:BC .i64 (Ag f a-(t:Int)) 2=(Ag f a-(t:Int))/2:=by
   have:=aQ1 ((Ag f a-(t:Int))/2) (by omega);rw[show 2*((Ag f a-(t:Int))/2)=Ag f a-(t:Int) by omega]at this;exact this
  have hr64:AA (Ad f a*2^t)<2^64:=uP (k:=64) r3;have hr0:AA (Ad f a*2^t)≠0:=fun h=>by
   rw[h]at r2;have:An 0=0:=rfl;omega
  have hPl:=Ff hf;have q4:=LV hf hm false (AA (Ad f a*2^t)) (ah hr64 (ae (by decide) (by decide))) ((Ag f a-(t:Int))/2) (by omega) (!decide (AA (Ad f a*2^t)*AA (Ad f a*2^t)=Ad f a*2^t)) (fun _=>by omega);rw[if_neg hr0,←aTX hf (by omega),←r1]at q4;have hWr:Wi (AA (Ad f a*2^t))=((0:Int),((AA (Ad f a*2^t):Int),())):=by
   unfold Wi;rw[bu hr64,ar hr64];rfl
  rw[hWr]at q4;exact⟨q1,aKw _ r3,hq,q4⟩
 simp only[aQc p3,aNA p3,aQd p4,aNB p4,cond_true,e12,e11,e13,e14,aVh,hWi];by_cases ho:(Ag f a-(s:Int))%2=1
 ·obtain⟨q1,q2,q3,q4⟩:=go (s+1) (by omega) (by omega);rw[decide_eq_true ho];simp only[iP q1,gW q1,aGO q2,aEG q2,q3,Ix q4,In q4,cond_true]
 ·obtain⟨q1,q2,q3,q4⟩:=go s (by omega) (by omega);rw[decide_eq_false ho];simp only[iP q1,gW q1,aGO q2,aEG q2,q3,Ix q4,In q4,cond_true,cond_false]
end VL
namespace VL
open Go Vx
theorem aDR{q r yn1 yn0 u u1:Nat}(hq:q*yn1+r=u):(2^32*r+u1<q*yn0)↔u*2^32+u1<q*(yn1*2^32+yn0):=by
 rw[bt,←ao,←hq,cp];omega
theorem aDO{q r yn1 yn0 u u1:Nat}(hq:q*yn1+r=u)(hr:r<2^32)(h0:yn0<2^32)(hu1:u1<2^32)(hlt:u<yn1*2^32+yn0):
  (decide ((q:Int)>=4294967296)||decide (aa .u64 ((q:Int)*(yn0:Int))>aa .u64 (aa .u64 ((4294967296:Int)*(r:Int))+(u1:Int))))=decide (u*2^32+u1<q*(yn1*2^32+yn0)):=by
 rcases au q (2^32)with h|h
 ·have hm:q*yn0<=(2^32-1)*(2^32-1):=io (by omega) (by omega);have e1:aa .u64 ((q:Int)*(yn0:Int))=((q*yn0:Nat):Int):=xM _ _ (by omega);have e2:aa .u64 ((4294967296:Int)*(r:Int))=((2^32*r:Nat):Int):=xM (2^32) r (by omega);have e3:aa .u64 (((2^32*r:Nat):Int)+(u1:Int))=((2^32*r+u1:Nat):Int):=Ww _ _ (by omega);have e4:decide ((q:Int)>=4294967296)=false:=decide_eq_false (by omega);rw[e1,e2,e3,e4,bp,cu,decide_eq_true_eq,decide_eq_true_eq,←aDR hq];omega
 ·have e4:decide ((q:Int)>=4294967296)=true:=decide_eq_true (by omega);have hm:2^32*(yn1*2^32+yn0)<=q*(yn1*2^32+yn0):=ay _ h;rw[e4,be,decide_eq_true (by omega)]
theorem aDQ{yn1 yn0 u u1:Nat}(hy:0<yn1)(hu1:u1<2^32):u*2^32+u1<(u/yn1+1)*(yn1*2^32+yn0):=by
 have h1:u<(u/yn1+1)*yn1:=by
  have:=Nat.lt_div_mul_add hy (a:=u);rw[cp,fi];exact this
 rw[bt,←ao];omega
theorem aDP{q r yn1 yn0 u u1:Nat}(hq:q*yn1+r=u)(h:u*2^32+u1<q*(yn1*2^32+yn0)):1<=q/\(q-1)*yn1+(r+yn1)=u:=by
 have h1:1<=q:=by
  rcases bj q with h0|h0
  ·rw[h0,fc]at h;omega
  ·exact h0
 refine⟨h1,?_⟩;obtain⟨p,rfl⟩:∃p,q=p+1:=⟨q-1,by omega⟩
 rw[cp,fi]at hq;rw[show p+1-1=p by omega];omega
theorem aDN{q r yn1 yn0 u u1:Nat}(hq:q*yn1+r=u)(hr:2^32<=r)(h0:yn0<2^32)(hlt:u<yn1*2^32+yn0):q*(yn1*2^32+yn0)<=u*2^32+u1:=by
 have h1:q*yn1<2^32*yn1:=by omega
 have h2:q<2^32:=jj h1;have h3:q*yn0<=2^32*(2^32-1):=io (by omega) (by omega);have h4:¬2^32*r+u1<q*yn0:=by omega
 rw[aDR hq]at h4;omega
theorem gI{a b q:Nat}(h1:q*b<=a)(h2:a<(q+1)*b):a/b=q:=Nat.div_eq_of_lt_le h1 h2
theorem aLv{u u1 yn0 yn1:Nat}(h0:yn0<2^32)(h1:yn1<2^32)(hy:0<yn1)(hu1:u1<2^32)(hlt:u<yn1*2^32+yn0)(u0 y s:Int):
  dU ((((u%yn1:Nat):Int),((u:Int),((u1:Int),((yn0:Int),((yn1:Int),(((u/yn1:Nat):Int),(u0,(y,(s,()))))))))),()) =
   some (.inl (((u:Int),((u1:Int),((yn0:Int),((yn1:Int),((((u*2^32+u1)/(yn1*2^32+yn0):Nat):Int),(u0,(y,(s,())))))))),())):=by
 have key:=Dc (aFP BB.pre BB.F) (fun x=>x.1.2.2.2.2.2.1.toNat)
  (fun x=>∃q r:Nat,q*yn1+r=u/\r<2^32/\u*2^32+u1<(q+1)*(yn1*2^32+yn0)/\x=(((r:Int),((u:Int),((u1:Int),((yn0:Int),((yn1:Int),((q:Int),(u0,(y,(s,()))))))))),()))
  (fun _=>.inl (((u:Int),((u1:Int),((yn0:Int),((yn1:Int),((((u*2^32+u1)/(yn1*2^32+yn0):Nat):Int),(u0,(y,(s,())))))))),())) ?_ _
  ⟨u/yn1,u%yn1,by rw[aq];exact ck u yn1,jd (bo _ hy) h1,aDQ hy hu1,rfl⟩
 ·exact key
 intro L x hx hL;obtain⟨q,r,hq,hr,hup,rfl⟩:=hx;unfold Vj;have hqu:q<=u:=by
  have:=dz q hy;omega
 dsimp only;rw[aDO hq hr h0 hu1 hlt];by_cases hc:u*2^32+u1<q*(yn1*2^32+yn0)
 ·obtain⟨d1,d2⟩:=aDP hq hc;have e1:aa .u64 ((q:Int)-1)=((q-1:Nat):Int):=by rw[El (by omega)];omega
  have e2:aa .u64 ((r:Int)+(yn1:Int))=((r+yn1:Nat):Int):=Ww _ _ (by omega);rw[decide_eq_true hc,cond_true,e1,e2];by_cases hb:2^32<=r+yn1
  ·have e3:decide (((r+yn1:Nat):Int)>=4294967296)=true:=decide_eq_true (by omega);rw[e3,cond_true];have:=aDN (u1:=u1) d2 hb h0 hlt;rw[gI this (by rw[show q-1+1=q by omega];exact hc)]
  ·have e3:decide (((r+yn1:Nat):Int)>=4294967296)=false:=decide_eq_false (by omega);rw[e3,cond_false];exact hL _ ⟨q-1,r+yn1,d2,by omega,by rw[show q-1+1=q by omega];exact hc,rfl⟩ (by simp only[ab];omega)
 ·rw[decide_eq_false hc,cond_false,gI (by omega) hup]
theorem aLw{u u1 yn0 yn1:Nat}(h0:yn0<2^32)(h1:yn1<2^32)(hy:0<yn1)(hu1:u1<2^32)(hlt:u<yn1*2^32+yn0)(q1 y s:Int):
  dV (((yn0:Int),(((u%yn1:Nat):Int),((yn1:Int),(q1,((u:Int),((u1:Int),(((u/yn1:Nat):Int),(y,(s,()))))))))),()) =
   some (.inl ((q1,((u:Int),((u1:Int),((((u*2^32+u1)/(yn1*2^32+yn0):Nat):Int),(y,(s,())))))),())):=by
 have key:=Dc (aFQ BB.pre BB.F) (fun x=>x.1.2.2.2.2.2.2.1.toNat)
  (fun x=>∃q r:Nat,q*yn1+r=u/\r<2^32/\u*2^32+u1<(q+1)*(yn1*2^32+yn0)/\x=(((yn0:Int),((r:Int),((yn1:Int),(q1,((u:Int),((u1:Int),((q:Int),(y,(s,()))))))))),()))
  (fun _=>.inl ((q1,((u:Int),((u1:Int),((((u*2^32+u1)/(yn1*2^32+yn0):Nat):Int),(y,(s,())))))),())) ?_ _
  ⟨u/yn1,u%yn1,by rw[aq];exact ck u yn1,jd (bo _ hy) h1,aDQ hy hu1,rfl⟩
 ·exact key
 intro L x hx hL;obtain⟨q,r,hq,hr,hup,rfl⟩:=hx;unfold Vk;have hqu:q<=u:=by
  have:=dz q hy;omega
 dsimp only;rw[aDO hq hr h0 hu1 hlt];by_cases hc:u*2^32+u1<q*(yn1*2^32+yn0)
 ·obtain⟨d1,d2⟩:=aDP hq hc;have e1:aa .u64 ((q:Int)-1)=((q-1:Nat):Int):=by rw[El (by omega)];omega
  have e2:aa .u64 ((r:Int)+(yn1:Int))=((r+yn1:Nat):Int):=Ww _ _ (by omega);rw[decide_eq_true hc,cond_true,e1,e2];by_cases hb:2^32<=r+yn1
  ·have e3:decide (((r+yn1:Nat):Int)>=4294967296)=true:=decide_eq_true (by omega);rw[e3,cond_true];have:=aDN (u1:=u1) d2 hb h0 hlt;rw[gI this (by rw[show q-1+1=q by omega];exact hc)]
  ·have e3:decide (((r+yn1:Nat):Int)>=4294967296)=false:=decide_eq_false (by omega);rw[e3,cond_false];exact hL _ ⟨q-1,r+yn1,d2,by omega,by rw[show q-1+1=q by omega];exact hc,rfl⟩ (by simp only[ab];omega)
 ·rw[decide_eq_false hc,cond_false,gI (by omega) hup]
theorem aMJ{A y u32 u1 u0 q1 r1 q0 r0:Nat}(hA:A=(u32*2^32+u1)*2^32+u0)(h1:u32*2^32+u1=q1*y+r1)(h2:r1*2^32+u0=q0*y+r0)(hr:r0<y):
  A/y=q1*2^32+q0/\A%y=r0:=by
 have e:A=(q1*2^32+q0)*y+r0:=by
  rw[hA,h1,cp,cp,jm];omega
 have hy:0<y:=by omega
 rw[e,aq _ y];exact⟨by rw[jh hy,bu hr,de],by rw[kv,ar hr]⟩
theorem aUT(U X:Nat):U*2^64+X=(U*2^32+X/2^32)*2^32+X%2^32:=by omega
theorem orL{a b k:Nat}(ha:a<2^k)(h:b*2^k+a<2^64):A7 .u64 ((b*2^k:Nat):Int) (a:Int)=((b*2^k+a:Nat):Int):=by
 rw[VQ (by omega) (by omega)];congr 1;have:=ku ha b;rw[aq b,←this]
theorem zT{n:Nat}(hn:n<2^64):Xt ((n:Int),())=some (((64-An n:Nat):Int),()):=by
 show lC Bx.pre Bx.F (n:Int)=_;unfold lC;have p0:=TX n hn;have hb:=Fb hn;have e:aa .i64 ((64:Int)-(An n:Int))=((64-An n:Nat):Int):=by rw[As (by omega)];omega
 simp only[VX p0,UW p0,cond_true,e]
theorem pJ{hi lo y:Nat}(hlo:lo<2^64)(hy:y<2^64)(hlt:hi<y):
  Xu ((hi:Int),(lo:Int),(y:Int),())=some ((((hi*2^64+lo)/y:Nat):Int),(((hi*2^64+lo)%y:Nat):Int),()):=by
 have hy0:0<y:=by omega
 show lD BB.pre BB.F dU dV (hi:Int) (lo:Int) (y:Int)=_;unfold lD;have hbl:=Fb hy;have hbl1:=JZ (n:=y) (by omega);have p0:=zT hy;generalize hs:64-An y=s at *
 have e9:aa .u64 (s:Int)=(s:Int):=nZ _ (by omega);have e10:aa .u64 ((64:Int)-(s:Int))=((64-s:Nat):Int):=by rw[El (by omega)];omega
 have g0:((y:Int)==0)=false:=AS _ (by omega);have g1:decide ((y:Int)<=(hi:Int))=false:=decide_eq_false (by omega);have g2:((y:Int)!=0)=true:=Bi _ (by omega);dsimp only;simp only[g0,g1,g2,cond_false,cond_true,aGP p0,aEH p0,e9,e10];by_cases hh:hi=0
 ·subst hh;have e1:(((0:Nat):Int)==0)=true:=rfl;rw[e1,cond_true,aE _ _ hlo hy0,fc,Nat.zero_add];rfl
 have e1:((hi:Int)==0)=false:=AS _ hh;rw[e1,cond_false];have hp:=ag s;have hyl:=JY (n:=y) (by omega);have hyu:=G8 y;have hY1:y*2^s<2^64:=by
  have:y*2^s<2^An y*2^s:=cm hyu hp;rw[←ap,show An y+s=64 by omega]at this;exact this
 have hY2:2^63<=y*2^s:=by
  have:2^(An y-1)*2^s<=y*2^s:=ay _ hyl;rw[←ap,show An y-1+s=63 by omega]at this;exact this
 have hH:hi*2^s<y*2^s:=cm hlt hp;have hlos:lo/2^(64-s)<2^s:=by
  rw[cn (ag _),←ap,show s+(64-s)=64 by omega];exact hlo
 have e264:2^64=2^s*2^(64-s):=by rw[←ap];congr 1;omega
 have hU:hi*2^s+lo/2^(64-s)<y*2^s:=by
  have h1:(hi+1)*2^s<=y*2^s:=ay _ hlt;rw[cp,fi]at h1;omega
 have hsc:(hi*2^64+lo)*2^s=(hi*2^s+lo/2^(64-s))*2^64+lo*2^s%2^64:=by
  have h1:lo*2^s=lo*2^s/2^64*2^64+lo*2^s%2^64:=by
   have:=ck (lo*2^s) (2^64);omega
  have h2:lo*2^s/2^64=lo/2^(64-s):=by
   rw[e264,aq lo,Nat.mul_div_mul_left _ _ hp]
  rw[h2]at h1;rw[cp,cp,jm];omega
 have s1:=Ej hi s (by omega);have s2:=DD lo (64-s) (by omega);have s3:=Ej y s (by omega);have s4:=Ej lo s (by omega);rw[ar (by omega)]at s1 s3;have hY32:y*2^s/2^32*2^32+y*2^s%2^32=y*2^s:=by omega
 have hdiv:(hi*2^64+lo)*2^s/(y*2^s)=(hi*2^64+lo)/y:=gj _ _ hp;have hmod:(hi*2^64+lo)*2^s%(y*2^s)=(hi*2^64+lo)%y*2^s:=fb _ _ _;have hX:lo*2^s%2^64<2^64:=bo _ (by decide);have s5:=orL (b:=hi) hlos (by omega);rw[s1,s2,s3,s4,s5];have hq64:(hi*2^64+lo)/y<2^64:=by
  rw[cn hy0];have:(hi+1)*2^64<=y*2^64:=ay _ hlt;omega
 rw[hsc]at hdiv hmod;generalize hi*2^s+lo/2^(64-s)=U at *
 generalize lo*2^s%2^64=X at *
 generalize hYd:y*2^s=Y at *
 rw[To Y,To X,Y3 hY1,Y3 hX];have hYY1:Y/2^32<2^32:=by omega
 have hYY0:Y%2^32<2^32:=by omega
 have hYp:0<Y/2^32:=by omega
 have g3:(((Y/2^32:Nat):Int)!=0)=true:=Bi _ (by omega);have hrem:∀V:Nat,V<2^64->aa .u64 ((V:Int)-aa .u64 (((V/(Y/2^32):Nat):Int)*((Y/2^32:Nat):Int)))=((V%(Y/2^32):Nat):Int):=fun V hV=>by
  have hdm:=ck V (Y/2^32);rw[aq]at hdm;rw[xM _ _ (by omega)];generalize V/(Y/2^32)*(Y/2^32)=z at *
  generalize V%(Y/2^32)=w at *
  rw[El (by omega)];omega
 rw[g3,cond_true,aE _ _ (by omega) hYp,hrem U (by omega)];have w1:=aLv hYY0 hYY1 hYp (show X/2^32<2^32 by omega) (u:=U) (by omega) ((X%2^32:Nat):Int) (Y:Int) (s:Int);rw[w1,hY32];show(bif(((Y/2^32:Nat):Int)!=0)then _ else _)=_;rw[g3,cond_true];dsimp only;have hd1:=ck (U*2^32+X/2^32) Y;have hr1:=bo (U*2^32+X/2^32) (show 0<Y by omega);have hq1:(U*2^32+X/2^32)/Y<2^32:=by
  rw[cn (by omega)];have:(U+1)*2^32<=Y*2^32:=ay _ hU;omega
 have hrem2:∀a b c q r:Nat,a*2^32+b=Y*q+r->r<Y->aa .u64 (aa .u64 (aa .u64 ((a:Int)*4294967296)+(b:Int))-aa .u64 ((q:Int)*(Y:Int)))=(r:Int):=fun a b _ q r h1 h2=>by
  have e:(q:Int)*(Y:Int)=((Y*q:Nat):Int):=by rw[jf,Int.mul_comm]
  rw[e];generalize Y*q=z at *
  show((((a:Int)*4294967296)%18446744073709551616+(b:Int))%18446744073709551616-((z:Int)%18446744073709551616))%18446744073709551616=(r:Int)
  omega
 rw[hrem2 U (X/2^32) 0 _ _ hd1.symm hr1];clear w1;obtain⟨q1,hQ1⟩:∃q,q=(U*2^32+X/2^32)/Y:=⟨_,rfl⟩
 obtain⟨r1,hR1⟩:∃q,q=(U*2^32+X/2^32)%Y:=⟨_,rfl⟩
 rw[←hQ1]at hd1 hq1;rw[←hR1]at hd1 hr1;rw[←hQ1,←hR1];rw[aE _ _ (by omega) hYp,hrem r1 (by omega)];have w2:=aLw hYY0 hYY1 hYp (show X%2^32<2^32 by omega) (u:=r1) (by omega) (q1:Int) (Y:Int) (s:Int);rw[w2,hY32];show some (_,(_,()))=_;dsimp only;have hd2:=ck (r1*2^32+X%2^32) Y;have hr2:=bo (r1*2^32+X%2^32) (show 0<Y by omega);have hq2:(r1*2^32+X%2^32)/Y<2^32:=by
  rw[cn (by omega)];have:(r1+1)*2^32<=Y*2^32:=ay _ hr1;omega
 rw[hrem2 r1 (X%2^32) 0 _ _ hd2.symm hr2];obtain⟨q0,hQ0⟩:∃q,q=(r1*2^32+X%2^32)/Y:=⟨_,rfl⟩
 obtain⟨r0,hR0⟩:∃q,q=(r1*2^32+X%2^32)%Y:=⟨_,rfl⟩
 rw[←hQ0]at hd2 hq2;rw[←hR0]at hd2 hr2;rw[←hQ0,←hR0];obtain⟨f1,f2⟩:=aMJ (A:=U*2^64+X) (y:=Y) (u32:=U) (u1:=X/2^32) (u0:=X%2^32) (aUT U X) (by rw[aq q1];exact hd1.symm) (by rw[aq q0];exact hd2.symm) hr2;rw[hdiv]at f1;rw[hmod]at f2;have e5:aa .u64 (aa .u64 ((q1:Int)*4294967296)+(q0:Int))=(((hi*2^64+lo)/y:Nat):Int):=by
  rw[f1];show((((q1:Int)*4294967296)%18446744073709551616)+(q0:Int))%18446744073709551616=_;omega
 have e6:AJ .u64 (r0:Int) (s:Int)=(((hi*2^64+lo)%y:Nat):Int):=by
  rw[DD _ _ (by omega),←f2,ki _ hp]
 rw[e5,e6]
end VL
namespace VL
open Go Vx
theorem MU{D Y:Type}{Φ:{R:Type}->(D->Option R)->(Y->Option R)->D->Option R}(hp:Bp Φ)(μ:D->Nat)(I:D->Prop)(Q:Y->Prop)
  (h:∀(L:D->Option Y) x,I x->(∀x',I x'->μ x'<μ x->∃y,L x'=some y/\Q y)->∃y,Φ L some x=some y/\Q y):∀x,I x->∃y,Bf (fun L=>Φ L some) x=some y/\Q y:=by
 have key:∀m x,I x->μ x<m->∃y,CY (fun L=>Φ L some) m x=some y/\Q y:=by
  intro m;induction m with
  |zero=>intro x _ h;omega
  |succ m ih=>
   intro x hx hm;simp only[CY];exact h _ x hx fun x' hx' hlt=>ih x' hx' (by omega)
 intro x hx;obtain⟨y,hy,hQ⟩:=key (μ x+1) x hx (by omega);exact⟨y,aFs hp hy,hQ⟩
theorem Iw(i:Nat):(2^64)^(i+1)=(2^64)^i*2^64:=df ..
theorem Tv{A us C:List Nat}{i:Nat}(h:i<us.length):(Wd (A++us++C)).getD (A.length+i) 0=((us.getD i 0:Nat):Int):=by
 rw[BZ];congr 1;rw[al,al,fj,cj (by omega),ka,co h]
theorem nW{A us C:List Nat}{i v:Nat}(h:i<us.length):(Wd (A++us++C)).set (A.length+i) (v:Int)=Wd (A++us.set i v++C):=by
 rw[Eb];congr 1;rw[fj,gh _ _ (by omega),ka,ml _ _ h,←fj]
theorem gH{out us:List Nat}{i:Nat}(hol:out.length=i)(hi:i<us.length):(out++us.drop i).getD i 0=us.getD i 0:=by
 rw[al,al,cj (by omega),hol,gy,List.getElem?_drop,de]
theorem aO2{x y c:Nat}(hx:x<2^64)(hy:y<2^64)(hc:c<2^64):
  x*y+c=2^64*(x*y/2^64+(x*y%2^64+c)/2^64)+(x*y%2^64+c)%2^64/\x*y/2^64+(x*y%2^64+c)/2^64<2^64:=by
 have:x*y<=(2^64-1)*(2^64-1):=io (by omega) (by omega);generalize x*y=z at *
 omega
theorem aHR{d l b:Nat}(hd:d<2^64)(hl:l<2^64)(hb:b<=1):
  (d+2^64-l-b)%2^64+l+b=d+2^64*(if d<l+b then 1 else 0)/\(d+2^64-l-b)%2^64<2^64/\(if d<l+b then 1 else 0)<=1:=by
 split<;>omega
theorem aVf{P U V O x y c b d o l c' b':Nat}(h:O+x*V=U+P*(c+b))(h1:x*y+c=2^64*c'+l)(h2:o+l+b=d+2^64*b'):
  O+P*o+x*(V+P*y)=U+P*d+P*2^64*(c'+b'):=by
 have h3:P*(c+b+o+x*y)=P*(d+2^64*(c'+b')):=by
  congr 1;omega
 rw[bt P,bt P,bt P d,←ao P (2^64)]at h3;rw[bt x,fu x P y];omega
theorem aKA(A us C v:List Nat)(hlen:us.length=v.length+1)(hu:∀x∈us,x<2^64)(hv:∀x∈v,x<2^64)(hn:v.length<=1000000){x:Nat}(hx:x<2^64):
  ∃out:List Nat,out.length=us.length/\(∀z∈out,z<2^64)/\nv (2^64) out+x*nv (2^64) v=nv (2^64) us+(if nv (2^64) us<x*nv (2^64) v then(2^64)^us.length else 0) /\
   Xv ((Wd (A++us++C),(A.length,us.length)),(Wd v,((x:Int),())))=some (Wd (A++out++C),decide (nv (2^64) us<x*nv (2^64) v),()):=by
 show ∃out:List Nat,_/\_/\_/\lE AO.pre AO.F Ay.pre Ay.F A4.pre A4.F dW (Wd (A++us++C),(A.length,us.length)) (Wd v) (x:Int)=_;have key:=MU (aFR AO.pre AO.F Ay.pre Ay.F A4.pre A4.F) (fun s=>v.length-s.1.2.2.2.1.toNat)
  (fun s=>∃(i:Nat) (out:List Nat) (c b:Nat),i<=v.length/\out.length=i/\(∀z∈out,z<2^64)/\c<2^64/\b<=1/\nv (2^64) out+x*nv (2^64) (v.take i)=nv (2^64) (us.take i)+(2^64)^i*(c+b) /\
   s=(((v.length:Int),(Wd v,((x:Int),((i:Int),(Wd v,((A.length,us.length),((c:Int),((b:Int),())))))))),(Wd (A++(out++us.drop i)++C),())))
  (fun y=>∃(out:List Nat) (c b:Nat),out.length=v.length/\(∀z∈out,z<2^64)/\c<2^64/\b<=1/\nv (2^64) out+x*nv (2^64) v=nv (2^64) (us.take v.length)+(2^64)^v.length*(c+b) /\
   y=.inl ((Wd v,((A.length,us.length),((c:Int),((b:Int),())))),(Wd (A++(out++us.drop v.length)++C),()))) ?_
  (((v.length:Int),(Wd v,((x:Int),((0:Int),(Wd v,((A.length,us.length),((0:Int),((0:Int),())))))))),(Wd (A++us++C),()))
  ⟨0,[],0,0,ej _,rfl,(fun z hz=>by simp at hz),by decide,by decide,by simp[nv],rfl⟩
 ·obtain⟨y,hy,out,c,b,k1,k2,k3,k4,k5,rfl⟩:=key;have hy:dW (((v.length:Int),(Wd v,((x:Int),((0:Int),(Wd v,((A.length,us.length),((0:Int),((0:Int),())))))))),(Wd (A++us++C),()))=_:=hy;have hlt:v.length<us.length:=by omega
  have hwl:(out++us.drop v.length).length=us.length:=by simp[k1];omega
  have hdg:=gH (us:=us) k1 hlt;have hg:=Tv (A:=A) (C:=C) (us:=out++us.drop v.length) (i:=v.length) (by omega);rw[hdg]at hg;have hst:=fun z=>nW (A:=A) (C:=C) (us:=out++us.drop v.length) (i:=v.length) (v:=z) (by omega);have hsd:=fun z=>aL (a:=us) (v:=z) k1 hlt;have hd:=Cr (by decide) hu v.length;obtain⟨w1,w2,w3⟩:=aHR (d:=us.getD v.length 0) (l:=c) (b:=b) hd k3 k4;have q1:=aQ (us.getD v.length 0) c b k4 hd k3;have q2:=aR ((us.getD v.length 0:Nat):Int) (c:Int) b k4;have hnx:=Ex (2^64) us v.length;rw[cv (show us.length<=v.length+1 by omega)]at hnx;have hnil:us.drop (v.length+1)=[]:=ji (by omega);unfold lE;dsimp only;rw[Az,hy];have e0:decide ((0:Int)<=(v.length:Int))=true:=decide_eq_true (by omega);have e1:decide ((v.length:Int)<(us.length:Int))=true:=decide_eq_true (by omega);dsimp only[AY,A1];simp only[e0,e1,bf,cond_true,Az,ab,hg,q2,q1,hst,hsd,hnil,dp];generalize us.getD v.length 0=d at *
  generalize(d+2^64-c-b)%2^64=o at *
  have hO:nv (2^64) (out++[o])+x*nv (2^64) v=nv (2^64) us+(2^64)^us.length*(if d<c+b then 1 else 0):=by
   rw[ZW,k1,hnx,hlen,Iw];have h3:(2^64)^v.length*(o+c+b)=(2^64)^v.length*(d+2^64*(if d<c+b then 1 else 0)):=by rw[w1]
   rw[bt,bt,bt _ d,←ao _ (2^64)]at h3;rw[bt]at k5;omega
  have hod:=Y9 k2 w2;have hOl:=DV (B:=2^64) (by decide) (out++[o]) hod;have hol:(out++[o]).length=us.length:=by simp[k1];omega
  rw[hol]at hOl;by_cases hb:d<c+b
  ·rw[if_pos hb,gf]at hO;have hlt2:nv (2^64) us<x*nv (2^64) v:=by omega
   refine⟨out++[o],hol,hod,by rw[if_pos hlt2];exact hO,?_⟩;rw[if_pos hb,decide_eq_true hlt2];rfl
  ·rw[if_neg hb,fm,de]at hO;have hlt2:¬nv (2^64) us<x*nv (2^64) v:=by omega
   refine⟨out++[o],hol,hod,by rw[if_neg hlt2,de];exact hO,?_⟩;rw[if_neg hb,decide_eq_false hlt2];rfl
 intro L s hs hL;obtain⟨i,out,c,b,hi,hol,hod,hc,hb,hinv,rfl⟩:=hs;unfold Vl;rcases au i v.length with hlt|hge
 ·have hy:=Cr (by decide) hv i;have hd:=Cr (by decide) hu i;have hnv:=Ex (2^64) v i;have hnu:=Ex (2^64) us i;have hwl:(out++us.drop i).length=us.length:=by simp[hol];omega
  have hdg:=gH (us:=us) hol (by omega);have hg:=Tv (A:=A) (C:=C) (us:=out++us.drop i) (i:=i) (by omega);rw[hdg]at hg;have hst:=fun z=>nW (A:=A) (C:=C) (us:=out++us.drop i) (i:=i) (v:=z) (by omega);have hsd:=fun z=>aL (a:=us) (v:=z) hol (by omega);have hgv:(Wd v).getD i 0=((v.getD i 0:Nat):Int):=BZ v i;generalize v.getD i 0=y at *
  generalize us.getD i 0=d at *
  have p0:=dH hx hy;obtain⟨m1,m2⟩:=aO2 hx hy hc;have q1:=Rk (x*y%2^64) c 0;have q2:=Rl ((x*y%2^64:Nat):Int) (c:Int) 0 (by decide);rw[de]at q1;have hl:(x*y%2^64+c)%2^64<2^64:=bo _ (by decide);have e5:=Ww (x*y/2^64) ((x*y%2^64+c)/2^64) m2;generalize x*y/2^64+(x*y%2^64+c)/2^64=c' at *
  generalize hlq:(x*y%2^64+c)%2^64=l at *
  obtain⟨w1,w2,w3⟩:=aHR (d:=d) (l:=l) (b:=b) hd hl hb;have r1:=aQ d l b hb hd hl;have r2:=aR (d:Int) (l:Int) b hb;generalize(d+2^64-l-b)%2^64=o at *
  generalize(if d<l+b then 1 else 0)=b' at *
  have hstep:=aVf (P:=(2^64)^i) hinv m1 w1;have e0:decide ((i:Int)<(v.length:Int))=true:=decide_eq_true (by omega);have e1:decide ((0:Int)<=(i:Int))=true:=decide_eq_true (by omega);have e2:decide ((i:Int)<((us.length:Nat):Int))=true:=decide_eq_true (by omega);have e3:aa .i64 ((i:Int)+1)=((i+1:Nat):Int):=by rw[As (by omega)];omega
  have z0:((0:Nat):Int)=0:=rfl;rw[z0]at q1 q2;dsimp only;simp only[e0,e1,e2,e3,cond_true,bf,Az,ab,hgv,hg,iR p0,gY p0,q1,q2,r1,r2,e5,hst,hsd];refine hL _ ⟨i+1,out++[o],c',b',by omega,by simp[hol],Y9 hod w2,m2,w3,?_,rfl⟩ (by simp only[ab];omega);rw[ZW,hol,hnv,hnu,Iw];exact hstep
 ·have e:i=v.length:=by omega
  subst e;have e0:decide ((v.length:Int)<(v.length:Int))=false:=decide_eq_false (by omega);simp only[e0,cond_false];rw[dj]at hinv;exact⟨_,rfl,out,c,b,hol,hod,hc,hb,hinv,rfl⟩
end VL
namespace VL
open Go Vx
theorem aDj{P U V O y c d:Nat}(h:O+P*c=U+V):O+P*((d+y+c)%2^64)+P*2^64*((d+y+c)/2^64)=U+P*d+(V+P*y):=by
 have h1:P*((d+y+c)%2^64+2^64*((d+y+c)/2^64))=P*(d+y+c):=by rw[Nat.mod_add_div]
 rw[bt,bt P (d+y),bt,←ao P (2^64)]at h1;omega
theorem aKB(A us C v:List Nat)(hlen:us.length=v.length+1)(hu:∀x∈us,x<2^64)(hv:∀x∈v,x<2^64)(hn:v.length<=1000000):
  ∃out:List Nat,out.length=us.length/\(∀z∈out,z<2^64)/\nv (2^64) out+(if(2^64)^us.length<=nv (2^64) us+nv (2^64) v then(2^64)^us.length else 0)=nv (2^64) us+nv (2^64) v /\
   Xw ((Wd (A++us++C),(A.length,us.length)),(Wd v,()))=some (Wd (A++out++C),decide ((2^64)^us.length<=nv (2^64) us+nv (2^64) v),()):=by
 show ∃out:List Nat,_/\_/\_/\lF Ay.pre Ay.F dX (Wd (A++us++C),(A.length,us.length)) (Wd v)=_;have key:=MU (aFS Ay.pre Ay.F) (fun s=>v.length-s.1.2.2.1.toNat)
  (fun s=>∃(i:Nat) (out:List Nat) (c:Nat),i<=v.length/\out.length=i/\(∀z∈out,z<2^64)/\c<=1/\nv (2^64) out+(2^64)^i*c=nv (2^64) (us.take i)+nv (2^64) (v.take i) /\
   s=(((v.length:Int),(Wd v,((i:Int),(Wd v,((A.length,us.length),((c:Int),())))))),(Wd (A++(out++us.drop i)++C),())))
  (fun y=>∃(out:List Nat) (c:Nat),out.length=v.length/\(∀z∈out,z<2^64)/\c<=1/\nv (2^64) out+(2^64)^v.length*c=nv (2^64) (us.take v.length)+nv (2^64) v /\
   y=.inl ((Wd v,((A.length,us.length),((c:Int),()))),(Wd (A++(out++us.drop v.length)++C),()))) ?_
  (((v.length:Int),(Wd v,((0:Int),(Wd v,((A.length,us.length),((0:Int),())))))),(Wd (A++us++C),()))
  ⟨0,[],0,ej _,rfl,(fun z hz=>by simp at hz),by decide,by simp[nv],rfl⟩
 ·obtain⟨y,hy,out,c,k1,k2,k3,k5,rfl⟩:=key;have hy:dX (((v.length:Int),(Wd v,((0:Int),(Wd v,((A.length,us.length),((0:Int),())))))),(Wd (A++us++C),()))=_:=hy;have hlt:v.length<us.length:=by omega
  have hwl:(out++us.drop v.length).length=us.length:=by simp[k1];omega
  have hdg:=gH (us:=us) k1 hlt;have hg:=Tv (A:=A) (C:=C) (us:=out++us.drop v.length) (i:=v.length) (by omega);rw[hdg]at hg;have hst:=fun z=>nW (A:=A) (C:=C) (us:=out++us.drop v.length) (i:=v.length) (v:=z) (by omega);have hsd:=fun z=>aL (a:=us) (v:=z) k1 hlt;have hd:=Cr (by decide) hu v.length;have q1:=Rk (us.getD v.length 0) 0 c;have q2:=Rl ((us.getD v.length 0:Nat):Int) ((0:Nat):Int) c k3;have z0:((0:Nat):Int)=0:=rfl;rw[z0]at q1 q2;have hnx:=Ex (2^64) us v.length;rw[cv (show us.length<=v.length+1 by omega)]at hnx;have hnil:us.drop (v.length+1)=[]:=ji (by omega);unfold lF;dsimp only;rw[Az,hy];have e0:decide ((0:Int)<=(v.length:Int))=true:=decide_eq_true (by omega);have e1:decide ((v.length:Int)<(us.length:Int))=true:=decide_eq_true (by omega);dsimp only[AY,A1];simp only[e0,e1,bf,cond_true,Az,ab,hg,q2,q1,hst,hsd,hnil,dp];have hstep:=aDj (P:=(2^64)^v.length) (y:=0) (d:=us.getD v.length 0) k5;generalize us.getD v.length 0=d at *
  have ho:(d+0+c)%2^64<2^64:=bo _ (by decide);have hO:nv (2^64) (out++[(d+0+c)%2^64])+(2^64)^us.length*((d+0+c)/2^64)=nv (2^64) us+nv (2^64) v:=by
   rw[ZW,k1,hnx,hlen,Iw];rw[fm]at hstep;omega
  have hod:=Y9 k2 ho;have hOl:=DV (B:=2^64) (by decide) (out++[(d+0+c)%2^64]) hod;have hol:(out++[(d+0+c)%2^64]).length=us.length:=by simp[k1];omega
  rw[hol]at hOl;by_cases hb:(d+0+c)/2^64=1
  ·rw[hb,gf]at hO;have hlt2:(2^64)^us.length<=nv (2^64) us+nv (2^64) v:=by omega
   refine⟨out++[(d+0+c)%2^64],hol,hod,by rw[if_pos hlt2];exact hO,?_⟩;rw[hb,decide_eq_true hlt2];rfl
  ·have hb0:(d+0+c)/2^64=0:=by omega
   rw[hb0,fm,de]at hO;have hlt2:¬(2^64)^us.length<=nv (2^64) us+nv (2^64) v:=by omega
   refine⟨out++[(d+0+c)%2^64],hol,hod,by rw[if_neg hlt2,de];exact hO,?_⟩;rw[hb0,decide_eq_false hlt2];rfl
 intro L s hs hL;obtain⟨i,out,c,hi,hol,hod,hc,hinv,rfl⟩:=hs;unfold Vm;rcases au i v.length with hlt|hge
 ·have hy:=Cr (by decide) hv i;have hd:=Cr (by decide) hu i;have hnv:=Ex (2^64) v i;have hnu:=Ex (2^64) us i;have hwl:(out++us.drop i).length=us.length:=by simp[hol];omega
  have hdg:=gH (us:=us) hol (by omega);have hg:=Tv (A:=A) (C:=C) (us:=out++us.drop i) (i:=i) (by omega);rw[hdg]at hg;have hst:=fun z=>nW (A:=A) (C:=C) (us:=out++us.drop i) (i:=i) (v:=z) (by omega);have hsd:=fun z=>aL (a:=us) (v:=z) hol (by omega);have hgv:(Wd v).getD i 0=((v.getD i 0:Nat):Int):=BZ v i;generalize v.getD i 0=y at *
  generalize us.getD i 0=d at *
  have q1:=Rk d y c;have q2:=Rl (d:Int) (y:Int) c hc;have ho:(d+y+c)%2^64<2^64:=bo _ (by decide);have hc':(d+y+c)/2^64<=1:=by omega
  have hstep:=aDj (P:=(2^64)^i) (y:=y) (d:=d) hinv;have e0:decide ((i:Int)<(v.length:Int))=true:=decide_eq_true (by omega);have e1:decide ((0:Int)<=(i:Int))=true:=decide_eq_true (by omega);have e2:decide ((i:Int)<((us.length:Nat):Int))=true:=decide_eq_true (by omega);have e3:aa .i64 ((i:Int)+1)=((i+1:Nat):Int):=by rw[As (by omega)];omega
  dsimp only;simp only[e0,e1,e2,e3,cond_true,bf,Az,ab,hgv,hg,q1,q2,hst,hsd];refine hL _ ⟨i+1,out++[(d+y+c)%2^64],(d+y+c)/2^64,by omega,by simp[hol],Y9 hod ho,hc',?_,rfl⟩ (by simp only[ab];omega);rw[ZW,hol,hnv,hnu,Iw];exact hstep
 ·have e:i=v.length:=by omega
  subst e;have e0:decide ((v.length:Int)<(v.length:Int))=false:=decide_eq_false (by omega);simp only[e0,cond_false];rw[dj]at hinv;exact⟨_,rfl,out,c,hol,hod,hc,hinv,rfl⟩
theorem aLy(A C v:List Nat){k U:Nat}(hk:k=v.length+1)(hv:∀x∈v,x<2^64)(hn:v.length<=1000000)(us:List Nat)(g:Nat)(hlen:us.length=k)(hu:∀x∈us,x<2^64)(hg:g<2^64)
  (hinv:nv (2^64) us+g*nv (2^64) v=U+(2^64)^k) :
  ∃out:List Nat,out.length=k/\(∀z∈out,z<2^64)/\nv (2^64) out=U%nv (2^64) v /\
   YJ ((((g:Int),((A.length,k),(Wd v,()))),(Wd (A++us++C),())):Gc.D)=some (.inl ((((U/nv (2^64) v:Nat):Int),()),(Wd (A++out++C),()))):=by
 have key:=MU (aFT AP.pre AP.F AO.pre AO.F Ay.pre Ay.F Cp.pre Cp.F C2.pre C2.F) (fun s=>s.1.1.toNat)
  (fun s=>∃(us:List Nat) (g:Nat),us.length=k/\(∀x∈us,x<2^64)/\g<2^64/\nv (2^64) us+g*nv (2^64) v=U+(2^64)^k /\
   s=(((g:Int),((A.length,k),(Wd v,()))),(Wd (A++us++C),())))
  (fun y=>∃out:List Nat,out.length=k/\(∀z∈out,z<2^64)/\nv (2^64) out=U%nv (2^64) v/\y=.inl ((((U/nv (2^64) v:Nat):Int),()),(Wd (A++out++C),()))) ?_
  (((g:Int),((A.length,k),(Wd v,()))),(Wd (A++us++C),())) ⟨us,g,hlen,hu,hg,hinv,rfl⟩
 ·obtain⟨y,hy,out,k1,k2,k3,rfl⟩:=key;exact⟨out,k1,k2,k3,hy⟩
 clear hinv hg hu hlen us g;intro L s hs hL;obtain⟨us,g,hlen,hu,hg,hinv,rfl⟩:=hs;unfold Vn;obtain⟨out,o1,o2,o3,o4⟩:=aKB A us C v (by omega) hu hv hn;rw[hlen]at o1 o3 o4;have hul:=DV (B:=2^64) (by decide) us hu;rw[hlen]at hul;have hg1:1<=g:=by
  rcases bj g with h|h
  ·rw[h,fc]at hinv;omega
  ·exact h
 obtain⟨p,rfl⟩:∃p,g=p+1:=⟨g-1,by omega⟩
 rw[cp,fi]at hinv;have e1:aa .u64 (((p+1:Nat):Int)-1)=(p:Int):=by rw[El (by omega)];omega
 dsimp only;rw[aQi o4,aNG o4,cond_true,e1];dsimp only;by_cases hc:(2^64)^k<=nv (2^64) us+nv (2^64) v
 ·rw[if_pos hc]at o3;rw[decide_eq_true hc,cond_true];have hV:nv (2^64) out<nv (2^64) v:=by omega
  have hd:U=nv (2^64) v*p+nv (2^64) out:=by rw[aq];omega
  have hpos:0<nv (2^64) v:=by omega
  refine⟨_,rfl,out,o1,o2,?_,?_⟩
  ·rw[hd,kv,ar hV]
  ·rw[hd,jh hpos,bu hV,de]
 ·rw[if_neg hc]at o3;rw[decide_eq_false hc,cond_false];exact hL _ ⟨out,p,o1,o2,by omega,by omega,rfl⟩ (by simp only[ab];omega)
theorem aOM{h l r w:Nat}(hl:l<2^64)(hw:w<2^64):(decide ((h:Int)<(r:Int))||(((h:Int)==(r:Int))&&decide ((l:Int)<=(w:Int))))=decide (h*2^64+l<=r*2^64+w):=by
 rw[cu,dl,ai,decide_eq_true_eq,decide_eq_true_eq,decide_eq_true_eq,beq_iff_eq];omega
theorem aMV{U V P v1 v2 u2 u0 g rest:Nat}(hP:0<P)(hV:(v1*2^64+v2)*P<=V)(hU:U<(u2*2^64+u0+1)*P)(hg:g*v1+rest=u2)(h:¬g*v2<=rest*2^64+u0):U/V<g:=by
 rcases au (U/V) g with h1|h1
 ·exact h1
 ·exfalso;have h2:g*V<=U:=fk (ay V h1) (kb U V);have h3:g*((v1*2^64+v2)*P)<=g*V:=ce g hV;rw[←ao]at h3;have h4:=jj (av (fk h3 h2) hU);rw[bt,←ao]at h4;rw[←hg,cp]at h4;omega
theorem aMW{U V P v1 v2 u2 u0:Nat}(hP:0<P)(h1:0<v1)(hV:(v1*2^64+v2)*P<=V)(hU:U<(u2*2^64+u0+1)*P)(hu0:u0<2^64):U/V<=u2/v1:=by
 rw[ks h1];have h2:U/V*V<=U:=kb U V;have h3:U/V*((v1*2^64+v2)*P)<=U/V*V:=ce _ hV;rw[←ao]at h3;have h4:=jj (av (fk h3 h2) hU);rw[bt,←ao]at h4;omega
theorem aIu{v:List Nat}{n:Nat}(hn:v.length=n+2):(v.getD (n+1) 0*2^64+v.getD n 0)*(2^64)^n<=nv (2^64) v:=by
 have h1:=Ex (2^64) v n;have h2:=Ex (2^64) v (n+1);rw[cv (by omega)]at h2;rw[h2,h1,Iw,cp,aq _ ((2^64)^n),aq (v.getD n 0),ao,aq (2^64) (v.getD (n+1) 0)];omega
theorem aIo{u:List Nat}{n:Nat}(hu:∀x∈u,x<2^64)(hn:u.length=n+3):nv (2^64) u<((u.getD (n+2) 0*2^64+u.getD (n+1) 0)*2^64+u.getD n 0+1)*(2^64)^n:=by
 have h0:=ZX hu n;have h1:=Ex (2^64) u n;have h2:=Ex (2^64) u (n+1);have h3:=Ex (2^64) u (n+2);rw[cv (show u.length<=n+2+1 by omega)]at h3;rw[h3,h2,h1];rw[show(2^64)^(n+2)=(2^64)^n*2^64*2^64 by rw[show n+2=n+1+1 by omega,Iw,Iw],Iw];generalize(2^64)^n=P at *
 generalize u.getD (n+2) 0=a;generalize u.getD (n+1) 0=b;generalize u.getD n 0=c;rw[aq (_+1) P,bt,bt,cp,bt,gf];have e1:P*(a*2^64*2^64)=P*2^64*2^64*a:=by rw[ao P,ao P,ao a,aq a]
 have e2:P*(b*2^64)=P*2^64*b:=by rw[ao P,aq b]
 rw[e1,e2];omega
end VL
namespace VL
open Go Vx
theorem aLx(A us C v:List Nat){n:Nat}(hvl:v.length=n+2)(hlen:us.length=n+3)(hu:∀x∈us,x<2^64)(hv:∀x∈v,x<2^64)(hn:v.length<=1000000)
  (hV0:0<v.getD (n+1) 0) (g rest:Nat) (hg:g<2^64) (hr:rest<2^64) (hinv:g*v.getD (n+1) 0+rest=us.getD (n+2) 0*2^64+us.getD (n+1) 0) (hq:nv (2^64) us/nv (2^64) v<=g) :
  ∃g':Nat,g'<2^64/\nv (2^64) us/nv (2^64) v<=g' /\
   dY ((((g:Int),((rest:Int),((v.length:Int),((A.length,us.length),(Wd v,()))))),(Wd (A++us++C),())):Gd.D)=some (.inl (((A.length,us.length),(Wd v,((g':Int),()))),(Wd (A++us++C),()))):=by
 have key:=MU (aFU AP.pre AP.F AO.pre AO.F Ay.pre Ay.F Cp.pre Cp.F C2.pre C2.F) (fun s=>s.1.1.toNat)
  (fun s=>∃(g rest:Nat),g<2^64/\rest<2^64/\g*v.getD (n+1) 0+rest=us.getD (n+2) 0*2^64+us.getD (n+1) 0/\nv (2^64) us/nv (2^64) v<=g /\
   s=(((g:Int),((rest:Int),((v.length:Int),((A.length,us.length),(Wd v,()))))),(Wd (A++us++C),())))
  (fun y=>∃g':Nat,g'<2^64/\nv (2^64) us/nv (2^64) v<=g'/\y=.inl (((A.length,us.length),(Wd v,((g':Int),()))),(Wd (A++us++C),()))) ?_
  (((g:Int),((rest:Int),((v.length:Int),((A.length,us.length),(Wd v,()))))),(Wd (A++us++C),())) ⟨g,rest,hg,hr,hinv,hq,rfl⟩
 ·obtain⟨y,hy,g',k1,k2,rfl⟩:=key;exact⟨g',k1,k2,hy⟩
 clear hinv hg hr hq g rest;intro L s hs hL;obtain⟨g,rest,hg,hr,hinv,hq,rfl⟩:=hs;unfold Vo;have hv1:=Cr (by decide) hv (n+1);have hv2:=Cr (by decide) hv n;have hu0:=Cr (by decide) hu n;have g1:(Wd v).getD (n+1) 0=((v.getD (n+1) 0:Nat):Int):=BZ v _;have g2:(Wd v).getD n 0=((v.getD n 0:Nat):Int):=BZ v _;have g3:=Tv (A:=A) (C:=C) (us:=us) (i:=n) (by omega);have e11:aa .i64 ((v.length:Int)-2)=(n:Int):=by rw[As (by omega)];omega
 have e12:aa .i64 ((v.length:Int)-1)=((n+1:Nat):Int):=by rw[As (by omega)];omega
 have p0:=dH hg hv2;have e0:decide ((0:Int)<=(n:Int))=true:=decide_eq_true (by omega);have e1:decide ((n:Int)<(v.length:Int))=true:=decide_eq_true (by omega);have e2:decide ((n:Int)<(us.length:Int))=true:=decide_eq_true (by omega);have e3:decide ((0:Int)<=((n+1:Nat):Int))=true:=decide_eq_true (by omega);have e4:decide (((n+1:Nat):Int)<(v.length:Int))=true:=decide_eq_true (by omega);have hlo:g*v.getD n 0%2^64<2^64:=bo _ (by decide);have hlex:=aOM (h:=g*v.getD n 0/2^64) (r:=rest) hlo hu0;rw[show g*v.getD n 0/2^64*2^64+g*v.getD n 0%2^64=g*v.getD n 0 by omega]at hlex;dsimp only;simp only[e11,e12,e0,e1,e2,e3,e4,bf,be,cond_true,Az,ab,g1,g2,g3,iR p0,gY p0,hlex];by_cases hc:g*v.getD n 0<=rest*2^64+us.getD n 0
 ·rw[decide_eq_true hc,cond_true];exact⟨_,rfl,g,hg,hq,rfl⟩
 ·rw[decide_eq_false hc,cond_false];have hdn:=aMV (iy (by decide)) (aIu hvl) (aIo hu hlen) hinv hc;have hg1:1<=g:=av (ej _) hdn;obtain⟨p,rfl⟩:∃p,g=p+1:=⟨g-1,by omega⟩
  have e5:aa .u64 (((p+1:Nat):Int)-1)=(p:Int):=by rw[El (by omega)];omega
  have q1:=Rk rest (v.getD (n+1) 0) 0;have q2:=Rl (rest:Int) ((v.getD (n+1) 0:Nat):Int) 0 (by decide);have z0:((0:Nat):Int)=0:=rfl;rw[z0]at q1 q2;simp only[q1,q2,cond_true,e5];by_cases hb:(rest+v.getD (n+1) 0+0)/2^64=0
  ·have e6:((((rest+v.getD (n+1) 0+0)/2^64:Nat):Int)!=0)=false:=by rw[hb];rfl
   rw[e6,cond_false];have hs:(rest+v.getD (n+1) 0+0)%2^64=rest+v.getD (n+1) 0:=by omega
   rw[hs];refine hL _ ⟨p,rest+v.getD (n+1) 0,by omega,by omega,?_,pk hdn,rfl⟩ (by simp only[ab];omega);rw[cp,fi]at hinv;omega
  ·have e6:((((rest+v.getD (n+1) 0+0)/2^64:Nat):Int)!=0)=true:=Bi _ hb;rw[e6,cond_true];exact⟨_,rfl,p,by omega,pk hdn,rfl⟩
theorem aKC(A us C v:List Nat){n:Nat}(hvl:v.length=n+2)(hlen:us.length=n+3)(hu:∀x∈us,x<2^64)(hv:∀x∈v,x<2^64)(hn:v.length<=1000000)
  (hlt:nv (2^64) us<nv (2^64) v*2^64) :
  ∃out:List Nat,out.length=us.length/\(∀z∈out,z<2^64)/\nv (2^64) out=nv (2^64) us%nv (2^64) v /\
   Xx ((Wd (A++us++C),(A.length,us.length)),(Wd v,()))=some (Wd (A++out++C),((nv (2^64) us/nv (2^64) v:Nat):Int),()):=by
 show ∃out:List Nat,_/\_/\_/\lG AP.pre AP.F AO.pre AO.F Ay.pre Ay.F Cp.pre Cp.F C2.pre C2.F dY YJ (Wd (A++us++C),(A.length,us.length)) (Wd v)=_;have hVp:0<nv (2^64) v:=by omega
 have hq64:nv (2^64) us/nv (2^64) v<2^64:=by rw[cn hVp,aq];exact hlt
 have hv1:=Cr (by decide) hv (n+1);have hu2:=Cr (by decide) hu (n+2);have hu1:=Cr (by decide) hu (n+1);have hu0:=Cr (by decide) hu n;have BM:∀g:Nat,g<2^64->nv (2^64) us/nv (2^64) v<=g ->
   ∃out:List Nat,out.length=us.length/\(∀z∈out,z<2^64)/\nv (2^64) out=nv (2^64) us%nv (2^64) v /\
    (bif Cp.pre ((Wd (A++us++C),(A.length,us.length)),(Wd v,((g:Int),())))then
     (bif(Cp.F ((Wd (A++us++C),(A.length,us.length)),(Wd v,((g:Int),())))).2.1 then
      (Vx.AY (YJ (((g:Int),((A.length,us.length),(Wd v,()))),((Cp.F ((Wd (A++us++C),(A.length,us.length)),(Wd v,((g:Int),())))).1,()))) fun y5=>
      Vx.A1 y5 (fun y6=>some (y6.2.1,y6.1)) (fun _=>none))
     else some ((Cp.F ((Wd (A++us++C),(A.length,us.length)),(Wd v,((g:Int),())))).1,((g:Int),())))
    else none)=(some (Wd (A++out++C),(((nv (2^64) us/nv (2^64) v:Nat):Int),())):Option (LK.B Fo×DenS Ji)):=by
  intro g hg hq;obtain⟨out,o1,o2,o3,o4⟩:=aKA A us C v (by omega) hu hv hn hg;have hpr:Cp.pre ((Wd (A++us++C),(A.length,us.length)),(Wd v,((g:Int),())))=true:=aQh o4;have hfr:Cp.F ((Wd (A++us++C),(A.length,us.length)),(Wd v,((g:Int),())))=(Wd (A++out++C),decide (nv (2^64) us<g*nv (2^64) v),()):=aNF o4;rw[hpr,hfr];rw[cond_true];by_cases hb:nv (2^64) us<g*nv (2^64) v
  ·rw[if_pos hb]at o3;obtain⟨out2,u1,u2,u3,u4⟩:=aLy A C v (k:=us.length) (U:=nv (2^64) us) (by omega) hv hn out g o1 o2 hg o3;refine⟨out2,u1,u2,u3,?_⟩;dsimp only;rw[decide_eq_true hb,cond_true,u4]
  ·rw[if_neg hb,de]at o3;have h1:nv (2^64) us/nv (2^64) v=g:=by
    have:g<=nv (2^64) us/nv (2^64) v:=by rw[ks hVp];omega
    exact Nat.le_antisymm hq this
   have h2:nv (2^64) out=nv (2^64) us%nv (2^64) v:=by
    have:=ck (nv (2^64) us) (nv (2^64) v);rw[h1,aq]at this;omega
   refine⟨out,o1,o2,h2,?_⟩;dsimp only;rw[decide_eq_false hb,cond_false,h1]
 have g1:(Wd v).getD (n+1) 0=((v.getD (n+1) 0:Nat):Int):=BZ v _;have g2:=Tv (A:=A) (C:=C) (us:=us) (i:=n+2) (by omega);have g3:=Tv (A:=A) (C:=C) (us:=us) (i:=n+1) (by omega);have e10:aa .i64 ((v.length:Int)-1)=((n+1:Nat):Int):=by rw[As (by omega)];omega
 have e0:decide ((0:Int)<=(v.length:Int))=true:=decide_eq_true (by omega);have e1:decide ((v.length:Int)<(us.length:Int))=true:=decide_eq_true (by omega);have e2:decide ((0:Int)<=((n+1:Nat):Int))=true:=decide_eq_true (by omega);have e3:decide (((n+1:Nat):Int)<(v.length:Int))=true:=decide_eq_true (by omega);have e4:decide (((n+1:Nat):Int)<(us.length:Int))=true:=decide_eq_true (by omega);have evl:v.length=n+2:=hvl;have g2':(Wd (A++us++C)).getD (A.length+v.length) 0=((us.getD (n+2) 0:Nat):Int):=by rw[evl];exact g2
 unfold lG;dsimp only;simp only[Az,ab,e10,g1,g2',g3,e0,e1,e2,e3,e4,bf,cond_true];by_cases hc:us.getD (n+2) 0<v.getD (n+1) 0
 ·have e5:decide (((us.getD (n+2) 0:Nat):Int)<((v.getD (n+1) 0:Nat):Int))=true:=decide_eq_true (by omega);have p0:=pJ hu1 hv1 hc;simp only[e5,cond_true,v4 p0,t7 p0];have hgl:(us.getD (n+2) 0*2^64+us.getD (n+1) 0)/v.getD (n+1) 0<2^64:=by
   rw[cn (by omega)];have:(us.getD (n+2) 0+1)*2^64<=v.getD (n+1) 0*2^64:=ay _ hc;rw[cp,fi]at this;rw[aq (2^64)];omega
  have hrl:(us.getD (n+2) 0*2^64+us.getD (n+1) 0)%v.getD (n+1) 0<2^64:=jd (bo _ (by omega)) hv1;have hst:=aMW (iy (n:=n) (show 0<2^64 by decide)) (show 0<v.getD (n+1) 0 by omega) (aIu hvl) (aIo hu hlen) hu0;obtain⟨g',k1,k2,k3⟩:=aLx A us C v hvl hlen hu hv hn (by omega) _ _ hgl hrl (by rw[aq];exact ck _ _) hst;rw[k3];obtain⟨out,o1,o2,o3,o4⟩:=BM g' k1 k2;exact⟨out,o1,o2,o3,o4⟩
 ·have e5:decide (((us.getD (n+2) 0:Nat):Int)<((v.getD (n+1) 0:Nat):Int))=false:=decide_eq_false (by omega);simp only[e5,cond_false];obtain⟨out,o1,o2,o3,o4⟩:=BM (2^64-1) (by decide) (Nat.le_pred_of_lt hq64);exact⟨out,o1,o2,o3,o4⟩
end VL
namespace VL
open Go Vx
theorem aMc{X Q d r a B:Nat}(hX:X=Q*d+r):X*B+a=(Q*B+(r*B+a)/d)*d+(r*B+a)%d:=by
 have h1:=ck (r*B+a) d;rw[hX,cp,cp,jm,aq ((r*B+a)/d) d];omega
theorem aLi(l:List Nat)(hl:∀x∈l,x<2^64)(hn:l.length<=1000000){d:Nat}(hd:0<d)(hd2:d<2^64):
  ∃qs:List Nat,qs.length=l.length/\(∀x∈qs,x<2^64)/\nv (2^64) qs=nv (2^64) l/d /\
   YE ((((d:Int),(((l.length:Int)-1),((),((0:Int),())))),(Wd l,())):Gb.D)=some (.inl (((),(((nv (2^64) l%d:Nat):Int),())),(Wd qs,()))):=by
 have key:=MU (aFC AP.pre AP.F Af.pre Af.F) (fun s=>(s.1.2.1+1).toNat)
  (fun s=>∃(k:Nat) (qs:List Nat) (r:Nat),k<=l.length/\qs.length+k=l.length/\(∀x∈qs,x<2^64)/\r<d/\nv (2^64) (l.drop k)=nv (2^64) qs*d+r /\
   s=(((d:Int),(((k:Int)-1),((),((r:Int),())))),(Wd (l.take k++qs),())))
  (fun y=>∃qs:List Nat,qs.length=l.length/\(∀x∈qs,x<2^64)/\nv (2^64) qs=nv (2^64) l/d/\y=.inl (((),(((nv (2^64) l%d:Nat):Int),())),(Wd qs,()))) ?_
  (((d:Int),(((l.length:Int)-1),((),((0:Int),())))),(Wd l,()))
  ⟨l.length,[],0,cg _,by simp,(fun z hz=>by simp at hz),hd,by simp[nv],by simp⟩
 ·obtain⟨y,hy,qs,k1,k2,k3,rfl⟩:=key;exact⟨qs,k1,k2,k3,hy⟩
 intro L s hs hL;obtain⟨k,qs,r,hk,hql,hqd,hr,hinv,rfl⟩:=hs;unfold U6;rcases k with _|i
 ·have e0:decide ((((0:Nat):Int)-1)>=0)=false:=rfl;dsimp only;rw[e0,cond_false];rw[lx]at hinv;have hdv:nv (2^64) l/d=nv (2^64) qs:=by rw[hinv,aq,jh hd,bu hr,de]
  have hmd:nv (2^64) l%d=r:=by rw[hinv,aq,kv,ar hr]
  exact⟨_,rfl,qs,by omega,hqd,hdv.symm,by rw[hmd,List.take_zero,List.nil_append]⟩
 ·have ei:(((i+1:Nat):Int)-1)=(i:Int):=by omega
  have ha:=Cr (by decide) hl i;have hg:(Wd (l.take (i+1)++qs)).getD i 0=((l.getD i 0:Nat):Int):=by
   rw[BZ];congr 1;rw[al,al,co (by simp;omega),List.getElem?_take_of_lt (by omega)]
  have hdn:=VM (2^64) l i (by omega);have hset:∀z:Nat,(Wd (l.take (i+1)++qs)).set i (z:Int)=Wd (l.take i++(z::qs)):=fun z=>by
   rw[Eb,ml _ _ (by simp;omega),fe (show i<l.length by omega),gh _ _ (by simp;omega)];have:i-(l.take i).length=0:=by simp;omega
   rw[this];simp
  have hlen:(Wd (l.take (i+1)++qs)).length=l.length:=by rw[Az];simp;omega
  generalize l.getD i 0=a at *
  have p0:=pJ (hi:=r) ha hd2 hr;have e0:decide ((i:Int)>=0)=true:=decide_eq_true (by omega);have e1:decide ((0:Int)<=(i:Int))=true:=decide_eq_true (by omega);have e2:decide ((i:Int)<(l.length:Int))=true:=decide_eq_true (by omega);have e3:aa .i64 ((i:Int)-1)=(i:Int)-1:=As (by omega);dsimp only;simp only[ei,e0,e1,e2,e3,hlen,bf,cond_true,ab,hg,v4 p0,t7 p0,hset];have hq:(r*2^64+a)/d<2^64:=by
   rw[cn hd];have:(r+1)*2^64<=d*2^64:=ay _ hr;rw[aq (2^64)];omega
  refine hL _ ⟨i,(r*2^64+a)/d::qs,(r*2^64+a)%d,by omega,by simp;omega,?_,bo _ hd,?_,rfl⟩ (by dsimp only;omega)
  ·intro x hx;rcases cx.1 hx with rfl|hx
   ·exact hq
   ·exact hqd x hx
  ·have:=aMc (B:=2^64) (a:=a) hinv;rw[hdn];show a+2^64*_=((r*2^64+a)/d+2^64*nv (2^64) qs)*d+_;rw[aq (2^64) (nv (2^64) qs),jc ((r*2^64+a)/d),←this];omega
theorem nT{l:List Nat}(h:∀x∈l,x<2^64):Wd (Ai l)=Dw (nv (2^64) l):=by
 unfold Dw;rw[Hj (by decide) l h]
theorem aKd{a:Nat}(ha:a<(2^64)^5000){d:Nat}(hd:0<d)(hd2:d<2^64):W5 (Dw a,(d:Int),())=some (Dw (a/d),((a%d:Nat):Int),()):=by
 show j1 AP.pre AP.F Af.pre Af.F YE (Dw a) (d:Int)=_;unfold j1;have hw:=Di ha;obtain⟨qs,k1,k2,k3,k4⟩:=aLi (dg (2^64) a) hw.1 hw.2 hd hd2;rw[Cg]at k3 k4;have hl:(dg (2^64) a).length<=1000000:=hw.2;have e0:aa .i64 (((Dw a).length:Int)-1)=(((dg (2^64) a).length:Int)-1):=by
  unfold Dw;rw[Az,As (by omega)]
 have p0:=Ea qs (by omega);rw[e0];have k4:YE ((((d:Int),((((dg (2^64) a).length:Int)-1),((),((0:Int),())))),(Dw a,())):Gb.D)=_:=k4;rw[k4];show(bif Af.pre (Wd qs,())then some ((Af.F (Wd qs,())).1,(((a%d:Nat):Int),()))else none)=_;simp only[CZ p0,CX p0,cond_true,nT k2,k3]
theorem aLz(v:List Nat){n:Nat}(hvl:v.length=n+2)(hv:∀x∈v,x<2^64)(hn:v.length<=900000){X:Nat}(Q:Nat)(hQ:Q<=50000)(s:Int)(us:List Nat)(hus:us.length=Q+n+2)
  (hud:∀x∈us,x<2^64) (hX:nv (2^64) us=X) (hlt:X<nv (2^64) v*(2^64)^Q) :
  ∃qs us':List Nat,qs.length=Q/\(∀x∈qs,x<2^64)/\nv (2^64) qs=X/nv (2^64) v/\us'.length=Q+n+2/\(∀x∈us',x<2^64)/\nv (2^64) us'=X%nv (2^64) v /\
   YK (((Wd v,(((Q:Int)-1),((),((),((v.length:Int),(s,())))))),(Wd us,(Wd (ax Q 0),()))):Ge.D)=some (.inl (((),((),((v.length:Int),(s,())))),(Wd us',(Wd qs,())))):=by
 have hV0:0<nv (2^64) v:=by
  rcases bj (nv (2^64) v)with h|h
  ·rw[h,fc]at hlt;omega
  ·exact h
 have hVl:=DV (B:=2^64) (by decide) v hv;have key:=MU (aFV Dt.pre Dt.F EK.pre EK.F Bk.pre Bk.F CP.pre CP.F Fz.pre Fz.F BB.pre BB.F Dv.pre Dv.F EL.pre EL.F Af.pre Af.F CQ.pre CQ.F) (fun s=>(s.1.2.1+1).toNat)
  (fun x=>∃(k:Nat) (qs us:List Nat),k<=Q/\qs.length+k=Q/\(∀x∈qs,x<2^64)/\us.length=Q+n+2/\(∀x∈us,x<2^64)/\nv (2^64) us<nv (2^64) v*(2^64)^k /\
   X=nv (2^64) qs*(2^64)^k*nv (2^64) v+nv (2^64) us /\
   x=((Wd v,(((k:Int)-1),((),((),((v.length:Int),(s,())))))),(Wd us,(Wd (ax k 0++qs),()))))
  (fun y=>∃qs us':List Nat,qs.length=Q/\(∀x∈qs,x<2^64)/\nv (2^64) qs=X/nv (2^64) v/\us'.length=Q+n+2/\(∀x∈us',x<2^64)/\nv (2^64) us'=X%nv (2^64) v /\
   y=.inl (((),((),((v.length:Int),(s,())))),(Wd us',(Wd qs,())))) ?_
  ((Wd v,(((Q:Int)-1),((),((),((v.length:Int),(s,())))))),(Wd us,(Wd (ax Q 0),())))
  ⟨Q,[],us,cg _,by simp,(fun z hz=>by simp at hz),hus,hud,by rw[hX];exact hlt,by simp[nv,hX],by simp⟩
 ·obtain⟨y,hy,qs,us',k1,k2,k3,k4,k5,k6,rfl⟩:=key;exact⟨qs,us',k1,k2,k3,k4,k5,k6,hy⟩
 clear hlt hX hud hus us;intro L x hx hL;obtain⟨k,qs,us,hk,hql,hqd,hus,hud,hlt,hinv,rfl⟩:=hx;unfold Vp;rcases k with _|j
 ·have e0:decide ((((0:Nat):Int)-1)>=0)=false:=rfl;dsimp only;rw[e0,cond_false];rw[ij,gf]at hlt hinv;have hdv:X/nv (2^64) v=nv (2^64) qs:=by rw[hinv,aq,jh hV0,bu hlt,de]
  have hmd:X%nv (2^64) v=nv (2^64) us:=by rw[hinv,aq,kv,ar hlt]
  exact⟨_,rfl,qs,us,by omega,hqd,hdv.symm,hus,hud,hmd.symm,by simp⟩
 ·have ei:(((j+1:Nat):Int)-1)=(j:Int):=by omega
  have hjl:j+(n+3)<=us.length:=by omega
  have hsplit:us=us.take j++(us.drop j).take (n+3)++us.drop (j+(n+3)):=by
   rw[fj,←List.drop_drop,kt,kt]
  have hAl:(us.take j).length=j:=by simp;omega
  have hwl:((us.drop j).take (n+3)).length=n+3:=by simp;omega
  have hAd:∀x∈us.take j,x<2^64:=fun x hx=>hud x (fd hx);have hwd:∀x∈(us.drop j).take (n+3),x<2^64:=fun x hx=>hud x (lc (fd hx));have hCd:∀x∈us.drop (j+(n+3)),x<2^64:=fun x hx=>hud x (lc hx);have hCl:(us.drop (j+(n+3))).length+j+(n+3)=us.length:=by simp;omega
  generalize us.take j=A at *
  generalize(us.drop j).take (n+3)=w at *
  generalize us.drop (j+(n+3))=C at *
  subst hsplit;have hAlt:=DV (B:=2^64) (by decide) A hAd;have hval:∀w:List Nat,w.length=n+3->nv (2^64) (A++w++C)=nv (2^64) A+(2^64)^j*nv (2^64) w+(2^64)^(j+(n+3))*nv (2^64) C:=fun w hw=>by
   rw[Td,Td,hAl,show(A++w).length=j+(n+3) by simp[hAl,hw]]
  have hPj:=iy (n:=j) (show 0<2^64 by decide);have hv1:=hval w hwl;rw[hAl]at hAlt;have hC0:nv (2^64) C=0:=by
   rcases bj (nv (2^64) C)with h|h
   ·exact h
   ·exfalso;have h1:(2^64)^(j+(n+3))*1<=(2^64)^(j+(n+3))*nv (2^64) C:=ce _ h;have h2:nv (2^64) v*(2^64)^(j+1)<=(2^64)^(n+2)*(2^64)^(j+1):=ay _ (by rw[hvl]at hVl;omega);rw[←ap,show n+2+(j+1)=j+(n+3) by omega]at h2;omega
  rw[hC0,fm,de]at hv1;have hwlt:nv (2^64) w<nv (2^64) v*2^64:=by
   have h1:(2^64)^j*nv (2^64) w<(2^64)^j*(nv (2^64) v*2^64):=by
    rw[Iw,←ao]at hlt;rw[fu,←ao];omega
   exact ip h1
  obtain⟨out,o1,o2,o3,o4⟩:=aKC A w C v hvl hwl hwd hv (by omega) hwlt;rw[hAl,hwl]at o4;have hout:out.length=n+3:=by omega
  have hv2:=hval out hout;rw[hC0,fm,de,o3]at hv2;have hdm:=ck (nv (2^64) w) (nv (2^64) v);have hml:=bo (nv (2^64) w) hV0;have hq64:nv (2^64) w/nv (2^64) v<2^64:=by rw[cn hV0,aq];exact hwlt
  have e0:decide ((j:Int)>=0)=true:=decide_eq_true (by omega);have e1:decide ((0:Int)<=(j:Int))=true:=decide_eq_true (by omega);have e3:aa .i64 (aa .i64 ((j:Int)+(v.length:Int))+1)=((j+(n+3):Nat):Int):=by
   rw[As (n:=(j:Int)+_) (by omega),As (by omega)];omega
  have e4:decide ((j:Int)<=((j+(n+3):Nat):Int))=true:=decide_eq_true (by omega);have e5:decide ((((j+(n+3):Nat):Int))<=((Wd (A++w++C)).length:Int))=true:=decide_eq_true (by rw[Az];simp;omega);have e6:decide ((j:Int)<((Wd (ax (j+1) 0++qs)).length:Int))=true:=decide_eq_true (by rw[Az];simp;omega);have e7:aa .i64 ((j:Int)-1)=(j:Int)-1:=As (by omega);have hset:∀z:Nat,(Wd (ax (j+1) 0++qs)).set j (z:Int)=Wd (ax j 0++(z::qs)):=fun z=>by
   rw[Eb,ml _ _ (by simp),List.replicate_succ',gh _ _ (by simp)];simp
  have e8:j+(n+3)-j=n+3:=by omega
  dsimp only;simp only[ei,e0,e1,e3,e4,e5,e6,e7,bf,cond_true,ab,e8];rw[aQj o4,aNH o4,cond_true];dsimp only;rw[hset];refine hL _ ⟨j,nv (2^64) w/nv (2^64) v::qs,A++out++C,by omega,by simp;omega,?_,by simp;omega,?_,?_,?_,rfl⟩ (by dsimp only;omega)
  ·intro x hx;rcases cx.1 hx with rfl|hx
   ·exact hq64
   ·exact hqd x hx
  ·intro x hx;rcases cz.1 hx with hx|hx
   ·rcases cz.1 hx with hx|hx
    ·exact hAd x hx
    ·exact o2 x hx
   ·exact hCd x hx
  ·rw[hv2];have:(2^64)^j*(nv (2^64) w%nv (2^64) v+1)<=(2^64)^j*nv (2^64) v:=ce _ hml;rw[bt,gf]at this;rw[aq (nv (2^64) v)];omega
  ·rw[hv2,hinv,hv1];show _=(nv (2^64) w/nv (2^64) v+2^64*nv (2^64) qs)*(2^64)^j*nv (2^64) v+_;have h1:(2^64)^j*nv (2^64) w=(2^64)^j*(nv (2^64) v*(nv (2^64) w/nv (2^64) v))+(2^64)^j*(nv (2^64) w%nv (2^64) v):=by rw[←bt,hdm]
   rw[h1,Iw,cp,cp];generalize nv (2^64) w/nv (2^64) v=q;generalize nv (2^64) v=V;generalize(2^64)^j=P;have h2:nv (2^64) qs*(P*2^64)*V=2^64*nv (2^64) qs*P*V:=by rw[aq P,←ao,aq (nv (2^64) qs)]
   have h3:P*(V*q)=q*P*V:=by rw[aq V,←ao,aq P]
   rw[h2,h3];omega
end VL
namespace VL
open Go Vx
theorem aMF{x k:Nat}(h:(2^64)^k<=x):k<(dg (2^64) x).length:=by
 have:=SM (B:=2^64) (by decide) x;exact(ct (a:=2^64) (by decide)).1 (av h this)
theorem aMG{x:Nat}(h0:x≠0):∃t,(dg (2^64) x).getD ((dg (2^64) x).length-1) 0=t/\t≠0/\t<2^64/\An x=64*((dg (2^64) x).length-1)+An t/\0<(dg (2^64) x).length:=by
 have hl:0<(dg (2^64) x).length:=by rw[Gr (by decide) (by omega)];simp
 have ht:=Rr (B:=2^64) (by decide) x;have h1:=aW (dg (2^64) x) (by rw[ht];exact hl);have h2:=aDm (Gq (B:=2^64) (by decide) x) (by rw[ht];exact hl);rw[ht]at h1 h2;rw[Cg]at h2;exact⟨_,rfl,h1,Cr (by decide) (Gq (by decide) x) _,h2,hl⟩
theorem Th(k:Nat):(2^64)^k=2^(64*k):=(lv ..).symm
theorem aKD{a b:Nat}(ha:a<(2^64)^4000)(hb:b<(2^64)^4000)(h0:b≠0):Xy (Dw a,Dw b,())=some (Dw (a/b),Dw (a%b),()):=by
 have up:∀{x:Nat},x<(2^64)^4000->x<(2^64)^5000:=fun h=>ah h (ae (by decide) (by decide));show lH Dt.pre Dt.F EK.pre EK.F Bk.pre Bk.F CP.pre CP.F Fz.pre Fz.F BB.pre BB.F Dv.pre Dv.F EL.pre EL.F Af.pre Af.F CQ.pre CQ.F YK (Dw a) (Dw b)=_;unfold lH;have pa:=Q6 (up ha);have pb:=Q6 (up hb);have pc:=dG (up ha) (up hb);have wa:=Di (up ha);have wb:=Di (up hb);have hla:(dg (2^64) a).length<=4000:=CW (by decide) _ _ ha;have hlb:(dg (2^64) b).length<=4000:=CW (by decide) _ _ hb;have pcopy:=zC (dg (2^64) a) wa;rw[Cg]at pcopy;have pcopy:R8 (Dw a,())=some (Dw a,()):=pcopy;obtain⟨t,ht,ht0,ht64,hbt,hlp⟩:=aMG h0;have hLen:∀x:Nat,(Dw x).length=(dg (2^64) x).length:=fun x=>Az _;have hGet:∀(x i:Nat),(Dw x).getD i 0=(((dg (2^64) x).getD i 0:Nat):Int):=fun x i=>BZ _ _;dsimp only;simp only[CZ pa,CX pa,CZ pb,CX pb,Z4 pc,Zy pc,cond_true];by_cases hlt:a<b
 ·have e0:decide ((if a=b then(0:Int)else if a<b then -1 else 1)<0)=true:=by rw[if_neg (by omega),if_pos hlt];rfl
  simp only[e0,cond_true,vT pcopy,tU pcopy];rw[bu hlt,ar hlt,Dr]
 have e0:decide ((if a=b then(0:Int)else if a<b then -1 else 1)<0)=false:=by
  rw[if_neg hlt];split<;>rfl
 simp only[e0,cond_false];by_cases h1:(dg (2^64) b).length=1
 ·have e1:(((Dw b).length:Int)==1)=true:=by rw[hLen,h1];rfl
  have hb64:b<2^64:=by
   have:=SM (B:=2^64) (by decide) b;rw[h1,Nat.pow_one]at this;exact this
  have e2:decide ((0:Int)<((Dw b).length:Int))=true:=by rw[hLen,h1];rfl
  have e3:(Dw b).getD (aj 0) 0=(b:Int):=by rw[bi,Kj,ar hb64]
  have p0:=aKd (up ha) (iw h0) hb64;have hr:a%b<b:=bo _ (iw h0);have p1:=Ea [a%b] (by simp);rw[nT (by intro x hx;rw[gz]at hx;omega),show nv (2^64) [a%b]=a%b by simp[nv]]at p1;have p1:Sc ((((a%b:Nat):Int)::[]),())=_:=p1;simp only[e1,e2,e3,cond_true,vT pcopy,tU pcopy,aP1 p0,aNp p0,CZ p1,CX p1]
 have e1:(((Dw b).length:Int)==1)=false:=by
  rw[hLen];exact Io _ _ (by omega)
 simp only[e1,cond_false];obtain⟨n,hn⟩:∃n,(dg (2^64) b).length=n+2:=⟨(dg (2^64) b).length-2,by omega⟩
 have hab:(dg (2^64) b).length<=(dg (2^64) a).length:=aDL (by decide) (by omega);obtain⟨Q,hQ⟩:∃Q,(dg (2^64) a).length+1=Q+n+2:=⟨(dg (2^64) a).length+1-(n+2),by omega⟩
 rw[show(dg (2^64) b).length-1=n+1 by omega]at ht hbt;have hbl:=Fb ht64;have hbl1:=JZ ht0;generalize hs:64-An t=s at *
 have p327:=zT ht64;rw[hs]at p327;have hub:=G8 b;have hlob:=JY h0;have hp:=ag s;have hV1:b*2^s<2^(64*(n+2)):=by
  have h2:b*2^s<2^An b*2^s:=cm hub hp;rw[←ap,show An b+s=64*(n+2) by omega]at h2;exact h2
 have hV2:2^(64*(n+2)-1)<=b*2^s:=by
  have h2:2^(An b-1)*2^s<=b*2^s:=ay _ hlob;rw[←ap,show An b-1+s=64*(n+2)-1 by omega]at h2;exact h2
 have hvlen:(dg (2^64) (b*2^s)).length=n+2:=by
  have h2:(dg (2^64) (b*2^s)).length<=n+2:=CW (by decide) _ _ (by rw[Th];exact hV1);have h3:=aMF (x:=b*2^s) (k:=n+1) (by
   rw[Th];exact fk (ae (by decide) (by omega)) hV2)
  omega
 have hA:a*2^s<2^(64*(dg (2^64) a).length+s):=by
  have h2:=SM (B:=2^64) (by decide) a;rw[Th]at h2;rw[ap];exact cm h2 hp
 have hulen:(dg (2^64) (a*2^s)).length<=Q+n+2:=CW (by decide) _ _ (by
  rw[Th];exact ah hA (ae (by decide) (by omega)))
 have hstart:a*2^s<b*2^s*(2^64)^Q:=by
  have h2:2^(64*(n+2)-1)*2^(64*Q)<=b*2^s*2^(64*Q):=ay _ hV2;rw[←ap]at h2;rw[Th];exact ah (ah hA (ae (by decide) (by omega))) h2
 have pv:=pG (dg (2^64) b) wb s (by rw[Rr (by decide)];omega);have pu:=pG (dg (2^64) a) wa s (by rw[Rr (by decide)];omega);rw[Cg]at pv pu;have pv:Sf (Dw b,(s:Int),())=some (Dw (b*2^s),()):=pv;have pu:Sf (Dw a,(s:Int),())=some (Dw (a*2^s),()):=pu;have e17:aa .i64 (((Dw b).length:Int)-1)=((n+1:Nat):Int):=by rw[hLen,As (by omega)];omega
 have e18:aa .i64 (((Dw a).length:Int)+1)=((Q+n+2:Nat):Int):=by rw[hLen,As (by omega)];omega
 have eg:(Dw b).getD (aj ((n+1:Nat):Int)) 0=(t:Int):=by rw[ab,hGet,ht]
 have e2:(decide ((0:Int)<=((n+1:Nat):Int))&&decide (((n+1:Nat):Int)<((Dw b).length:Int)))=true:=by
  rw[hLen,decide_eq_true (by omega),decide_eq_true (by omega)];rfl
 have e3:(decide ((0:Int)<=((Q+n+2:Nat):Int))&&decide (((Q+n+2:Nat):Int)*8<=140737488355328))=true:=by
  rw[decide_eq_true (by omega),decide_eq_true (by omega)];rfl
 generalize hud:dg (2^64) (a*2^s)++ax (Q+n+2-(dg (2^64) (a*2^s)).length) 0=us;have husl:us.length=Q+n+2:=by rw[←hud,List.length_append,fx];omega
 have hus:∀x∈us,x<2^64:=by
  rw[←hud];intro x hx;rcases cz.1 hx with hx|hx
  ·exact Gq (by decide) _ x hx
  ·have:=(pf.1 hx).2;omega
 have husv:nv (2^64) us=a*2^s:=by rw[←hud,Td,aGn,fm,de,Cg]
 have hrow:(Dw (a*2^s)).take (ax (aj ((Q+n+2:Nat):Int)) (0:Int)).length++(ax (aj ((Q+n+2:Nat):Int)) (0:Int)).drop (Dw (a*2^s)).length=Wd us:=by
  rw[ab,fx,Sp,hLen,aLI,List.drop_replicate];unfold Dw;rw[eD,cv hulen,←hud];unfold Wd;rw[List.map_append]
 have e11:aa .i64 (((Wd us).length:Int)-((Dw (b*2^s)).length:Int))=(Q:Int):=by
  rw[Az,husl,hLen,hvlen,As (by omega)];omega
 have e4:(decide ((0:Int)<=(Q:Int))&&decide ((Q:Int)*8<=140737488355328))=true:=by
  rw[decide_eq_true (by omega),decide_eq_true (by omega)];rfl
 have e5:aa .i64 (((ax (aj (Q:Int)) (0:Int)).length:Int)-1)=(Q:Int)-1:=by
  rw[ab,fx,As (by omega)]
 obtain⟨qs,us',k1,k2,k3,k4,k5,k6,k7⟩:=aLz (dg (2^64) (b*2^s)) hvlen (Gq (by decide) _) (by omega) (X:=a*2^s) Q (by omega) (s:Int) us husl hus husv (by rw[Cg];exact hstart);rw[Cg]at k3 k6;rw[gj _ _ hp]at k3;rw[fb]at k6;have k7:YK (((Dw (b*2^s),(((Q:Int)-1),((),((),(((Dw (b*2^s)).length:Int),((s:Int),())))))),(Wd us,((ax (aj (Q:Int)) (0:Int)),()))):Ge.D)=some (.inl (((),((),(((n+2:Nat):Int),((s:Int),())))),(Wd us',(Wd qs,())))):=by
  rw[ab,Sp,hLen];rw[hvlen]at k7⊢;exact k7
 simp only[e17,eg,aGP p327,aEH p327,vY pv,tZ pv,vY pu,tZ pu,e18,e2,e3,cond_true,hrow,e11,e4,e5];rw[k7];dsimp only[AY,A1];have pq:=Ea qs (by omega);rw[nT k2,k3]at pq;have hnl:nv (2^64) (us'.take (n+2))=a%b*2^s:=by
  have h2:=MY (2^64) us' (n+2) (by omega);have h3:nv (2^64) (us'.drop (n+2))=0:=by
   rcases bj (nv (2^64) (us'.drop (n+2)))with h|h
   ·exact h
   ·exfalso;have h4:(2^64)^(n+2)*1<=(2^64)^(n+2)*nv (2^64) (us'.drop (n+2)):=ce _ h;have h5:a%b*2^s<b*2^s:=cm (bo _ (iw h0)) hp;rw[Th]at h4 h2;omega
  rw[h3,fm,de]at h2;rw[←h2,k6]
 have pr:=zN (us'.take (n+2)) ⟨fun x hx=>k5 x (fd hx),by simp;omega⟩ s (by omega);rw[hnl,ki _ hp]at pr;have pr:TT (Wd (us'.take (n+2)),(s:Int),())=some (Dw (a%b),()):=pr;have e6:(decide ((0:Int)<=((n+2:Nat):Int))&&decide (((n+2:Nat):Int)<=((Wd us').length:Int)))=true:=by
  rw[Az,k4,decide_eq_true (by omega),decide_eq_true (by omega)];rfl
 have e7:((Wd us').take (aj ((n+2:Nat):Int))).drop (aj 0)=Wd (us'.take (n+2)):=by
  rw[ab,bi,eD,lx]
 simp only[CZ pq,CX pq,e6,e7,aGM pr,aEE pr,cond_true]
theorem uG{l:List (List Nat)}(hl:∀x∈l,x.length<=1024)(hn:l.length<=1000000):JE (l.map Wd,())=some (false,()):=by
 have:=zR l (fun x hx=>by have:=hl x hx;omega) hn;rw[this,decide_eq_true (fun x hx=>fk (Ek x).1 (hl x hx))];rfl
theorem aKE{a b:Nat}(ha:a<(2^64)^1024)(hb:b<(2^64)^1024)(h0:b≠0):Xz (Dw a,Dw b,())=some (Dw (a/b),Dw (a%b),0,()):=by
 have up:∀{x:Nat},x<(2^64)^1024->x<(2^64)^4000:=fun h=>ah h (ae (by decide) (by decide));have up5:∀{x:Nat},x<(2^64)^1024->x<(2^64)^5000:=fun h=>ah h (ae (by decide) (by decide));show lI D7.pre D7.F Af.pre Af.F Qv.pre Qv.F (Dw a) (Dw b)=_;unfold lI;have p0:=uG (l:=[dg (2^64) a,dg (2^64) b]) (by
  intro x hx;rcases cx.1 hx with rfl|hx
  ·exact CW (by decide) _ _ ha
  ·rw[gz]at hx;rw[hx];exact CW (by decide) _ _ hb) (by simp)
 have p0:JE ((Dw a::Dw b::[]),())=some (false,()):=p0;have p1:=Q6 (up5 hb);have p2:=aKD (up ha) (up hb) h0;have e0:(((Dw b).length:Int)==0)=false:=by rw[aID,decide_eq_false h0]
 simp only[Z6 p0,ZA p0,CZ p1,CX p1,aQk p2,aNI p2,cond_true,cond_false,e0]
end VL
namespace VL
open Go Vx
theorem aO3{x y p c:Nat}(hx:x<2^64)(hy:y<2^64)(hp:p<2^64)(hc:c<2^64):
  x*y+p+c=2^64*(x*y/2^64+(x*y%2^64+p)/2^64+((x*y%2^64+p)%2^64+c)/2^64)+((x*y%2^64+p)%2^64+c)%2^64 /\
   x*y/2^64+(x*y%2^64+p)/2^64+((x*y%2^64+p)%2^64+c)/2^64<2^64:=by
 have:x*y<=(2^64-1)*(2^64-1):=io (by omega) (by omega);generalize x*y=z at *
 omega
theorem aE4(l:List Nat)(i j v:Nat):(l.set i v).getD j 0=if i=j/\i<l.length then v else l.getD j 0:=by
 rw[al,al,List.getElem?_set];by_cases h:i=j
 ·subst h;by_cases h2:i<l.length
  ·simp[h2]
  ·simp[h2]
 ·simp[h]
theorem aF8{l:List Nat}{i v B:Nat}(h:∀x∈l,x<B)(hv:v<B):∀x∈l.set i v,x<B:=fun x hx=>by
 rcases List.mem_or_eq_of_mem_set hx with h1|h1
 ·exact h x h1
 ·omega
theorem aLu(a b p:List Nat)(hb:∀x∈b,x<2^64)(hn:b.length<=100000){x i:Nat}(hx:x<2^64)(hi:i<=100000)(hpl:i+b.length<p.length)(hpn:p.length<=300000)(hpd:∀z∈p,z<2^64)
  (hz:∀k,i+b.length<=k->p.getD k 0=0) (la:Int) :
  ∃(p':List Nat) (c:Nat),p'.length=p.length/\(∀z∈p',z<2^64)/\c<2^64/\nv (2^64) p'+(2^64)^(i+b.length)*c=nv (2^64) p+(2^64)^i*(x*nv (2^64) b)/\(∀k,i+b.length<=k->p'.getD k 0=0) /\
   Rb (((b.length:Int),(Wd b,((x:Int),((0:Int),((i:Int),((0:Int),((i:Int),(la,(Wd a,(Wd b,((),()))))))))))),(Wd p,()))=some (.inl (((i:Int),((c:Int),((i:Int),(la,(Wd a,(Wd b,((),()))))))),(Wd p',()))):=by
 have key:=MU (aFO AO.pre AO.F Ay.pre Ay.F Af.pre Af.F) (fun s=>b.length-s.1.2.2.2.1.toNat)
  (fun s=>∃(j:Nat) (p':List Nat) (c:Nat),j<=b.length/\p'.length=p.length/\(∀z∈p',z<2^64)/\c<2^64/\nv (2^64) p'+(2^64)^(i+j)*c=nv (2^64) p+(2^64)^i*(x*nv (2^64) (b.take j))/\(∀k,i+b.length<=k->p'.getD k 0=0) /\
   s=(((b.length:Int),(Wd b,((x:Int),((j:Int),((i:Int),((c:Int),((i:Int),(la,(Wd a,(Wd b,((),()))))))))))),(Wd p',())))
  (fun y=>∃(p':List Nat) (c:Nat),p'.length=p.length/\(∀z∈p',z<2^64)/\c<2^64/\nv (2^64) p'+(2^64)^(i+b.length)*c=nv (2^64) p+(2^64)^i*(x*nv (2^64) b)/\(∀k,i+b.length<=k->p'.getD k 0=0) /\
   y=.inl (((i:Int),((c:Int),((i:Int),(la,(Wd a,(Wd b,((),()))))))),(Wd p',()))) ?_
  (((b.length:Int),(Wd b,((x:Int),((0:Int),((i:Int),((0:Int),((i:Int),(la,(Wd a,(Wd b,((),()))))))))))),(Wd p,()))
  ⟨0,p,0,ej _,rfl,hpd,by decide,by simp[nv],hz,rfl⟩
 ·obtain⟨y,hy,p',c,k1,k2,k3,k4,k5,rfl⟩:=key;exact⟨p',c,k1,k2,k3,k4,k5,hy⟩
 intro L s hs hL;obtain⟨j,q,c,hj,hql,hqd,hc,hinv,hqz,rfl⟩:=hs;unfold Vi;rcases au j b.length with hlt|hge
 ·have hy:=Cr (by decide) hb j;have hp:=Cr (by decide) hqd (i+j);have hnb:=Ex (2^64) b j;have hgb:(Wd b).getD j 0=((b.getD j 0:Nat):Int):=BZ b j;have hgq:(Wd q).getD (i+j) 0=((q.getD (i+j) 0:Nat):Int):=BZ q _;have hst:=fun z=>ZV (2^64) q (i+j) z (by omega);have hgs:=fun z k=>aE4 q (i+j) k z;generalize b.getD j 0=y at *
  generalize q.getD (i+j) 0=d at *
  have p0:=dH hx hy;obtain⟨m1,m2⟩:=aO3 hx hy hp hc;have q1:=Rk (x*y%2^64) d 0;have q2:=Rl ((x*y%2^64:Nat):Int) (d:Int) 0 (by decide);have r1:=Rk ((x*y%2^64+d)%2^64) c 0;have r2:=Rl (((x*y%2^64+d)%2^64:Nat):Int) (c:Int) 0 (by decide);rw[de]at q1 r1;have z0:((0:Nat):Int)=0:=rfl;rw[z0]at q1 q2 r1 r2;have hl:((x*y%2^64+d)%2^64+c)%2^64<2^64:=bo _ (by decide);have e5:=Ww (x*y/2^64) ((x*y%2^64+d)/2^64) (by omega);have e6:=Ww (x*y/2^64+(x*y%2^64+d)/2^64) (((x*y%2^64+d)%2^64+c)/2^64) m2;have e0:decide ((j:Int)<(b.length:Int))=true:=decide_eq_true (by omega);have e1:decide ((0:Int)<=(j:Int))=true:=decide_eq_true (by omega);have e2:aa .i64 ((i:Int)+(j:Int))=((i+j:Nat):Int):=by rw[As (by omega)];omega
  have e3:aa .i64 ((j:Int)+1)=((j+1:Nat):Int):=by rw[As (by omega)];omega
  have e4:decide ((0:Int)<=((i+j:Nat):Int))=true:=decide_eq_true (by omega);have e7:decide (((i+j:Nat):Int)<(q.length:Int))=true:=decide_eq_true (by omega);dsimp only;simp only[e0,e1,e2,e3,e4,e7,cond_true,bf,Az,ab,hgb,hgq,iR p0,gY p0,q1,q2,r1,r2,e5,e6,Eb];refine hL _ ⟨j+1,q.set (i+j) (((x*y%2^64+d)%2^64+c)%2^64),x*y/2^64+(x*y%2^64+d)/2^64+((x*y%2^64+d)%2^64+c)/2^64,by omega,by rw[iq];exact hql,aF8 hqd hl,m2,?_,?_,rfl⟩ (by simp only[ab];omega)
  ·have h1:=hst (((x*y%2^64+d)%2^64+c)%2^64);rw[hnb,show i+(j+1)=i+j+1 by omega,Iw,bt x,bt ((2^64)^i),fu x,←ao ((2^64)^i) ((2^64)^j),←ap];generalize((x*y%2^64+d)%2^64+c)%2^64=o at *
   generalize x*y/2^64+(x*y%2^64+d)/2^64+((x*y%2^64+d)%2^64+c)/2^64=c' at *
   generalize x*y=z at *
   have h2:(2^64)^(i+j)*(z+d+c)=(2^64)^(i+j)*(2^64*c'+o):=by rw[m1]
   rw[bt,bt,bt,←ao ((2^64)^(i+j)) (2^64)]at h2;omega
  ·intro k hk;rw[hgs,if_neg (by omega)];exact hqz k hk
 ·have e:j=b.length:=by omega
  subst e;have e0:decide ((b.length:Int)<(b.length:Int))=false:=decide_eq_false (by omega);dsimp only;simp only[e0,cond_false];rw[dj]at hinv;exact⟨_,rfl,q,c,hql,hqd,hc,hinv,hqz,rfl⟩
theorem aLt(a b:List Nat)(ha:∀x∈a,x<2^64)(hb:∀x∈b,x<2^64)(hna:a.length<=100000)(hnb:b.length<=100000):
  ∃p:List Nat,p.length=a.length+b.length/\(∀z∈p,z<2^64)/\nv (2^64) p=nv (2^64) a*nv (2^64) b /\
   YI ((((a.length:Int),(Wd a,(Wd b,((0:Int),((),()))))),(Wd (ax (a.length+b.length) 0),())):Fw.D)=some (.inl (((),()),(Wd p,()))):=by
 have key:=MU (aFN AO.pre AO.F Ay.pre Ay.F Af.pre Af.F Rb) (fun s=>a.length-s.1.2.2.2.1.toNat)
  (fun s=>∃(i:Nat) (p:List Nat),i<=a.length/\p.length=a.length+b.length/\(∀z∈p,z<2^64)/\nv (2^64) p=nv (2^64) (a.take i)*nv (2^64) b/\(∀k,i+b.length<=k->p.getD k 0=0) /\
   s=(((a.length:Int),(Wd a,(Wd b,((i:Int),((),()))))),(Wd p,())))
  (fun y=>∃p:List Nat,p.length=a.length+b.length/\(∀z∈p,z<2^64)/\nv (2^64) p=nv (2^64) a*nv (2^64) b/\y=.inl (((),()),(Wd p,()))) ?_
  (((a.length:Int),(Wd a,(Wd b,((0:Int),((),()))))),(Wd (ax (a.length+b.length) 0),()))
  ⟨0,ax (a.length+b.length) 0,ej _,by simp,(fun z hz=>by have:=(pf.1 hz).2;omega),by rw[aGn];simp[nv],(fun k _=>by
   rw[al,List.getElem?_replicate];split<;>rfl),rfl⟩
 ·obtain⟨y,hy,p,k1,k2,k3,rfl⟩:=key;exact⟨p,k1,k2,k3,hy⟩
 intro L s hs hL;obtain⟨i,p,hi,hpl,hpd,hinv,hz,rfl⟩:=hs;unfold Vh;rcases au i a.length with hlt|hge
 ·have hx:=Cr (by decide) ha i;have hna':=Ex (2^64) a i;have hga:(Wd a).getD i 0=((a.getD i 0:Nat):Int):=BZ a i;obtain⟨p',c,k1,k2,k3,k4,k5,k6⟩:=aLu a b p hb hnb hx (i:=i) (by omega) (by omega) (by omega) hpd hz (a.length:Int);have e0:decide ((i:Int)<(a.length:Int))=true:=decide_eq_true (by omega);have e1:decide ((0:Int)<=(i:Int))=true:=decide_eq_true (by omega);have e2:aa .i64 ((i:Int)+(b.length:Int))=((i+b.length:Nat):Int):=by rw[As (by omega)];omega
  have e3:aa .i64 ((i:Int)+1)=((i+1:Nat):Int):=by rw[As (by omega)];omega
  have e4:decide ((0:Int)<=((i+b.length:Nat):Int))=true:=decide_eq_true (by omega);have e5:decide (((i+b.length:Nat):Int)<(p'.length:Int))=true:=decide_eq_true (by omega);dsimp only;simp only[e0,e1,cond_true,bf,Az,ab,hga];rw[k6];dsimp only[AY,A1];simp only[e2,e3,e4,e5,cond_true,bf,Az,ab,Eb];refine hL _ ⟨i+1,p'.set (i+b.length) c,by omega,by rw[iq];omega,aF8 k2 k3,?_,?_,rfl⟩ (by simp only[ab];omega)
  ·have h1:=ZV (2^64) p' (i+b.length) c (by omega);rw[k5 _ (cg _),fm,de]at h1;rw[h1,k4,hinv,hna',cp,ao]
  ·intro k hk;rw[aE4,if_neg (by omega)];exact k5 k (by omega)
 ·have e:i=a.length:=by omega
  subst e;have e0:decide ((a.length:Int)<(a.length:Int))=false:=decide_eq_false (by omega);simp only[e0,cond_false];rw[dj]at hinv;exact⟨_,rfl,p,hpl,hpd,hinv,rfl⟩
theorem aKy{a b:Nat}(ha:a<(2^64)^5000)(hb:b<(2^64)^5000):Xs (Dw a,Dw b,())=some (Dw (a*b),()):=by
 show lA AO.pre AO.F Ay.pre Ay.F Af.pre Af.F YI Rb (Dw a) (Dw b)=_;unfold lA;have pa:=Q6 ha;have pb:=Q6 hb;have hla:(dg (2^64) a).length<=5000:=CW (by decide) _ _ ha;have hlb:(dg (2^64) b).length<=5000:=CW (by decide) _ _ hb;obtain⟨p,k1,k2,k3,k4⟩:=aLt (dg (2^64) a) (dg (2^64) b) (Gq (by decide) _) (Gq (by decide) _) (by omega) (by omega);rw[Cg,Cg]at k3;have hLen:∀x:Nat,(Dw x).length=(dg (2^64) x).length:=fun x=>Az _;have e0:aa .i64 (((Dw a).length:Int)+((Dw b).length:Int))=(((dg (2^64) a).length+(dg (2^64) b).length:Nat):Int):=by rw[hLen,hLen,As (by omega)];omega
 have e1:(decide ((0:Int)<=(((dg (2^64) a).length+(dg (2^64) b).length:Nat):Int))&&decide ((((dg (2^64) a).length+(dg (2^64) b).length:Nat):Int)*8<=140737488355328))=true:=by
  rw[decide_eq_true (by omega),decide_eq_true (by omega)];rfl
 have k4:YI (((((Dw a).length:Int),(Dw a,(Dw b,((0:Int),((),()))))),((ax (aj (((dg (2^64) a).length+(dg (2^64) b).length:Nat):Int)) (0:Int)),())):Fw.D)=some (.inl (((),()),(Wd p,()))):=by
  rw[ab,Sp,hLen];exact k4
 have p0:=Ea p (by omega);rw[nT k2,k3]at p0;dsimp only;simp only[CZ pa,CX pa,CZ pb,CX pb,cond_true,e0,e1];rw[k4];dsimp only[AY,A1];simp only[CZ p0,CX p0,cond_true]
theorem aKz{a b:Nat}(ha:a<(2^64)^1024)(hb:b<(2^64)^1024)(hab:a*b<(2^64)^1024):T3 (Dw a,Dw b,())=some (Dw (a*b),0,()):=by
 have up5:∀{x:Nat},x<(2^64)^1024->x<(2^64)^5000:=fun h=>ah h (ae (by decide) (by decide));show lB Qt.pre Qt.F D7.pre D7.F (Dw a) (Dw b)=_;unfold lB;have p0:=uG (l:=[dg (2^64) a,dg (2^64) b]) (by
  intro x hx;rcases cx.1 hx with rfl|hx
  ·exact CW (by decide) _ _ ha
  ·rw[gz]at hx;rw[hx];exact CW (by decide) _ _ hb) (by simp)
 have p0:JE ((Dw a::Dw b::[]),())=some (false,()):=p0;have p2:=uG (l:=[dg (2^64) (a*b)]) (by
  intro x hx;rw[gz]at hx;rw[hx];exact CW (by decide) _ _ hab) (by simp)
 have p2:JE ((Dw (a*b)::[]),())=some (false,()):=p2;have p1:=aKy (up5 ha) (up5 hb);simp only[Z6 p0,ZA p0,aQf p1,aND p1,Z6 p2,ZA p2,cond_true,cond_false]
end VL
namespace VL
open Go Vx
theorem aVZ(f:Int)(a:Nat):((Ad f a:Int)==0)=AK f a:=by
 cases hz:AK f a
 ·exact AS _ (Kh hz)
 ·unfold AK at hz;rw[ai,beq_iff_eq,beq_iff_eq]at hz;unfold Ad;rw[if_pos hz.1,hz.2];rfl
end VL
namespace VL
open Go Vx
def pv(f:Int)(x:Nat):Nat:=Ad f x*2^(Ag f x-qm f).toNat
end VL
namespace VL
open Go Vx
def VV(f:Int)(x:Nat):Nat:=Ad f x*2^(Ag f x+2600).toNat
end VL
namespace VL
open Go Vx
theorem aHs{f m:Int}{neg:Bool}{N k:Nat}{E:Int}(hf:Fm f)(hn:N/2^k≠0)(hm:N%2^k≠0->fP f+1<=An (N/2^k)):AH f m neg (N/2^k) (E+k) (decide (N%2^k≠0))=AH f m neg N E false:=by
 have ht:=aIq (E:=E) hn;have htd:AW (N/2^k) (E+k)=E+k+(An (N/2^k):Int)-1:=rfl;have hq1:N%2^k≠0->E+k<MV f (AW N E):=fun h=>by
  have:=hm h;unfold MV;split<;>omega
 have hq2:N%2^k≠0->E+k<AW N E-fP f+1:=fun h=>by
  have:=hm h;omega
 have hti:FJ f m neg (N/2^k) (E+k) (decide (N%2^k≠0))=FJ f m neg N E false:=by
  unfold FJ;rw[ht,gG hq2]
 unfold AH;simp only[ht,gG hq1,(sW hq1).2,hti]
theorem aHq{f m:Int}{neg:Bool}{N k:Nat}{E:Int}(hf:Fm f)(hb:fP f+1<=An (N/2^k)):AH f m neg (N/2^k) E true=AH f m neg (2*N+1) (E-k-1) false:=by
 have hP:=DJ hf;have e1:(2*N+1)/2^(k+1)=N/2^k:=by
  rw[df,aq (2^k),←dk,show(2*N+1)/2=N by omega]
 have e2:(2*N+1)%2^(k+1)≠0:=by
  rw[df,aq (2^k),Nat.mod_mul];omega
 have h0:N/2^k≠0:=fun h=>by
  rw[h]at hb;have:An 0=0:=rfl;omega
 have:=aHs (f:=f) (m:=m) (neg:=neg) (N:=2*N+1) (k:=k+1) (E:=E-k-1) hf (by rw[e1];exact h0) (fun _=>by rw[e1];exact hb);rw[e1,decide_eq_true e2,show E-k-1+((k+1:Nat):Int)=E by omega]at this;exact this
def M3(f m:Int)(neg:Bool)(R:Nat)(E:Int)(more:Bool):Nat×Nat:=if more=true then AH f m neg (2*R+1) (E-1) false else AH f m neg R E false
theorem aHn{f m:Int}{neg:Bool}(hf:Fm f){R:Nat}{E:Int}{more:Bool}(hb:more=true->fP f+1<=An R):AH f m neg R E more=M3 f m neg R E more:=by
 unfold M3;cases more
 ·rw[if_neg (by decide)]
 ·have:=aHq (f:=f) (m:=m) (neg:=neg) (N:=R) (k:=0) (E:=E) hf (by rw[ij,ms];exact hb rfl);rw[ij,ms]at this;rw[if_pos rfl,this];congr 1;omega
theorem aTT{f m:Int}{neg:Bool}(hf:Fm f){R k:Nat}{E:Int}{more:Bool}(hb:fP f+1<=An (R/2^k)):M3 f m neg (R/2^k) (E+k) (more||decide (R%2^k≠0))=M3 f m neg R E more:=by
 have h0:R/2^k≠0:=fun h=>by
  rw[h]at hb;have:An 0=0:=rfl;omega
 rw[←aHn hf (fun _=>hb)];unfold M3;cases more
 ·rw[if_neg (by decide),bp];exact aHs hf h0 fun _=>hb
 ·rw[if_pos rfl,be];have:=aHq (f:=f) (m:=m) (neg:=neg) (N:=R) (k:=k) (E:=E+k) hf hb;rw[this,show E+(k:Int)-(k:Int)-1=E-1 by omega]
def Ii(f m:Int)(neg:Bool)(n k:Nat)(e:Int):Nat×Nat:=M3 f m neg (n*2^300/k) (e-300) (decide (n*2^300%k≠0))
theorem aQ5{n k:Nat}(hk:0<k)(t:Nat):(n*2^t/k)/2^t=n/k/\(n%k≠0↔(n*2^t%k≠0∨(n*2^t/k)%2^t≠0)):=by
 have hpp:=ag t;have h1:(n*2^t/k)/2^t=n/k:=by
  rw[dk,aq k,←dk,ki _ hpp]
 refine⟨h1,?_⟩;have a1:=ck (n*2^t) k;have a2:=ck (n*2^t/k) (2^t);have a3:=ck n k;rw[h1]at a2;generalize n*2^t%k=r at *
 generalize hQ:n*2^t/k=Q at *
 generalize Q%2^t=u at *
 generalize n%k=w at *
 generalize n/k=q at *
 have e:k*u+r=w*2^t:=by
  have h2:(k*q+w)*2^t=k*(2^t*q+u)+r:=by rw[a3,a2,a1]
  rw[cp,bt,jm,ao k,←ao k]at h2;omega
 constructor
 ·intro hw;rcases bj r with hr|hr
  ·right;intro hu;rw[hu,hr,fm]at e;have:=gd (show 0<w by omega) hpp;omega
  ·left;omega
 ·intro h hw;rw[hw,fc]at e;rcases h with h|h
  ·omega
  ·have:=gd hk (show 0<u by omega);omega
theorem sY{f m:Int}{neg:Bool}(hf:Fm f){n k:Nat}(hn:n≠0)(hk:0<k)(e:Int){s:Nat}(hs:s<=300)(h:n*2^s%k≠0->fP f+1<=An (n*2^s/k)):
  M3 f m neg (n*2^s/k) (e-s) (decide (n*2^s%k≠0))=Ii f m neg n k e:=by
 obtain⟨t,ht⟩:∃t,s+t=300:=⟨300-s,by omega⟩
 have e300:n*2^300=n*2^s*2^t:=by rw[ao,←ap,ht]
 obtain⟨q1,q2⟩:=aQ5 (n:=n*2^s) hk t;unfold Ii;rw[e300];by_cases hex:n*2^s%k=0
 ·have hq:n*2^s=k*(n*2^s/k):=by have:=ck (n*2^s) k;omega
  have hq0:n*2^s/k≠0:=fun h0=>by
   rw[h0,fm]at hq;exact lq hn (lz (ag s)) hq
  have h1:n*2^s*2^t/k=(n*2^s/k)*2^t:=by
   rw[hq,ao k,ga _ hk,ga _ hk]
  have h2:n*2^s*2^t%k=0:=by
   rw[hq,ao k,Nat.mul_mod_right]
  rw[h1,h2,hex];unfold M3;rw[if_neg (by decide),if_neg (by decide),M4 hf hq0];congr 1;omega
 ·have hb:=h hex;have:=aTT (f:=f) (m:=m) (neg:=neg) hf (R:=n*2^s*2^t/k) (k:=t) (E:=e-300) (more:=decide (n*2^s*2^t%k≠0)) (by rw[q1];exact hb);rw[←this,q1,show e-300+(t:Int)=e-s by omega];congr 1;rw[cu,dl,decide_eq_true_eq,decide_eq_true_eq,decide_eq_true_eq];exact q2
def aDS(f m:Int)(a b:Nat):Int×Int×Int×Unit:=bif nan f a||nan f b then((CC f:Int),(bif AG f a||AG f b then 1 else 0),0,())else bif(Au f a&&Au f b)||(AK f a&&AK f b)then((CC f:Int),1,0,())else bif Au f a then((Gu f (!(sF f a==sF f b)):Int),0,0,())else bif AK f b then((Gu f (!(sF f a==sF f b)):Int),2,0,())else bif Au f b||AK f a then((Dg f (!(sF f a==sF f b)):Int),0,0,())else(((Ii f m (!(sF f a==sF f b)) (Ad f a) (Ad f b) (Ag f a-Ag f b)).1:Int),((Ii f m (!(sF f a==sF f b)) (Ad f a) (Ad f b) (Ag f a-Ag f b)).2:Int),0,())
def Rs(f m:Int)(a b:Nat):Int×Int×Int×Unit:=if ¬Fm f then(0,0,2,())else if m<0∨m>5 then(0,0,3,())else if Am f a≠0 then(0,0,Am f a,())else if Am f b≠0 then(0,0,Am f b,())else aDS f m a b
end VL
namespace VL
open Go Vx
theorem aJ9{f:Int}{a:Nat}(ha:a<2^64):∃v:Int,R7 (f,(a:Int),())=some (v,Am f a,())/\(Am f a=0->v=(By f a:Int)):=by
 by_cases h:Am f a=0
 ·exact⟨_,by rw[zB ha h,h],fun _=>rfl⟩
 ·refine⟨0,?_,fun h2=>absurd h2 h⟩;show Wa Ar.pre Ar.F Dk.pre Dk.F f (a:Int)=_;unfold Wa;have p0:=En f a ha;simp only[DC p0,Dz p0,cond_true,bne_iff_ne.2 h]
end VL
namespace VL
open Go Vx
def vC(c:Int)(neg:Bool)(X:Nat)(e:Int):Int:=bif neg then -((X*2^(e-c).toNat:Nat):Int)else((X*2^(e-c).toNat:Nat):Int)
theorem RX(c:Int)(s:Bool)(e:Int):vC c s 0 e=0:=by
 unfold vC;rw[fc];cases s<;>rfl
theorem Wu{c:Int}(hc:-4000<=c/\c<=0)(s:Bool)(n:Nat){e:Int}(he:c<=e):c<=(od s n e).2.2/\vC c (od s n e).1 (od s n e).2.1 (od s n e).2.2=vC c s n e:=by
 rcases Ey s n e with⟨h,h0⟩|⟨h1,h2,h3,h4,h5⟩
 ·rw[h,h0,RX,RX];exact⟨hc.2,rfl⟩
 ·refine⟨by omega,?_⟩;have e1:(od s n e).2.1*2^((od s n e).2.2-c).toNat=n*2^(e-c).toNat:=by
   rw[h5,show(e+(tz n:Int)-c).toNat=tz n+(e-c).toNat by omega,ap,←ao,aq _ (2^tz n),←h4]
  unfold vC;rw[e1,h1]
theorem aU4{c:Int}(nx:Bool)(X:Nat)(ex:Int)(ny:Bool)(Y:Nat)(ey:Int)(hx:c<=ex)(hy:c<=ey):
  c<=(CO nx X ex ny Y ey).2.2/\vC c (CO nx X ex ny Y ey).1 (CO nx X ex ny Y ey).2.1 (CO nx X ex ny Y ey).2.2=vC c nx X ex+vC c ny Y ey:=by
 by_cases h1:X=0
 ·subst h1;unfold CO;rw[if_pos rfl,RX,qq];exact⟨hy,rfl⟩
 by_cases h2:Y=0
 ·subst h2;unfold CO;rw[if_neg h1,if_pos rfl,RX,jn];exact⟨hx,rfl⟩
 obtain⟨e,he⟩:∃e,(if ey<ex then ey else ex)=e:=⟨_,rfl⟩
 have he2:e<=ex/\e<=ey/\c<=e:=by rw[←he];split<;>omega
 obtain⟨a,ha⟩:∃a,X*2^(ex-e).toNat=a:=⟨_,rfl⟩
 obtain⟨b,hb⟩:∃b,Y*2^(ey-e).toNat=b:=⟨_,rfl⟩
 have hD:CO nx X ex ny Y ey=if nx=ny then(nx,a+b,e)else if b<=a then(nx,a-b,e)else(ny,b-a,e):=by
  unfold CO;rw[if_neg h1,if_neg h2];simp only[he,ha,hb]
 have hA:X*2^(ex-c).toNat=a*2^(e-c).toNat:=by
  rw[←ha,ao,←ap];congr 2;omega
 have hB:Y*2^(ey-c).toNat=b*2^(e-c).toNat:=by
  rw[←hb,ao,←ap];congr 2;omega
 have hsum:=cp a b (2^(e-c).toNat);have hd1:=ot a b (2^(e-c).toNat);have hd2:=ot b a (2^(e-c).toNat);rw[hD];unfold vC;rw[hA,hB];by_cases hn:nx=ny
 ·subst hn;rw[if_pos rfl];refine⟨he2.2.2,?_⟩;dsimp only;rw[hsum];cases nx<;>simp only[cond_true,cond_false]<;>omega
 ·have hny:ny=!nx:=by cases nx<;>cases ny<;>first|rfl|exact absurd rfl hn
  subst hny;rw[if_neg hn];by_cases hle:b<=a
  ·have:=ay (2^(e-c).toNat) hle;rw[if_pos hle];refine⟨he2.2.2,?_⟩;dsimp only;rw[hd1];cases nx<;>simp only[cond_true,cond_false,bg,bd]<;>omega
  ·have:=ay (2^(e-c).toNat) (show a<=b by omega);rw[if_neg hle];refine⟨he2.2.2,?_⟩;dsimp only;rw[hd2];cases nx<;>simp only[cond_true,cond_false,bg,bd]<;>omega
def cC(c:Int)(S:Int):cD:=Cf (od (decide (S<0)) S.natAbs (c))
theorem sH{c:Int}(s:Bool)(n:Nat){e:Int}(he:c<=e):Cf (od s n e)=cC c (vC c s n e):=by
 unfold cC;congr 1;by_cases h0:n=0
 ·subst h0;rw[RX];rfl
 ·have hp:=ag (e-c).toNat;have hpos:0<n*2^(e-c).toNat:=gd (by omega) hp;have hs:decide (vC c s n e<0)=s:=by
   unfold vC;generalize n*2^(e-c).toNat=N at *
   cases s<;>simp only[cond_true,cond_false]
   ·exact decide_eq_false (by omega)
   ·exact decide_eq_true (by omega)
  have hn:(vC c s n e).natAbs=n*2^(e-c).toNat:=by
   unfold vC;cases s
   ·exact iv _
   ·exact(Int.natAbs_neg _).trans (iv _)
  rw[hs,hn];unfold od;rw[if_neg h0,if_neg (by omega),aIv h0];have hd:n*2^(e-c).toNat/2^(tz n+(e-c).toNat)=n/2^tz n:=by
   rw[ap,gj _ _ hp]
  rw[hd];congr 2;omega
def Bc(c:Int)(n:Nat)(e:Int):Prop:=c<=e/\e<=6000/\n*2^(e-c).toNat<2^5000
theorem Bc.lt{c:Int}{n:Nat}{e:Int}(h:Bc c n e):n<2^5000:=by
 have:=dz n (ag (e-c).toNat);exact av this h.2.2
theorem Bc.od{c:Int}(hc:-4000<=c/\c<=0){n:Nat}{e:Int}(s:Bool)(h:Bc c n e):Bc c (VL.od s n e).2.1 (VL.od s n e).2.2:=by
 rcases Ey s n e with⟨hz,_⟩|⟨_,h2,h3,h4,h5⟩
 ·rw[hz];exact⟨hc.2,by dsimp only;omega,by dsimp only;rw[fc];exact ag _⟩
 ·have hle:2^(tz n+(e-c).toNat)<=n*2^(e-c).toNat:=by
   rw[ap];refine ay _ ?_;have:=dz (2^tz n) (show 0<(VL.od s n e).2.1 by omega);omega
  have hlt:=(ct (a:=2) (by decide)).1 (av hle h.2.2);have hq:=hc.2;have h1:=h.1;refine⟨by omega,by omega,?_⟩;have e1:(VL.od s n e).2.1*2^((VL.od s n e).2.2-c).toNat=n*2^(e-c).toNat:=by
   rw[h5,show(e+(tz n:Int)-c).toNat=tz n+(e-c).toNat by omega,ap,←ao,aq _ (2^tz n),←h4]
  rw[e1];exact h.2.2
theorem aKe{c:Int}(hc:-4000<=c/\c<=0)(s:Bool)(X:Nat)(ex:Int)(s':Bool)(Y:Nat)(ey:Int)(hX:Bc c X ex)(hY:Bc c Y ey):
  TQ (dy s X ex,dy s' Y ey,())=some (Dw (X*2^(ex-(if ey<ex then ey else ex)).toNat),Dw (Y*2^(ey-(if ey<ex then ey else ex)).toNat),(if ey<ex then ey else ex),()):=by
 show j5 Ql.pre Ql.F (s,Dw X,ex,()) (s',Dw Y,ey,())=_;unfold j5;have hq:=hc.1;have x1:=hX.1;have x2:=hX.2.1;have y1:=hY.1;have y2:=hY.2.1;have he:(if ey<ex then ey else ex)<=ex/\(if ey<ex then ey else ex)<=ey/\c<=(if ey<ex then ey else ex):=by split<;>omega
 dsimp only;generalize(if ey<ex then ey else ex)=e at *
 obtain⟨d1,hd1⟩:=cw (show 0<=ex-e by omega);obtain⟨d2,hd2⟩:=cw (show 0<=ey-e by omega);have p1:=zO (MW (My hX.lt (by decide))) d1 (by omega);have p2:=zO (MW (My hY.lt (by decide))) d2 (by omega);have e1:aa .i64 (d1:Int)=(d1:Int):=As (by omega);have e2:aa .i64 (d2:Int)=(d2:Int):=As (by omega);simp only[hd1,hd2,e1,e2,aGN p1,aEF p1,aGN p2,aEF p2,cond_true,ab]
theorem Bc.sft{c:Int}{X:Nat}{ex e:Int}(h:Bc c X ex)(h1:e<=ex)(h2:c<=e):X*2^(ex-e).toNat<2^5000:=by
 have e1:X*2^(ex-c).toNat=X*2^(ex-e).toNat*2^(e-c).toNat:=by
  rw[ao,←ap];congr 2;omega
 have:=dz (X*2^(ex-e).toNat) (ag (e-c).toNat);rw[←e1]at this;exact av this h.2.2
theorem aJ7{c:Int}(hc:-4000<=c/\c<=0)(nx:Bool)(X:Nat)(ex:Int)(ny:Bool)(Y:Nat)(ey:Int)(hX:Bc c X ex)(hY:Bc c Y ey):
  ∃s n e,R4 (dy nx X ex,dy ny Y ey,())=some (dy s n e,())/\c<=e/\e<=12000/\n<2^5001/\vC c s n e=vC c nx X ex+vC c ny Y ey:=by
 have hq:=hc.1;have hq2:=hc.2;have x1:=hX.1;have x2:=hX.2.1;have y1:=hY.1;have y2:=hY.2.1;have big:(2:Nat)^5000+2^5000=2^5001:=aMB 5000;have sv:=aU4 (c:=c) nx X ex ny Y ey x1 y1;by_cases h1:X=0
 ·refine⟨ny,Y,ey,?_,y1,by omega,by have:=hY.lt;omega,by rw[h1,RX,qq]⟩;show RU GW.pre GW.F Cx.pre Cx.F Bk.pre Bk.F CV.pre CV.F CK.pre CK.F (nx,Dw X,ex,()) (ny,Dw Y,ey,())=_;unfold RU;rw[h1,Dr];rfl
 have l1:(((Dw X).length:Int)==0)=false:=AS _ (by have:=ID h1;omega);by_cases h2:Y=0
 ·refine⟨nx,X,ex,?_,x1,by omega,by have:=hX.lt;omega,by rw[h2,RX,jn]⟩;show RU GW.pre GW.F Cx.pre Cx.F Bk.pre Bk.F CV.pre CV.F CK.pre CK.F (nx,Dw X,ex,()) (ny,Dw Y,ey,())=_;unfold RU;dsimp only;rw[l1,cond_false,h2,Dr];rfl
 have l2:(((Dw Y).length:Int)==0)=false:=AS _ (by have:=ID h2;omega);have p0:=aKe hc nx X ex ny Y ey hX hY;have p0:TQ ((nx,Dw X,ex,()),(ny,Dw Y,ey,()),())=_:=p0;obtain⟨e,he⟩:∃e,(if ey<ex then ey else ex)=e:=⟨_,rfl⟩
 have he2:e<=ex/\e<=ey/\c<=e:=by rw[←he];split<;>omega
 obtain⟨a,haa⟩:∃a,X*2^(ex-e).toNat=a:=⟨_,rfl⟩
 obtain⟨b,hbb⟩:∃b,Y*2^(ey-e).toNat=b:=⟨_,rfl⟩
 have k1:=hX.sft he2.1 he2.2.2;have k2:=hY.sft he2.2.1 he2.2.2;rw[he,haa,hbb]at p0;rw[haa]at k1;rw[hbb]at k2;have hD:CO nx X ex ny Y ey=if nx=ny then(nx,a+b,e)else if b<=a then(nx,a-b,e)else(ny,b-a,e):=by
  unfold CO;rw[if_neg h1,if_neg h2];simp only[he,haa,hbb]
 have hDn:(CO nx X ex ny Y ey).2.1<2^5001/\(CO nx X ex ny Y ey).2.2=e:=by
  rw[hD];split
  ·exact⟨by dsimp only;omega,rfl⟩
  ·split
   ·exact⟨by dsimp only;omega,rfl⟩
   ·exact⟨by dsimp only;omega,rfl⟩
 have key:R4 (dy nx X ex,dy ny Y ey,())=some (Cf (od (CO nx X ex ny Y ey).1 (CO nx X ex ny Y ey).2.1 (CO nx X ex ny Y ey).2.2),()):=by
  show RU GW.pre GW.F Cx.pre Cx.F Bk.pre Bk.F CV.pre CV.F CK.pre CK.F (nx,Dw X,ex,()) (ny,Dw Y,ey,())=_;unfold RU;dsimp only;rw[l1,cond_false,l2,cond_false,hD];have b1:=MW (My k1 (by decide));have b2:=MW (My k2 (by decide));have k3:a+b<2^5001:=by omega
  have b3:=MW (My k3 (by decide));simp only[aP2 p0,aNq p0,cond_true];by_cases hn:nx=ny
  ·subst hn;have:(nx==nx)=true:=by cases nx<;>rfl
   rw[this,cond_true,if_pos rfl];have p1:=dF b1 b2;have p2:=WS nx b3 e (by omega);rw[Z0]at p2;have p2:Fa ((nx,Dw (a+b),e,()),())=_:=p2;simp only[Kc p1,J5 p1,RK p2,RE p2,cond_true]
  ·have:(nx==ny)=false:=by cases nx<;>cases ny<;>first|rfl|exact absurd rfl hn
   rw[this,cond_false,if_neg hn];have p1:=dG b1 b2;by_cases hle:b<=a
   ·have p2:=pF b1 hle;have p3:=WS nx (n:=a-b) (by omega) e (by omega);rw[Z0]at p3;have p3:Fa ((nx,Dw (a-b),e,()),())=_:=p3;have z:decide ((if a=b then(0:Int)else if a<b then -1 else 1)<0)=false:=by
     by_cases hab:a=b
     ·rw[if_pos hab];rfl
     ·rw[if_neg hab,if_neg (by omega)];rfl
    simp only[Z4 p1,Zy p1,cond_true,z,cond_false,vW p2,tX p2,RK p3,RE p3,if_pos hle]
   ·have p2:=pF b2 (y:=a) (by omega);have p3:=WS ny (n:=b-a) (by omega) e (by omega);rw[Z0]at p3;have p3:Fa ((ny,Dw (b-a),e,()),())=_:=p3;have z:decide ((if a=b then(0:Int)else if a<b then -1 else 1)<0)=true:=by
     rw[if_neg (by omega),if_pos (by omega)];rfl
    simp only[Z4 p1,Zy p1,cond_true,z,vW p2,tX p2,RK p3,RE p3,if_neg hle]
 have ov:=Wu hc (CO nx X ex ny Y ey).1 (CO nx X ex ny Y ey).2.1 sv.1;refine⟨_,_,_,key,ov.1,?_,?_,ov.2.trans sv.2⟩
 ·rcases Ey (CO nx X ex ny Y ey).1 (CO nx X ex ny Y ey).2.1 (CO nx X ex ny Y ey).2.2 with⟨hz,_⟩|⟨_,q2,q3,q4,q5⟩
  ·rw[hz];dsimp only;omega
  ·have:=Wq hDn.1 q3;have:=hDn.2;omega
 ·rcases Ey (CO nx X ex ny Y ey).1 (CO nx X ex ny Y ey).2.1 (CO nx X ex ny Y ey).2.2 with⟨hz,_⟩|⟨_,q2,q3,q4,q5⟩
  ·rw[hz];exact ag _
  ·have hle:=Nat.le_mul_of_pos_left (od (CO nx X ex ny Y ey).1 (CO nx X ex ny Y ey).2.1 (CO nx X ex ny Y ey).2.2).2.1 (ag (tz (CO nx X ex ny Y ey).2.1));have:=hDn.1;omega
theorem zA{c:Int}(hc:-4000<=c/\c<=0)(s:Bool){n:Nat}{e:Int}(h:Bc c n e):H4 (dy s n e,())=some (0,()):=by
 have:=hc.1;have h1:=h.1;have h2:=h.2.1;exact dE s h.lt (by decide) e (by omega)
theorem aLd{c:Int}(hc:-4000<=c/\c<=0)(s:Bool){n:Nat}{e:Int}(s':Bool){n':Nat}{e':Int}(h:Bc c n e)(h':Bc c n' e'):Ra (dy s n e,dy s' n' e',())=some (0,()):=by
 have q1:=zA hc s h;have q2:=zA hc s' h';show Wn E8.pre E8.F (dy s n e) (dy s' n' e')=_;unfold Wn;have q1:H4 (((dy s n e).1,(dy s n e).2),())=some (0,()):=q1;have q2:H4 (((dy s' n' e').1,(dy s' n' e').2),())=some (0,()):=q2;simp only[Z3 q1,Zx q1,Z3 q2,Zx q2,cond_true,bne_self_eq_false,cond_false]
theorem dD{c:Int}(hc:-4000<=c/\c<=0)(s:Bool){n:Nat}{e:Int}(h:Bc c n e):Fa (dy s n e,())=some (Cf (od s n e),()):=by
 have:=hc.1;have h1:=h.1;have h2:=h.2.1;have p:=WS s (MW (My h.lt (by decide))) e (by omega);rwa [Z0]at p
theorem aJ8{c:Int}(hc:-4000<=c/\c<=0)(s:Bool){n:Nat}{e:Int}(h1:c<=e)(h2:e<=12000)(hn:n<2^5001):Q2 (dy s n e,())=some (cC c (vC c s n e),0,()):=by
 have:=hc.1;have big:(2:Nat)^5001<=2^6000:=ae (by decide) (by decide);have p:=o9 s (ah hn big) e (by omega);rwa [sH s n h1]at p
theorem aK8{c:Int}(hc:-4000<=c/\c<=0)(s1:Bool){n1:Nat}{e1:Int}(s2:Bool){n2:Nat}{e2:Int}(h1:Bc c n1 e1)(h2:Bc c n2 e2):
  Uc (dy s1 n1 e1,dy s2 n2 e2,())=some (cC c (vC c s1 n1 e1+vC c s2 n2 e2),0,()):=by
 show nF Gm.pre Gm.F CK.pre CK.F Qg.pre Qg.F D4.pre D4.F (dy s1 n1 e1) (dy s2 n2 e2)=_;unfold nF;have p99:=aLd hc s1 s2 h1 h2;have i1:=dD hc s1 h1;have i2:=dD hc s2 h2;have v1:=Wu hc s1 n1 h1.1;have v2:=Wu hc s2 n2 h2.1;obtain⟨s,n,e,p101,g1,g2,g3,g4⟩:=aJ7 hc (od s1 n1 e1).1 (od s1 n1 e1).2.1 (od s1 n1 e1).2.2 (od s2 n2 e2).1 (od s2 n2 e2).2.1 (od s2 n2 e2).2.2 (h1.od hc s1) (h2.od hc s2);rw[v1.2,v2.2]at g4;have p104:=aJ8 hc s g1 g2 g3;rw[g4]at p104;have p99:Ra (((dy s1 n1 e1).1,(dy s1 n1 e1).2),((dy s2 n2 e2).1,(dy s2 n2 e2).2),())=some (0,()):=p99;have i1:Fa (((dy s1 n1 e1).1,(dy s1 n1 e1).2),())=some (Cf (od s1 n1 e1),()):=i1;have i2:Fa (((dy s2 n2 e2).1,(dy s2 n2 e2).2),())=some (Cf (od s2 n2 e2),()):=i2;have p101:R4 (Cf (od s1 n1 e1),Cf (od s2 n2 e2),())=some (dy s n e,()):=p101;simp only[aG9 p99,aE0 p99,RK i1,RE i1,RK i2,RE i2,aPV p101,aNj p101,vQ p104,tQ p104,cond_true,bne_self_eq_false,cond_false]
theorem aUP{c:Int}(s:Bool)(n:Nat)(e:Int):(if n=0 then(0:Int)else if s=true then -1 else 1)=(if vC c s n e=0 then 0 else if vC c s n e<0 then -1 else 1):=by
 by_cases h:n=0
 ·subst h;rw[RX,if_pos rfl,if_pos rfl]
 ·have hpos:=gd (show 0<n by omega) (ag (e-c).toNat);rw[if_neg h];unfold vC;generalize n*2^(e-c).toNat=N at *
  cases s<;>simp only[cond_true,cond_false]
  ·rw[if_neg (by simp),if_neg (by omega),if_neg (by omega)]
  ·rw[if_pos trivial,if_neg (by omega),if_pos (by omega)]
theorem sI{c:Int}(hc:-4000<=c/\c<=0){S:Int}(h:S.natAbs<2^5000):∃s n e,cC c S=dy s n e/\Bc c n e/\vC c s n e=S:=by
 have hb:Bc c S.natAbs (c):=⟨jy _,by have:=hc.2;omega,by rw[jo];simpa using h⟩
 refine⟨_,_,_,rfl,hb.od hc _,?_⟩;rw[(Wu hc (decide (S<0)) S.natAbs (jy (c))).2];unfold vC;rw[jo];by_cases hS:S<0
 ·rw[decide_eq_true hS];simp;omega
 ·rw[decide_eq_false hS];simp;omega
theorem aLQ{c:Int}(hc:-4000<=c/\c<=0){S T:Int}(h1:S.natAbs<2^5000)(h2:T.natAbs<2^5000):Uc (cC c S,cC c T,())=some (cC c (S+T),0,()):=by
 obtain⟨s,n,e,a1,a2,a3⟩:=sI hc h1;obtain⟨s',n',e',b1,b2,b3⟩:=sI hc h2;rw[a1,b1,aK8 hc s s' a2 b2,a3,b3]
end VL
namespace VL
open Go Vx
theorem aMd{c c':Int}(h:c'<=c)(S:Int):cC c S=cC c' (S*(2^(c-c').toNat:Nat)):=by
 have h1:=sH (c:=c') (decide (S<0)) S.natAbs h;have h2:vC c' (decide (S<0)) S.natAbs c=S*(2^(c-c').toNat:Nat):=by
  unfold vC;rw[jf];by_cases hS:S<0
  ·rw[decide_eq_true hS,cond_true,show((S.natAbs:Nat):Int)=-S by omega,qt,Int.neg_neg]
  ·rw[decide_eq_false hS,cond_false,show((S.natAbs:Nat):Int)=S by omega]
 rw[←h2,←h1];rfl
theorem aOZ{c c':Int}(hc:-4000<=c/\c<=0)(hc':-4000<=c'/\c'<=0)(hcc:-4000<=c+c'){S T:Int}(hS:S.natAbs<2^5000)(hT:T.natAbs<2^5000)(hST:(S*T).natAbs<2^5000):
  T5 (cC c S,cC c' T,())=some (cC (c+c') (S*T),0,()):=by
 have b1:Bc c S.natAbs c:=⟨jy _,by omega,by rw[jo];simpa using hS⟩
 have b2:Bc c' T.natAbs c':=⟨jy _,by omega,by rw[jo];simpa using hT⟩
 have B1:=b1.od hc (decide (S<0));have B2:=b2.od hc' (decide (T<0));have v1:=(Wu hc (decide (S<0)) S.natAbs (jy c)).2;have v2:=(Wu hc' (decide (T<0)) T.natAbs (jy c')).2;have w1:vC c (decide (S<0)) S.natAbs c=S:=by
  unfold vC;rw[jo];by_cases hS:S<0
  ·rw[decide_eq_true hS];simp;omega
  ·rw[decide_eq_false hS];simp;omega
 have w2:vC c' (decide (T<0)) T.natAbs c'=T:=by
  unfold vC;rw[jo];by_cases hS:T<0
  ·rw[decide_eq_true hS];simp;omega
  ·rw[decide_eq_false hS];simp;omega
 have i1:=aGo (decide (S<0)) S.natAbs c;have i2:=aGo (decide (T<0)) T.natAbs c';unfold cC;generalize hd1:od (decide (S<0)) S.natAbs c=D1 at *
 generalize hd2:od (decide (T<0)) T.natAbs c'=D2 at *
 obtain⟨s1,n1,e1⟩:=D1;obtain⟨s2,n2,e2⟩:=D2;dsimp only at B1 B2 v1 v2 i1 i2;have key:((n1*n2*2^(e1+e2-(c+c')).toNat:Nat):Int)=((n1*2^(e1-c).toNat:Nat):Int)*((n2*2^(e2-c').toNat:Nat):Int):=by
  rw[←jf];congr 1;have h1:=B1.1;have h2:=B2.1;rw[show(e1+e2-(c+c')).toNat=(e1-c).toNat+(e2-c').toNat by omega,ap,ao n1 n2,fu n2,←ao,←ao]
 have hv:vC (c+c') (!(s1==s2)) (n1*n2) (e1+e2)=S*T:=by
  rw[←w1,←w2,←v1,←v2];unfold vC;rw[key];generalize((n1*2^(e1-c).toNat:Nat):Int)=x;generalize((n2*2^(e2-c').toNat:Nat):Int)=y;cases s1<;>cases s2<;>simp[Int.mul_neg,qt]
 have hnn:n1*n2<2^5000:=by
  have h3:(S*T).natAbs=n1*n2*2^(e1+e2-(c+c')).toNat:=by
   rw[←hv];unfold vC;cases(!(s1==s2))
   ·rw[cond_false];omega
   ·rw[cond_true];omega
  have:=dz (n1*n2) (ag (e1+e2-(c+c')).toNat);omega
 have l1:=B1.lt;have l2:=B2.lt;have up:∀{x:Nat},x<2^5000->x<(2^64)^1024:=fun h=>by
  rw[Th];exact ah h (ae (by decide) (by decide))
 have big:(2:Nat)^5000<=2^6000:=ae (by decide) (by decide);have x1:=B1.1;have x2:=B1.2.1;have x3:=B2.1;have x4:=B2.2.1;have q1:=dE s1 l1 (by decide) e1 (by omega);have q2:=dE s2 l2 (by decide) e2 (by omega);have q3:=dD hc s1 B1;have q4:=dD hc' s2 B2;have q5:=aKz (up l1) (up l2) (up hnn);have q6:=o9 (!(s1==s2)) (n:=n1*n2) (ah hnn big) (e1+e2) (by omega);rw[i1]at q3;rw[i2]at q4;have q99:Ra (dy s1 n1 e1,dy s2 n2 e2,())=some (0,()):=by
  show Wn E8.pre E8.F (dy s1 n1 e1) (dy s2 n2 e2)=_;unfold Wn;have q1:H4 (((dy s1 n1 e1).1,(dy s1 n1 e1).2),())=some (0,()):=q1;have q2:H4 (((dy s2 n2 e2).1,(dy s2 n2 e2).2),())=some (0,()):=q2;simp only[Z3 q1,Zx q1,Z3 q2,Zx q2,cond_true,bne_self_eq_false,cond_false]
 have hw:aa .i64 (e1+e2)=e1+e2:=As (by omega);have hcan:=sH (c:=c+c') (!(s1==s2)) (n1*n2) (e:=e1+e2) (by omega);rw[hv]at hcan;show T5 (dy s1 n1 e1,dy s2 n2 e2,())=some (cC (c+c') (S*T),0,());rw[←hcan];show lK Gm.pre Gm.F CK.pre CK.F Qu.pre Qu.F D4.pre D4.F (dy s1 n1 e1) (dy s2 n2 e2)=_;unfold lK;have q99:Ra (((dy s1 n1 e1).1,(dy s1 n1 e1).2),((dy s2 n2 e2).1,(dy s2 n2 e2).2),())=some (0,()):=q99;have q3:Fa (((dy s1 n1 e1).1,(dy s1 n1 e1).2),())=some (dy s1 n1 e1,()):=q3;have q4:Fa (((dy s2 n2 e2).1,(dy s2 n2 e2).2),())=some (dy s2 n2 e2,()):=q4;have q5:T3 ((dy s1 n1 e1).2.1,(dy s2 n2 e2).2.1,())=some (Dw (n1*n2),0,()):=q5;have hw':aa .i64 ((dy s1 n1 e1).2.2.1+(dy s2 n2 e2).2.2.1)=e1+e2:=hw;have q6:Q2 ((!((dy s1 n1 e1).1==(dy s2 n2 e2).1),(Dw (n1*n2),(e1+e2,()))),())=some (Cf (od (!(s1==s2)) (n1*n2) (e1+e2)),0,()):=q6;dsimp only;simp only[aG9 q99,aE0 q99,cond_true,bne_self_eq_false,cond_false,RK q3,RE q3,RK q4,RE q4,aQg q5,aNE q5,hw',vQ q6,tQ q6]
theorem aVq{f:Int}{a:Nat}(h:Am f a=0)(hfin:eF f a≠BI f):Sg (f,(a:Int),())=some (cd f (vA f a),0,()):=by
 have h1:=Si h hfin;rw[aMg _ _ (aVU f a)]at h1;exact h1
structure Beside (f:Int) (R d:Nat) (more:Bool) (B:Nat) (inex:Bool) (r:Int->Nat×Nat):Prop where
 BM:B+1<Gv f
 pos:B≠0
 low:pv f B*2^d<=R
 high:R<pv f (B+1)*2^d
 ex:inex=(more||decide (pv f B*2^d≠R))
 any:∀m,0<=m/\m<=5->((r m).1=B∨(inex=true/\(r m).1=B+1))/\(r m).2=(bif inex then 16 else 0)
 down:(r 4).1=B
 up:(r 3).1=B+(bif inex then 1 else 0)
end VL
namespace VL
open Go Vx
theorem aLA{f:Int}(hf:Fm f)(l:List Nat)(hl:∀a∈l,a<2^64)(hlen:l.length<1000):
  dZ (((l.length:Int),(Wd l,(f,((0:Int),())))),())=some (bif CD f l then .inl ((),())else .inr (((4:Int),()),())):=by
 have key:=Dc (aFW Aq.pre Aq.F Ar.pre Ar.F) (fun x=>l.length-x.1.2.2.2.1.toNat)
  (fun x=>∃i:Nat,i<=l.length/\CD f (l.take i)=true/\x=(((l.length:Int),(Wd l,(f,((i:Int),())))),()))
  (fun _=>bif CD f l then .inl ((),())else .inr (((4:Int),()),())) ?_ _ ⟨0,ej _,rfl,rfl⟩
 ·exact key
 intro L x hx hL;obtain⟨i,hi,hok,rfl⟩:=hx;unfold Vq;rcases au i l.length with hlt|hge
 ·have hg:l.getD i 0=l[i]:=by simp[al,hlt]
  have hmem:l[i]∈l:=gx hlt;have ha:=hl _ hmem;have p0:=En f l[i] ha;have e0:decide ((i:Int)<(l.length:Int))=true:=decide_eq_true (by omega);have e1:(decide ((0:Int)<=(i:Int))&&decide ((i:Int)<((Wd l).length:Int)))=true:=by rw[Az,decide_eq_true (by omega),decide_eq_true (by omega)];rfl
  have e2:(Wd l).getD (aj (i:Int)) 0=((l[i]:Nat):Int):=by rw[ab,BZ,hg]
  have e3:aa .i64 ((i:Int)+1)=((i+1:Nat):Int):=by rw[As (by omega)];omega
  have htk:l.take (i+1)=l.take i++[l[i]]:=by rw[fe hlt]
  dsimp only;simp only[e0,e1,e2,e3,cond_true,DC p0,Dz p0];by_cases hc:Am f l[i]=0
  ·rw[hc,bne_self_eq_false,cond_false];refine hL _ ⟨i+1,by omega,?_,rfl⟩ (by simp only[ab];omega);unfold CD at hok⊢;rw[htk,lr,hok,jw,hc];rfl
  ·have h4:Am f l[i]=4:=(UN hf _).resolve_left hc;have hno:CD f l=false:=by
    unfold CD;rw[ky];exact⟨l[i],hmem,by rw[h4];decide⟩
   rw[h4,hno];rfl
 ·have e:i=l.length:=by omega
  subst e;rw[dj]at hok;have e0:decide ((l.length:Int)<(l.length:Int))=false:=decide_eq_false (by omega);simp only[e0,cond_false];rw[hok];rfl
theorem zX(f m:Int)(l:List Nat)(hl:∀a∈l,a<2^64)(hlen:l.length<1000):T6 (f,m,Wd l,())=some (AT f m l,()):=by
 show lL Aq.pre Aq.F Ar.pre Ar.F dZ f m (Wd l)=_;unfold lL AT;by_cases hf:Fm f
 ·have p0:=FE hf;rw[if_neg (show ¬¬Fm f from fun h=>h hf)];simp only[Dd p0,C9 p0,cond_true,bne_self_eq_false,cond_false];by_cases hm:m<0∨m>5
  ·rw[if_pos hm];have:(decide (m<0)||decide (m>5))=true:=by rcases hm with h|h<;>simp[h]
   rw[this,cond_true]
  ·rw[if_neg hm];have:(decide (m<0)||decide (m>5))=false:=by
    rw[decide_eq_false (by omega),decide_eq_false (by omega)];rfl
   rw[this,cond_false,Az,aLA hf l hl hlen];cases CD f l<;>rfl
 ·have p0:=GZ hf;rw[if_pos hf];simp only[Dd p0,C9 p0,cond_true];rfl
theorem zY{f:Int}{a:Nat}(h:Am f a=0):XE (f,(a:Int),())=some ((nan f a,AG f a,Au f a,AK f a,sF f a,()),()):=by
 show lM AD.pre AD.F Br.pre Br.F f a=_;unfold lM;obtain⟨hf,_⟩:=CT h;have p0:=Gn (M0 h) h;have p1:=So h;simp only[DB p0,Dy p0,Tj p1,S6 p1,cond_true];rw[Hb,Fc,oe (Av f a==9),UP,oe (Av f a==6),Zf hf]
theorem zZ{f:Int}(hf:Fm f)(x:Int):XF (f,x,())=some ((CC f:Int),x,0,()):=by
 show lN AB.pre AB.F f x=_;unfold lN;have p0:=Eo hf;simp only[FS p0,FI p0,cond_true]
theorem aMC(N:Nat){k:Nat}(hk:0<k):(k<=2*(N%k)->2*N/k=2*(N/k)+1/\2*N%k=2*(N%k)-k)/\(2*(N%k)<k->2*N/k=2*(N/k)/\2*N%k=2*(N%k)):=by
 have h1:=ck N k;have h2:=bo N hk;generalize N/k=q at *
 generalize N%k=r at *
 constructor
 ·intro h;have e:2*N=k*(2*q+1)+(2*r-k):=by
   rw[bt,gf,fu k 2 q];omega
  rw[e,jh hk,kv,bu (by omega),ar (by omega)];exact⟨rfl,rfl⟩
 ·intro h;have e:2*N=k*(2*q)+2*r:=by
   rw[fu k 2 q];omega
  rw[e,jh hk,kv,bu (by omega),ar (by omega)];exact⟨rfl,rfl⟩
theorem aQ2{n k D s:Nat}(hk0:0<k)(hk:k<2^64)(hn0:n≠0)(h:An (n*2^s/k)<D):s<64+D/\n*2^s<2^(64+D):=by
 have h1:n*2^s/k<2^D:=ah (G8 _) (ae (by decide) (by omega));have h2:n*2^s<2^D*k:=(cn hk0).1 h1;have h3:2^D*k<=2^D*2^64:=ce _ (by omega);rw[←ap]at h3;have h4:1*2^s<=n*2^s:=ay _ (by omega);rw[fi]at h4;have h5:2^s<2^(D+64):=by omega
 have h6:=(ct (a:=2) (by decide)).1 h5;rw[jc 64 D];exact⟨h6,by omega⟩
theorem aLB{n k D s0:Nat}(hk0:0<k)(hk:k<2^64)(hn0:n≠0)(hn:n<2^64)(hD:D<=100)(hs0:s0<=64):
  ∃s:Nat,s<=64+D/\(n*2^s%k≠0->D<=An (n*2^s/k)) /\
   d0 (((D:Int),(Dw k,(Dw (n*2^s0%k),((),((),()))))),((false,([],((0:Int),(false,())))),((false,(Dw (n*2^s0/k),(-(s0:Int),(false,())))),()))) =
    some (.inl ((Dw (n*2^s%k),((),((),()))),((false,([],((0:Int),(false,())))),((false,(Dw (n*2^s/k),(-(s:Int),(false,())))),())))):=by
 have key:=MU (aFX DP.pre DP.F EM.pre EM.F Ch.pre Ch.F Bk.pre Bk.F CV.pre CV.F Cx.pre Cx.F) (fun x=>(300+x.2.2.1.2.2.1).toNat)
  (fun x=>∃s:Nat,s<=64+D/\x=(((D:Int),(Dw k,(Dw (n*2^s%k),((),((),()))))),((false,([],((0:Int),(false,())))),((false,(Dw (n*2^s/k),(-(s:Int),(false,())))),()))))
  (fun y=>∃s:Nat,s<=64+D/\(n*2^s%k≠0->D<=An (n*2^s/k))/\y=.inl ((Dw (n*2^s%k),((),((),()))),((false,([],((0:Int),(false,())))),((false,(Dw (n*2^s/k),(-(s:Int),(false,())))),())))) ?_
  _ ⟨s0,by omega,rfl⟩
 ·obtain⟨y,hy,s,k1,k2,rfl⟩:=key;exact⟨s,k1,k2,hy⟩
 intro L x hx hL;obtain⟨s,hs,rfl⟩:=hx;unfold Vr;have hr:=bo (n*2^s) hk0;have hN:n*2^s<2^(64+(64+D)):=by
  rw[ap];exact ah (cm hn (ag s)) (ce _ (ae (by decide) hs))
 have hq:n*2^s/k<2^(64+(64+D)):=av (dx _ _) hN;have hqb:=Ie hq (by omega);have hrb:=Ie (jd hr hk) (by decide);have hkb:=Ie hk (by decide);have p0:=Sb hqb;have e2s:2*(n*2^s)=n*2^(s+1):=by rw[df];ac_rfl
 obtain⟨d1,d2⟩:=aMC (n*2^s) hk0;rw[e2s]at d1 d2;have hstop:=aQ2 (n:=n) (k:=k) (D:=D) (s:=s) hk0 hk hn0;have gen:=hL;dsimp only at gen⊢;generalize hQ:n*2^s/k=q at *
 generalize hR:n*2^s%k=r at *
 simp only[Ti p0,S5 p0,cond_true];by_cases hgo:An q<D/\r≠0
 ·obtain⟨g1,g2⟩:=hgo;have hs1:=(hstop g1).1;rw[decide_eq_true (show(An q:Int)<(D:Int) by omega),Ng g2];have p1:=dF hqb hqb;have p2:=dF hrb hrb;have h65:r+r<2^65:=by
   have:(2:Nat)^65=2*2^64:=by decide
   omega
  have hrr:=Ie h65 (by decide);have hqq:q+q<2^(65+(64+D)):=by
   have:(2:Nat)^(65+(64+D))=2*2^(64+(64+D)):=by rw[show 65+(64+D)=(64+(64+D))+1 by omega,df,aq]
   omega
  have p3:=dG hrr hkb;have ew:aa .i64 (-(s:Int)-1)=-((s+1:Nat):Int):=by rw[As (by omega)];omega
  simp only[bf,cond_true,Kc p1,J5 p1,Kc p2,J5 p2,Z4 p3,Zy p3,ew];have hμ:(300 + -((s+1:Nat):Int)).toNat<(300 + -(s:Int)).toNat:=by omega
  by_cases hge:k<=2*r
  ·obtain⟨f1,f2⟩:=d1 hge;have p4:=pF hrr (show k<=r+r by omega);have p5:=dF (Ie hqq (by omega)) (show 1<(2^64)^5000 from Ie (k:=1) (by decide) (by decide));rw[aIE]at p5;have eg:decide ((if r+r=k then(0:Int)else if r+r<k then -1 else 1)>=0)=true:=by
    by_cases h:r+r=k
    ·rw[if_pos h];rfl
    ·rw[if_neg h,if_neg (by omega)];rfl
   rw[eg];simp only[cond_true,vW p4,tX p4,Kc p5,J5 p5];refine gen _ ⟨s+1,by omega,?_⟩ hμ;rw[f1,f2,show 2*q+1=q+q+1 by omega,show 2*r-k=r+r-k by omega]
  ·obtain⟨f1,f2⟩:=d2 (by omega);have eg:decide ((if r+r=k then(0:Int)else if r+r<k then -1 else 1)>=0)=false:=by
    rw[if_neg (by omega),if_pos (by omega)];rfl
   rw[eg];simp only[cond_false];refine gen _ ⟨s+1,by omega,?_⟩ hμ;rw[f1,f2,show 2*q=q+q by omega,show 2*r=r+r by omega]
 ·have e:(decide ((An q:Int)<(D:Int))&&decide (((Dw r).length:Int)>0))=false:=by
   by_cases g1:An q<D
   ·have g2:r=0:=di.1 fun h=>hgo ⟨g1,h⟩;rw[g2,Dr];exact bm _
   ·rw[decide_eq_false (show ¬(An q:Int)<(D:Int) by omega),az]
  rw[e,cond_false];refine⟨_,rfl,s,hs,?_,?_⟩
  ·intro h;rw[hR]at h;rw[hQ];by_cases g1:An q<D
   ·exact absurd ⟨g1,h⟩ hgo
   ·omega
  ·rw[hQ,hR]
theorem aKG{n k D:Nat}(hk0:k≠0)(hk:k<2^64)(hn0:n≠0)(hn:n<2^64)(hD:D<=100):
  ∃s:Nat,s<=64+D/\(n*2^s%k≠0->D<=An (n*2^s/k)) /\
   XG (Dw n,Dw k,(D:Int),())=some ((false,Dw (n*2^s/k),(-(s:Int)),decide (n*2^s%k≠0),()),()):=by
 have bk:=Fb hk;have bn:=Fb hn;have p0:=Sb (Ie hk (by decide));have p1:=Sb (Ie hn (by decide));obtain⟨s0,hs0,hsl⟩:∃s0:Nat,(if(An k:Int)-(An n:Int)-1>0 then(An k:Int)-(An n:Int)-1 else 0)=(s0:Int)/\s0<=64:=by
  by_cases h:(An k:Int)-(An n:Int)-1>0
  ·exact⟨An k-An n-1,by rw[if_pos h];omega,by omega⟩
  ·exact⟨0,by rw[if_neg h];rfl,by omega⟩
 obtain⟨s,k1,k2,k3⟩:=aLB (D:=D) (s0:=s0) (by omega) hk hn0 hn hD hsl;refine⟨s,k1,k2,?_⟩;show lO DP.pre DP.F EM.pre EM.F Ch.pre Ch.F Bk.pre Bk.F CV.pre CV.F Cx.pre Cx.F d0 (Dw n) (Dw k) D=_;unfold lO;have hN:n*2^s0<2^128:=by
  rw[show(128:Nat)=64+64 from rfl,ap];exact ah (cm hn (ag s0)) (ce _ (ae (by decide) hsl))
 have hN':n*2^s0<(2^64)^1024:=ah hN (by rw[←lv];exact ae (by decide) (by decide));have hk':k<(2^64)^1024:=ah hk (by rw[←lv];exact ae (by decide) (by decide));have p2:=zQ (dg (2^64) n) (Di (Ie hn (by decide))) s0 (by omega) (by rw[Cg];exact hN');rw[Cg]at p2;have p2:Sd (Dw n,(s0:Int),())=_:=p2;have p3:=aKE hN' hk' hk0;have w1:aa .i64 ((An k:Int)-(An n:Int))=(An k:Int)-(An n:Int):=As (by omega);have w2:aa .i64 ((An k:Int)-(An n:Int)-1)=(An k:Int)-(An n:Int)-1:=As (by omega);have w3:aa .i64 (0-(s0:Int))=-(s0:Int):=by rw[As (by omega)];omega
 simp only[Ti p0,S5 p0,Ti p1,S5 p1,cond_true,w1,w2,hs0,Z5 p2,Zz p2,aQl p3,aNJ p3,w3,k3];show some _=_;congr 4;by_cases h:n*2^s%k=0
 ·rw[h,Dr];rfl
 ·rw[Ng h,decide_eq_true h]
theorem yZ{n:Nat}(hn:n<(2^64)^5000):R6 (Dw n,())=some (Dw n,()):=by
 have p0:=WT (dg (2^64) n) (Di hn);rw[Cg]at p0;exact p0
theorem aKH{f m:Int}(hf:Fm f)(hm:0<=m/\m<=5)(neg:Bool){n k:Nat}(hk0:k≠0)(hk:k<2^64)(hn0:n≠0)(hn:n<2^64){e:Int}(he:-40000<=e/\e<=40000):
  XI (f,m,neg,Dw n,Dw k,e,())=some (((Ii f m neg n k e).1:Int),((Ii f m neg n k e).2:Int),0,()):=by
 show lQ EI.pre EI.F Bh.pre Bh.F H2.pre H2.F QD.pre QD.F EJ.pre EJ.F f m neg (Dw n) (Dw k) e=_;unfold lQ;have hP:=EX hf;have hP2:=Ff hf;have p0:=pA hf hm;have p1:=yZ (Ie hk (by decide));have p2:=yZ (Ie hn (by decide));obtain⟨s,k1,k2,p3⟩:=aKG (D:=fP f+3) hk0 hk hn0 hn (by omega);have hN:n*2^s<2^(64+s):=by
  rw[ap];exact cm hn (ag s)
 have hq:n*2^s/k<2^(64+s):=av (dx _ _) hN;have p4:=pB neg (n*2^s/k) (e-s) (decide (n*2^s%k≠0)) f m hf (My hq (by omega)) (by omega);rw[aHn hf (fun h=>by have:=k2 (of_decide_eq_true h);omega),sY hf hn0 (by omega) e (by omega) (fun h=>by have:=k2 h;omega)]at p4;have r1:(Bt f).2.1=(fP f:Int):=rfl;have w1:aa .i64 ((fP f:Int)+3)=((fP f+3:Nat):Int):=by rw[As (by omega)];omega
 have w2:aa .i64 (-(s:Int)+e)=e-s:=by rw[As (by omega)];omega
 have l1:(Dw n).length=1:=by rw[cB hn0 hn];rfl
 have l2:(Dw k).length=1:=by rw[cB hk0 hk];rfl
 have w3:decide (aa .i64 (((1:Nat):Int)+((1:Nat):Int))>1024)=false:=by decide
 have w4:(decide (e<(-(40000:Int)))||decide (e>(40000:Int)))=false:=by rw[decide_eq_false (by omega),decide_eq_false (by omega)];rfl
 have w5:((((1:Nat):Int))==(0:Int))=false:=by decide
 simp only[vR p0,tR p0,bne_self_eq_false,cond_true,cond_false,VU p1,UU p1,VU p2,UU p2,l1,l2,w3,w4,w5,r1,w1,aQp p3,aNN p3,w2,vS p4,tS p4]
theorem aMI{f m:Int}{neg:Bool}(hf:Fm f){n k t u:Nat}(hn0:n≠0)(hk0:k≠0)(hn:n*2^t<2^53)(hk:k*2^u<2^53)(e:Int):
  Ii f m neg (n*2^t) (k*2^u) e=Ii f m neg n k (e+t-u):=by
 have hP:=Ff hf;have ht:t<53:=by
  have:1*2^t<=n*2^t:=ay _ (by omega);exact(ct (a:=2) (by decide)).1 (by omega)
 have hu:u<53:=by
  have:1*2^u<=k*2^u:=ay _ (by omega);exact(ct (a:=2) (by decide)).1 (by omega)
 obtain⟨s,hs⟩:∃s,s+u=120+t:=⟨120+t-u,by omega⟩
 have hk1:0<k:=by omega
 have hup:=ag u;have e1:n*2^t*2^120=n*2^s*2^u:=by
  rw[ao,ao,←ap,←ap,hs,jc]
 have hbig:fP f+1<=An (n*2^s/k):=by
  apply f9;rw[ks hk1];have h1:2^fP f*(k*2^u)<=2^53*2^53:=io (ae (by decide) hP) (by omega);have h2:1*2^(120+t)<=n*2^(120+t):=ay _ (by omega);have h3:(2:Nat)^53*2^53<=2^(120+t):=by rw[←ap];exact ae (by decide) (by omega)
  have h4:2^fP f*k*2^u<=n*2^s*2^u:=by
   rw[ao,ao n,←ap,hs];omega
  exact Nat.le_of_mul_le_mul_right h4 hup
 have a1:=sY (f:=f) (m:=m) (neg:=neg) hf (n:=n*2^t) (k:=k*2^u) (lq hn0 (lz (ag t))) (gd hk1 hup) e (s:=120) (by decide)
  (by rw[e1,gj _ _ hup];exact fun _=>hbig)
 have a2:=sY (f:=f) (m:=m) (neg:=neg) hf hn0 hk1 (e+t-u) (s:=s) (by omega) (fun _=>hbig);rw[←a1,←a2,e1,gj _ _ hup,fb,show e-((120:Nat):Int)=e+(t:Int)-(u:Int)-(s:Int) by omega];congr 1;rw[cu,decide_eq_true_eq,decide_eq_true_eq];constructor
 ·intro h hc;rw[hc,fc]at h;exact h rfl
 ·intro h;exact lq h (by omega)
theorem aMH{f m:Int}{neg:Bool}(hf:Fm f)(s s':Bool){n k:Nat}(hn0:n≠0)(hk0:k≠0)(hn:n<2^53)(hk:k<2^53)(x y:Int):
  Ii f m neg (od s n x).2.1 (od s' k y).2.1 ((od s n x).2.2-(od s' k y).2.2)=Ii f m neg n k (x-y):=by
 rcases Ey s n x with⟨_,h⟩|⟨_,h2,_,h4,h5⟩
 ·exact absurd h hn0
 rcases Ey s' k y with⟨_,h⟩|⟨_,g2,_,g4,g5⟩
 ·exact absurd h hk0
 generalize(od s n x).2.1=n1 at *
 generalize(od s' k y).2.1=k1 at *
 rw[h5,g5];rw[aq]at h4 g4;have:=aMI (f:=f) (m:=m) (neg:=neg) hf (n:=n1) (k:=k1) (t:=tz n) (u:=tz k) (by omega) (by omega) (by rw[←h4];exact hn) (by rw[←g4];exact hk) (x-y);rw[←h4,←g4]at this;rw[this];congr 1;omega
theorem aHM{f:Int}{a:Nat}(h:AG f a=true):nan f a=true:=by
 cases hn:nan f a
 ·rw[jC hn]at h;exact absurd h (by decide)
 ·rfl
theorem UR{f:Int}{a:Nat}(h1:nan f a=false)(h2:Au f a=false):eF f a≠BI f:=fun he=>by
 unfold nan at h1
 unfold Au at h2
 rw[he]at h1 h2
 simp at h1 h2
 exact h2 h1
theorem aKI(f m:Int){a b:Nat}(ha:a<2^64)(hb:b<2^64):XJ (f,m,(a:Int),(b:Int),())=some (Rs f m a b):=by
 show lR QA.pre QA.F QB.pre QB.F QC.pre QC.F BY.pre BY.F Bb.pre Bb.F Cy.pre Cy.F QF.pre QF.F f m a b=_;unfold lR Rs;have p0:=zX f m [a,b] (fun c hc=>by
  rcases cx.1 hc with rfl|hc
  ·exact ha
  ·rw[gz]at hc;omega) (show(2:Nat)<1000 by decide)
 have p0:T6 (f,m,((a:Int)::((b:Int)::[])),())=_:=p0;simp only[aQo p0,aNM p0,cond_true];clear p0;unfold AT;by_cases hf:¬Fm f
 ·rw[if_pos hf,if_pos hf];rfl
 have hf:=di.1 hf;rw[if_neg (show ¬¬Fm f from fun h=>h hf),if_neg (show ¬¬Fm f from fun h=>h hf)];by_cases hm:m<0∨m>5
 ·rw[if_pos hm,if_pos hm];rfl
 rw[if_neg hm,if_neg hm];have hm':0<=m/\m<=5:=by omega
 have ho:CD f [a,b]=(Am f a==0&&(Am f b==0&&true)):=rfl;rw[ho];by_cases hca:Am f a≠0
 ·have h4:=(UN hf a).resolve_left hca;rw[if_pos hca,h4];rfl
 have hca:=di.1 hca;rw[if_neg (fun h=>h hca),hca];by_cases hcb:Am f b≠0
 ·have h4:=(UN hf b).resolve_left hcb;rw[if_pos hcb,h4];rfl
 have hcb:=di.1 hcb;rw[if_neg (fun h=>h hcb),hcb];have e0:((bif((0:Int)==0&&((0:Int)==0&&true))then(0:Int)else 4)!=0)=false:=rfl;rw[e0,cond_false];have p1:=zY hca;have p2:=zY hcb;have p3:=zZ hf 0;have p4:=zZ hf 1;have p5:=Uh hf (!(sF f a==sF f b));have p6:=Q3 hf (!(sF f a==sF f b));have ma:=FL hf a;have mb:=FL hf b;have xa:=Gz hf a;have xb:=Gz hf b;simp only[aGT p1,aEL p1,aGT p2,aEL p2,cond_true,aGU p3,aEM p3,aGU p4,aEM p4,V0 p5,UZ p5,RL p6,RF p6];unfold aDS;cases sa:AG f a
 ·cases sb:AG f b
  ·simp only[bq,cond_false];cases na:nan f a
   ·cases nb:nan f b
    ·simp only[bq,cond_false];cases hi:Au f a&&Au f b||AK f a&&AK f b
     ·simp only[cond_false];cases ia:Au f a
      ·simp only[cond_false];cases zb:AK f b
       ·simp only[cond_false];cases iz:Au f b||AK f a
        ·simp only[cond_false];rw[dv]at iz;have q1:=Si hca (UR na ia);have q2:=Si hcb (UR nb iz.1);have mza:=Kh iz.2;have mzb:=Kh zb;obtain⟨o1,o2,o3⟩:=ZZ (sF f a) (n:=Ad f a) (Ag f a) ma xa;obtain⟨o4,o5,o6⟩:=ZZ (sF f b) (n:=Ad f b) (Ag f b) mb xb;have n1:(od (sF f a) (Ad f a) (Ag f a)).2.1≠0:=by
          rcases Ey (sF f a) (Ad f a) (Ag f a)with⟨_,h⟩|⟨_,h2,_,_,_⟩
          ·exact absurd h mza
          ·omega
         have n2:(od (sF f b) (Ad f b) (Ag f b)).2.1≠0:=by
          rcases Ey (sF f b) (Ad f b) (Ag f b)with⟨_,h⟩|⟨_,h2,_,_,_⟩
          ·exact absurd h mzb
          ·omega
         have q3:=aKH hf hm' (!(sF f a==sF f b)) (n:=(od (sF f a) (Ad f a) (Ag f a)).2.1) (k:=(od (sF f b) (Ad f b) (Ag f b)).2.1) n2 (by omega) n1 (by omega) (e:=(od (sF f a) (Ad f a) (Ag f a)).2.2-(od (sF f b) (Ad f b) (Ag f b)).2.2) (by omega);rw[aMH hf _ _ mza mzb ma mb]at q3;have w1:aa .i64 ((od (sF f a) (Ad f a) (Ag f a)).2.2-(od (sF f b) (Ad f b) (Ag f b)).2.2)=(od (sF f a) (Ad f a) (Ag f a)).2.2-(od (sF f b) (Ad f b) (Ag f b)).2.2:=As (by omega);have d1:∀t:Bool×Nat×Int,(Cf t).2.1=Dw t.2.1:=fun _=>rfl;have d2:∀t:Bool×Nat×Int,(Cf t).2.2.1=t.2.2:=fun _=>rfl;simp only[RM q1,RG q1,RM q2,RG q2,cond_true,d1,d2,w1,aQr q3,aNP q3]
        ·rfl
       ·rfl
      ·rfl
     ·rfl
    ·rfl
   ·cases nb:nan f b<;>rfl
  ·have nb:=aHM sb;rw[nb,br,br];rfl
 ·have na:=aHM sa;rw[na];rfl
end VL
namespace VL
open Go Vx
def same(f w:Int)(a x:Nat):Prop:=Am f a=0/\Am w x=0/\nan w x=nan f a/\Au w x=Au f a/\AK w x=AK f a/\(nan f a=false->sF w x=sF f a)/\(nan f a=false->Au f a=false->VV w x=VV f a)
end VL
namespace VL
open Go Vx
theorem aMw{f w m:Int}(hw:Fm w)(hm:0<=m/\m<=5){a:Nat}(ha:Am f a=0)(hfin:eF f a≠BI f)(hm0:Ad f a≠0):
  Q9 (w,m,Cf (od (sF f a) (Ad f a) (Ag f a)),())=some (((AH w m (sF f a) (Ad f a) (Ag f a) false).1:Int),((AH w m (sF f a) (Ad f a) (Ag f a) false).2:Int),0,()):=by
 obtain⟨hf,_⟩:=CT ha;obtain⟨o1,o2,o3⟩:=ZZ (sF f a) (n:=Ad f a) (Ag f a) (FL hf a) (Gz hf a);rcases Ey (sF f a) (Ad f a) (Ag f a)with⟨_,h⟩|⟨h1,h2,h3,h4,h5⟩
 ·exact absurd h hm0
 generalize hod:od (sF f a) (Ad f a) (Ag f a)=t at *
 have hsc:=M4 (m:=m) (neg:=sF f a) hw (n:=t.2.1) (by omega) (tz (Ad f a)) (Ag f a);rw[aq,←h4,←h5]at hsc;have p:=pM hw hm (sF f a) (n:=t.2.1) (ah o1 (ae (by decide) (by decide))) (by omega) h2 t.2.2 (by omega);rw[←hsc]at p;have e:Cf t=dy (sF f a) t.2.1 t.2.2:=by rw[←h1];rfl
 rw[e];exact p
end VL
namespace VL
open Go Vx
theorem pK(f m:Int):XT (f,m,())=some (AT f m [],()):=by
 show mA Aq.pre Aq.F f m=_;unfold mA AT;by_cases hf:Fm f
 ·have p0:=FE hf;rw[if_neg (show ¬¬Fm f from fun h=>h hf)];simp only[Dd p0,C9 p0,cond_true,bne_self_eq_false,cond_false];by_cases hm:m<0∨m>5
  ·have:(decide (m<0)||decide (m>5))=true:=by rw[dl,decide_eq_true_eq,decide_eq_true_eq];exact hm
   rw[this,if_pos hm];rfl
  ·have:(decide (m<0)||decide (m>5))=false:=by rw[dv,decide_eq_false_iff_not,decide_eq_false_iff_not];omega
   rw[this,if_neg hm];rfl
 ·have p0:=GZ hf;simp only[Dd p0,C9 p0,cond_true];rw[if_pos hf];rfl
theorem aAc{f:Int}{a:Nat}(h:Am f a=0):XU (f,(a:Int),())=some ((sF f a,(Ad f a:Int),Ag f a,()),()):=by
 obtain⟨hf,h0⟩:=CT h;show mB Aq.pre Aq.F Br.pre Br.F f a=_;unfold mB;have h1:=DJ hf;have h3:=Ff hf;have h4:=Ik hf;have hE:=SQ hf a;have hM:=VF f a;have hPp:2^(fP f-1)<=2^52:=ae (by decide) (by omega);have p0:=So h;have p1:=FE hf;have r1:(Bt f).2.1=(fP f:Int):=rfl;have r2:(Bt f).2.2.1=1-(fX f:Int):=rfl;have e0:aa .i64 ((fP f:Int)-1)=((fP f-1:Nat):Int):=Bo _ (by omega);have e1:aa .i64 (aa .i64 ((1-(fX f:Int))-(fP f:Int))+1)=1-(fX f:Int)-(fP f:Int)+1:=by
  rw[As (n:=_-(fP f:Int)) (by omega),As (by omega)]
 have e2:aa .i64 (eF f a:Int)=(eF f a:Int):=As (by omega);have e3:AQ .u64 1 ((fP f-1:Nat):Int)=((2^(fP f-1):Nat):Int):=M9 (by omega);have e4:A7 .u64 (mF f a:Int) ((2^(fP f-1):Nat):Int)=((mF f a+2^(fP f-1):Nat):Int):=by
  have:=FR (a:=mF f a) (b:=1) (k:=fP f-1) hM (by omega);rwa [fi]at this
 simp only[Tj p0,S6 p0,Dd p1,C9 p1,cond_true,r1,r2,e0,e1,e2,e3,e4,AV];by_cases hz:eF f a=0
 ·have hg:decide ((eF f a:Int)>0)=false:=decide_eq_false (by omega);have hm:Ad f a=mF f a:=by unfold Ad;rw[if_pos hz]
  have hx:Ag f a=1-(fX f:Int)-(fP f:Int)+1:=by unfold Ag;rw[if_pos hz,jn]
  rw[hg,cond_false,hm,hx]
 ·have hg:decide ((eF f a:Int)>0)=true:=decide_eq_true (by omega);have hm:Ad f a=mF f a+2^(fP f-1):=by unfold Ad;rw[if_neg hz]
  have hx:aa .i64 ((1-(fX f:Int)-(fP f:Int)+1)+aa .i64 ((eF f a:Int)-1))=Ag f a:=by
   unfold Ag;rw[if_neg hz,As (n:=(eF f a:Int)-1) (by omega),As (by omega)]
  rw[hg,cond_true,hm,hx]
theorem aQ3{n:Nat}(hn:n<2^62){k:Nat}(hk:63<=k):n/2^k=0/\n/2^63=0/\Cu (n%2^k) k=Cu (n%2^63) 63:=by
 have h1:2^63<=2^k:=ae (by decide) hk;have h2:2^62<=2^(k-1):=ae (by decide) (by omega);have a1:n%2^k=n:=ar (by omega);have a2:n%2^63=n:=ar (by omega);refine⟨bu (by omega),bu (by omega),?_⟩;rw[a1,a2];unfold Cu;by_cases h0:n=0
 ·rw[if_pos h0,if_pos h0]
 ·rw[if_neg h0,if_neg h0,if_pos (show n<2^(k-1) by omega),if_pos (show n<2^(63-1) by omega)]
theorem aAd(m:Int)(neg:Bool){n:Nat}(hn:n<2^62){e:Int}(he:-4000<=e/\e<0):
  XV (m,((neg,(n:Int),e,()),()))=some ((CM m neg n e 0 false:Int),decide (DI n e 0 false≠0),()):=by
 show mC m (neg,(n:Int),e,())=_;unfold mC;obtain⟨k,hk,rfl⟩:∃k:Nat,0<k/\e=-(k:Int):=⟨e.natAbs,by omega,by omega⟩
 have w0:aa .i64 (0 - -(k:Int))=(k:Int):=by rw[As (n:=0 - -(k:Int)) (by omega)];omega
 obtain⟨s,hs,hs0,hs1,q1,q2⟩:∃s:Nat,(if(63:Int)<(k:Int)then(63:Int)else(k:Int))=(s:Int)/\0<s/\s<=63/\E2 n (-(k:Int)) 0=n/2^s/\Kf n (-(k:Int)) 0=Cu (n%2^s) s:=by
  have hq0:¬((0:Int)<=-(k:Int)):=by omega
  unfold E2 Kf;rw[if_neg hq0,if_neg hq0,show((0:Int) - -(k:Int)).toNat=k by omega];by_cases h:63<k
  ·obtain⟨a,b,c⟩:=aQ3 hn (k:=k) (by omega);exact⟨63,by rw[if_pos (by omega)];rfl,by decide,by decide,by rw[a,b],c⟩
  ·exact⟨k,by rw[if_neg (by omega)],hk,by omega,rfl,rfl⟩
 have hp:2^s<=2^63:=ae (by decide) hs1;have hdm:=ck n (2^s);have hml:n%2^s<2^s:=bo _ (ag s);have hle:n/2^s*2^s<=n:=kb n (2^s);have w1:AJ .u64 (n:Int) (s:Int)=((n/2^s:Nat):Int):=DD n s (by omega);have w2:AQ .u64 ((n/2^s:Nat):Int) (s:Int)=((n/2^s*2^s:Nat):Int):=by
  rw[Ej _ _ (by omega),ar (by omega)]
 have w3:aa .u64 ((n:Int)-((n/2^s*2^s:Nat):Int))=((n%2^s:Nat):Int):=by
  rw[show(n:Int)-((n/2^s*2^s:Nat):Int)=((n%2^s:Nat):Int) by rw[aq]at hle⊢;omega];have:=Kg (n%2^s);rw[this,ar (by omega)]
 have w4:aa .i64 ((s:Int)-1)=((s-1:Nat):Int):=Bo _ (by omega);have w5:AQ .u64 1 ((s-1:Nat):Int)=((2^(s-1):Nat):Int):=M9 (by omega);have hn2:n/2^s<=n:=dx _ _;have w6:aa .u64 (((n/2^s:Nat):Int)+1)=((n/2^s+1:Nat):Int):=by
  have:=Kg (n/2^s+1);rw[ar (by omega)]at this;exact this
 have w7:decide ((0:Int)<=(s:Int))=true:=decide_eq_true (by omega);have w8:decide ((0:Int)<=((s-1:Nat):Int))=true:=decide_eq_true (by omega);simp only[w0,hs,w1,w2,w3,w4,w5,w6,w7,w8,aVg,cond_true,FM];have hc:DI n (-(k:Int)) 0 false=Cu (n%2^s) s:=by unfold DI;rw[q2];rfl
 unfold CM;rw[hc,q1];generalize hr:n%2^s=r at *
 generalize hu:n/2^s=u at *
 by_cases h0:r=0
 ·have:Cu r s=0:=by unfold Cu;rw[if_pos h0]
  rw[this,h0];rfl
 have hne:Cu r s≠0:=by unfold Cu;rw[if_neg h0];split<;>first|decide|(split<;>decide)
 rw[beq_false_of_ne h0,decide_eq_true hne,cond_false];have g1:decide ((r:Int)>((2^(s-1):Nat):Int))=decide (Cu r s=3):=by
  rw[cu,decide_eq_true_eq,decide_eq_true_eq];unfold Cu;rw[if_neg h0];split
  ·constructor<;>intro h<;>omega
  ·split
   ·constructor<;>intro h<;>omega
   ·constructor<;>intro h<;>omega
 have g2:((r:Int)==((2^(s-1):Nat):Int))=decide (Cu r s=2):=by
  rw[cu,decide_eq_true_eq,beq_iff_eq];unfold Cu;rw[if_neg h0];split
  ·constructor<;>intro h<;>omega
  ·split
   ·constructor<;>intro h<;>omega
   ·constructor<;>intro h<;>omega
 have g3:decide ((r:Int)>=((2^(s-1):Nat):Int))=decide (2<=Cu r s):=by
  rw[cu,decide_eq_true_eq,decide_eq_true_eq];unfold Cu;rw[if_neg h0];split
  ·constructor<;>intro h<;>omega
  ·split
   ·constructor<;>intro h<;>omega
   ·constructor<;>intro h<;>omega
 have g4:(((u%2:Nat):Int)==1)=decide (u%2=1):=by rw[cu,decide_eq_true_eq,beq_iff_eq];omega
 have g5:(u%2==0)=!decide (u%2=1):=by
  rcases ik u with h|h<;>rw[h]<;>rfl
 have hc3:Cu r s<=3:=by unfold Cu;split<;>first|omega|(split<;>first|omega|(split<;>omega))
 rw[g1,g2,g3,g4,g5];generalize Cu r s=c at *
 have BM:∀b:Bool,Cv m neg (decide (u%2=1)) c=b->(bif b then some (((u+1:Nat):Int),true,())else some ((u:Int),true,()):Option (DenS HB))=some (((if c≠0/\Cv m neg (decide (u%2=1)) c=true then u+1 else u:Nat):Int),true,()):=fun b hb=>by
  rw[hb];cases b
  ·rw[if_neg (fun h=>by cases h.2)];rfl
  ·rw[if_pos ⟨hne,rfl⟩];rfl
 have key:∀b:Bool,Cv m neg (decide (u%2=1)) c=b->∀z:Option (DenS HB),z=(bif b then some (((u+1:Nat):Int),true,())else some ((u:Int),true,()))->z=some (((if c≠0/\Cv m neg (decide (u%2=1)) c=true then u+1 else u:Nat):Int),true,()):=fun b hb z hz=>by rw[hz];exact BM b hb
 by_cases m0:m=0
 ·subst m0;refine key _ rfl _ ?_;unfold Cv;rw[if_neg (by decide),if_neg (by decide),if_pos rfl];have:c=1∨c=2∨c=3:=by omega
  rcases this with h|h|h<;>rw[h]<;>cases decide (u%2=1)<;>rfl
 by_cases m1:m=1
 ·subst m1;refine key _ rfl _ ?_;unfold Cv;rw[if_neg (by decide),if_neg (by decide),if_neg (by decide),if_pos rfl];rfl
 by_cases m3:m=3
 ·subst m3;refine key _ rfl _ ?_;unfold Cv;rw[if_neg (by decide),if_pos rfl];rfl
 by_cases m4:m=4
 ·subst m4;refine key _ rfl _ ?_;unfold Cv;rw[if_pos rfl];rfl
 by_cases m5:m=5
 ·subst m5;refine key _ rfl _ ?_;unfold Cv;rw[if_neg (by decide),if_neg (by decide),if_neg (by decide),if_neg (by decide),if_pos rfl];rfl
 refine key false (by unfold Cv;rw[if_neg m4,if_neg m3,if_neg m0,if_neg m1,if_neg m5]) _ ?_;rw[Io _ _ m0,Io _ _ m1,Io _ _ m3,Io _ _ m4,Io _ _ m5];rfl
theorem gD{f:Int}(hf:Fm f)(a:Nat):
  (nan f a=true/\AG f a=true/\Av f a=0)∨(nan f a=true/\AG f a=false/\Av f a=1) ∨
  (nan f a=false/\Au f a=true/\sF f a=true/\Av f a=2)∨(nan f a=false/\Au f a=true/\sF f a=false/\Av f a=9) ∨
  (nan f a=false/\Au f a=false/\AK f a=true/\sF f a=true/\Av f a=5)∨(nan f a=false/\Au f a=false/\AK f a=true/\sF f a=false/\Av f a=6) ∨
  (nan f a=false/\Au f a=false/\AK f a=false/\(Av f a=3∨Av f a=4∨Av f a=7∨Av f a=8)):=by
 have hp:=RD hf;unfold Av AG nan Au AK;simp only[bne];cases h1:eF f a==BI f<;>cases h2:mF f a==0<;>cases sF f a<;>cases h3:eF f a==0<;>cases mF f a/2^(fP f-2)==0<;>first|(exfalso;rw[beq_iff_eq]at h1 h3;omega)|simp
theorem aMk{f m:Int}{a:Nat}(h1:AT f m []=0):AT f m [a]=Am f a:=by
 obtain⟨hf,hm,_⟩:=SK h1;unfold AT;rw[if_neg (show ¬¬Fm f from fun h=>h hf),if_neg (by omega)];unfold CD;rcases UN hf a with h|h<;>rw[jw,h]<;>rfl
theorem aMj{f m:Int}{l:List Nat}(h1:AT f m []≠0):AT f m l=AT f m []:=by
 unfold AT at h1⊢;by_cases hf:Fm f
 ·rw[if_neg (show ¬¬Fm f from fun h=>h hf)]at h1⊢;by_cases hm:m<0∨m>5
  ·rw[if_pos hm,if_neg (show ¬¬Fm f from fun h=>h hf),if_pos hm]
  ·rw[if_neg hm]at h1;exact absurd rfl h1
 ·rw[if_pos hf,if_pos hf]
theorem aDJ(m:Int)(neg:Bool){n:Nat}(hn:n<2^53){e:Int}(he:e<0):CM m neg n e 0 false<2^53:=by
 have h1:E2 n e 0<=n/2:=by
  unfold E2;rw[if_neg (by omega)];obtain⟨k,hk⟩:∃k,((0:Int)-e).toNat=k+1:=⟨((0:Int)-e).toNat-1,by omega⟩
  rw[hk,df,aq,←dk];exact dx _ _
 unfold CM;split<;>omega
theorem uY{n:Nat}(h:n<2^64):((0:Int),((n:Int),()))=Wi n:=by
 unfold Wi;rw[bu h,ar h];rfl
def S7(f m:Int)(a:Nat)(tell:Bool):Int×Int×Int×Unit:=if AT f m [a]≠0 then(0,0,AT f m [a],())else bif nan f a then((CC f:Int),(bif AG f a then 1 else 0),0,())else bif Au f a||AK f a||decide (0<=Ag f a)then((a:Int),0,0,())else((if CM m (sF f a) (Ad f a) (Ag f a) 0 false=0 then(Dg f (sF f a):Int)else((AH f m (sF f a) (CM m (sF f a) (Ad f a) (Ag f a) 0 false) 0 false).1:Int)),(bif decide (DI (Ad f a) (Ag f a) 0 false≠0)&&tell then 16 else 0),0,())
theorem aKS(f m:Int){a:Nat}(ha:a<2^64)(tell:Bool):XW (f,m,(a:Int),tell,())=some (S7 f m a tell):=by
 show mD D8.pre D8.F AD.pre AD.F AB.pre AB.F Gh.pre Gh.F Dm.pre Dm.F A3.pre A3.F f m a tell=_;unfold mD S7;have p0:=pK f m;by_cases h0:AT f m []≠0
 ·have:(AT f m []!=0)=true:=bne_iff_ne.2 h0;rw[aMj h0,if_pos h0];simp only[Kd p0,J6 p0,cond_true,this]
 have h0:AT f m []=0:=di.1 h0;obtain⟨hf,hm,_⟩:=SK h0;rw[h0]at p0;rw[aMk h0];by_cases hc:Am f a≠0
 ·have p1:=Sm ha hc;have:(Am f a !=0)=true:=bne_iff_ne.2 hc;rw[if_pos hc];simp only[Kd p0,J6 p0,cond_true,bne_self_eq_false,cond_false,DB p1,Dy p1,this]
 have hc:Am f a=0:=di.1 hc;have p1:=Gn ha hc;have p2:=Eo hf;rw[if_neg (show ¬Am f a≠0 from fun h=>h hc)];simp only[Kd p0,J6 p0,cond_true,bne_self_eq_false,cond_false,DB p1,Dy p1,FS p2,FI p2];have hx:=Gz hf a;have hml:=FL hf a;have p3:=aAc hc;simp only[aGX p3,aEP p3,cond_true];rcases gD hf a with⟨h1,h2,h3⟩|⟨h1,h2,h3⟩|⟨h1,h2,h4,h3⟩|⟨h1,h2,h4,h3⟩|⟨h1,h2,h4,h5,h3⟩|⟨h1,h2,h4,h5,h3⟩|⟨h1,h2,h4,h3⟩
 ·rw[h1,h2,h3];rfl
 ·rw[h1,h2,h3];rfl
 ·rw[h1,h2,h3];rfl
 ·rw[h1,h2,h3];rfl
 ·rw[h1,h2,h4,h3];rfl
 ·rw[h1,h2,h4,h3];rfl
 have n0:(Av f a==0)=false/\(Av f a==1)=false/\(Av f a==2)=false/\(Av f a==9)=false/\(Av f a==5)=false/\(Av f a==6)=false:=by
  rcases h3 with h|h|h|h<;>rw[h]<;>decide
 obtain⟨n0,n1,n2,n9,n5,n6⟩:=n0;rw[h1,h2,h4,n0,n1,n2,n9,n5,n6];simp only[cond_false,bp];by_cases hp:0<=Ag f a
 ·rw[decide_eq_true hp];rfl
 rw[decide_eq_false hp];have p4:=aAd m (sF f a) (n:=Ad f a) (ah hml (by decide)) (e:=Ag f a) (by omega);have hu:=aDJ m (sF f a) hml (e:=Ag f a) (by omega);simp only[cond_false,aGY p4,aEQ p4,cond_true];rw[uY (ah hu (by decide))];have p5:=LV hf hm (sF f a) (CM m (sF f a) (Ad f a) (Ag f a) 0 false) (ah hu (by decide)) 0 (by decide) false (fun h=>by cases h);simp only[Ix p5,In p5,cond_true];cases decide (DI (Ad f a) (Ag f a) 0 false≠0)&&tell<;>(simp only[cond_true,cond_false];split<;>rfl)
def C4(k:Int):Nat:=if k=0 then 2^31-1 else if k=1 then 2^63-1 else if k=2 then 2^32-1 else 2^64-1
def Cq(k:Int):Nat:=if k=0 then 2^31 else if k=1 then 2^63 else 0
def FN(x:Nat):Nat:=(2^64-x)%2^64
theorem aFn{k:Int}(h:¬(k<0∨k>3)):k_kinds.getD (aj k) ((0:Int),(0:Int),())=((Cq k:Int),((C4 k:Int),())):=by
 have:k=0∨k=1∨k=2∨k=3:=by omega
 rcases this with rfl|rfl|rfl|rfl<;>rfl
theorem uV(k:Int):Cq k<=2^63/\C4 k<2^64:=by
 unfold Cq C4;constructor
 ·split<;>first|decide|(split<;>decide)
 ·split<;>first|decide|(split<;>first|decide|(split<;>decide))
theorem nY{x:Nat}(h:x<=2^64):aa .u64 ((0:Int)-(x:Int))=((FN x:Nat):Int):=by
 have:∀y:Int,aa .u64 y=y%18446744073709551616:=fun y=>by
  simp[aa,IntKind.bits,IntKind.signed]
 rw[this];unfold FN;omega
def MR(k:Int)(neg:Bool)(u:Nat)(other:Bool):Int×Int×Int×Unit:=bif neg then(if u>Cq k then((FN (Cq k):Int),1,0,())else((FN u:Int),(bif other then 16 else 0),0,()))else(if u>C4 k then((C4 k:Int),1,0,())else((u:Int),(bif other then 16 else 0),0,()))
def Tt(f m k:Int)(a:Nat):Int×Int×Int×Unit:=if AT f m []≠0 then(0,0,AT f m [],())else if k<0∨k>3 then(0,0,9,())else if Am f a≠0 then(0,0,Am f a,())else bif nan f a||(Au f a&&!sF f a)then((C4 k:Int),1,0,())else bif Au f a then((FN (Cq k):Int),1,0,())else if Ag f a<0 then MR k (sF f a) (CM m (sF f a) (Ad f a) (Ag f a) 0 false) (decide (DI (Ad f a) (Ag f a) 0 false≠0))else MR k (sF f a) (Ad f a*2^(Ag f a).toNat) false
theorem aKT(k:Int)(neg:Bool):XZ (((Cq k:Int),((C4 k:Int),())),neg,())=some ((bif neg then(FN (Cq k):Int)else(C4 k:Int)),()):=by
 show mH ((Cq k:Int),((C4 k:Int),())) neg=_;unfold mH;have:=(uV k).1;cases neg
 ·rfl
 ·simp only[cond_true];rw[nY (by omega)]
theorem aKV(f m k:Int){a:Nat}(ha:a<2^64):X1 (f,m,k,(a:Int),())=some (Tt f m k a):=by
 show mJ D8.pre D8.F AD.pre AD.F Gh.pre Gh.F Dm.pre Dm.F Bx.pre Bx.F QO.pre QO.F f m k a=_;unfold mJ Tt;have p0:=pK f m;by_cases h0:AT f m []≠0
 ·have:(AT f m []!=0)=true:=bne_iff_ne.2 h0;rw[if_pos h0];simp only[Kd p0,J6 p0,cond_true,this]
 have h0:AT f m []=0:=di.1 h0;obtain⟨hf,hm,_⟩:=SK h0;rw[h0]at p0⊢;rw[if_neg (show ¬(0:Int)≠0 from fun h=>h rfl)];by_cases hk:k<0∨k>3
 ·have:(decide (k<0)||decide (k>3))=true:=by rw[dl,decide_eq_true_eq,decide_eq_true_eq];exact hk
  rw[if_pos hk];simp only[Kd p0,J6 p0,cond_true,bne_self_eq_false,cond_false,this]
 have hk':(decide (k<0)||decide (k>3))=false:=by rw[dv,decide_eq_false_iff_not,decide_eq_false_iff_not];omega
 have hk2:(bif decide ((0:Int)<=k)then decide (k<((4:Nat):Int))else false)=true:=by rw[decide_eq_true (by omega),decide_eq_true (by omega)];rfl
 rw[if_neg hk];by_cases hc:Am f a≠0
 ·have p1:=Sm ha hc;have:(Am f a !=0)=true:=bne_iff_ne.2 hc;rw[if_pos hc];simp only[Kd p0,J6 p0,cond_true,bne_self_eq_false,cond_false,hk',DB p1,Dy p1,this]
 have hc:Am f a=0:=di.1 hc;have p1:=Gn ha hc;rw[if_neg (show ¬Am f a≠0 from fun h=>h hc)];obtain⟨hb1,hb2⟩:=uV k;have p3:=aAc hc;have p9:=aKT k (sF f a);have e1:aa .u64 ((0:Int)-(Cq k:Int))=(FN (Cq k):Int):=nY (by omega);simp only[Kd p0,J6 p0,cond_true,bne_self_eq_false,cond_false,hk',hk2,DB p1,Dy p1,aFn hk,e1,aGX p3,aEP p3,aQB p9,aNZ p9];have hx:=Gz hf a;have hml:=FL hf a;have BM:∀(u:Nat) (other:Bool),u<2^64->(bif((!sF f a)&&decide ((u:Int)>(C4 k:Int)))||(sF f a&&decide ((u:Int)>(Cq k:Int)))then some ((bif sF f a then(FN (Cq k):Int)else(C4 k:Int)),(1:Int),(0:Int),())
   else bif sF f a then(bif other then some (aa .u64 ((0:Int)-(u:Int)),(16:Int),(0:Int),())else some (aa .u64 ((0:Int)-(u:Int)),(0:Int),(0:Int),()))
   else bif other then some ((u:Int),(16:Int),(0:Int),())else some ((u:Int),(0:Int),(0:Int),()):Option (DenS HC))=some (MR k (sF f a) u other):=fun u other hu=>by
  unfold MR;rw[nY (x:=u) (by omega)];cases sF f a
  ·by_cases h:u>C4 k
   ·rw[decide_eq_true (show(u:Int)>(C4 k:Int) by omega),if_pos h];rfl
   ·rw[decide_eq_false (show ¬(u:Int)>(C4 k:Int) by omega),if_neg h];cases other<;>rfl
  ·by_cases h:u>Cq k
   ·rw[decide_eq_true (show(u:Int)>(Cq k:Int) by omega),if_pos h];rfl
   ·rw[decide_eq_false (show ¬(u:Int)>(Cq k:Int) by omega),if_neg h];cases other<;>rfl
 have num:nan f a=false->Au f a=false->(bif decide (Ag f a<0)then
    (bif Dm.pre (m,(sF f a,(Ad f a:Int),Ag f a,()),())then
     (bif((!sF f a)&&decide ((Dm.F (m,(sF f a,(Ad f a:Int),Ag f a,()),())).1>(C4 k:Int)))||(sF f a&&decide ((Dm.F (m,(sF f a,(Ad f a:Int),Ag f a,()),())).1>(Cq k:Int)))then some ((bif sF f a then(FN (Cq k):Int)else(C4 k:Int)),(1:Int),(0:Int),())
     else bif sF f a then(bif(Dm.F (m,(sF f a,(Ad f a:Int),Ag f a,()),())).2.1 then some (aa .u64 ((0:Int)-(Dm.F (m,(sF f a,(Ad f a:Int),Ag f a,()),())).1),(16:Int),(0:Int),())else some (aa .u64 ((0:Int)-(Dm.F (m,(sF f a,(Ad f a:Int),Ag f a,()),())).1),(0:Int),(0:Int),()))
     else bif(Dm.F (m,(sF f a,(Ad f a:Int),Ag f a,()),())).2.1 then some ((Dm.F (m,(sF f a,(Ad f a:Int),Ag f a,()),())).1,(16:Int),(0:Int),())else some ((Dm.F (m,(sF f a,(Ad f a:Int),Ag f a,()),())).1,(0:Int),(0:Int),()))
    else none)
   else bif Bx.pre ((Ad f a:Int),())then
    (bif decide (aa .i64 ((Bx.F ((Ad f a:Int),())).1+Ag f a)>64)then some ((bif sF f a then(FN (Cq k):Int)else(C4 k:Int)),(1:Int),(0:Int),())
    else bif decide ((0:Int)<=Ag f a)then
     (bif((!sF f a)&&decide (AQ .u64 (Ad f a:Int) (Ag f a)>(C4 k:Int)))||(sF f a&&decide (AQ .u64 (Ad f a:Int) (Ag f a)>(Cq k:Int)))then some ((bif sF f a then(FN (Cq k):Int)else(C4 k:Int)),(1:Int),(0:Int),())
     else bif sF f a then some (aa .u64 ((0:Int)-AQ .u64 (Ad f a:Int) (Ag f a)),(0:Int),(0:Int),())
     else some (AQ .u64 (Ad f a:Int) (Ag f a),(0:Int),(0:Int),()))
    else none)
   else none:Option (DenS HC))=some (if Ag f a<0 then MR k (sF f a) (CM m (sF f a) (Ad f a) (Ag f a) 0 false) (decide (DI (Ad f a) (Ag f a) 0 false≠0))else MR k (sF f a) (Ad f a*2^(Ag f a).toNat) false):=fun hn hi=>by
  by_cases hp:Ag f a<0
  ·rw[decide_eq_true hp,if_pos hp,cond_true];have p4:=aAd m (sF f a) (n:=Ad f a) (ah hml (by decide)) (e:=Ag f a) (by omega);have hu:=aDJ m (sF f a) hml (e:=Ag f a) (by omega);simp only[aGY p4,aEQ p4,cond_true];exact BM _ _ (ah hu (by decide))
  ·rw[decide_eq_false hp,if_neg hp,cond_false];have p5:=TX (Ad f a) (ah hml (by decide));obtain⟨t,ht⟩:∃t:Nat,Ag f a=(t:Int):=⟨(Ag f a).toNat,by omega⟩
   have hm0:Ad f a≠0:=fun h=>by
    have hP:=DJ hf;have hX:=SU hf;unfold Ag at ht;unfold Ad at h;by_cases hz:eF f a=0
    ·rw[if_pos hz]at ht;omega
    ·rw[if_neg hz]at h;have:=ag (fP f-1);omega
   have hbl:=Fb (n:=Ad f a) (k:=53) hml;have e2:aa .i64 ((An (Ad f a):Int)+(t:Int))=(An (Ad f a):Int)+(t:Int):=As (by omega);simp only[VX p5,UW p5,cond_true,e2,ht,ab];have hle:=JY hm0;by_cases hbig:(An (Ad f a):Int)+(t:Int)>64
   ·rw[decide_eq_true hbig,cond_true];have hb0:=JZ hm0;have hge:2^64<=Ad f a*2^t:=by
     have:2^(An (Ad f a)-1)*2^t<=Ad f a*2^t:=ay _ hle;rw[←ap]at this;exact fk (ae (by decide) (by omega)) this
    unfold MR;rw[if_pos (show Ad f a*2^t>Cq k by omega),if_pos (show Ad f a*2^t>C4 k by omega)];cases sF f a<;>rfl
   ·rw[decide_eq_false hbig,cond_false,decide_eq_true (show(0:Int)<=(t:Int) by omega),cond_true];have hb0:=JZ hm0;have hlt:Ad f a*2^t<2^64:=by
     have:Ad f a*2^t<2^An (Ad f a)*2^t:=cm (G8 _) (ag t);rw[←ap]at this;exact ah this (ae (by decide) (by omega))
    have e3:AQ .u64 (Ad f a:Int) (t:Int)=((Ad f a*2^t:Nat):Int):=by rw[Ej _ _ (by omega),ar hlt]
    rw[e3];exact BM _ false hlt
 rcases gD hf a with⟨h1,h2,h3⟩|⟨h1,h2,h3⟩|⟨h1,h2,h4,h3⟩|⟨h1,h2,h4,h3⟩|⟨h1,h2,h4,h5,h3⟩|⟨h1,h2,h4,h5,h3⟩|⟨h1,h2,h4,h3⟩
 ·rw[h1,h3];rfl
 ·rw[h1,h3];rfl
 ·rw[h1,h2,h4,h3];rfl
 ·rw[h1,h2,h4,h3];rfl
 ·rw[h1,h2,h3];exact num h1 h2
 ·rw[h1,h2,h3];exact num h1 h2
 ·rw[h1,h2];rcases h3 with h3|h3|h3|h3<;>(rw[h3];exact num h1 h2)
def S2(f m k:Int)(x:Nat):Int×Int×Int×Unit:=
 if AT f m []≠0 then(0,0,AT f m [],())
 else if k<0∨k>3 then(0,0,9,())
 else
  let neg:=decide (0<Cq k)&&decide (2^63<=x)
  let n:=bif neg then 2^64-x else x
  if n>(bif neg then Cq k else C4 k)then(0,0,7,())
  else if n=0 then(0,0,0,())else(((AH f m neg n 0 false).1:Int),((AH f m neg n 0 false).2:Int),0,())
theorem aKW(f m k:Int){x:Nat}(hx:x<2^64):X3 (f,m,k,(x:Int),())=some (S2 f m k x):=by
 show mL D8.pre D8.F A3.pre A3.F f m k x=_;unfold mL S2;have p0:=pK f m;by_cases h0:AT f m []≠0
 ·have:(AT f m []!=0)=true:=bne_iff_ne.2 h0;rw[if_pos h0];simp only[Kd p0,J6 p0,cond_true,this]
 have h0:AT f m []=0:=di.1 h0;obtain⟨hf,hm,_⟩:=SK h0;rw[h0]at p0⊢;rw[if_neg (show ¬(0:Int)≠0 from fun h=>h rfl)];by_cases hk:k<0∨k>3
 ·have:(decide (k<0)||decide (k>3))=true:=by rw[dl,decide_eq_true_eq,decide_eq_true_eq];exact hk
  rw[if_pos hk];simp only[Kd p0,J6 p0,cond_true,bne_self_eq_false,cond_false,this]
 have hk':(decide (k<0)||decide (k>3))=false:=by rw[dv,decide_eq_false_iff_not,decide_eq_false_iff_not];omega
 have hk2:(bif decide ((0:Int)<=k)then decide (k<((4:Nat):Int))else false)=true:=by rw[decide_eq_true (by omega),decide_eq_true (by omega)];rfl
 rw[if_neg hk];obtain⟨hb1,hb2⟩:=uV k;have e0:decide ((Cq k:Int)>0)=decide (0<Cq k):=by rw[cu,decide_eq_true_eq,decide_eq_true_eq];omega
 have e1:(AJ .u64 (x:Int) 63==1)=decide (2^63<=x):=by
  have:AJ .u64 (x:Int) 63=((x/2^63:Nat):Int):=DD x 63 (by decide);rw[this,cu,decide_eq_true_eq,beq_iff_eq];omega
 have e2:aa .u64 ((0:Int)-(x:Int))=(FN x:Int):=nY (by omega);simp only[Kd p0,J6 p0,cond_true,bne_self_eq_false,cond_false,hk',hk2,aFn hk,e0,e1,e2];have BM:∀(neg:Bool) (n:Nat),n<2^64->(neg=true->n≠0)->(bif A3.pre (f,m,neg,((0:Int),(n:Int),()),(0:Int),false,())then some (A3.F (f,m,neg,((0:Int),(n:Int),()),(0:Int),false,()))else none)=some (if n=0 then((0:Int),(0:Int),(0:Int),())else(((AH f m neg n 0 false).1:Int),((AH f m neg n 0 false).2:Int),(0:Int),())):=fun neg n hn hz=>by
  rw[uY hn];have p5:=LV hf hm neg n (ah hn (by decide)) 0 (by decide) false (fun h=>by cases h);simp only[Ix p5,In p5,cond_true];by_cases h:n=0
  ·rw[if_pos h,if_pos h];have:neg=false:=by
    cases neg
    ·rfl
    ·exact absurd h (hz rfl)
   subst this;rfl
  ·rw[if_neg h,if_neg h];rfl
 cases hneg:decide (0<Cq k)&&decide (2^63<=x)
 ·simp only[cond_false,bd,bh,az,ci];by_cases h:x>C4 k
  ·rw[decide_eq_true (show(x:Int)>(C4 k:Int) by omega),if_pos h];rfl
  ·rw[decide_eq_false (show ¬(x:Int)>(C4 k:Int) by omega),if_neg h,cond_false];exact BM false x hx (fun h=>by cases h)
 ·rw[ai,decide_eq_true_eq,decide_eq_true_eq]at hneg;have hn:FN x=2^64-x:=by unfold FN;omega
  rw[hn];simp only[cond_true,bg,az,bh,bp];by_cases h:2^64-x>Cq k
  ·rw[decide_eq_true (show((2^64-x:Nat):Int)>(Cq k:Int) by omega),if_pos h];rfl
  ·rw[decide_eq_false (show ¬((2^64-x:Nat):Int)>(Cq k:Int) by omega),if_neg h,cond_false];exact BM true (2^64-x) (by omega) (fun _=>by omega)
end VL
namespace VL
open Go Vx
theorem aM{c:Int}(hc:-4000<=c/\c<=0){S:Int}(h:S.natAbs<2^5000):Ub (cC c S,())=some ((if S=0 then 0 else if S<0 then -1 else 1),()):=by
 obtain⟨s,n,e,a1,a2,a3⟩:=sI hc h;have:=aK7 s (n:=n) (ah a2.lt (by rw[←lv];exact ae (by decide) (by decide))) e;rw[a1,this,aUP,a3]
theorem aTU{f m:Int}(hf:Fm f)(hm:0<=m/\m<=5){c:Int}(hc:-4000<=c/\c<=0){S:Int}(h:S.natAbs<2^5000)(h0:S≠0):
  Q9 (f,m,cC c S,())=some (((AH f m (decide (S<0)) S.natAbs c false).1:Int),((AH f m (decide (S<0)) S.natAbs c false).2:Int),0,()):=by
 unfold cC;have hb:Bc c S.natAbs c:=⟨jy _,by omega,by rw[jo];simpa using h⟩
 have B:=hb.od hc (decide (S<0));have Bl:=B.lt;obtain⟨b1,b2,_⟩:=B;rcases Ey (decide (S<0)) S.natAbs c with⟨_,h⟩|⟨h1,h2,h3,h4,h5⟩
 ·omega
 generalize hod:od (decide (S<0)) S.natAbs c=t at *
 have hsc:=M4 (m:=m) (neg:=decide (S<0)) hf (n:=t.2.1) (by omega) (tz S.natAbs) c;rw[aq,←h4,←h5]at hsc;have p:=pM hf hm (decide (S<0)) (n:=t.2.1) (ah Bl (ae (by decide) (by decide))) (by omega) h2 t.2.2 (by omega);rw[←hsc]at p;have e:Cf t=dy (decide (S<0)) t.2.1 t.2.2:=by rw[←h1];rfl
 rw[e];exact p
def fv(f:Int)(a:Nat):Int:=bif nan f a||Au f a then 0 else vA f a
theorem ZG{f:Int}(hf:Fm f)(a:Nat):(fv f a).natAbs<2^2100:=by
 unfold fv;cases nan f a||Au f a
 ·exact aVo hf a
 ·exact ag _
theorem aE1{f:Int}{a:Nat}(h:nan f a=false)(h':Au f a=false):(fv f a=0)↔AK f a=true:=by
 unfold fv;rw[h,h',bq,cond_false];have h1:=aIy f a;have hp:=ag (Ag f a-qm f).toNat;constructor
 ·intro h;cases hz:AK f a
  ·exfalso;have:=Kh hz;rw[h]at h1;have:=gd (iw this) hp;omega
  ·rfl
 ·intro h;have:=aVZ f a;rw[h,beq_iff_eq]at this;rw[show Ad f a=0 by omega,fc]at h1;omega
theorem UL(c:Int):cC c 0=(false,[],(0:Int),()):=by
 show(false,Dw 0,(0:Int),())=_;rw[Dr]
abbrev oG:=Aa (.pair (.bool) (.pair (.bool) (.pair (.bool) (.pair (.bool) (.pair (.bool) (.pair (.pair (.bool) (.pair (.slice (.int .u64)) (.pair (.int .i64) (.unit)))) (.unit)))))))
theorem XQ{f:Int}{a:Nat}(h:Am f a=0):XP (f,(a:Int),())=some ((nan f a,AG f a,false,Au f a,sF f a,cC (qm f) (fv f a),()),()):=by
 obtain⟨hf,_⟩:=CT h;show lX AD.pre AD.F Br.pre Br.F Cy.pre Cy.F f a=_;unfold lX;have p0:=Gn (M0 h) h;have p1:=So h;simp only[DB p0,Dy p0,Tj p1,S6 p1,cond_true];have c1:decide (Av f a<=1)=nan f a:=by
  rcases gD hf a with⟨h1,h2,h3⟩|⟨h1,h2,h3⟩|⟨h1,h2,h4,h3⟩|⟨h1,h2,h4,h3⟩|⟨h1,h2,h4,h5,h3⟩|⟨h1,h2,h4,h5,h3⟩|⟨h1,h2,h4,h3⟩<;>first|(rw[h1,h3];rfl)|(rcases h3 with h3|h3|h3|h3<;>(rw[h1,h3];rfl))
 rw[c1,Fc,UP];unfold fv;cases hn:nan f a
 ·cases hi:Au f a
  ·have p2:=aVq h (UR hn hi);simp only[bd,bf,cond_true,RM p2,RG p2,bq,cond_false];rfl
  ·rw[show(bif false||true then(0:Int)else vA f a)=0 from rfl,UL];rfl
 ·rw[be,cond_true,UL];cases Au f a<;>rfl
theorem aKN(f m:Int)(l:List Nat)(hl:∀a∈l,a<2^64)(hlen:l.length<1000):T7 (f,m,Wd l,())=some (AT f m l,()):=zX f m l hl hlen
def S8(f:Int)(a b:Nat):Bool:=(Au f a&&AK f b)||(Au f b&&AK f a)
def Tk(f:Int)(a b:Nat):Int:=bif Au f a||Au f b then 0 else fv f a*fv f b
theorem aHd{f:Int}(hf:Fm f):-1100<=qm f/\qm f<=0:=by
 unfold qm;rcases Ds hf with rfl|rfl|rfl|rfl<;>decide
theorem aGc{S T:Int}{k l:Nat}(h1:S.natAbs<2^k)(h2:T.natAbs<2^l):(S*T).natAbs<2^(k+l):=by
 rw[ql,ap];exact Nat.mul_lt_mul'' h1 h2
theorem aKO{f:Int}{a b:Nat}(ha:Am f a=0)(hb:Am f b=0)(hn:(nan f a||nan f b)=true):
  T8 (f,(a:Int),(b:Int),())=some ((true,AG f a||AG f b,false,false,!(sF f a==sF f b),cC (qm f) 0,()),()):=by
 show We E9.pre E9.F DQ.pre DQ.F JC.pre JC.F f a b=_;unfold We;have p0:=XQ ha;have p1:=XQ hb;simp only[VY p0,UX p0,VY p1,UX p1,cond_true,hn,UL]
theorem aKP{f:Int}{a b:Nat}(ha:Am f a=0)(hb:Am f b=0)(hna:nan f a=false)(hnb:nan f b=false):
  T8 (f,(a:Int),(b:Int),())=some ((false,AG f a||AG f b,S8 f a b,Au f a||Au f b,!(sF f a==sF f b),cC (qm f+qm f) (Tk f a b),()),()):=by
 obtain⟨hf,_⟩:=CT ha;show We E9.pre E9.F DQ.pre DQ.F JC.pre JC.F f a b=_;unfold We;obtain⟨q1,q2⟩:=aHd hf;have ba:=ZG hf a;have bb:=ZG hf b;have hle:2^2100<=2^5000:=ae (by decide) (by decide);have p0:=XQ ha;have p1:=XQ hb;have p2:=aM (c:=qm f) (by omega) (S:=fv f a) (by omega);have p3:=aM (c:=qm f) (by omega) (S:=fv f b) (by omega);have hm:=aGc ba bb;have p4:=aOZ (c:=qm f) (c':=qm f) (by omega) (by omega) (by omega) (S:=fv f a) (T:=fv f b) (by omega) (by omega) (ah hm (ae (by decide) (by decide)));have s1:Au f a=false->(((if fv f a=0 then(0:Int)else if fv f a<0 then -1 else 1))==0)=AK f a:=fun h=>by
  have:=aE1 hna h;by_cases hz:fv f a=0
  ·rw[if_pos hz,this.1 hz];rfl
  ·rw[if_neg hz,show AK f a=false from nh.2 fun h=>hz (this.2 h)];split<;>rfl
 have s2:Au f b=false->(((if fv f b=0 then(0:Int)else if fv f b<0 then -1 else 1))==0)=AK f b:=fun h=>by
  have:=aE1 hnb h;by_cases hz:fv f b=0
  ·rw[if_pos hz,this.1 hz];rfl
  ·rw[if_neg hz,show AK f b=false from nh.2 fun h=>hz (this.2 h)];split<;>rfl
 have z1:Au f a=true->AK f a=false:=fun h=>by
  have hp:=RD hf;unfold Au at h;unfold AK;rw[ai,beq_iff_eq]at h;rw[beq_false_of_ne (by omega)];rfl
 have z2:Au f b=true->AK f b=false:=fun h=>by
  have hp:=RD hf;unfold Au at h;unfold AK;rw[ai,beq_iff_eq]at h;rw[beq_false_of_ne (by omega)];rfl
 simp only[VY p0,UX p0,VY p1,UX p1,cond_true,hna,hnb,bq,cond_false,Z8 p2,ZC p2,Z8 p3,ZC p3,be];unfold S8 Tk;cases hi:Au f a<;>cases hj:Au f b
 ·simp only[bq,bd,cond_true,aQn p4,aNL p4,az,cond_false]
 ·rw[s1 hi];simp only[br,bg,cond_false,az,bd,bh,bw,cond_true,bp,UL]
 ·rw[s2 hj];simp only[ci,bg,cond_false,az,bd,bh,bw,cond_true,UL]
 ·rw[z1 hi,z2 hj];simp only[bq,bg,cond_false,bm,cond_true,UL];rfl
def JX(x:oG):Bool:=x.2.1||x.2.2.1
def jI(f m c:Int)(s t:Bool)(S T:Int):Int×Int×Int×Unit:=if S+T=0 then((Dg f (bif(S==0&&T==0)&&(s==t)then s else m==4):Int),0,0,())else(((AH f m (decide (S+T<0)) (S+T).natAbs c false).1:Int),((AH f m (decide (S+T<0)) (S+T).natAbs c false).2:Int),0,())
theorem aAa{f:Int}(hf:Fm f)(m:Int)(x y:oG)(h:(JX x||JX y)=true):Sh (f,m,x,y,())=some ((CC f:Int),1,0,()):=by
 show RV AB.pre AB.F BY.pre BY.F GX.pre GX.F DQ.pre DQ.F Bb.pre Bb.F Dn.pre Dn.F f m x y=_;unfold RV;have p0:=Eo hf;have:(((x.2.1||y.2.1)||x.2.2.1)||y.2.2.1)=true:=by
  unfold JX at h;cases h1:x.2.1<;>cases h2:y.2.1<;>cases h3:x.2.2.1<;>cases h4:y.2.2.1<;>rw[h1,h2,h3,h4]at h<;>first|rfl|cases h
 simp only[FS p0,FI p0,cond_true,this]
theorem aAb{f:Int}(hf:Fm f)(m:Int)(x y:oG)(h:(JX x||JX y)=false)(hn:(x.1||y.1)=true):Sh (f,m,x,y,())=some ((CC f:Int),0,0,()):=by
 show RV AB.pre AB.F BY.pre BY.F GX.pre GX.F DQ.pre DQ.F Bb.pre Bb.F Dn.pre Dn.F f m x y=_;unfold RV;have p0:=Eo hf;have:(((x.2.1||y.2.1)||x.2.2.1)||y.2.2.1)=false:=by
  unfold JX at h;cases h1:x.2.1<;>cases h2:y.2.1<;>cases h3:x.2.2.1<;>cases h4:y.2.2.1<;>rw[h1,h2,h3,h4]at h<;>first|rfl|cases h
 simp only[FS p0,FI p0,cond_true,this,cond_false,hn]
theorem aKQ{f m:Int}(hf:Fm f)(hm:0<=m/\m<=5){c:Int}(hc:-4000<=c/\c<=0)(i j s t:Bool){S T:Int}(hS:S.natAbs<2^4999)(hT:T.natAbs<2^4999):
  Sh (f,m,(false,false,false,i,s,cC c S,()),(false,false,false,j,t,cC c T,()),())=some (
   bif(i&&j)&&!(s==t)then((CC f:Int),1,0,())else bif i then((Gu f s:Int),0,0,())else bif j then((Gu f t:Int),0,0,())else jI f m c s t S T):=by
 show RV AB.pre AB.F BY.pre BY.F GX.pre GX.F DQ.pre DQ.F Bb.pre Bb.F Dn.pre Dn.F f m (false,false,false,i,s,cC c S,()) (false,false,false,j,t,cC c T,())=_;unfold RV;have hle:2^4999+2^4999=2^5000:=by rw[←Nat.two_mul,←Nat.pow_succ']
 have p0:=Eo hf;have p1:=Uh hf s;have p2:=Uh hf t;have p3:=aLQ hc (S:=S) (T:=T) (by omega) (by omega);have p4:=aM hc (S:=S+T) (by omega);have p5:=aM hc (S:=S) (by omega);have p6:=aM hc (S:=T) (by omega);have z:∀x:Int,((if x=0 then(0:Int)else if x<0 then -1 else 1)==0)=(x==0):=fun x=>by
  by_cases h:x=0
  ·rw[if_pos h,h]
  ·rw[if_neg h,beq_false_of_ne h];split<;>rfl
 simp only[FS p0,FI p0,cond_true,bq,cond_false];cases hij:(i&&j)&&!(s==t)
 ·cases i
  ·cases j
   ·simp only[cond_false,aQU p3,aOi p3,cond_true,bne_self_eq_false,Z8 p4,ZC p4,z];unfold jI;by_cases h0:S+T=0
    ·rw[if_pos h0,h0];simp only[beq_self_eq_true,cond_true,Z8 p5,ZC p5,Z8 p6,ZC p6,be,z];have q1:=Q3 hf s;have q2:=Q3 hf (m==4);cases(S==0&&T==0)&&(s==t)
     ·simp only[cond_false,RL q2,RF q2,cond_true]
     ·simp only[RL q1,RF q1,cond_true]
    ·rw[if_neg h0,beq_false_of_ne h0];have q:=aTU hf hm hc (S:=S+T) (by omega) h0;simp only[cond_false,v8 q,uB q,cond_true]
   ·simp only[cond_false,cond_true,V0 p2,UZ p2]
  ·simp only[cond_false,cond_true,V0 p1,UZ p1]
 ·rfl
def aEn(f m:Int)(a b c:Nat):Int×Int×Int×Unit:=bif(AG f a||AG f b||AG f c)||(!(nan f a||nan f b)&&S8 f a b)then((CC f:Int),1,0,())else bif nan f a||nan f b||nan f c then((CC f:Int),0,0,())else bif((Au f a||Au f b)&&Au f c)&&!((!(sF f a==sF f b))==sF f c)then((CC f:Int),1,0,())else bif Au f a||Au f b then((Gu f (!(sF f a==sF f b)):Int),0,0,())else bif Au f c then((Gu f (sF f c):Int),0,0,())else jI f m (qm f+qm f) (!(sF f a==sF f b)) (sF f c) (Tk f a b) (fv f c*(2^(qm f-(qm f+qm f)).toNat:Nat))
def SY(f m:Int)(a b c:Nat):Int×Int×Int×Unit:=if AT f m [a,b,c]≠0 then(0,0,AT f m [a,b,c],())else aEn f m a b c
theorem aKR(f m:Int){a b c:Nat}(ha:a<2^64)(hb:b<2^64)(hc:c<2^64):XR (f,m,(a:Int),(b:Int),(c:Int),())=some (SY f m a b c):=by
 show lY QJ.pre QJ.F QK.pre QK.F E9.pre E9.F QL.pre QL.F f m a b c=_;unfold lY SY;have p0:=aKN f m [a,b,c] (by simp[ha,hb,hc]) (show(3:Nat)<1000 by decide);have p0:T7 (f,m,((a:Int)::((b:Int)::((c:Int)::[]))),())=some (AT f m [a,b,c],()):=p0;by_cases hk:AT f m [a,b,c]≠0
 ·have:(AT f m [a,b,c]!=0)=true:=bne_iff_ne.2 hk;rw[if_pos hk];simp only[v5 p0,t8 p0,cond_true,this]
 have hk:AT f m [a,b,c]=0:=di.1 hk;obtain⟨hf,hm,hall⟩:=SK hk;rw[if_neg (show ¬AT f m [a,b,c]≠0 from fun h=>h hk)];rw[hk]at p0;have ca:=hall a (by simp);have cb:=hall b (by simp);have cc:=hall c (by simp);have p2:=XQ cc;obtain⟨q1,q2⟩:=aHd hf;unfold aEn;cases hn:nan f a||nan f b
 ·rw[dv]at hn;have p1:=aKP ca cb hn.1 hn.2;have sa:AG f a=false:=by unfold AG;rw[hn.1];rfl
  have sb:AG f b=false:=by unfold AG;rw[hn.2];rfl
  simp only[v5 p0,t8 p0,cond_true,bne_self_eq_false,cond_false,aGW p1,aEO p1,VY p2,UX p2,sa,sb,bq,bp,bd,bh];cases hbad:AG f c||S8 f a b
  ·rw[dv]at hbad;cases hnc:nan f c
   ·rw[hbad.1,hbad.2];have hbd:(Tk f a b).natAbs<2^4999:=by
     unfold Tk;cases Au f a||Au f b
     ·exact ah (aGc (ZG hf a) (ZG hf b)) (ae (by decide) (by decide))
     ·exact ag _
    have hbc:(fv f c*((2^(qm f-(qm f+qm f)).toNat:Nat):Int)).natAbs<2^4999:=by
     rw[ql,iv];have h1:=ZG hf c;have:(fv f c).natAbs*2^(qm f-(qm f+qm f)).toNat<2^2100*2^(qm f-(qm f+qm f)).toNat:=cm h1 (ag _);rw[←ap]at this;exact ah this (ae (by decide) (by omega))
    have p3:=aKQ hf hm (c:=qm f+qm f) (by omega) (Au f a||Au f b) (Au f c) (!(sF f a==sF f b)) (sF f c) hbd hbc;rw[aMd (c:=qm f) (c':=qm f+qm f) (by omega) (fv f c)];simp only[Z7 p3,ZB p3,cond_true];rfl
   ·have p3:=aAb hf m (false,false,S8 f a b,Au f a||Au f b,!(sF f a==sF f b),cC (qm f+qm f) (Tk f a b),()) (true,AG f c,false,Au f c,sF f c,cC (qm f) (fv f c),()) (by unfold JX;rw[hbad.1,hbad.2];rfl) rfl;simp only[Z7 p3,ZB p3,cond_true,cond_false]
  ·have p3:=aAa hf m (false,false,S8 f a b,Au f a||Au f b,!(sF f a==sF f b),cC (qm f+qm f) (Tk f a b),()) (nan f c,AG f c,false,Au f c,sF f c,cC (qm f) (fv f c),()) (by
    unfold JX;cases h1:AG f c<;>cases h2:S8 f a b<;>rw[h1,h2]at hbad<;>first|rfl|cases hbad)
   simp only[Z7 p3,ZB p3,cond_true]
 ·have p1:=aKO ca cb hn;simp only[v5 p0,t8 p0,cond_true,bne_self_eq_false,cond_false,aGW p1,aEO p1,VY p2,UX p2,bg,az,ci,be];cases hs:AG f a||AG f b||AG f c
  ·have p3:=aAb hf m (true,AG f a||AG f b,false,false,!(sF f a==sF f b),cC (qm f) 0,()) (nan f c,AG f c,false,Au f c,sF f c,cC (qm f) (fv f c),()) (by
    unfold JX;rw[dv]at hs;rw[hs.1,hs.2];rfl) rfl
   simp only[Z7 p3,ZB p3,cond_true,cond_false]
  ·have p3:=aAa hf m (true,AG f a||AG f b,false,false,!(sF f a==sF f b),cC (qm f) 0,()) (nan f c,AG f c,false,Au f c,sF f c,cC (qm f) (fv f c),()) (by
    unfold JX;rw[dl]at hs;rcases hs with h|h
    ·rw[h];rfl
    ·rw[h];cases AG f a||AG f b<;>rfl)
   simp only[Z7 p3,ZB p3,cond_true]
end VL
namespace VL
open Go Vx
theorem aLE{f:Int}(hf:Fm f)(l:List Nat)(hl:∀a∈l,a<2^64)(hlen:l.length<1000)(u v:Int):
  Ui (((l.length:Int),(Wd l,((0:Int),(u,f,v,())))),())=some (bif CD f l then .inl ((u,f,v,()),())else .inr (((0:Int),(0:Int),true,(4:Int),()),())):=by
 have key:=Dc (aF0 Aq.pre Aq.F Ar.pre Ar.F AD.pre AD.F AB.pre AB.F) (fun x=>l.length-x.1.2.2.1.toNat)
  (fun x=>∃i:Nat,i<=l.length/\CD f (l.take i)=true/\x=(((l.length:Int),(Wd l,((i:Int),(u,f,v,())))),()))
  (fun _=>bif CD f l then .inl ((u,f,v,()),())else .inr (((0:Int),(0:Int),true,(4:Int),()),())) ?_ _ ⟨0,ej _,rfl,rfl⟩
 ·exact key
 intro L x hx hL;obtain⟨i,hi,hok,rfl⟩:=hx;unfold Vu;rcases au i l.length with hlt|hge
 ·have hg:l.getD i 0=l[i]:=by simp[al,hlt]
  have hmem:l[i]∈l:=gx hlt;have p0:=En f l[i] (hl _ hmem);have e0:decide ((i:Int)<(l.length:Int))=true:=decide_eq_true (by omega);have e1:(decide ((0:Int)<=(i:Int))&&decide ((i:Int)<((Wd l).length:Int)))=true:=by rw[Az,decide_eq_true (by omega),decide_eq_true (by omega)];rfl
  have e2:(Wd l).getD (aj (i:Int)) 0=((l[i]:Nat):Int):=by rw[ab,BZ,hg]
  have e3:aa .i64 ((i:Int)+1)=((i+1:Nat):Int):=by rw[As (by omega)];omega
  have htk:l.take (i+1)=l.take i++[l[i]]:=by rw[fe hlt]
  dsimp only;simp only[e0,e1,e2,e3,cond_true,DC p0,Dz p0];by_cases hc:Am f l[i]=0
  ·rw[hc,bne_self_eq_false,cond_false];refine hL _ ⟨i+1,by omega,?_,rfl⟩ (by simp only[ab];omega);unfold CD at hok⊢;rw[htk,lr,hok,jw,hc];rfl
  ·have h4:Am f l[i]=4:=(UN hf _).resolve_left hc;have hno:CD f l=false:=by
    unfold CD;rw[ky];exact⟨l[i],hmem,by rw[h4];decide⟩
   rw[h4,hno];rfl
 ·have e:i=l.length:=by omega
  subst e;rw[dj]at hok;have e0:decide ((l.length:Int)<(l.length:Int))=false:=decide_eq_false (by omega);simp only[e0,cond_false];rw[hok];rfl
def Gy(f:Int)(a b:Nat):Int×Int×Bool×Int×Unit:=if AT f 0 [a,b]≠0 then(0,0,true,AT f 0 [a,b],())else bif AG f a||AG f b then((CC f:Int),1,true,0,())else bif nan f a||nan f b then((CC f:Int),0,true,0,())else bif Au f a||AK f b then((CC f:Int),1,true,0,())else bif Au f b||AK f a then((a:Int),0,true,0,())else(0,0,false,0,())
theorem aKY(f:Int){a b:Nat}(ha:a<2^64)(hb:b<2^64):Ya (f,(a:Int),(b:Int),())=some (Gy f a b):=by
 show mS Aq.pre Aq.F Ar.pre Ar.F AD.pre AD.F AB.pre AB.F Ui f a b=_;unfold mS Gy;by_cases hf:Fm f;case neg=>
  have p0:=GZ hf;have e0:AT f 0 [a,b]=2:=by unfold AT;rw[if_pos hf]
  rw[e0];simp only[Dd p0,C9 p0,cond_true];rfl
 have p0:=FE hf;have q:=aLE hf [a,b] (by simp[ha,hb]) (show(2:Nat)<1000 by decide) (b:Int) (a:Int);have hc0:AT f 0 [a,b]=bif CD f [a,b]then 0 else 4:=by
  unfold AT;rw[if_neg (show ¬¬Fm f from fun h=>h hf),if_neg (by decide)]
 rw[hc0];simp only[Dd p0,C9 p0,cond_true,bne_self_eq_false,cond_false];cases hok:CD f [a,b]
 ·rw[hok]at q;have q:Ui (((((a:Int)::((b:Int)::[])).length:Int),((a:Int)::((b:Int)::[])),(0:Int),(b:Int),f,(a:Int),()),())=_:=q;rw[q];rfl
 ·rw[hok]at q;have q:Ui (((((a:Int)::((b:Int)::[])).length:Int),((a:Int)::((b:Int)::[])),(0:Int),(b:Int),f,(a:Int),()),())=_:=q;rw[q];have hall:Am f a=0/\Am f b=0:=by
   unfold CD at hok;simpa using hok
  have p1:=Gn ha hall.1;have p2:=Gn hb hall.2;have p3:=Eo hf;show(bif AD.pre (f,(a:Int),())then _ else none)=_;simp only[DB p1,Dy p1,DB p2,Dy p2,FS p3,FI p3,cond_true];rw[Fc,Fc];have i1:=UP f a;have i2:=UP f b;have z1:=Zf hf a;have z2:=Zf hf b;have n1:=Hb f a;have n2:=Hb f b;rw[oe]at i1 i2 z1 z2;have e1:(((Av f a==9||Av f a==2)||Av f b==6)||Av f b==5)=(Au f a||AK f b):=by rw[i1,pe,z2]
  have e2:(((Av f b==9||Av f b==2)||Av f a==6)||Av f a==5)=(Au f b||AK f a):=by rw[i2,pe,z1]
  rw[e1,e2];cases hs:AG f a||AG f b
  ·rw[dv]at hs;rw[Fc,hs.1,ci]at n1;rw[Fc,hs.2,ci]at n2;rw[n1,n2];cases nan f a||nan f b<;>cases Au f a||AK f b<;>cases Au f b||AK f a<;>rfl
  ·rfl
theorem aUY{r s:Nat}(hs:s<=64):r/2^(64-s)*2^64+r*2^s%2^64=r*2^s:=by
 have h:r*2^s/2^64=r/2^(64-s):=by
  rw[show 2^64=2^(64-s)*2^s by rw[←ap,show 64-s+s=64 by omega],gj _ _ (ag s)]
 rw[←h,aq _ (2^64)];exact ck _ _
theorem aLF{Y:Nat}(hY0:0<Y)(hY:Y<2^53)(left:Nat)(hl:left<10000)(z4:Aa (.pair (.int .u64) (.pair (.int .u64) (.pair (.int .i64) (.pair (.int .u64) .unit))))){r n:Nat}(hr:r<Y)(hn:n<2^64)(mm E:Int):
  eB (((Y:Int),(left:Int),(),(),()),(),(),z4,((r:Int),mm,E,(n:Int),()),()) =
   some (.inl (((),(),()),(),(),z4,(((r*2^left%Y:Nat):Int),mm,E,(((n*2^left+r*2^left/Y)%2^64:Nat):Int),()),())):=by
 have key:=Dc (aF1 Bx.pre Bx.F AP.pre AP.F) (fun x=>x.1.2.1.toNat)
  (fun x=>∃l r n:Nat,l<10000/\r<Y/\n<2^64/\x=(((Y:Int),(l:Int),(),(),()),(),(),z4,((r:Int),mm,E,(n:Int),()),()))
  (fun x=>.inl (((),(),()),(),(),z4,(((x.2.2.2.2.1.1.toNat*2^x.1.2.1.toNat%Y:Nat):Int),mm,E,(((x.2.2.2.2.1.2.2.2.1.toNat*2^x.1.2.1.toNat+x.2.2.2.2.1.1.toNat*2^x.1.2.1.toNat/Y)%2^64:Nat):Int),()),())) ?_ _ ⟨left,r,n,hl,hr,hn,rfl⟩
 ·exact key
 intro L x hx hL;obtain⟨l,r,n,hl,hr,hn,rfl⟩:=hx;unfold Vv;dsimp only;simp only[ab];rcases bj l with h0|h0
 ·subst h0;have e0:decide (((0:Nat):Int)>0)=false:=rfl;rw[e0,cond_false,ij,gf,gf,ar hr,bu hr,de,ar hn]
 obtain⟨s,hs,h1,h2,h3⟩:∃s:Nat,(if(64:Int)<(l:Int)then(64:Int)else(l:Int))=(s:Int)/\1<=s/\s<=64/\s<=l:=by
  by_cases h:64<l
  ·exact⟨64,by rw[if_pos (by omega)];rfl,by decide,by decide,by omega⟩
  ·exact⟨l,by rw[if_neg (by omega)],by omega,by omega,by omega⟩
 have e0:decide ((l:Int)>0)=true:=decide_eq_true (by omega);have e1:aa .i64 ((64:Int)-(s:Int))=((64-s:Nat):Int):=by rw[As (by omega)];omega
 have e2:decide ((0:Int)<=((64-s:Nat):Int))=true:=decide_eq_true (by omega);have e3:decide ((0:Int)<=(s:Int))=true:=decide_eq_true (by omega);have e4:AJ .u64 (r:Int) ((64-s:Nat):Int)=((r/2^(64-s):Nat):Int):=DD _ _ (by omega);have e5:AQ .u64 (r:Int) (s:Int)=((r*2^s%2^64:Nat):Int):=Ej _ _ (by omega);have e6:AQ .u64 (n:Int) (s:Int)=((n*2^s%2^64:Nat):Int):=Ej _ _ (by omega);have e7:aa .i64 ((l:Int)-(s:Int))=((l-s:Nat):Int):=BD _ _ (by omega);have p0:=pJ (hi:=r/2^(64-s)) (lo:=r*2^s%2^64) (y:=Y) (bo _ (by decide)) (by omega) (av (dx _ _) hr);rw[aUY h2]at p0;have e8:aa .u64 (((n*2^s%2^64:Nat):Int)+((r*2^s/Y:Nat):Int))=(((n*2^s+r*2^s/Y)%2^64:Nat):Int):=by
  have:=Kg (n*2^s%2^64+r*2^s/Y);rw[Nat.mod_add_mod]at this;rw[←this,Int.natCast_add]
 simp only[hs,e0,e1,e2,e3,e4,e5,e6,e7,cond_true,v4 p0,t7 p0,e8];have hp:2^l=2^s*2^(l-s):=by rw[←ap,show s+(l-s)=l by omega]
 have hr':r*2^s%Y<Y:=bo _ hY0;have:=hL (((Y:Int),((l-s:Nat):Int),(),(),()),(),(),z4,(((r*2^s%Y:Nat):Int),mm,E,(((n*2^s+r*2^s/Y)%2^64:Nat):Int),()),()) ⟨l-s,_,_,by omega,hr',bo _ (by decide),rfl⟩ (by simp only[ab];omega);rw[this];dsimp only;simp only[ab];have k1:r*2^s%Y*2^(l-s)%Y=r*2^l%Y:=by rw[og,ao,←hp]
 have k2:r*2^l/Y=r*2^s/Y*2^(l-s)+r*2^s%Y*2^(l-s)/Y:=by
  have:r*2^l=Y*(r*2^s/Y*2^(l-s))+r*2^s%Y*2^(l-s):=by
   rw[←ao,←cp,ck,ao,←hp]
  rw[this,jh hY0]
 have k3:((n*2^s+r*2^s/Y)%2^64*2^(l-s)+r*2^s%Y*2^(l-s)/Y)%2^64=(n*2^l+r*2^l/Y)%2^64:=by
  rw[qu,og,←qu,cp,ao n,←hp,k2,Nat.add_assoc]
 rw[k1,k3]
theorem wE{x y:Int}(hx:-2500<=x/\x<=2500)(hy:-2500<=y/\y<=2500):aa .i64 (x-y)=x-y:=As (by omega)
def wA(X:Nat)(ex ey:Int):Nat:=X*2^(ex-min ex ey).toNat
def wB(Y:Nat)(ex ey:Int):Nat:=Y*2^(ey-min ex ey).toNat
theorem aK0(s1 s2:Bool){X Y:Nat}(hX0:X≠0)(hY0:Y≠0)(hX:X<2^53)(hY:Y<2^53){ex ey:Int}(hx:-2500<=ex/\ex<=2500)(hy:-2500<=ey/\ey<=2500):
  ∃mm n:Nat,Sj (dy s1 X ex,dy s2 Y ey,())=some ((((wA X ex ey%wB Y ex ey:Nat):Int),(mm:Int),min ex ey,(n:Int),()),())/\n<2^64/\n=wA X ex ey/wB Y ex ey%2^64 /\
   wA X ex ey%wB Y ex ey<2^53/\((mm=wB Y ex ey/\mm<2^60)∨(mm=0/\n=0/\2*wA X ex ey<wB Y ex ey)):=by
 have g1:(Dw X).getD 0 0=(X:Int):=by rw[Kj,ar (by omega)]
 have g2:(Dw Y).getD 0 0=(Y:Int):=by rw[Kj,ar (by omega)]
 have l1:=RZ hX0;have l2:=RZ hY0;have q1:=TX X (by omega);have q2:=TX Y (by omega);have bx:=Fb (n:=X) (k:=53) hX;have by':=Fb (n:=Y) (k:=53) hY;have bx0:=JZ hX0;have by0:=JZ hY0;have hxl:=G8 X;have hyl:=JY hY0;have hyu:=G8 Y;have hdef:∀z,Sj (dy s1 X ex,dy s2 Y ey,())=z↔mT Bx.pre Bx.F AP.pre AP.F eB (s1,Dw X,ex,()) (s2,Dw Y,ey,())=z:=fun z=>Iff.rfl;simp only[hdef];unfold mT;have i0:aj (0:Int)=0:=rfl;simp only[i0,g1,g2,l1,l2,cond_true,wE hy hx,wE hx hy];by_cases hlt:ey>ex
 ·obtain⟨d,hd⟩:∃d:Nat,ey-ex=(d:Int):=⟨(ey-ex).toNat,by omega⟩
  have hm:min ex ey=ex:=by omega
  have hA:wA X ex ey=X:=by unfold wA;rw[hm,jo];simp
  have hB:wB Y ex ey=Y*2^d:=by unfold wB;rw[hm,hd,ab]
  have e1:aa .i64 ((An Y:Int)+(d:Int))=((An Y+d:Nat):Int):=by rw[As (by omega)];omega
  have e2:aa .i64 ((An X:Int)+1)=((An X+1:Nat):Int):=by rw[As (by omega)];omega
  rw[decide_eq_true hlt];simp only[cond_true,hd,VX q1,UW q1,VX q2,UW q2,e1,e2,hA,hB,hm];by_cases hbig:An Y+d>An X+1
  ·rw[decide_eq_true (show((An Y+d:Nat):Int)>((An X+1:Nat):Int) by omega)];have hge:2^(An Y-1)*2^d<=Y*2^d:=ay _ hyl;rw[←ap]at hge;have h2:2^(An X+1)<=2^(An Y-1+d):=ae (by decide) (by omega);rw[df]at h2;have hAB:X<Y*2^d:=by omega
   refine⟨0,0,?_,by decide,?_,?_,.inr ⟨rfl,rfl,by omega⟩⟩
   ·rw[ar hAB];rfl
   ·rw[bu hAB]
   ·rw[ar hAB];exact hX
  ·rw[decide_eq_false (show ¬((An Y+d:Nat):Int)>((An X+1:Nat):Int) by omega)];have hB54:Y*2^d<2^54:=by
    have:Y*2^d<2^An Y*2^d:=cm hyu (ag d);rw[←ap]at this;exact ah this (ae (by decide) (by omega))
   have hB0:0<Y*2^d:=gd (iw hY0) (ag d);have e3:AQ .u64 (Y:Int) (d:Int)=((Y*2^d:Nat):Int):=by rw[Ej _ _ (by omega),ar (by omega)]
   have e4:(((Y*2^d:Nat):Int)!=0)=true:=Bi _ (by omega);have e5:decide ((0:Int)<=(d:Int))=true:=decide_eq_true (by omega);have hq:X/(Y*2^d)<=X:=dx _ _;simp only[cond_false,e3,e4,e5,cond_true];refine⟨Y*2^d,X/(Y*2^d),?_,by omega,(ar (by omega)).symm,av (Nat.mod_le _ _) hX,.inl ⟨rfl,by omega⟩⟩;rw[aE _ _ (by omega) hB0];rfl
 ·obtain⟨d,hd⟩:∃d:Nat,ex-ey=(d:Int):=⟨(ex-ey).toNat,by omega⟩
  have hm:min ex ey=ey:=by omega
  have hA:wA X ex ey=X*2^d:=by unfold wA;rw[hm,hd,ab]
  have hB:wB Y ex ey=Y:=by unfold wB;rw[hm,jo];simp
  have hYp:0<Y:=iw hY0;have e1:((Y:Int)!=0)=true:=Bi _ hY0;have e2:jp (X:Int) (Y:Int)=((X%Y:Nat):Int):=rfl;rw[decide_eq_false hlt];simp only[cond_false,e1,cond_true,hd,aE X Y (by omega) hYp,e2,hA,hB,hm];have hq:X/Y<=X:=dx _ _;have hrY:X%Y<Y:=bo _ hYp;rw[aLF hYp hY d (by omega) _ hrY (n:=X/Y) (by omega)];have k1:X%Y*2^d%Y=X*2^d%Y:=og _ _ _;have k2:X/Y*2^d+X%Y*2^d/Y=X*2^d/Y:=by
   have:X*2^d=Y*(X/Y*2^d)+X%Y*2^d:=by rw[←ao,←cp,ck]
   rw[this,jh hYp]
  rw[k1,k2];have hr2:X*2^d%Y<Y:=bo _ hYp;exact⟨Y,X*2^d/Y%2^64,rfl,bo _ (by decide),rfl,by omega,.inl ⟨rfl,by omega⟩⟩
def Gx(A B:Nat)(near:Bool):Bool×Nat×Nat:=if(near&&(decide (2*(A%B)>B)||(decide (2*(A%B)=B)&&decide (A/B%2=1))))=true then(true,B-A%B,A/B+1)else(false,A%B,A/B)
theorem aTP(A B:Nat)(near:Bool)(k:Nat):Gx (A*2^k) (B*2^k) near=((Gx A B near).1,(Gx A B near).2.1*2^k,(Gx A B near).2.2):=by
 have hp:=ag k;have h1:A*2^k%(B*2^k)=A%B*2^k:=fb _ _ _;have h2:A*2^k/(B*2^k)=A/B:=gj _ _ hp;unfold Gx;rw[h1,h2];have h3:decide (2*(A%B*2^k)>B*2^k)=decide (2*(A%B)>B):=by
  rw[cu,decide_eq_true_eq,decide_eq_true_eq,←ao];exact Nat.mul_lt_mul_right hp
 have h4:decide (2*(A%B*2^k)=B*2^k)=decide (2*(A%B)=B):=by
  rw[cu,decide_eq_true_eq,decide_eq_true_eq,←ao];exact⟨fun h=>Nat.eq_of_mul_eq_mul_right hp h,fun h=>by rw[h]⟩
 rw[h3,h4];split
 ·rw[ot]
 ·rfl
def wL(f:Int)(a b:Nat)(near:Bool):Int×Int×Int×Int×Unit:=let e:=min (Ag f a) (Ag f b);let t:=Gx (wA (Ad f a) (Ag f a) (Ag f b)) (wB (Ad f b) (Ag f a) (Ag f b)) near;((if t.2.1=0 then(Dg f (sF f a):Int)else((AH f 2 (bif t.1 then !sF f a else sF f a) t.2.1 e false).1:Int)),((t.2.2%8:Nat):Int),0,0,())
def FT(f:Int)(a b:Nat)(near:Bool):Int×Int×Int×Int×Unit:=bif(Gy f a b).2.2.1 then((Gy f a b).1,0,(Gy f a b).2.1,(Gy f a b).2.2.2.1,())else wL f a b near
theorem r6{n k:Nat}(hn:n<2^64):k<=3->A9 .u64 (n:Int) ((2^k-1:Nat):Int)=((n%2^k:Nat):Int):=fun hk=>UI hn (by omega)
theorem aAe(f:Int){a b:Nat}(ha:a<2^64)(hb:b<2^64)(near:Bool):Yb (f,(a:Int),(b:Int),near,())=some (FT f a b near):=by
 show mU QT.pre QT.F Cy.pre Cy.F QU.pre QU.F A3.pre A3.F f a b near=_;unfold mU FT;have p0:=aKY f ha hb;cases hdone:(Gy f a b).2.2.1;case true=>
  simp only[aGZ p0,aER p0,cond_true,hdone]
 unfold Gy at hdone;by_cases hk:AT f 0 [a,b]≠0
 ·rw[if_pos hk]at hdone;cases hdone
 rw[if_neg hk]at hdone;have hk:AT f 0 [a,b]=0:=di.1 hk;obtain⟨hf,_,hall⟩:=SK hk;have ca:=hall a (by simp);have cb:=hall b (by simp);have hdone':(Gy f a b).2.2.1=false:=by
  unfold Gy;rw[if_neg (fun h=>h hk)];exact hdone
 have fa:nan f a=false/\nan f b=false/\Au f a=false/\AK f b=false/\Au f b=false/\AK f a=false:=by
  cases hs:AG f a||AG f b
  ·cases hn:nan f a||nan f b
   ·cases hi:Au f a||AK f b
    ·cases hj:Au f b||AK f a
     ·rw[dv]at hn hi hj;exact⟨hn.1,hn.2,hi.1,hi.2,hj.1,hj.2⟩
     ·rw[hs,hn,hi,hj]at hdone;cases hdone
    ·rw[hs,hn,hi]at hdone;cases hdone
   ·rw[hs,hn]at hdone;cases hdone
  ·rw[hs]at hdone;cases hdone
 obtain⟨na,nb,ia,zb,ib,za⟩:=fa;have ma:=Kh za;have mb:=Kh zb;have p1:=Si ca (UR na ia);have p2:=Si cb (UR nb ib);have oa:=ZZ (sF f a) (n:=Ad f a) (Ag f a) (FL hf a) (Gz hf a);have ob:=ZZ (sF f b) (n:=Ad f b) (Ag f b) (FL hf b) (Gz hf b);obtain⟨a1,a2,a4,a5⟩:(od (sF f a) (Ad f a) (Ag f a)).1=sF f a/\(od (sF f a) (Ad f a) (Ag f a)).2.1≠0/\Ad f a=2^tz (Ad f a)*(od (sF f a) (Ad f a) (Ag f a)).2.1/\(od (sF f a) (Ad f a) (Ag f a)).2.2=Ag f a+tz (Ad f a):=by
  rcases Ey (sF f a) (Ad f a) (Ag f a)with⟨_,h⟩|⟨h1,h2,_,h4,h5⟩
  ·exact absurd h ma
  ·exact⟨h1,by omega,h4,h5⟩
 obtain⟨b2,b4,b5⟩:(od (sF f b) (Ad f b) (Ag f b)).2.1≠0/\Ad f b=2^tz (Ad f b)*(od (sF f b) (Ad f b) (Ag f b)).2.1/\(od (sF f b) (Ad f b) (Ag f b)).2.2=Ag f b+tz (Ad f b):=by
  rcases Ey (sF f b) (Ad f b) (Ag f b)with⟨_,h⟩|⟨_,h2,_,h4,h5⟩
  ·exact absurd h mb
  ·exact⟨by omega,h4,h5⟩
 have w1:Cf (od (sF f a) (Ad f a) (Ag f a))=dy (sF f a) (od (sF f a) (Ad f a) (Ag f a)).2.1 (od (sF f a) (Ad f a) (Ag f a)).2.2:=by
  unfold Cf;rw[a1]
 have w2:Cf (od (sF f b) (Ad f b) (Ag f b))=dy (od (sF f b) (Ad f b) (Ag f b)).1 (od (sF f b) (Ad f b) (Ag f b)).2.1 (od (sF f b) (Ad f b) (Ag f b)).2.2:=rfl;rw[w1]at p1;rw[w2]at p2;generalize(od (sF f a) (Ad f a) (Ag f a)).2.1=X at *
 generalize(od (sF f b) (Ad f b) (Ag f b)).2.1=Y at *
 generalize(od (sF f a) (Ad f a) (Ag f a)).2.2=ex at *
 generalize(od (sF f b) (Ad f b) (Ag f b)).2.2=ey at *
 obtain⟨mm,n,p3,hn,hnq,hr53,hmm⟩:=aK0 (sF f a) (od (sF f b) (Ad f b) (Ag f b)).1 a2 b2 oa.1 ob.1 oa.2 ob.2;have hk0:min (Ag f a) (Ag f b)<=min ex ey:=by omega
 obtain⟨k,hkk⟩:∃k:Nat,min ex ey=min (Ag f a) (Ag f b)+k:=⟨(min ex ey-min (Ag f a) (Ag f b)).toNat,by omega⟩
 have sA:wA (Ad f a) (Ag f a) (Ag f b)=wA X ex ey*2^k:=by
  unfold wA;rw[a4,aq (2^_) X,ao,ao,←ap,←ap];congr 2;omega
 have sB:wB (Ad f b) (Ag f a) (Ag f b)=wB Y ex ey*2^k:=by
  unfold wB;rw[b4,aq (2^_) Y,ao,ao,←ap,←ap];congr 2;omega
 have hBpos:0<wB Y ex ey:=gd (iw b2) (ag _);have hrB:wA X ex ey%wB Y ex ey<wB Y ex ey:=bo _ hBpos;have hval:wL f a b near=((if(Gx (wA X ex ey) (wB Y ex ey) near).2.1=0 then(Dg f (sF f a):Int)else((AH f 2 (bif(Gx (wA X ex ey) (wB Y ex ey) near).1 then !sF f a else sF f a) (Gx (wA X ex ey) (wB Y ex ey) near).2.1 (min ex ey) false).1:Int)),(((Gx (wA X ex ey) (wB Y ex ey) near).2.2%8:Nat):Int),0,0,()):=by
  unfold wL;rw[sA,sB,aTP];dsimp only;by_cases h0:(Gx (wA X ex ey) (wB Y ex ey) near).2.1=0
  ·rw[if_pos h0,if_pos (by rw[h0,fc])]
  ·rw[if_neg h0,if_neg (lq h0 (by have:=ag k;omega)),M4 hf h0 k,←hkk]
 rw[hval];have hbe:-40000<=min ex ey/\min ex ey<=40000:=by omega
 have parts:∀(neg:Bool) (r:Nat),r<2^64->R9 (f,2,neg,((0:Int),((r:Int),())),min ex ey,false,())=some (if r=0 then((Dg f neg:Int),0,0,())else(((AH f 2 neg r (min ex ey) false).1:Int),((AH f 2 neg r (min ex ey) false).2:Int),0,())):=fun neg r hr=>by
  rw[uY hr];exact LV hf (by decide) neg r (ah hr (by decide)) (min ex ey) hbe false (fun h=>by cases h)
 have hRem:Gx (wA X ex ey) (wB Y ex ey) near=(if(near&&!(((mm:Int)==0||decide ((2*(wA X ex ey%wB Y ex ey):Nat)<(mm:Int)))||(((2*(wA X ex ey%wB Y ex ey):Nat):Int)==(mm:Int)&&((n%2:Nat):Int)==0)))=true then(true,mm-wA X ex ey%wB Y ex ey,wA X ex ey/wB Y ex ey+1)else(false,wA X ex ey%wB Y ex ey,wA X ex ey/wB Y ex ey)):=by
  unfold Gx;have hodd:n%2=wA X ex ey/wB Y ex ey%2:=by rw[hnq];omega
  rw[FM,FM,Is,hodd];generalize wA X ex ey/wB Y ex ey=q at *
  rcases hmm with⟨h1,h2⟩|⟨h1,h2,h3⟩
  ·rw[←h1]at hrB hBpos⊢;generalize hR:wA X ex ey%mm=R at *
   cases near
   ·rfl
   ·simp only[bh];have:(decide (2*R>mm)||decide (2*R=mm)&&decide (q%2=1))=!((mm==0||decide (((2*R:Nat):Int)<(mm:Int)))||((2*R==mm)&&(q%2==0))):=by
     rw[beq_false_of_ne (by omega),bp];rcases Nat.lt_trichotomy (2*R) mm with h|h|h
     ·rw[decide_eq_false (show ¬2*R>mm by omega),decide_eq_false (show ¬2*R=mm by omega),decide_eq_true (show((2*R:Nat):Int)<(mm:Int) by omega)];rfl
     ·rw[decide_eq_false (show ¬2*R>mm by omega),decide_eq_true h,decide_eq_false (show ¬((2*R:Nat):Int)<(mm:Int) by omega),h,beq_self_eq_true];rcases ik q with g|g<;>rw[g]<;>rfl
     ·rw[decide_eq_true (show 2*R>mm from h),decide_eq_false (show ¬((2*R:Nat):Int)<(mm:Int) by omega),beq_false_of_ne (show 2*R≠mm by omega)];rfl
    rw[this]
  ·have hlt:wA X ex ey<wB Y ex ey:=by omega
   rw[ar hlt,h1,decide_eq_false (by omega),decide_eq_false (by omega)];simp
 have e9:aa .u64 ((2:Int)*((wA X ex ey%wB Y ex ey:Nat):Int))=((2*(wA X ex ey%wB Y ex ey):Nat):Int):=by
  have:=Kg (2*(wA X ex ey%wB Y ex ey));rw[ar (show 2*(wA X ex ey%wB Y ex ey)<2^64 by omega)]at this;rw[←this,jf];rfl
 have e1:A9 .u64 (n:Int) 1=((n%2:Nat):Int):=r6 (k:=1) hn (by decide);have e7:A9 .u64 (n:Int) 7=((n%8:Nat):Int):=r6 (k:=3) hn (by decide);have e8:A9 .u64 (aa .u64 ((n:Int)+1)) 7=(((wA X ex ey/wB Y ex ey+1)%8:Nat):Int):=by
  have:=Kg (n+1);rw[show((n+1:Nat):Int)=(n:Int)+1 from rfl]at this;rw[this];have:=r6 (n:=(n+1)%2^64) (k:=3) (bo _ (by decide)) (by decide);rw[show(7:Int)=((2^3-1:Nat):Int)from rfl,this];congr 1;rw[hnq];omega
 have e6:aa .i64 ((n%8:Nat):Int)=((wA X ex ey/wB Y ex ey%8:Nat):Int):=by
  rw[As (by omega)];congr 1;rw[hnq];omega
 have e5:aa .i64 (((wA X ex ey/wB Y ex ey+1)%8:Nat):Int)=(((wA X ex ey/wB Y ex ey+1)%8:Nat):Int):=As (by omega);simp only[aGZ p0,aER p0,cond_true,hdone',cond_false,RM p1,RG p1,RM p2,RG p2];have p3:Sj (dy (sF f a) X ex,dy (od (sF f b) (Ad f b) (Ag f b)).1 Y ey,())=_:=p3;simp only[aQM p3,aOa p3,cond_true,e1,e5,e6,e7,e8,e9];have hdy1:(dy (sF f a) X ex).1=sF f a:=rfl;simp only[hdy1];generalize hR:wA X ex ey%wB Y ex ey=R at *
 generalize hQ:wA X ex ey/wB Y ex ey=Q at *
 have q1:=parts (sF f a) R (by omega);have q2:=parts (!sF f a) R (by omega);have stay:(bif(R:Int)==0 then(bif A3.pre (f,2,sF f a,((0:Int),((R:Int),())),min ex ey,false,())then some ((A3.F (f,2,sF f a,((0:Int),((R:Int),())),min ex ey,false,())).1,((Q%8:Nat):Int),(0:Int),(A3.F (f,2,sF f a,((0:Int),((R:Int),())),min ex ey,false,())).2.2)else none)
   else(bif A3.pre (f,2,sF f a,((0:Int),((R:Int),())),min ex ey,false,())then some ((A3.F (f,2,sF f a,((0:Int),((R:Int),())),min ex ey,false,())).1,((Q%8:Nat):Int),(0:Int),(A3.F (f,2,sF f a,((0:Int),((R:Int),())),min ex ey,false,())).2.2)else none):Option (DenS HD)) =
   some ((if R=0 then(Dg f (sF f a):Int)else((AH f 2 (sF f a) R (min ex ey) false).1:Int)),((Q%8:Nat):Int),(0:Int),(0:Int),()):=by
  simp only[Ix q1,In q1,cond_true];by_cases h0:R=0
  ·rw[if_pos h0,if_pos h0,Bz _ h0];rfl
  ·rw[if_neg h0,if_neg h0,AS _ h0];rfl
 cases hnear:near
 ·rw[hnear]at hRem;rw[hRem.trans (if_neg (by simp))];simp only[az,cond_false];exact stay
 ·rw[hnear]at hRem;rw[cond_true];cases hcond:(((mm:Int)==0||decide (((2*R:Nat):Int)<(mm:Int)))||(((2*R:Nat):Int)==(mm:Int)&&((n%2:Nat):Int)==0))
  ·rw[hRem.trans (if_pos (by rw[hcond];rfl))];have hm0:mm≠0:=fun h=>by rw[h]at hcond;cases hcond
   obtain⟨h1,h2⟩:mm=wB Y ex ey/\mm<2^60:=by
    rcases hmm with h|h
    ·exact h
    ·exact absurd h.1 hm0
   have e10:aa .u64 ((mm:Int)-(R:Int))=((mm-R:Nat):Int):=by
    rw[show(mm:Int)-(R:Int)=((mm-R:Nat):Int) by omega];have:=Kg (mm-R);rw[this,ar (by omega)]
   have q3:=parts (!sF f a) (mm-R) (by omega);have q4:=parts (sF f a) (mm-R) (by omega);have hd0:mm-R≠0:=by omega
   rw[cond_false,bw,cond_true,e10,AS _ hd0,cond_false];simp only[Ix q3,In q3,cond_true];rw[if_neg hd0,if_neg hd0]
  ·rw[hRem.trans (if_neg (by rw[hcond];decide))];rw[cond_true,bm,cond_false];exact stay
theorem aK1(f:Int){a b:Nat}(ha:a<2^64)(hb:b<2^64):Yc (f,(a:Int),(b:Int),())=some (FT f a b true):=by
 show mV Gi.pre Gi.F f a b=_;unfold mV;have p:=aAe f ha hb true;simp only[aG0 p,aES p,cond_true]
theorem aK2(f:Int){a b:Nat}(ha:a<2^64)(hb:b<2^64):Yd (f,(a:Int),(b:Int),())=some (FT f a b false):=by
 show mW Gi.pre Gi.F f a b=_;unfold mW;have p:=aAe f ha hb false;simp only[aG0 p,aES p,cond_true]
end VL
namespace VL
open Go Vx
theorem aLa(z:Int):∃v,Sn (z,())=some (v,(if Fm z then 0 else 2),()):=by
 by_cases h:Fm z
 ·rw[if_pos h];exact⟨_,FE h⟩
 ·rw[if_neg h];exact⟨_,GZ h⟩
def SF(l:List Int):Bool:=l.all fun z=>decide (0<=z/\z<4)
def SG(l:List Int):Bool:=l.all fun z=>decide (0<=z/\z<=5)
theorem aLC(l:List Int)(hlen:l.length<1000)(rest:List Int×List Int×Int×Unit):
  eA (((l.length:Int),(l,((0:Int),rest))),())=some (bif SF l then .inl (rest,())else .inr (((2:Int),()),())):=by
 have key:=Dc (aFY Aq.pre Aq.F Ar.pre Ar.F) (fun x=>l.length-x.1.2.2.1.toNat)
  (fun x=>∃i:Nat,i<=l.length/\SF (l.take i)=true/\x=(((l.length:Int),(l,((i:Int),rest))),()))
  (fun _=>bif SF l then .inl (rest,())else .inr (((2:Int),()),())) ?_ _ ⟨0,ej _,rfl,rfl⟩
 ·exact key
 intro L x hx hL;obtain⟨i,hi,hok,rfl⟩:=hx;unfold Vs;rcases au i l.length with hlt|hge
 ·have hg:l.getD i 0=l[i]:=by simp[al,hlt]
  obtain⟨v,p0⟩:=aLa l[i];have e0:decide ((i:Int)<(l.length:Int))=true:=decide_eq_true (by omega);have e1:(decide ((0:Int)<=(i:Int))&&decide ((i:Int)<(l.length:Int)))=true:=by rw[e0,decide_eq_true (by omega)];rfl
  have e2:l.getD (aj (i:Int)) 0=l[i]:=by rw[ab,hg]
  have e3:aa .i64 ((i:Int)+1)=((i+1:Nat):Int):=by rw[As (by omega)];omega
  have htk:l.take (i+1)=l.take i++[l[i]]:=by rw[fe hlt]
  dsimp only;simp only[e0,e1,e2,e3,cond_true,Dd p0,C9 p0];by_cases hc:Fm l[i]
  ·rw[if_pos hc,bne_self_eq_false,cond_false];refine hL _ ⟨i+1,by omega,?_,rfl⟩ (by simp only[ab];omega);unfold SF at hok⊢;rw[htk,lr,hok,jw,decide_eq_true (show 0<=l[i]/\l[i]<4 from hc)];rfl
  ·have hno:SF l=false:=by
    unfold SF;rw[ky];exact⟨l[i],gx hlt,by rw[decide_eq_false (show ¬(0<=l[i]/\l[i]<4)from hc)];decide⟩
   rw[if_neg hc,hno];rfl
 ·have e:i=l.length:=by omega
  subst e;rw[dj]at hok;have e0:decide ((l.length:Int)<(l.length:Int))=false:=decide_eq_false (by omega);simp only[e0,cond_false];rw[hok];rfl
theorem aLD(l:List Int)(hlen:l.length<1000)(rest:List Int×Int×Unit):
  YL (((l.length:Int),(l,((0:Int),rest))),())=some (bif SG l then .inl (rest,())else .inr (((3:Int),()),())):=by
 have key:=Dc (aFZ Aq.pre Aq.F Ar.pre Ar.F) (fun x=>l.length-x.1.2.2.1.toNat)
  (fun x=>∃i:Nat,i<=l.length/\SG (l.take i)=true/\x=(((l.length:Int),(l,((i:Int),rest))),()))
  (fun _=>bif SG l then .inl (rest,())else .inr (((3:Int),()),())) ?_ _ ⟨0,ej _,rfl,rfl⟩
 ·exact key
 intro L x hx hL;obtain⟨i,hi,hok,rfl⟩:=hx;unfold Vt;rcases au i l.length with hlt|hge
 ·have hg:l.getD i 0=l[i]:=by simp[al,hlt]
  have e0:decide ((i:Int)<(l.length:Int))=true:=decide_eq_true (by omega);have e1:(decide ((0:Int)<=(i:Int))&&decide ((i:Int)<(l.length:Int)))=true:=by rw[e0,decide_eq_true (by omega)];rfl
  have e2:l.getD (aj (i:Int)) 0=l[i]:=by rw[ab,hg]
  have e3:aa .i64 ((i:Int)+1)=((i+1:Nat):Int):=by rw[As (by omega)];omega
  have htk:l.take (i+1)=l.take i++[l[i]]:=by rw[fe hlt]
  have e4:(decide (l[i]<(0:Int))||decide (l[i]>(5:Int)))=!decide (0<=l[i]/\l[i]<=5):=by
   rw[cu,dl,decide_eq_true_eq,decide_eq_true_eq,dm,decide_eq_false_iff_not];omega
  dsimp only;simp only[e0,e1,e2,e3,e4,cond_true];by_cases hc:0<=l[i]/\l[i]<=5
  ·rw[decide_eq_true hc,bg,cond_false];refine hL _ ⟨i+1,by omega,?_,rfl⟩ (by simp only[ab];omega);unfold SG at hok⊢;rw[htk,lr,hok,jw,decide_eq_true hc];rfl
  ·have hno:SG l=false:=by
    unfold SG;rw[ky];exact⟨l[i],gx hlt,by rw[decide_eq_false hc];decide⟩
   rw[decide_eq_false hc,hno];rfl
 ·have e:i=l.length:=by omega
  subst e;rw[dj]at hok;have e0:decide ((l.length:Int)<(l.length:Int))=false:=decide_eq_false (by omega);simp only[e0,cond_false];rw[hok];rfl
def MF(f w m:Int)(a:Nat):Int:=if ¬(Fm f/\Fm w)then 2 else if m<0∨m>5 then 3 else Am f a
theorem aKK(f w m:Int){a:Nat}(ha:a<2^64):XK ((f::w::[]),(m::[]),(a:Int),())=some (MF f w m a,()):=by
 show lS Aq.pre Aq.F Ar.pre Ar.F eA YL (f::w::[]) (m::[]) a=_;unfold lS;have q1:=aLC (f::w::[]) (show(2:Nat)<1000 by decide) ((m::[]),(f::w::[]),(a:Int),());have q2:=aLD (m::[]) (show(1:Nat)<1000 by decide) ((f::w::[]),(a:Int),());have p0:=En f a ha;have a1:SF (f::w::[])=decide (Fm f/\Fm w):=by
  show(decide (0<=f/\f<4)&&(decide (0<=w/\w<4)&&true))=_;rw[bw,←Bool.decide_and];rfl
 have a2:SG (m::[])=!decide (m<0∨m>5):=by
  show(decide (0<=m/\m<=5)&&true)=_;rw[bw,cu,decide_eq_true_eq,dm,decide_eq_false_iff_not];omega
 rw[q1,a1];unfold MF;by_cases h1:Fm f/\Fm w
 ·rw[decide_eq_true h1,if_neg (fun h=>h h1)];show Vx.AY (YL ((((m::[]).length:Int),((m::[]),((0:Int),((f::w::[]),(a:Int),())))),())) _=_;rw[q2,a2];by_cases h2:m<0∨m>5
  ·rw[decide_eq_true h2,if_pos h2];rfl
  ·rw[decide_eq_false h2,if_neg h2];show(bif decide ((0:Int)<(((f::w::[]):List Int).length:Int))then(bif Ar.pre (f,(a:Int),())then some (Ar.F (f,(a:Int),()))else none)else none)=_;have e0:decide ((0:Int)<(((f::w::[]):List Int).length:Int))=true:=rfl;rw[e0];simp only[DC p0,Dz p0,cond_true];rfl
 ·rw[decide_eq_false h1,if_pos h1];rfl
def SL(f w m:Int)(a:Nat):Int×Int×Int×Unit:=if MF f w m a≠0 then(0,0,MF f w m a,())else bif nan f a then((CC w:Int),(bif AG f a then 1 else 0),0,())else bif Au f a then((Gu w (sF f a):Int),0,0,())else bif AK f a then((Dg w (sF f a):Int),0,0,())else(((AH w m (sF f a) (Ad f a) (Ag f a) false).1:Int),((AH w m (sF f a) (Ad f a) (Ag f a) false).2:Int),0,())
theorem aKL{f w m:Int}(hw:Fm w)(hm:0<=m/\m<=5){a:Nat}(hc:Am f a=0):
  XL (f,w,m,(a:Int),())=some ((bif nan f a then(CC w:Int)else bif Au f a then(Gu w (sF f a):Int)else bif AK f a then(Dg w (sF f a):Int)else((AH w m (sF f a) (Ad f a) (Ag f a) false).1:Int)),
   (bif nan f a then(bif AG f a then 1 else 0)else bif Au f a||AK f a then 0 else((AH w m (sF f a) (Ad f a) (Ag f a) false).2:Int)),()):=by
 obtain⟨hf,_⟩:=CT hc;show lT AD.pre AD.F Br.pre Br.F AB.pre AB.F BY.pre BY.F Bb.pre Bb.F Cy.pre Cy.F Dn.pre Dn.F f w m a=_;have p0:=Gn (M0 hc) hc;have p1:=So hc;have p2:=Eo hw;have p3:=Uh hw (sF f a);have p4:=Q3 hw (sF f a);unfold lT;simp only[DB p0,Dy p0,Tj p1,S6 p1,FS p2,FI p2,V0 p3,UZ p3,RL p4,RF p4,cond_true];rcases gD hf a with⟨h1,h2,h3⟩|⟨h1,h2,h3⟩|⟨h1,h2,h4,h3⟩|⟨h1,h2,h4,h3⟩|⟨h1,h2,h4,h5,h3⟩|⟨h1,h2,h4,h5,h3⟩|⟨h1,h2,h4,h3⟩
 ·rw[h1,h2,h3];rfl
 ·rw[h1,h2,h3];rfl
 ·rw[h1,h2,h3];rfl
 ·rw[h1,h2,h3];rfl
 ·rw[h1,h2,h4,h3];rfl
 ·rw[h1,h2,h4,h3];rfl
 have n0:(Av f a==0)=false/\(Av f a==1)=false/\(Av f a==2)=false/\(Av f a==9)=false/\(Av f a==5)=false/\(Av f a==6)=false:=by
  rcases h3 with h|h|h|h<;>rw[h]<;>decide
 obtain⟨n0,n1,n2,n9,n5,n6⟩:=n0;have hfin:=UR h1 h2;have p5:=Si hc hfin;have p6:=aMw (m:=m) hw hm hc hfin (Kh h4);rw[h1,h2,h4,n0,n1,n2,n9,n5,n6];simp only[cond_false,RM p5,RG p5,v8 p6,uB p6,cond_true,bq]
theorem aKM(f w m:Int){a:Nat}(ha:a<2^64):XM (f,w,m,(a:Int),())=some (SL f w m a):=by
 show lU QG.pre QG.F QH.pre QH.F f w m a=_;unfold lU SL;have p0:=aKK f w m ha;by_cases he:MF f w m a≠0
 ·have:(MF f w m a !=0)=true:=bne_iff_ne.2 he;rw[if_pos he];simp only[aGV p0,aEN p0,cond_true,this]
 have he:MF f w m a=0:=di.1 he;rw[if_neg (show ¬MF f w m a≠0 from fun h=>h he)];rw[he]at p0;unfold MF at he;by_cases h1:Fm f/\Fm w
 ·rw[if_neg (fun h=>h h1)]at he;by_cases h2:m<0∨m>5
  ·rw[if_pos h2]at he;cases he
  ·rw[if_neg h2]at he;have p1:=aKL h1.2 (m:=m) (by omega) he;simp only[aGV p0,aEN p0,cond_true,bne_self_eq_false,cond_false,aQt p1,aNR p1];cases nan f a<;>cases Au f a<;>cases AK f a<;>rfl
 ·rw[if_pos h1]at he;cases he
def Rp(f:Int)(a b:Nat):Int×Int×Unit:=if Am f a≠0 then(0,Am f a,())else if Am f b≠0 then(0,Am f b,())else((Gw f (sF f b) (By f a):Int),0,())
theorem aKX(f:Int){a b:Nat}(ha:a<2^64)(hb:b<2^64):X8 (f,(a:Int),(b:Int),())=some (Rp f a b):=by
 show mQ Ar.pre Ar.F Dk.pre Dk.F f a b=_;unfold mQ Rp;have p0:=En f a ha;have p1:=En f b hb;by_cases h1:Am f a≠0
 ·have:(Am f a !=0)=true:=bne_iff_ne.2 h1;rw[if_pos h1];simp only[DC p0,Dz p0,cond_true,this]
 rw[if_neg h1];have h1:Am f a=0:=di.1 h1;rw[h1]at p0;by_cases h2:Am f b≠0
 ·have:(Am f b !=0)=true:=bne_iff_ne.2 h2;rw[if_pos h2];simp only[DC p0,Dz p0,cond_true,bne_self_eq_false,cond_false,DC p1,Dz p1,this]
 rw[if_neg h2];have h2:Am f b=0:=di.1 h2;rw[h2]at p1;obtain⟨hf,l1⟩:=CT h1;obtain⟨_,l2⟩:=CT h2;have p2:=pC hf;have hW:=Eg hf;have hW8:16<=fW f:=by rcases Ds hf with rfl|rfl|rfl|rfl<;>decide
 have hpw:2^fW f=2^(fW f-1)*2:=by rw[←df,show(fW f-1).succ=fW f by omega]
 have hle:2^(fW f-1)<=2^63:=ae (by decide) (by omega);have e1:JW .u64 (a:Int) ((2^(fW f-1):Nat):Int)=((By f a:Nat):Int):=aDe (by omega) (by rw[show fW f-1+1=fW f by omega];exact l1);have e2:A9 .u64 (b:Int) ((2^(fW f-1):Nat):Int)=(((bif sF f b then 1 else 0)*2^(fW f-1):Nat):Int):=by
  rw[aDd hb (by omega)];congr 1;have hd:b/2^(fW f-1)<2:=Nat.div_lt_of_lt_mul (by omega);have ht:b.testBit (fW f-1)=sF f b:=by
   unfold sF;rw[Nat.testBit_eq_decide_div_mod_eq];generalize b/2^(fW f-1)=q at *
   rcases(show q=0∨q=1 by omega)with h|h<;>rw[h]<;>rfl
  apply Nat.eq_of_testBit_eq;intro i;rw[Nat.testBit_and,jz];cases hs:sF f b
  ·rw[cond_false,fc,Nat.zero_testBit];by_cases h:fW f-1=i
   ·rw[←h,ht,hs];rfl
   ·rw[decide_eq_false h,bm]
  ·rw[cond_true,fi,jz];by_cases h:fW f-1=i
   ·rw[←h,ht,hs];rfl
   ·rw[decide_eq_false h,bm]
 simp only[DC p0,Dz p0,DC p1,Dz p1,cond_true,bne_self_eq_false,cond_false,vU p2,tV p2,e1,e2];have hab:By f a<2^(fW f-1):=bo _ (ag _);have e3:A7 .u64 ((By f a:Nat):Int) (((bif sF f b then 1 else 0)*2^(fW f-1):Nat):Int)=((Gw f (sF f b) (By f a):Nat):Int):=by
  rw[FR hab (by cases sF f b<;>simp<;>omega)];congr 1;unfold Gw;cases sF f b<;>simp
 rw[e3]
end VL
namespace VL
open Go Vx
def Ze(f:Int)(a:Nat):Int×Int×Int×Unit:=if Am f a=0 then(aa .u64 (Av f a),0,0,())else(0,0,Am f a,())
def Hf(f:Int)(a:Nat):Int×Int×Int×Unit:=if Am f a=0 then((It f a:Int),0,0,())else(0,0,Am f a,())
def Ib(f:Int)(a:Nat):Int×Int×Int×Unit:=((D5.F (f,(a:Int),())).1,0,(D5.F (f,(a:Int),())).2.1,())
def J8(m op f:Int)(a b c:Nat):Int×Int×Int×Unit:=if op=1 then SD f m a b else if op=2 then jH f m a b else if op=3 then VG f m a b else if op=4 then Rs f m a b else if op=5 then Tr f m a else if op=6 then SY f m a b c else if op=7 then((FT f a b true).1,(FT f a b true).2.2)else if op=8 then((FT f a b false).1,(FT f a b false).2.2)else if op=9 then S7 f m a true else if op=10 then SL f (aa .i64 (c:Int)) m a else if op=11 then Tt f m (aa .i64 (c:Int)) a else if op=12 then S2 f m (aa .i64 (c:Int)) a else if op=13 then Kb f a b false else if op=14 then Kb f a b true else if op=15 then(aa .u64 (EV f a b false).1,(EV f a b false).2)else if op=16 then(aa .u64 (EV f a b true).1,(EV f a b true).2)else if op=17 then RT f a 1 else if op=18 then Tp f m a (aa .i64 (b:Int))else if op=19 then Ze f a else if op=20 then Hf f a else if op=21 then Ib f a else if op=22 then((Rp f a b).1,0,(Rp f a b).2)else(0,0,0,())
abbrev TA:=Aa (.pair (.int .i64) (.pair (.int .i64) (.pair (.int .u64) (.pair (.int .u64) (.pair (.int .u64) .unit)))))
def C0(w:Option (Nat×List Nat))(k:TA)(y:DenS DZ):Prop:=Jz.pre w (k,())=true/\Jz.F w (k,())=y
theorem Dp{w:Option (Nat×List Nat)}{k:TA}{y:DenS DZ}{p:Bool}{v:DenS DZ}(h1:Jz.pre w (k,())=p)(h2:Jz.F w (k,())=v)(h3:p=true)(h4:v=y):C0 w k y:=⟨h1.trans h3,h2.trans h4⟩
theorem Df{op:Int}(h1:1<=op)(h2:op<=22){n:Int}{w:Option (Nat×List Nat)}(h:(Gk.F ()).1.getD op.toNat ((0:Int),none,())=(n,w,())):Q7 (op,())=some ((n,w,()),0,()):=by
 show Wh Gk.pre Gk.F op=_;unfold Wh;have hp:Gk.pre ()=true:=by kernel_rfl
 have hl:(Gk.F ()).1.length=23:=by kernel_rfl
 rw[hp,hl,h,decide_eq_false (show ¬op<1 by omega),decide_eq_false (show ¬op>=((23:Nat):Int) by omega),decide_eq_true (show(0:Int)<=op by omega),decide_eq_true (show op<((23:Nat):Int) by omega)];rfl
theorem aT0{op:Int}(h:op<1∨op>22):Q7 (op,())=some (((0:Int),none,()),190,()):=by
 show Wh Gk.pre Gk.F op=_;unfold Wh;have hp:Gk.pre ()=true:=by kernel_rfl
 have hl:(Gk.F ()).1.length=23:=by kernel_rfl
 have:(decide (op<1)||decide (op>=((23:Nat):Int)))=true:=by rw[dl,decide_eq_true_eq,decide_eq_true_eq];omega
 rw[hp,hl,this];rfl
theorem nV{g:Nat}{k:TA}{p:Bool}{y:DenS KU}(h1:Qc.pre (some (g,[])) (k.2.1,k.1,k.2.2.1,k.2.2.2.1,())=p)(h2:Qc.F (some (g,[])) (k.2.1,k.1,k.2.2.1,k.2.2.2.1,())=y)(h3:p=true):XN (k,g,())=some y:=by
 show lV Qc.pre Qc.F k g=_;unfold lV;dsimp only;rw[h1,h2,h3];rfl
theorem aFp{g:Nat}{k:TA}{p:Bool}{y:DenS KY}(h1:Qd.pre (some (g,[])) (k.2.1,k.2.2.1,k.2.2.2.1,())=p)(h2:Qd.F (some (g,[])) (k.2.1,k.2.2.1,k.2.2.2.1,())=y)(h3:p=true):Yf (k,g,())=some y:=by
 show mY Qd.pre Qd.F k g=_;unfold mY;rw[h1,h2,h3];rfl
theorem aHm{g:Nat}{k:TA}{p:Bool}{y:DenS cK}(h1:Qe.pre (some (g,[])) (k.2.1,k.2.2.1,k.2.2.2.1,())=p)(h2:Qe.F (some (g,[])) (k.2.1,k.2.2.1,k.2.2.2.1,())=y)(h3:p=true):Ye (k,g,())=some (y.1,y.2.2):=by
 show mX Qe.pre Qe.F k g=_;unfold mX;dsimp only;rw[h1,h2,h3];rfl
theorem aHP{g:Nat}{k:TA}{p:Bool}{y:DenS cL}(h1:Qf.pre (some (g,[])) (k.2.1,k.2.2.1,())=p)(h2:Qf.F (some (g,[])) (k.2.1,k.2.2.1,())=y)(h3:p=true):Yg (k,g,())=some (y.1,(0:Int),y.2):=by
 show mZ Qf.pre Qf.F k g=_;unfold mZ;dsimp only;rw[h1,h2,h3];rfl
theorem aVM(m f:Int){a b:Nat}(ha:a<2^64)(hb:b<2^64)(c:Int):
  C0 (some (255,[15+2])) (m,f,(a:Int),(b:Int),c,()) (SD f m a b)/\C0 (some (255,[16+2])) (m,f,(a:Int),(b:Int),c,()) (jH f m a b) /\
  C0 (some (255,[17+2])) (m,f,(a:Int),(b:Int),c,()) (VG f m a b)/\C0 (some (255,[18+2])) (m,f,(a:Int),(b:Int),c,()) (Rs f m a b):=by
 have p1:=pH f m ha hb;have p2:=aKq f m ha hb;have p3:=aKF f m ha hb;have p4:=aKI f m ha hb;have q1:=nV (g:=15) (k:=(m,f,(a:Int),(b:Int),c,())) (p:=Fy.pre (f,m,(a:Int),(b:Int),())) (y:=Fy.F (f,m,(a:Int),(b:Int),())) (by kernel_rfl) (by kernel_rfl) (vZ p1);have q2:=nV (g:=16) (k:=(m,f,(a:Int),(b:Int),c,())) (p:=LB.pre (f,m,(a:Int),(b:Int),())) (y:=LB.F (f,m,(a:Int),(b:Int),())) (by kernel_rfl) (by kernel_rfl) (aQa p2);have q3:=nV (g:=17) (k:=(m,f,(a:Int),(b:Int),c,())) (p:=LC.pre (f,m,(a:Int),(b:Int),())) (y:=LC.F (f,m,(a:Int),(b:Int),())) (by kernel_rfl) (by kernel_rfl) (aQm p3);have q4:=nV (g:=18) (k:=(m,f,(a:Int),(b:Int),c,())) (p:=LD.pre (f,m,(a:Int),(b:Int),())) (y:=LD.F (f,m,(a:Int),(b:Int),())) (by kernel_rfl) (by kernel_rfl) (aQs p4);rw[t0 p1]at q1;rw[aNy p2]at q2;rw[aNK p3]at q3;rw[aNQ p4]at q4;exact⟨Dp (p:=Dl.pre ((m,f,(a:Int),(b:Int),c,()),15,())) (v:=Dl.F ((m,f,(a:Int),(b:Int),c,()),15,())) (by kernel_rfl) (by kernel_rfl) (iT q1) (g9 q1),
  Dp (p:=Dl.pre ((m,f,(a:Int),(b:Int),c,()),16,())) (v:=Dl.F ((m,f,(a:Int),(b:Int),c,()),16,())) (by kernel_rfl) (by kernel_rfl) (iT q2) (g9 q2),
  Dp (p:=Dl.pre ((m,f,(a:Int),(b:Int),c,()),17,())) (v:=Dl.F ((m,f,(a:Int),(b:Int),c,()),17,())) (by kernel_rfl) (by kernel_rfl) (iT q3) (g9 q3),
  Dp (p:=Dl.pre ((m,f,(a:Int),(b:Int),c,()),18,())) (v:=Dl.F ((m,f,(a:Int),(b:Int),c,()),18,())) (by kernel_rfl) (by kernel_rfl) (iT q4) (g9 q4)⟩
end VL
end
