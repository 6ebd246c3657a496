/- Part 6 of the proof. What is proved: symbolic execution of the functions, proved sound; what each function of the program computes, and that every run ends with it; what these functions compute, in plain numbers. Conditions: each theorem bears its own. -/
import Derived.Test.YtkkidampbmfagaaGreatDoorVxG5
set_option linter.all false
set_option exponentiation.threshold 1000000
noncomputable section
open BitVec renaming ofInt->bv
open Bool renaming and_eq_false_iff->me,and_eq_true->ai,and_false->bm,and_self->bf,and_true->bw,eq_iff_iff->cu,false_and->az,false_or->bp,not_false->bd,not_true->bg,or_eq_false_iff->dv,or_false->ci,or_self->bq,or_true->br,true_and->bh,true_or->be
open Classical renaming choose_spec->kq,not_not->di
open Go.IntKind renaming wrap->aa
open Int renaming add_zero->jn,eq_ofNat_of_zero_le->cw,natAbs_natCast->iv,natAbs_neg->oj,natCast_add->mq,natCast_mul->jf,natCast_zero->gn,tmod->jp,toNat->aj,toNat_natCast->ab,toNat_zero->bi
open List renaming append_assoc->fj,append_nil->dp,drop_eq_getElem_cons->fg,drop_length->kd,drop_replicate->lh,drop_zero->lx,getD_cons_succ->oq,getD_eq_getElem?_getD->al,getElem?_drop->dr,getElem?_eq_getElem->bc,getElem?_eq_none->ff,getElem?_eq_some_iff->aw,getElem?_of_mem->mj,length_cons->gk,length_map->nn,length_nil->je,length_replicate->fx,length_set->iq,length_take->gm,mem_append->cz,mem_of_mem_drop->lc,mem_of_mem_take->fd,nil_append->mp,replicate->ax,replicate_succ->jx,replicate_zero->lg,set_append_right->gh,set_cons_zero->kh,set_getElem_self->oc,set_set->qp,take->kp,take_length->dj,take_of_length_le->cv,take_succ->qk,take_zero->mz
open Nat renaming add_assoc->gu,add_comm->jc,add_mul->cp,add_mul_div_left->fq,add_mul_div_right->nz,add_mul_mod_self_left->im,add_mul_mod_self_right->kz,add_sub_cancel_left->ka,add_zero->de,div_add_mod->ck,div_div_eq_div_mul->dk,div_eq_of_lt->bu,div_le_self->dx,div_lt_iff_lt_mul->cn,div_mul_le_self->kb,div_one->ms,eq_of_testBit_eq->jq,eq_zero_or_pos->bj,le_mul_of_pos_left->il,le_mul_of_pos_right->dz,le_refl->cg,le_trans->fk,lt_of_le_of_lt->av,lt_of_lt_of_le->ah,lt_or_ge->au,lt_trans->jd,lt_trichotomy->gc,min_eq_left->ic,min_le_left->lk,mod_add_div->ln,mod_eq_of_lt->ar,mod_lt->bo,mod_mod->qr,mod_mod_of_dvd->oz,mod_mul->mr,mod_two_eq_zero_or_one->ik,mul_add->bt,mul_assoc->ao,mul_comm->aq,mul_div_cancel->ki,mul_div_cancel_left->ga,mul_eq_zero->nt,mul_le_mul->io,mul_le_mul_left->ce,mul_le_mul_right->ay,mul_left_comm->fu,mul_lt_mul_of_pos_left->gw,mul_lt_mul_of_pos_right->cm,mul_mod->qh,mul_mod_left->nm,mul_mod_mul_left->oi,mul_mod_mul_right->fb,mul_mod_right->kx,mul_one->gf,mul_pos->gd,mul_right_comm->jm,mul_zero->fm,one_mul->fi,pow_add->ap,pow_le_pow_right->ae,pow_lt_pow_iff_right->ct,pow_lt_pow_right->du,pow_mul->lv,pow_pos->iy,pow_succ->df,pow_succ'->kw,pow_zero->ij,sub_self->gy,sub_zero->my,testBit_succ->lf,testBit_two_pow_mul_add->jg,two_pow_pos->ag,zero_add->dw,zero_le->ej,zero_mod->mu,zero_mul->fc
namespace VL
open Go Vx
theorem aHJ{O:List Nat}{i v:Nat}(hi:i<O.length)(hv:O[i]? = some v):(O.take i++ax (O.length-i) 0).set i v=O.take (i+1)++ax (O.length-(i+1)) 0:=by
 have e:O.length-i=(O.length-(i+1))+1:=by omega
 have hl:(O.take i).length=i:=by simp;omega
 rw[e,jx,gh _ _ (by omega),hl,gy,kh];rw[qk,hv];simp
theorem aE3{l:List Nat}{i v:Nat}(hi:i<l.length):(l.set i v).getD i 0=v:=by
 rw[al,List.getElem?_set_self hi];rfl
theorem gL(l:List Nat)(w i:Nat):(l.drop w).getD i 0=l.getD (w+i) 0:=by
 rw[al,al,dr]
theorem aF(n:Nat)(hn:n<=1000000000):BC .i64 (n:Int) 64=((n/64:Nat):Int):=by
 unfold BC;have e:(n:Int).tdiv 64=((n/64:Nat):Int):=rfl;rw[e,As (by omega)]
theorem aLg(l:List Nat)(hl:l.length<=1000000)(n:Nat)(hn:n<=l.length)(ht:(Ai l).length<=n):
  dM (((),((n:Int),())),(Wd l,()))=some (.inl (((),(((Ai l).length:Int),())),(Wd l,()))):=by
 have key:=Dc aFA (fun x=>x.1.2.1.toNat)
  (fun x=>∃n:Nat,n<=l.length/\(Ai l).length<=n/\x=(((),((n:Int),())),(Wd l,())))
  (fun _=>.inl (((),(((Ai l).length:Int),())),(Wd l,()))) ?_ (((),((n:Int),())),(Wd l,())) ⟨n,hn,ht,rfl⟩
 ·exact key
 intro L x hx hL;obtain⟨n,hn,ht,rfl⟩:=hx;unfold U4;rcases bj n with rfl|hpos
 ·have e1:decide (((0:Nat):Int)>0)=false:=rfl;simp only[e1,bd,br,cond_true,az,cond_false];have:(Ai l).length=0:=by omega
  rw[this]
 ·have e0:aa .i64 ((n:Int)-1)=((n-1:Nat):Int):=EA n 1 (by omega) (by omega);have e1:decide ((n:Int)>0)=true:=by simp;omega
  have e2:(decide ((0:Int)<=((n-1:Nat):Int))&&decide (((n-1:Nat):Int)<((Wd l).length:Int)))=true:=by
   rw[Az];simp;omega
  simp only[e0,e1,e2,be,cond_true,bh,ab,BZ,FM];cases hz:(l.getD (n-1) 0==0)with
  |true=>
   simp only[cond_true];refine hL _ ⟨n-1,by omega,?_,rfl⟩ (by simp only[ab];omega);rcases au (n-1) (Ai l).length with h|h
   ·exfalso;have e:n=(Ai l).length:=by omega
    have:=aW l (by omega);rw[←e]at this;exact this (by simpa using hz)
   ·exact h
  |false=>
   simp only[cond_false];have:(Ai l).length=n:=by
    rcases au (n-1) (Ai l).length with h|h
    ·omega
    ·exfalso;have:=xG l (n-1) h;rw[this]at hz;simp at hz
   rw[this]
theorem zF(l:List Nat)(hl:l.length<=1000000):WZ (Wd l,())=some (Wd (Ai l),()):=by
 show jS dM (Wd l)=_;unfold jS;have h:=aLg l hl l.length (cg _) (Ek l).1;rw[Az];rw[h];have e:(decide ((0:Int)<=((Ai l).length:Int))&&decide (((Ai l).length:Int)<=((Wd l).length:Int)))=true:=by
  rw[Az];have:=(Ek l).1;simp;omega
 show(bif(decide ((0:Int)<=((Ai l).length:Int))&&decide (((Ai l).length:Int)<=((Wd l).length:Int)))then some (kp (aj ((Ai l).length:Int)) (Wd l),())else none)=_;rw[e,cond_true,ab,eD];have:=(Ek l).2;rw[←this]
theorem aLl(a:List Nat)(ha:∀x∈a,x<2^64)(hlen:a.length<=1000000)(w s:Nat)(hs:s<64)(hw:w<=a.length)(i:Nat)(hi:i<=(a.drop w).length):
  dO ((((a.drop w).length:Int),(Wd a,((w:Int),((s:Int),((i:Int),((),())))))),(Wd ((Bg s (a.drop w)).take i++ax ((Bg s (a.drop w)).length-i) 0),()))=some (.inl (((),()),(Wd (Bg s (a.drop w)),()))):=by
 have key:=Dc (aFF Af.pre Af.F) (fun x=>(a.drop w).length-x.1.2.2.2.2.1.toNat)
  (fun x=>∃i:Nat,i<=(a.drop w).length/\x=((((a.drop w).length:Int),(Wd a,((w:Int),((s:Int),((i:Int),((),())))))),(Wd ((Bg s (a.drop w)).take i++ax ((Bg s (a.drop w)).length-i) 0),())))
  (fun _=>.inl (((),()),(Wd (Bg s (a.drop w)),()))) ?_ _ ⟨i,hi,rfl⟩
 ·exact key
 intro L x hx hL;obtain⟨i,hi,rfl⟩:=hx;unfold U9;have hdl:(a.drop w).length=a.length-w:=by simp
 have hol:=Na s (a.drop w);rcases au i (a.drop w).length with hlt|hge
 ·have e1:decide ((i:Int)<((a.drop w).length:Int))=true:=by simp;omega
  have e2:aa .i64 ((w:Int)+(i:Int))=((w+i:Nat):Int):=by rw[As (by omega)];omega
  have e3:(decide ((0:Int)<=((w+i:Nat):Int))&&decide (((w+i:Nat):Int)<((Wd a).length:Int)))=true:=by
   rw[Az];simp only[ai,decide_eq_true_eq];omega
  have e4:decide ((0:Int)<=(s:Int))=true:=by simp
  have houtl:((Bg s (a.drop w)).take i++ax ((Bg s (a.drop w)).length-i) 0).length=(a.drop w).length:=by simp;omega
  generalize hout:(Bg s (a.drop w)).take i++ax ((Bg s (a.drop w)).length-i) 0=out at houtl⊢;have e5:(decide ((0:Int)<=(i:Int))&&decide ((i:Int)<((Wd out).length:Int)))=true:=by
   rw[Az];simp only[ai,decide_eq_true_eq];omega
  have e6:aa .i64 (((w+i:Nat):Int)+1)=((w+i+1:Nat):Int):=by rw[As (by omega)];omega
  have e7:aa .i64 ((i:Int)+1)=((i+1:Nat):Int):=by rw[As (by omega)];omega
  have e8:aa .i64 (64-(s:Int))=((64-s:Nat):Int):=EA 64 s (by omega) (by omega);have hx:=Cr (by decide) ha (w+i);have hget:=aN s (a.drop w) i hlt;rw[gL,gL,←gu]at hget;have hnext:=fun v (hv:(Bg s (a.drop w))[i]? = some v)=>aHJ (by omega) hv;rw[hout]at hnext;have e9:∀v:Nat,(decide ((0:Int)<=(i:Int))&&decide ((i:Int)<((Wd (out.set i v)).length:Int)))=true:=fun v=>by
   rw[Az,iq];simp only[ai,decide_eq_true_eq];omega
  simp only[e1,e2,e3,e4,e5,e6,e7,e8,cond_true,ab,BZ,DD _ s (by omega),Eb,e9];rcases au (w+i+1) a.length with h1|h1
  ·have f1:decide (((w+i+1:Nat):Int)<((Wd a).length:Int))=true:=by rw[Az];exact decide_eq_true (by omega)
   have f2:decide ((0:Int)<=((w+i+1:Nat):Int))=true:=decide_eq_true (by omega);have f3:decide ((0:Int)<=((64-s:Nat):Int))=true:=decide_eq_true (by omega);simp only[f1,f2,f3,bf,cond_true];have hw2:=jB (s:=s) (y:=a.getD (w+i+1) 0) (by omega) hx;have g1:a.getD (w+i+1) 0*2^(64-s)%2^64=(a.getD (w+i+1) 0%2^s)*2^(64-s):=by
    rw[VT (s:=s) (by omega),fb]
   rw[aE3 (by omega),Ej _ _ (by omega),g1,FR hw2.1 hw2.2,Eb,qp,hnext _ hget];exact hL _ ⟨i+1,by omega,rfl⟩ (by simp only[ab];omega)
  ·have f1:decide (((w+i+1:Nat):Int)<((Wd a).length:Int))=false:=by rw[Az];exact decide_eq_false (by omega)
   have hz:a.getD (w+i+1) 0=0:=by rw[al,ff h1];rfl
   rw[hz,mu,fc,de]at hget;simp only[f1,cond_false];rw[hnext _ hget];exact hL _ ⟨i+1,by omega,rfl⟩ (by simp only[ab];omega)
 ·have hie:i=(a.drop w).length:=by omega
  subst hie;have e1:decide (((a.drop w).length:Int)<((a.drop w).length:Int))=false:=by simp
  simp only[e1,cond_false];have:(Bg s (a.drop w)).take (a.drop w).length++ax ((Bg s (a.drop w)).length-(a.drop w).length) 0=Bg s (a.drop w):=by
   rw[←hol,dj,gy,lg,dp]
  rw[this]
theorem zN(l:List Nat)(hl:Ws l)(n:Nat)(hn:n<=100000000):TT (Wd l,(n:Int),())=some (Wd (dg (2^64) (nv (2^64) l/2^n)),()):=by
 obtain⟨h,hlen⟩:=hl;show kH Af.pre Af.F dO (Wd l) n=_;unfold kH;have p0:=Ea l hlen;have hB:2<=2^64:=by decide
 have hle:=(Ek l).1;have hm:∀x∈Ai l,x<2^64:=fun x hx=>h x (Tu hx);have hv:=J7 hB h;have hsplit:2^n=(2^64)^(n/64)*2^(n%64):=by rw[Cw,←ap];congr 1;omega
 simp only[CZ p0,CX p0,cond_true,Az,aF n (by omega)];rcases au (n/64) (Ai l).length with h1|h1
 ·have e1:decide (((n/64:Nat):Int)>=((Ai l).length:Int))=false:=by simp;omega
  have e2:aa .i64 (((Ai l).length:Int)-((n/64:Nat):Int))=(((Ai l).drop (n/64)).length:Int):=by
   rw[EA _ _ (by omega) (by omega)];simp
  have hdl:((Ai l).drop (n/64)).length<=1000000:=by simp;omega
  have e3:(decide ((0:Int)<=(((Ai l).drop (n/64)).length:Int))&&decide ((((Ai l).drop (n/64)).length:Int)*8<=140737488355328))=true:=by
   simp only[ai,decide_eq_true_eq];omega
  have e4:jp (n:Int) 64=((n%64:Nat):Int):=rfl;have hw:=aLl (Ai l) hm (by omega) (n/64) (n%64) (bo _ (by decide)) (by omega) 0 (ej _);rw[mz,mp,my,Na]at hw;rw[e1,e2,e3,cond_false,cond_true,ab,e4,Sp,Az,fx];rw[show((0:Nat):Int)=0 from rfl]at hw;rw[hw];have hos:∀x∈Bg (n%64) ((Ai l).drop (n/64)),x<2^64:=fun x hx=>by
   obtain⟨i,hi⟩:=mj hx;have hil:i<((Ai l).drop (n/64)).length:=by rw[←Na (n%64)];exact(aw.1 hi).1
   rw[aN _ _ i hil]at hi;cases hi;exact(jB (s:=n%64) (by omega) (Cr (by decide) (fun y hy=>hm y (lc hy)) i)).2
  have p1:=Ea (Bg (n%64) ((Ai l).drop (n/64))) (by rw[Na];exact hdl);show(bif Af.pre (Wd (Bg (n%64) ((Ai l).drop (n/64))),())then some (Af.F (Wd (Bg (n%64) ((Ai l).drop (n/64))),()))else none)=_;rw[CZ p1,CX p1,cond_true,Hj hB _ hos,vH (by omega)];have hd:nv (2^64) ((Ai l).drop (n/64))=nv (2^64) l/(2^64)^(n/64):=by
   rw[←hv,MY _ (Ai l) (n/64) (by omega)];have hlow:=DV hB ((Ai l).take (n/64)) fun x hx=>hm x (fd hx);rw[gm,ic (by omega)]at hlow;rw[fq _ _ (iy (by decide)),bu hlow,dw]
  rw[hd,dk,←hsplit];rfl
 ·have e1:decide (((n/64:Nat):Int)>=((Ai l).length:Int))=true:=by simp;omega
  rw[e1,cond_true];have hz:nv (2^64) l/2^n=0:=by
   rw[←hv];have:=DV hB (Ai l) hm;apply bu;refine ah this ?_;rw[Cw];exact ae (by decide) (by omega)
  rw[hz,Es];rfl
theorem aLf(a:List Nat)(ha:∀x∈a,x<2^64)(hlen:a.length<=1000000)(w s:Nat)(hs:s<64)(hw:w<=a.length)(i:Nat)(hi:i<=(a.drop w).length):
  dL ((((a.drop w).length:Int),(Wd a,((w:Int),((s:Int),((i:Int),((),())))))),(Wd ((Bg s (a.drop w)).take i++ax ((Bg s (a.drop w)).length-i) 0),()))=some (.inl (((),()),(Wd (Bg s (a.drop w)),()))):=by
 have key:=Dc (aFz Ce.pre Ce.F Af.pre Af.F) (fun x=>(a.drop w).length-x.1.2.2.2.2.1.toNat)
  (fun x=>∃i:Nat,i<=(a.drop w).length/\x=((((a.drop w).length:Int),(Wd a,((w:Int),((s:Int),((i:Int),((),())))))),(Wd ((Bg s (a.drop w)).take i++ax ((Bg s (a.drop w)).length-i) 0),())))
  (fun _=>.inl (((),()),(Wd (Bg s (a.drop w)),()))) ?_ _ ⟨i,hi,rfl⟩
 ·exact key
 intro L x hx hL;obtain⟨i,hi,rfl⟩:=hx;unfold U3;have hdl:(a.drop w).length=a.length-w:=by simp
 have hol:=Na s (a.drop w);rcases au i (a.drop w).length with hlt|hge
 ·have e1:decide ((i:Int)<((a.drop w).length:Int))=true:=by simp;omega
  have e2:aa .i64 ((w:Int)+(i:Int))=((w+i:Nat):Int):=by rw[As (by omega)];omega
  have e3:(decide ((0:Int)<=((w+i:Nat):Int))&&decide (((w+i:Nat):Int)<((Wd a).length:Int)))=true:=by
   rw[Az];simp only[ai,decide_eq_true_eq];omega
  have e4:decide ((0:Int)<=(s:Int))=true:=by simp
  have houtl:((Bg s (a.drop w)).take i++ax ((Bg s (a.drop w)).length-i) 0).length=(a.drop w).length:=by simp;omega
  generalize hout:(Bg s (a.drop w)).take i++ax ((Bg s (a.drop w)).length-i) 0=out at houtl⊢;have e5:(decide ((0:Int)<=(i:Int))&&decide ((i:Int)<((Wd out).length:Int)))=true:=by
   rw[Az];simp only[ai,decide_eq_true_eq];omega
  have e6:aa .i64 (((w+i:Nat):Int)+1)=((w+i+1:Nat):Int):=by rw[As (by omega)];omega
  have e7:aa .i64 ((i:Int)+1)=((i+1:Nat):Int):=by rw[As (by omega)];omega
  have e8:aa .i64 (64-(s:Int))=((64-s:Nat):Int):=EA 64 s (by omega) (by omega);have hx:=Cr (by decide) ha (w+i);have hget:=aN s (a.drop w) i hlt;rw[gL,gL,←gu]at hget;have hnext:=fun v (hv:(Bg s (a.drop w))[i]? = some v)=>aHJ (by omega) hv;rw[hout]at hnext;have e9:∀v:Nat,(decide ((0:Int)<=(i:Int))&&decide ((i:Int)<((Wd (out.set i v)).length:Int)))=true:=fun v=>by
   rw[Az,iq];simp only[ai,decide_eq_true_eq];omega
  simp only[e1,e2,e3,e4,e5,e6,e7,e8,cond_true,ab,BZ,DD _ s (by omega),Eb,e9];rcases au (w+i+1) a.length with h1|h1
  ·have f1:decide (((w+i+1:Nat):Int)<((Wd a).length:Int))=true:=by rw[Az];exact decide_eq_true (by omega)
   have f2:decide ((0:Int)<=((w+i+1:Nat):Int))=true:=decide_eq_true (by omega);have f3:decide ((0:Int)<=((64-s:Nat):Int))=true:=decide_eq_true (by omega);simp only[f1,f2,f3,bf,cond_true];have hw2:=jB (s:=s) (y:=a.getD (w+i+1) 0) (by omega) hx;have g1:a.getD (w+i+1) 0*2^(64-s)%2^64=(a.getD (w+i+1) 0%2^s)*2^(64-s):=by
    rw[VT (s:=s) (by omega),fb]
   rw[aE3 (by omega),Ej _ _ (by omega),g1,FR hw2.1 hw2.2,Eb,qp,hnext _ hget];exact hL _ ⟨i+1,by omega,rfl⟩ (by simp only[ab];omega)
  ·have f1:decide (((w+i+1:Nat):Int)<((Wd a).length:Int))=false:=by rw[Az];exact decide_eq_false (by omega)
   have hz:a.getD (w+i+1) 0=0:=by rw[al,ff h1];rfl
   rw[hz,mu,fc,de]at hget;simp only[f1,cond_false];rw[hnext _ hget];exact hL _ ⟨i+1,by omega,rfl⟩ (by simp only[ab];omega)
 ·have hie:i=(a.drop w).length:=by omega
  subst hie;have e1:decide (((a.drop w).length:Int)<((a.drop w).length:Int))=false:=by simp
  simp only[e1,cond_false];have:(Bg s (a.drop w)).take (a.drop w).length++ax ((Bg s (a.drop w)).length-(a.drop w).length) 0=Bg s (a.drop w):=by
   rw[←hol,dj,gy,lg,dp]
  rw[this]
theorem aKa(l:List Nat)(hl:Ws l)(n:Nat)(hn:n<=100000000):WY (Wd l,(n:Int),())=some (Wd (dg (2^64) (nv (2^64) l/2^n)),()):=by
 obtain⟨h,hlen⟩:=hl;show jR Ce.pre Ce.F Af.pre Af.F dL (Wd l) n=_;unfold jR;have p0:=Ea l hlen;have hB:2<=2^64:=by decide
 have hle:=(Ek l).1;have hm:∀x∈Ai l,x<2^64:=fun x hx=>h x (Tu hx);have hv:=J7 hB h;have hsplit:2^n=(2^64)^(n/64)*2^(n%64):=by rw[Cw,←ap];congr 1;omega
 simp only[CZ p0,CX p0,cond_true,Az,aF n (by omega)];rcases au (n/64) (Ai l).length with h1|h1
 ·have e1:decide (((n/64:Nat):Int)>=((Ai l).length:Int))=false:=by simp;omega
  have e2:aa .i64 (((Ai l).length:Int)-((n/64:Nat):Int))=(((Ai l).drop (n/64)).length:Int):=by
   rw[EA _ _ (by omega) (by omega)];simp
  have hdl:((Ai l).drop (n/64)).length<=1000000:=by simp;omega
  have e3:(decide ((0:Int)<=(((Ai l).drop (n/64)).length:Int))&&decide ((((Ai l).drop (n/64)).length:Int)*8<=140737488355328))=true:=by
   simp only[ai,decide_eq_true_eq];omega
  have e4:jp (n:Int) 64=((n%64:Nat):Int):=rfl;have hw:=aLf (Ai l) hm (by omega) (n/64) (n%64) (bo _ (by decide)) (by omega) 0 (ej _);rw[mz,mp,my,Na]at hw;rw[e1,e2,e3,cond_false,cond_true,ab,e4,Sp,Az,fx];rw[show((0:Nat):Int)=0 from rfl]at hw;rw[hw];have hos:∀x∈Bg (n%64) ((Ai l).drop (n/64)),x<2^64:=fun x hx=>by
   obtain⟨i,hi⟩:=mj hx;have hil:i<((Ai l).drop (n/64)).length:=by rw[←Na (n%64)];exact(aw.1 hi).1
   rw[aN _ _ i hil]at hi;cases hi;exact(jB (s:=n%64) (by omega) (Cr (by decide) (fun y hy=>hm y (lc hy)) i)).2
  have p1:=zF (Bg (n%64) ((Ai l).drop (n/64))) (by rw[Na];exact hdl);show(bif Ce.pre (Wd (Bg (n%64) ((Ai l).drop (n/64))),())then some (Ce.F (Wd (Bg (n%64) ((Ai l).drop (n/64))),()))else none)=_;rw[aGH p1,aEz p1,cond_true,Hj hB _ hos,vH (by omega)];have hd:nv (2^64) ((Ai l).drop (n/64))=nv (2^64) l/(2^64)^(n/64):=by
   rw[←hv,MY _ (Ai l) (n/64) (by omega)];have hlow:=DV hB ((Ai l).take (n/64)) fun x hx=>hm x (fd hx);rw[gm,ic (by omega)]at hlow;rw[fq _ _ (iy (by decide)),bu hlow,dw]
  rw[hd,dk,←hsplit];rfl
 ·have e1:decide (((n/64:Nat):Int)>=((Ai l).length:Int))=true:=by simp;omega
  rw[e1,cond_true];have hz:nv (2^64) l/2^n=0:=by
   rw[←hv];have:=DV hB (Ai l) hm;apply bu;refine ah this ?_;rw[Cw];exact ae (by decide) (by omega)
  rw[hz,Es];rfl
end VL
namespace VL
open Go Vx
theorem Cb(a b:Nat)(h:a+b<2^62):aa .i64 ((a:Int)+(b:Int))=((a+b:Nat):Int):=by rw[As (by omega)];omega
theorem BW(a:Nat)(h:a<2^62):aa .i64 ((a:Int)+1)=((a+1:Nat):Int):=by rw[As (by omega)];omega
theorem Cc(a:Nat)(h:a<2^56):aa .i64 (64*(a:Int))=((64*a:Nat):Int):=by rw[As (by omega)];omega
theorem Cd(a:Nat)(h:a<2^56):aa .i64 ((a:Int)*64)=((64*a:Nat):Int):=by rw[As (by omega)];omega
theorem BD(m n:Nat)(h:n<=m/\m<2^62):aa .i64 ((m:Int)-(n:Int))=((m-n:Nat):Int):=by rw[As (by omega)];omega
theorem Bo(m:Nat)(h:1<=m/\m<2^62):aa .i64 ((m:Int)-1)=((m-1:Nat):Int):=by rw[As (by omega)];omega
theorem BP(a b:Nat)(h:a<b):decide ((a:Int)<(b:Int))=true:=decide_eq_true (by omega)
theorem BO(a b:Nat)(h:b<=a):decide ((a:Int)<(b:Int))=false:=decide_eq_false (by omega)
theorem B8(a b:Nat)(h:a<=b):decide ((a:Int)<=(b:Int))=true:=decide_eq_true (by omega)
theorem B7(a b:Nat)(h:b<a):decide ((a:Int)<=(b:Int))=false:=decide_eq_false (by omega)
theorem B6(a b:Nat)(h:b<a):decide ((a:Int)>(b:Int))=true:=decide_eq_true (by omega)
theorem B5(a b:Nat)(h:a<=b):decide ((a:Int)>(b:Int))=false:=decide_eq_false (by omega)
theorem B3(a b:Nat)(h:b<=a):decide ((a:Int)>=(b:Int))=true:=decide_eq_true (by omega)
theorem B0(a b:Nat)(h:a<b):decide ((a:Int)>=(b:Int))=false:=decide_eq_false (by omega)
theorem Ca(a:Nat)(h:0<a):decide ((0:Int)<(a:Int))=true:=decide_eq_true (by omega)
theorem B9(a:Nat)(h:a=0):decide ((0:Int)<(a:Int))=false:=decide_eq_false (by omega)
theorem B4(a:Nat)(h:0<a):decide ((a:Int)>0)=true:=decide_eq_true (by omega)
theorem BJ(a:Nat)(h:a=0):decide ((a:Int)>0)=false:=decide_eq_false (by omega)
theorem uK(a:Nat):decide ((a:Int)<0)=false:=decide_eq_false (by omega)
theorem Bz(a:Nat)(h:a=0):((a:Int)==0)=true:=by rw[FM];simp[h]
theorem AS(a:Nat)(h:a≠0):((a:Int)==0)=false:=by rw[FM];simp[h]
theorem Bi(a:Nat)(h:a≠0):((a:Int)!=0)=true:=by rw[VK];simp[h]
theorem BH(a:Nat)(h:a=0):((a:Int)!=0)=false:=by rw[VK];simp[h]
def pd(B:Nat):Nat->Nat->List Nat
 |0,_=>[]
 |k+1,v=>v%B::pd B k (v/B)
theorem Fh(B:Nat):∀k v,(pd B k v).length=k
 |0,_=>rfl
 |k+1,v=>by simp[pd,Fh B k]
theorem Tf{B:Nat}(hB:0<B):∀k v,∀x∈pd B k v,x<B
 |0,_,x,hx=>by simp[pd]at hx
 |k+1,v,x,hx=>by
  simp only[pd,List.mem_cons]at hx
  rcases hx with rfl|hx
  ·exact bo _ hB
  ·exact Tf hB k _ x hx
theorem aGC{B:Nat}(hB:0<B):∀(l:List Nat),(∀x∈l,x<B)->l=pd B l.length (nv B l)
 | [],_=>rfl
 |x::r,h=>by
  have hx:=h x (by simp)
  simp only[gk,pd,nv]
  rw[im,ar hx,fq _ _ hB,bu hx,dw,←aGC hB r fun y hy=>h y (by simp[hy])]
theorem iO{B:Nat}(hB:0<B){l:List Nat}{k v:Nat}(h:∀x∈l,x<B)(hl:l.length=k)(hv:nv B l=v):l=pd B k v:=by
 have:=aGC hB l h;rw[hl,hv]at this;exact this
theorem Tg{B:Nat}(hB:0<B):∀k v,v<B^k->nv B (pd B k v)=v
 |0,v,h=>by simp at h;subst h;rfl
 |k+1,v,h=>by
  simp only[pd,nv]
  rw[Tg hB k (v/B) (by rw[cn hB,←df];exact h)]
  exact ln v B
theorem Z2(B:Nat):∀k v i,i<k->(pd B k v).getD i 0=v/B^i%B
 |0,_,_,h=>by omega
 |k+1,v,0,_=>by simp[pd]
 |k+1,v,i+1,h=>by
  simp only[pd,oq]
  rw[Z2 B k (v/B) i (by omega),dk,←kw]
theorem vO(B:Nat):∀k,pd B k 0=ax k 0
 |0=>rfl
 |k+1=>by simp[pd,vO B k,jx]
theorem ZV(B:Nat):∀(l:List Nat) (i x:Nat),i<l.length->nv B (l.set i x)+B^i*l.getD i 0=nv B l+B^i*x
 | [],_,_,h=>by simp at h
 |y::r,0,x,_=>by simp[nv];omega
 |y::r,i+1,x,h=>by
  have:=ZV B r i x (by simpa using h)
  simp only[List.set_cons_succ,nv,oq,kw]
  rw[ao,ao,gu,gu,←bt,←bt,this]
theorem aHI{B:Nat}{l:List Nat}(h:∀x∈l,x<B){i v:Nat}(hv:v<B):∀x∈l.set i v,x<B:=fun x hx=>by
 rcases List.mem_or_eq_of_mem_set hx with h1|h1
 ·exact h x h1
 ·rw[h1];exact hv
theorem Rr{B:Nat}(hB:2<=B)(n:Nat):Ai (dg B n)=dg B n:=by
 rw[Hj hB _ (Gq hB n),iI hB]
theorem ZY(B:Nat)(l:List Nat)(i:Nat)(h:i<l.length):nv B (l.take (i+1))=nv B (l.take i)+B^i*l.getD i 0:=by
 have hs:=MY B (l.take (i+1)) i (by simp;omega);rw[hs,List.take_take,ic (by omega)];congr 2;rw[List.drop_take,ka,al];rw[fg h,bc h];show l[i]+B*0=l[i];rw[fm,de]
theorem xH{x:Nat}(h:0<x):∃t k,x=2^t*(2*k+1):=by
 induction x using Nat.strongRecOn with
 |ind x ih=>
  rcases ik x with h0|h1
  ·obtain⟨t,k,e⟩:=ih (x/2) (by omega) (by omega);refine⟨t+1,k,?_⟩;rw[df,aq (2^t) 2,ao,←e];omega
  ·exact⟨0,x/2,by simp;omega⟩
theorem aPe{t k n:Nat}:(2^t*(2*k+1))%2^n=0↔n<=t:=by
 constructor
 ·intro h;rcases au t n with hlt|hge
  ·exfalso;have e:n=t+(n-t-1)+1:=by omega
   rw[e,gu,ap,oi,df]at h;have hp:=ag t;have h2:(2*k+1)%(2^(n-t-1)*2)=0:=by
    rcases nt.1 h with h|h
    ·omega
    ·exact h
   have:(2*k+1)%2=0:=by
    have:=oz (2*k+1) (show 2 ∣ 2^(n-t-1)*2 from⟨_,aq _ _⟩);rw[h2]at this;omega
   omega
  ·exact hge
 ·intro h;have e:t=n+(t-n):=by omega
  rw[e,ap,ao];exact kx _ _
theorem aLV{t k:Nat}(h:2^t*(2*k+1)<2^64):2^t*(2*k+1) &&& (2^64-2^t*(2*k+1))=2^t:=by
 have hp:=ag t;have ht:t<64:=by
  have:2^t*1<=2^t*(2*k+1):=ce _ (by omega);exact(ct (a:=2) (by decide)).1 (by omega)
 have hz:2^t*(2*k)+(2^t-1)+1=2^t*(2*k+1):=by rw[bt,gf];omega
 have hb:∀i,(2^64-2^t*(2*k+1)).testBit i=(decide (i<64)&&!(2^t*(2*k)+(2^t-1)).testBit i):=fun i=>by
  rw[←hz,Nat.testBit_two_pow_sub_succ (by omega)]
 apply jq;intro i;rw[Nat.testBit_and,hb,Nat.testBit_two_pow];have h1:(2^t*(2*k+1)).testBit i=(decide (t<=i)&&(2*k+1).testBit (i-t)):=by
  have:=jg (2*k+1) hp i;rw[de]at this;rw[this];by_cases hi:i<t
  ·simp[hi];omega
  ·simp[hi];omega
 rw[h1,jg (2*k) (show 2^t-1<2^t by omega) i];rcases gc i t with hi|hi|hi
 ·simp[show ¬t<=i by omega,show ¬t=i by omega]
 ·subst hi;simp[ht]
 ·have e:i-t=(i-t-1)+1:=by omega
  simp only[show ¬i<t by omega,if_false,show ¬t=i by omega,decide_false];rw[e,lf,lf,show(2*k+1)/2=k by omega,show 2*k/2=k by omega];cases k.testBit (i-t-1)<;>simp
theorem aDd{a b:Nat}(ha:a<2^64)(hb:b<2^64):A9 .u64 (a:Int) (b:Int)=((a &&& b:Nat):Int):=by
 have key:(bv 64 (a:Int) &&& bv 64 (b:Int)).toNat=a &&& b:=by
  rw[BitVec.toNat_and,Hg ha,Hg hb]
 show IntKind.u64.wrap (((bv 64 (a:Int) &&& bv 64 (b:Int)).toNat:Nat):Int)=_;rw[key];have:=Nat.and_le_left (n:=a) (m:=b);exact El (by omega)
theorem VQ{a b:Nat}(ha:a<2^64)(hb:b<2^64):A7 .u64 (a:Int) (b:Int)=((a ||| b:Nat):Int):=by
 have key:(bv 64 (a:Int) ||| bv 64 (b:Int)).toNat=a ||| b:=by
  rw[BitVec.toNat_or,Hg ha,Hg hb]
 show IntKind.u64.wrap (((bv 64 (a:Int) ||| bv 64 (b:Int)).toNat:Nat):Int)=_;rw[key];have:=Nat.or_lt_two_pow ha hb;exact El (by omega)
theorem deb:∀t:Nat,t<64->aa .i64 (k_deb.getD (2^t*285870213051353865%2^64/2^58) 0)=(t:Int):=by
 have h:((List.range 64).all fun t=>decide (aa .i64 (k_deb.getD (2^t*285870213051353865%2^64/2^58) (0:Int))=(t:Int)))=true:=by decide +kernel
 intro t ht;have:=List.all_eq_true.1 h t (List.mem_range.2 ht);simpa using this
theorem dK{t k:Nat}(h:2^t*(2*k+1)<2^64):Yy (((2^t*(2*k+1):Nat):Int),())=some ((t:Int),()):=by
 have hp:=ag t;have h1:2^t*1<=2^t*(2*k+1):=ce _ (by omega);have ht:t<64:=(ct (a:=2) (by decide)).1 (by omega);have han:=aLV h;show nN ((2^t*(2*k+1):Nat):Int)=_;generalize hx:2^t*(2*k+1)=x at *
 unfold nN;try dsimp only
 have e1:aa .u64 ((0:Int)-(x:Int))=((2^64-x:Nat):Int):=by
  have:∀y:Int,aa .u64 y=y%18446744073709551616:=fun y=>by
   simp[aa,IntKind.bits,IntKind.signed]
  rw[this];omega
 have e2:aa .u64 (((2^t:Nat):Int)*285870213051353865)=((2^t*285870213051353865%2^64:Nat):Int):=Kg (2^t*285870213051353865);have e3:AJ .u64 ((2^t*285870213051353865%2^64:Nat):Int) 58=((2^t*285870213051353865%2^64/2^58:Nat):Int):=DD _ 58 (by decide);have e4:2^t*285870213051353865%2^64/2^58<64:=by omega
 have e5:(decide ((0:Int)<=((2^t*285870213051353865%2^64/2^58:Nat):Int))&&decide (((2^t*285870213051353865%2^64/2^58:Nat):Int)<(64:Nat)))=true:=by
  rw[decide_eq_true (by omega),decide_eq_true (by omega)];rfl
 rw[e1,aDd h (by omega),han,e2,e3,e5,aHH,cond_true,AS x (by omega),cond_false,ab,deb t ht]
end VL
namespace VL
open Go Vx
def Dw(n:Nat):List Int:=Wd (dg (2^64) n)
theorem aDM(n:Nat)(h:(dg (2^64) n).length<=1000000):Ws (dg (2^64) n):=⟨Gq (by decide) n,h⟩
theorem CW{B:Nat}(hB:2<=B):∀(k n:Nat),n<B^k->(dg B n).length<=k
 |0,n,h=>by simp at h;subst h;rw[Es];simp
 |k+1,n,h=>by
  rcases bj n with rfl|hn
  ·rw[Es];simp
  ·rw[Gr hB hn]
   have:=CW hB k (n/B) (by rw[cn (by omega),←df];exact h)
   simp;omega
theorem SM{B:Nat}(hB:2<=B)(n:Nat):n<B^(dg B n).length:=by
 have:=DV hB _ (Gq hB n);rwa [iI hB]at this
theorem aML{x i t k r n:Nat}(hx:x=2^t*(2*k+1))(ht:t<64):((2^64)^i*(x+2^64*r))%2^n=0↔n<=64*i+t:=by
 have e:(2^64)^i*(x+2^64*r)=2^(64*i+t)*(2*(k+2^(64-t-1)*r)+1):=by
  have h1:2^64=2^t*(2^(64-t-1)*2):=by rw[←df,←ap];congr 1;omega
  rw[Cw,hx,ap,ao];congr 1;rw[h1,ao,←bt];congr 1;rw[ao,fu];omega
 rw[e];exact aPe
theorem aLo(a:List Nat)(ha:∀x∈a,x<2^64)(hlen:a.length<=1000000)(n:Nat)(hn:n<=1000000000)(i:Nat)(hi:i<=a.length)(hz:nv (2^64) (a.take i)=0):
  dR (((a.length:Int),(Wd a,((n:Int),((i:Int),())))),())=some (if nv (2^64) a=0 then .inl ((),())else .inr ((decide (nv (2^64) a%2^n=0),()),())):=by
 have key:=Dc (aFI Af.pre Af.F BG.pre BG.F) (fun x=>a.length-x.1.2.2.2.1.toNat)
  (fun x=>∃i:Nat,i<=a.length/\nv (2^64) (a.take i)=0/\x=(((a.length:Int),(Wd a,((n:Int),((i:Int),())))),()))
  (fun _=>if nv (2^64) a=0 then .inl ((),())else .inr ((decide (nv (2^64) a%2^n=0),()),())) ?_ _ ⟨i,hi,hz,rfl⟩
 ·exact key
 intro L x hx hL;obtain⟨i,hi,hz,rfl⟩:=hx;unfold Vc;rcases au i a.length with hlt|hge
 ·simp(disch:=omega) only[Cb,BW,Cc,BD,Bo,Cd,BP,BO,B8,B7,B6,B5,B3,B0,Ca,B9,B4,BJ,AV,Bz,AS,Bi,BH,ab,bi,cond_true,cond_false,bf,bh,bw,az,bm,bg,bd,bq,be,br,bp,ci,Az,BZ];have hxl:=Cr (by decide) ha i;rcases bj (a.getD i 0)with h0|h0
  ·simp(disch:=omega) only[Cb,BW,Cc,BD,Bo,Cd,BP,BO,B8,B7,B6,B5,B3,B0,Ca,B9,B4,BJ,AV,Bz,AS,Bi,BH,ab,bi,cond_true,cond_false,bf,bh,bw,az,bm,bg,bd,bq,be,br,bp,ci];refine hL _ ⟨i+1,by omega,?_,rfl⟩ (by simp only[ab];omega);rw[ZY _ _ _ hlt,hz,h0,fm]
  ·obtain⟨t,k,e⟩:=xH h0;have ht:t<64:=by
    have hp:=ag t;have h1:2^t*1<=2^t*(2*k+1):=ce _ (by omega);exact(ct (a:=2) (by decide)).1 (by omega)
   have p0:=dK (t:=t) (k:=k) (by omega);rw[←e]at p0;have hv:nv (2^64) a=(2^64)^i*(a.getD i 0+2^64*nv (2^64) (a.drop (i+1))):=by
    rw[MY _ a i hi,hz,dw,fg hlt];simp only[nv];rw[al,bc hlt];rfl
   have hne:nv (2^64) a≠0:=by
    rw[hv];have:0<(2^64)^i:=iy (by decide);exact Nat.ne_of_gt (gd this (by omega))
   have hd:=aML (i:=i) (r:=nv (2^64) (a.drop (i+1))) (n:=n) e ht;rw[←hv]at hd;simp(disch:=omega) only[Cb,BW,Cc,BD,Bo,Cd,BP,BO,B8,B7,B6,B5,B3,B0,Ca,B9,B4,BJ,AV,Bz,AS,Bi,BH,ab,bi,cond_true,cond_false,bf,bh,bw,az,bm,bg,bd,bq,be,br,bp,ci,iV p0,h9 p0,if_neg hne];have:decide (((64*i+t:Nat):Int)>=(n:Int))=decide (nv (2^64) a%2^n=0):=by
    rw[cu,decide_eq_true_eq,decide_eq_true_eq,hd];omega
   rw[this]
 ·have e:i=a.length:=by omega
  subst e;rw[dj]at hz;simp(disch:=omega) only[Cb,BW,Cc,BD,Bo,Cd,BP,BO,B8,B7,B6,B5,B3,B0,Ca,B9,B4,BJ,AV,Bz,AS,Bi,BH,ab,bi,cond_true,cond_false,bf,bh,bw,az,bm,bg,bd,bq,be,br,bp,ci,if_pos hz]
theorem aKn(l:List Nat)(hl:Ws l)(n:Nat)(hn:n<=1000000000):Xh (Wd l,(n:Int),())=some (decide (nv (2^64) l%2^n=0),()):=by
 obtain⟨h,hlen⟩:=hl;show kO Af.pre Af.F BG.pre BG.F dR (Wd l) n=_;unfold kO;have p0:=Ea l hlen;have hm:∀x∈Ai l,x<2^64:=fun x hx=>h x (Tu hx);have hle:=(Ek l).1;have hw:=aLo (Ai l) hm (by omega) n hn 0 (ej _) rfl;rw[J7 (by decide) h]at hw;simp only[CZ p0,CX p0,cond_true,Az];rw[show((0:Nat):Int)=0 from rfl]at hw;rw[hw];by_cases h0:nv (2^64) l=0
 ·rw[if_pos h0,h0,mu];rfl
 ·rw[if_neg h0]
def MS(v n:Nat):Nat:=if v%2^n=0 then v/2^n else v/2^n/2*2+1
theorem aGx(w:Nat):w ||| 1=w/2*2+1:=by
 apply jq;intro i;rw[Nat.testBit_or];cases i with
 |zero=>simp[Nat.testBit_zero]
 |succ i=>
  rw[lf,lf,lf,show(w/2*2+1)/2=w/2 by omega,show 1/2=0 by rfl];simp
theorem aKm(l:List Nat)(hl:Ws l)(n:Nat)(hn:n<=100000000):TU (Wd l,(n:Int),())=some (Dw (MS (nv (2^64) l) n),0,()):=by
 show kK Qi.pre Qi.F CQ.pre CQ.F Qm.pre Qm.F (Wd l) n=_;unfold kK;have p0:=aKa l hl n hn;have p1:=aKn l hl n (by omega);simp only[uK,cond_false,aPX p0,aNl p0,aP7 p1,aNv p1,cond_true,Az];unfold MS;by_cases h0:nv (2^64) l%2^n=0
 ·rw[if_pos h0,decide_eq_true h0];rfl
 ·rw[if_neg h0,decide_eq_false h0];generalize nv (2^64) l/2^n=q;rcases bj q with rfl|hq
  ·have e:Dw (0/2*2+1)=[1]:=by
    show Wd (dg (2^64) 1)=[1]
    rw[Gr (by decide) (by decide),Es];rfl
   rw[e,Es];rfl
  ·have hB:2<=2^64:=by decide
   have e:Dw (q/2*2+1)=Wd ((q%2^64/2*2+1)::dg (2^64) (q/2^64)):=by
    show Wd (dg (2^64) (q/2*2+1))=_;rw[Gr hB (by omega)];have e1:(q/2*2+1)%2^64=q%2^64/2*2+1:=by omega
    have e2:(q/2*2+1)/2^64=q/2^64:=by omega
    rw[e1,e2]
   have e2:A7 .u64 ((q%2^64:Nat):Int) 1=((q%2^64/2*2+1:Nat):Int):=by
    have:=VQ (a:=q%2^64) (b:=1) (by omega) (by decide);rw[aGx]at this;exact this
   rw[e,Gr hB hq];simp(disch:=omega) only[Cb,BW,Cc,BD,Bo,Cd,BP,BO,B8,B7,B6,B5,B3,B0,Ca,B9,B4,BJ,AV,Bz,AS,Bi,BH,ab,bi,cond_true,cond_false,bf,bh,bw,az,bm,bg,bd,bq,be,br,bp,ci,gk,BZ,List.getD_cons_zero,e2,Eb,kh]
theorem zI(l:List Nat)(hl:Ws l)(n:Nat)(hn:n<=100000000):Q5 (Wd l,(n:Int),())=some (Dw (nv (2^64) l/2^n),0,()):=by
 show j3 CQ.pre CQ.F (Wd l) n=_;unfold j3;have p0:=zN l hl n hn;simp only[uK,cond_false,aGM p0,aEE p0,cond_true];rfl
end VL
namespace VL
open Go Vx
theorem aE5{l:List Nat}{i j v:Nat}(h:i≠j):(l.set i v).getD j 0=l.getD j 0:=by
 rw[al,al,List.getElem?_set_ne h]
theorem aFq{out:List Nat}{K V k s x:Nat}(hs:s<64)(ho:out=pd (2^64) K V)(hk:k+1<K)(hV:V<2^(64*k+s))(hx:x<2^64):
  (out.getD k 0<2^s)/\(out.getD k 0+x%2^(64-s)*2^s<2^64)/\((out.set k (out.getD k 0+x%2^(64-s)*2^s)).set (k+1) (x/2^(64-s))=pd (2^64) K (V+2^(64*k+s)*x)):=by
 have hB:0<2^64:=by decide
 have hps:=ag s;have hpk:=ag (64*k);have hlen:out.length=K:=by rw[ho,Fh]
 have hc:out.getD k 0=V/(2^64)^k%2^64:=by rw[ho,Z2 _ _ _ _ (by omega)]
 have hc2:V/(2^64)^k<2^s:=by
  rw[Cw,cn hpk,aq,←ap];exact hV
 have hc1:out.getD (k+1) 0=0:=by
  rw[ho,Z2 _ _ _ _ hk,Cw];have:V<2^(64*(k+1)):=ah hV (ae (by decide) (by omega));rw[bu this]
 have h64:2^64=2^(64-s)*2^s:=by rw[←ap];congr 1;omega
 have hs64:2^s<=2^64:=ae (by decide) (by omega);have hce:V/(2^64)^k%2^64=V/(2^64)^k:=ar (by omega);have hcl:out.getD k 0<2^s:=by rw[hc,hce];exact hc2
 have hp1:=ag (64-s);have hm:x%2^(64-s)+1<=2^(64-s):=bo _ hp1;have hm2:=ay (2^s) hm;rw[←h64,cp,fi]at hm2;have hsum:out.getD k 0+x%2^(64-s)*2^s<2^64:=by omega
 refine⟨hcl,hsum,?_⟩;have hall:∀y∈out,y<2^64:=by rw[ho];exact Tf hB _ _
 have hxd:x/2^(64-s)<2^64:=av (dx _ _) hx;refine iO hB (aHI (aHI hall hsum) hxd) (by simp[hlen]) ?_;have g1:=ZV (2^64) out k (out.getD k 0+x%2^(64-s)*2^s) (by omega);have g2:=ZV (2^64) (out.set k (out.getD k 0+x%2^(64-s)*2^s)) (k+1) (x/2^(64-s)) (by rw[iq];omega);rw[aE5 (by omega),hc1,fm,de]at g2;have hVK:V<(2^64)^K:=by
  rw[Cw];exact ah hV (ae (by decide) (by omega))
 have hnv:nv (2^64) out=V:=by rw[ho,Tg hB _ _ hVK]
 rw[hnv,bt]at g1;rw[g2];have hx2:2^(64*k+s)*x=(2^64)^k*(x%2^(64-s)*2^s)+(2^64)^(k+1)*(x/2^(64-s)):=by
  have hdm:=ck x (2^(64-s));generalize x/2^(64-s)=q at *
  generalize x%2^(64-s)=r at *
  rw[ap 2 (64*k) s,←Cw,show(2^64)^(k+1)=(2^64)^k*2^64 from df _ _,ao ((2^64)^k),ao ((2^64)^k),←bt,←hdm];congr 1;rw[bt,aq r,jc];congr 1;rw[←ao,aq (2^s),←h64]
 omega
theorem aLq(a:List Nat)(ha:∀x∈a,x<2^64)(hlen:a.length<=1000000)(w s:Nat)(hs:s<64)(hw:w<=10000000)(i:Nat)(hi:i<=a.length):
  dT (((a.length:Int),(Wd a,((w:Int),((s:Int),((i:Int),((),())))))),(Wd (pd (2^64) (w+a.length+1) (2^(64*w+s)*nv (2^64) (a.take i))),()))=some (.inl (((),()),(Wd (pd (2^64) (w+a.length+1) (2^(64*w+s)*nv (2^64) a)),()))):=by
 have key:=Dc (aFK Af.pre Af.F) (fun x=>a.length-x.1.2.2.2.2.1.toNat)
  (fun x=>∃i:Nat,i<=a.length/\x=(((a.length:Int),(Wd a,((w:Int),((s:Int),((i:Int),((),())))))),(Wd (pd (2^64) (w+a.length+1) (2^(64*w+s)*nv (2^64) (a.take i))),())))
  (fun _=>.inl (((),()),(Wd (pd (2^64) (w+a.length+1) (2^(64*w+s)*nv (2^64) a)),()))) ?_ _ ⟨i,hi,rfl⟩
 ·exact key
 intro L x hx hL;obtain⟨i,hi,rfl⟩:=hx;unfold Ve;rcases au i a.length with hlt|hge
 ·have hxl:=Cr (by decide) ha i;have ht:=DV (B:=2^64) (by decide) (a.take i) fun x hx=>ha x (fd hx);rw[gm,ic (by omega),Cw]at ht;have hV:2^(64*w+s)*nv (2^64) (a.take i)<2^(64*(w+i)+s):=by
   have e:64*(w+i)+s=(64*w+s)+64*i:=by omega
   rw[e,ap _ (64*w+s)];exact gw ht (ag _)
  have hnext:=ZY (2^64) a i hlt;have hgo:=hL (((a.length:Int),(Wd a,((w:Int),((s:Int),(((i+1:Nat):Int),((),())))))),(Wd (pd (2^64) (w+a.length+1) (2^(64*w+s)*nv (2^64) (a.take (i+1)))),())) ⟨i+1,by omega,rfl⟩ (by simp only[ab];omega);rw[hnext,bt,←ao,show 2^(64*w+s)*(2^64)^i=2^(64*(w+i)+s) by rw[Cw,←ap];congr 1;omega]at hgo;generalize hout:pd (2^64) (w+a.length+1) (2^(64*w+s)*nv (2^64) (a.take i))=out at *
  obtain⟨q1,q2,q3⟩:=aFq (k:=w+i) hs hout.symm (by omega) hV hxl;have hol:out.length=w+a.length+1:=by rw[←hout,Fh]
  have g1:a.getD i 0*2^s%2^64=(a.getD i 0%2^(64-s))*2^s:=by
   have:2^64=2^(64-s)*2^s:=by rw[←ap];congr 1;omega
   rw[this,fb]
  have e8:aa .i64 (64-(s:Int))=((64-s:Nat):Int):=EA 64 s (by omega) (by omega);simp(disch:=omega) only[Cb,BW,Cc,BD,Bo,Cd,BP,BO,B8,B7,B6,B5,B3,B0,Ca,B9,B4,BJ,AV,Bz,AS,Bi,BH,ab,bi,cond_true,cond_false,bf,bh,bw,az,bm,bg,bd,bq,be,br,bp,ci,Az,BZ,e8,Ej _ s (by omega),DD _ (64-s) (by omega),g1,FR q1 q2,Eb,iq,q3];exact hgo
 ·have e:i=a.length:=by omega
  subst e;rw[dj];simp(disch:=omega) only[Cb,BW,Cc,BD,Bo,Cd,BP,BO,B8,B7,B6,B5,B3,B0,Ca,B9,B4,BJ,AV,Bz,AS,Bi,BH,ab,bi,cond_true,cond_false,bf,bh,bw,az,bm,bg,bd,bq,be,br,bp,ci]
theorem pG(l:List Nat)(hl:Ws l)(n:Nat)(hn:n/64+(Ai l).length+1<=1000000):Sf (Wd l,(n:Int),())=some (Dw (nv (2^64) l*2^n),()):=by
 obtain⟨h,hlen⟩:=hl;show kQ Af.pre Af.F dT (Wd l) n=_;unfold kQ;have hB:2<=2^64:=by decide
 have p0:=Ea l hlen;have hm:∀x∈Ai l,x<2^64:=fun x hx=>h x (Tu hx);have hle:=(Ek l).1;have hv:=J7 hB h;simp only[CZ p0,CX p0,cond_true,Az];rcases bj (Ai l).length with h0|h0
 ·rw[h0,aIs h h0,fc];unfold Dw;rw[Es];rfl
 ·have e4:jp (n:Int) 64=((n%64:Nat):Int):=rfl;have e3:decide (((n/64+(Ai l).length+1:Nat):Int)*8<=140737488355328)=true:=decide_eq_true (by omega);have hw:=aLq (Ai l) hm (by omega) (n/64) (n%64) (bo _ (by decide)) (by omega) 0 (ej _);rw[show nv (2^64) ((Ai l).take 0)=0 by rfl,fm,vO,show 64*(n/64)+n%64=n by omega,show((0:Nat):Int)=0 from rfl]at hw;simp(disch:=omega) only[Cb,BW,Cc,BD,Bo,Cd,BP,BO,B8,B7,B6,B5,B3,B0,Ca,B9,B4,BJ,AV,Bz,AS,Bi,BH,ab,bi,cond_true,cond_false,bf,bh,bw,az,bm,bg,bd,bq,be,br,bp,ci,aF n (by omega),e4,e3,Sp,hw];have hV:2^n*nv (2^64) (Ai l)<(2^64)^(n/64+(Ai l).length+1):=by
   have:=DV hB (Ai l) hm;rw[Cw]at this⊢;have h1:2^n*nv (2^64) (Ai l)<2^n*2^(64*(Ai l).length):=gw this (ag _);rw[←ap]at h1;exact ah h1 (ae (by decide) (by omega))
  have p1:=Ea (pd (2^64) (n/64+(Ai l).length+1) (2^n*nv (2^64) (Ai l))) (by rw[Fh];omega);rw[Hj hB _ (Tf (by decide) _ _),Tg (by decide) _ _ hV,hv,aq (2^n)]at p1;rw[hv,aq (2^n)];generalize pd (2^64) (n/64+(Ai l).length+1) (nv (2^64) l*2^n)=out at *
  show(bif Af.pre (Wd out,())then some (Af.F (Wd out,()))else none)=_;rw[CZ p1,CX p1];rfl
theorem aLp(ls:List (List Nat))(hls:∀l∈ls,l.length<=1000000)(hn:ls.length<=1000000)(i:Nat)(hi:i<=ls.length)(hz:∀l∈ls.take i,(Ai l).length<=1024):
  dS (((ls.length:Int),(ls.map Wd,((i:Int),()))),())=some (if(∀l∈ls,(Ai l).length<=1024)then .inl ((),())else .inr ((true,()),())):=by
 have key:=Dc (aFJ Af.pre Af.F) (fun x=>ls.length-x.1.2.2.1.toNat)
  (fun x=>∃i:Nat,i<=ls.length/\(∀l∈ls.take i,(Ai l).length<=1024)/\x=(((ls.length:Int),(ls.map Wd,((i:Int),()))),()))
  (fun _=>if(∀l∈ls,(Ai l).length<=1024)then .inl ((),())else .inr ((true,()),())) ?_ _ ⟨i,hi,hz,rfl⟩
 ·exact key
 intro L x hx hL;obtain⟨i,hi,hz,rfl⟩:=hx;unfold Vd;rcases au i ls.length with hlt|hge
 ·have eg:(ls.map Wd).getD i []=Wd (ls[i]):=by
   rw[al,List.getElem?_map,bc hlt];rfl
  have hil:ls[i]∈ls:=List.getElem_mem hlt;have p0:=Ea ls[i] (hls _ hil);simp(disch:=omega) only[Cb,BW,Cc,BD,Bo,Cd,BP,BO,B8,B7,B6,B5,B3,B0,Ca,B9,B4,BJ,AV,Bz,AS,Bi,BH,ab,bi,cond_true,cond_false,bf,bh,bw,az,bm,bg,bd,bq,be,br,bp,ci,nn,eg,CZ p0,CX p0,Az];rcases au 1024 (Ai ls[i]).length with hg|hg
  ·have e:decide (((Ai ls[i]).length:Int)>1024)=true:=decide_eq_true (by omega);have hnot:¬∀l∈ls,(Ai l).length<=1024:=fun hh=>by have:=hh _ hil;omega
   rw[e,cond_true,if_neg hnot]
  ·have e:decide (((Ai ls[i]).length:Int)>1024)=false:=decide_eq_false (by omega);rw[e,cond_false];refine hL _ ⟨i+1,by omega,?_,rfl⟩ (by simp only[ab];omega);intro l hl;rw[qk,bc hlt]at hl;rcases cz.1 hl with hl|hl
   ·exact hz l hl
   ·have:l=ls[i]:=by simpa using hl
    rw[this];exact hg
 ·have e:i=ls.length:=by omega
  subst e;rw[dj]at hz;simp(disch:=omega) only[Cb,BW,Cc,BD,Bo,Cd,BP,BO,B8,B7,B6,B5,B3,B0,Ca,B9,B4,BJ,AV,Bz,AS,Bi,BH,ab,bi,cond_true,cond_false,bf,bh,bw,az,bm,bg,bd,bq,be,br,bp,ci,if_pos hz]
theorem zR(ls:List (List Nat))(hls:∀l∈ls,l.length<=1000000)(hn:ls.length<=1000000):
  JE (ls.map Wd,())=some (!decide (∀l∈ls,(Ai l).length<=1024),()):=by
 show kP Af.pre Af.F dS (ls.map Wd)=_;unfold kP;have hw:=aLp ls hls hn 0 (ej _) (fun l hl=>by simp at hl);rw[show((0:Nat):Int)=0 from rfl]at hw;rw[nn,hw];by_cases h:∀l∈ls,(Ai l).length<=1024
 ·rw[if_pos h,decide_eq_true h];rfl
 ·rw[if_neg h,decide_eq_false h];rfl
theorem zS(l:List Nat)(hl:l.length<=1000000):JE ((Wd l::[]),())=some (!decide ((Ai l).length<=1024),()):=by
 have:=zR [l] (by simp;exact hl) (by simp);rw[show[l].map Wd=Wd l::[]from rfl]at this;rw[this];simp
theorem zQ(l:List Nat)(hl:Ws l)(n:Nat)(hn:n<=65536)(hv:nv (2^64) l*2^n<(2^64)^1024):Sd (Wd l,(n:Int),())=some (Dw (nv (2^64) l*2^n),0,()):=by
 show kL Dv.pre Dv.F D7.pre D7.F (Wd l) n=_;unfold kL;have p0:=zS l hl.2;have hB:2<=2^64:=by decide
 have h1:=CW hB 1024 _ hv;have h0:(Ai l).length<=1024:=by
  rw[Hj hB _ hl.1];apply CW hB;exact av (dz _ (ag _)) hv
 have p1:=pG l hl n (by omega);have p2:=zS (dg (2^64) (nv (2^64) l*2^n)) (by omega);rw[Rr hB]at p2;rw[decide_eq_true h0]at p0;rw[decide_eq_true h1]at p2;have e2:decide ((n:Int)>65536)=false:=decide_eq_false (by omega);simp only[uK,e2,bq,cond_false,Z6 p0,ZA p0,cond_true,bg,vY p1,tZ p1];unfold Dw;simp only[Z6 p2,ZA p2,cond_true,bg,cond_false]
end VL
namespace VL
open Go Vx
theorem Ex(B:Nat)(l:List Nat)(i:Nat):nv B (l.take (i+1))=nv B (l.take i)+B^i*l.getD i 0:=by
 rcases au i l.length with h|h
 ·exact ZY B l i h
 ·rw[cv (by omega),cv h,al,ff h];simp
def Co(a b:List Nat)(i:Nat):Nat:=nv (2^64) (a.take i)+nv (2^64) (b.take i)
def DW(a b:List Nat)(i:Nat):List Nat:=pd (2^64) i (Co a b i%(2^64)^i)++(a++[0]).drop i
theorem ZX{l:List Nat}(h:∀x∈l,x<2^64)(i:Nat):nv (2^64) (l.take i)<(2^64)^i:=by
 have:=DV (B:=2^64) (by decide) (l.take i) fun x hx=>h x (fd hx);refine ah this (ae (by decide) ?_);rw[gm];exact lk _ _
theorem aDB{a b:List Nat}(ha:∀x∈a,x<2^64)(hb:∀x∈b,x<2^64)(i:Nat):Co a b i/(2^64)^i<=1:=by
 have h1:=ZX ha i;have h2:=ZX hb i;have hp:0<(2^64)^i:=iy (by decide);unfold Co;have:(nv (2^64) (a.take i)+nv (2^64) (b.take i))/(2^64)^i<2:=by
  rw[cn hp];omega
 omega
theorem aHS(a b:List Nat)(i:Nat):Co a b (i+1)=Co a b i%(2^64)^i+(2^64)^i*(a.getD i 0+b.getD i 0+Co a b i/(2^64)^i):=by
 have hdm:=ck (Co a b i) ((2^64)^i);have h1:Co a b (i+1)=Co a b i+(2^64)^i*(a.getD i 0+b.getD i 0):=by
  unfold Co;rw[Ex,Ex,bt];omega
 rw[h1,bt ((2^64)^i) (a.getD i 0+b.getD i 0)];omega
theorem aU8(a b:List Nat)(i:Nat):Co a b (i+1)/(2^64)^(i+1)=(a.getD i 0+b.getD i 0+Co a b i/(2^64)^i)/2^64:=by
 have hp:0<(2^64)^i:=iy (by decide);rw[aHS,df (2^64) i,←dk,fq _ _ hp,bu (bo _ hp),dw]
theorem aU9(a b:List Nat)(i:Nat):Co a b (i+1)%(2^64)^(i+1)=Co a b i%(2^64)^i+(2^64)^i*((a.getD i 0+b.getD i 0+Co a b i/(2^64)^i)%2^64):=by
 have hp:0<(2^64)^i:=iy (by decide);rw[aHS a b i,df (2^64) i,mr,im,qr,fq _ _ hp,bu (bo _ hp),dw]
theorem aGD{k r v:Nat}(hr:r<(2^64)^k)(hv:v<2^64):pd (2^64) k r++[v]=pd (2^64) (k+1) (r+(2^64)^k*v):=by
 refine iO (by decide) ?_ (by simp[Fh]) ?_
 ·intro x hx;rcases cz.1 hx with hx|hx
  ·exact Tf (by decide) _ _ x hx
  ·have:x=v:=by simpa using hx
   rw[this];exact hv
 ·rw[Td,Fh,Tg (by decide) _ _ hr];simp[nv]
theorem aPN(a b:List Nat)(i:Nat)(hi:i<a.length):(DW a b i).set i ((a.getD i 0+b.getD i 0+Co a b i/(2^64)^i)%2^64)=DW a b (i+1):=by
 have hp:0<(2^64)^i:=iy (by decide);unfold DW;rw[aU9,←aGD (bo _ hp) (bo _ (by decide)),gh _ _ (by rw[Fh];exact cg _),Fh,gy,
  fg (l:=a++[0]) (i:=i) (by simp;omega),kh,fj]
 rfl
theorem aGA(a b:List Nat)(i:Nat)(hi:i<=a.length):(DW a b i).length=a.length+1:=by
 unfold DW;rw[List.length_append,Fh];simp;omega
theorem aLj(a b:List Nat)(ha:∀x∈a,x<2^64)(hb:∀x∈b,x<2^64)(hlen:a.length<=1000000)(i:Nat)(hi:i<=a.length):
  YF (((a.length:Int),(Wd b,((i:Int),(Wd a,(((Co a b i/(2^64)^i:Nat):Int),((),())))))),(Wd (DW a b i),()))=some (.inl ((Wd a,(((Co a b a.length/(2^64)^a.length:Nat):Int),((),()))),(Wd (DW a b a.length),()))):=by
 have key:=Dc (aFD Ay.pre Ay.F Af.pre Af.F) (fun x=>a.length-x.1.2.2.1.toNat)
  (fun x=>∃i:Nat,i<=a.length/\x=(((a.length:Int),(Wd b,((i:Int),(Wd a,(((Co a b i/(2^64)^i:Nat):Int),((),())))))),(Wd (DW a b i),())))
  (fun _=>.inl ((Wd a,(((Co a b a.length/(2^64)^a.length:Nat):Int),((),()))),(Wd (DW a b a.length),()))) ?_ _ ⟨i,hi,rfl⟩
 ·exact key
 intro L x hx hL;obtain⟨i,hi,rfl⟩:=hx;unfold U7;rcases au i a.length with hlt|hge
 ·have hc:=aDB ha hb i;have hol:=aGA a b i hi;have hset:=aPN a b i hlt;have hgo:=hL (((a.length:Int),(Wd b,(((i+1:Nat):Int),(Wd a,(((Co a b (i+1)/(2^64)^(i+1):Nat):Int),((),())))))),(Wd (DW a b (i+1)),())) ⟨i+1,by omega,rfl⟩ (by simp only[ab];omega);rw[aU8,←hset]at hgo;have hF:∀x y c:Nat,Ay.F ((x:Int),((y:Int),((c:Int),())))=(((((x+y+c)%2^64:Nat):Int)),((((x+y+c)/2^64:Nat):Int)),()):=fun x y c=>rfl;have hP:∀(x y:Int) (c:Nat),c<=1->Ay.pre (x,(y,((c:Int),())))=true:=fun x y c h=>by
   show(decide ((0:Int)<=(c:Int))&&decide ((c:Int)<=1))=true;rw[decide_eq_true (by omega),decide_eq_true (by omega)];rfl
  generalize Co a b i/(2^64)^i=c at *
  generalize DW a b i=out at *
  rcases au i b.length with hbl|hbl
  ·simp(disch:=omega) only[Cb,BW,Cc,BD,Bo,Cd,BP,BO,B8,B7,B6,B5,B3,B0,Ca,B9,B4,BJ,AV,Bz,AS,Bi,BH,ab,bi,cond_true,cond_false,bf,bh,bw,az,bm,bg,bd,bq,be,br,bp,ci,Az,BZ,hP _ _ c hc,hF,Eb];exact hgo
  ·have hbz:b.getD i 0=0:=by rw[al,ff hbl];rfl
   have hF0:Ay.F (((a.getD i 0:Nat):Int),((0:Int),((c:Int),())))=((((a.getD i 0+b.getD i 0+c)%2^64:Nat):Int),(((a.getD i 0+b.getD i 0+c)/2^64:Nat):Int),()):=by rw[hbz];rfl
   simp(disch:=omega) only[Cb,BW,Cc,BD,Bo,Cd,BP,BO,B8,B7,B6,B5,B3,B0,Ca,B9,B4,BJ,AV,Bz,AS,Bi,BH,ab,bi,cond_true,cond_false,bf,bh,bw,az,bm,bg,bd,bq,be,br,bp,ci,Az,BZ,hP _ _ c hc,hF0,Eb];exact hgo
 ·have e:i=a.length:=by omega
  subst e;simp(disch:=omega) only[Cb,BW,Cc,BD,Bo,Cd,BP,BO,B8,B7,B6,B5,B3,B0,Ca,B9,B4,BJ,AV,Bz,AS,Bi,BH,ab,bi,cond_true,cond_false,bf,bh,bw,az,bm,bg,bd,bq,be,br,bp,ci]
theorem aU6(a b:List Nat)(ha:∀x∈a,x<2^64)(hb:∀x∈b,x<2^64)(hab:b.length<=a.length):
  (DW a b a.length).set a.length (Co a b a.length/(2^64)^a.length)=pd (2^64) (a.length+1) (nv (2^64) a+nv (2^64) b)/\nv (2^64) a+nv (2^64) b<(2^64)^(a.length+1):=by
 have hp:0<(2^64)^a.length:=iy (by decide);have hc:=aDB ha hb a.length;have hs:Co a b a.length=nv (2^64) a+nv (2^64) b:=by
  unfold Co;rw[dj,cv hab]
 have hdm:=ck (Co a b a.length) ((2^64)^a.length);refine⟨?_,?_⟩
 ·have hd:(a++[0]).drop a.length=[0]:=by simp
  unfold DW;rw[hd,gh _ _ (by rw[Fh];exact cg _),Fh,gy,kh,aGD (bo _ hp) (by omega),jc (Co a b a.length%(2^64)^a.length),hdm,hs]
 ·rw[←hs];have h1:=ZX ha a.length;have h2:=ZX hb a.length;unfold Co;rw[df (2^64) a.length];omega
theorem aLR{a:List Nat}:kp (ax (a.length+1) (0:Int)).length (Wd a)++List.drop a.length (ax (a.length+1) (0:Int))=Wd (DW a ([]:List Nat) 0):=by
 rw[fx,lh,ka,cv (by rw[Az];omega)];unfold DW;simp[Wd,pd]
theorem aPO(a b c:List Nat):DW a b 0=DW a c 0:=by unfold DW;simp[pd]
theorem aC7(a b:List Nat)(ha:∀x∈a,x<2^64)(hb:∀x∈b,x<2^64)(hlen:a.length+1<=1000000)(hab:b.length<=a.length):
  (bif decide (0<=aa .i64 ((a.length:Int)+1))&&decide (aa .i64 ((a.length:Int)+1)*8<=140737488355328)then
   AY (YF (((a.length:Int),(Wd b,((0:Int),(Wd a,((0:Int),((),())))))),(kp (ax (aj (aa .i64 ((a.length:Int)+1))) (0:Int)).length (Wd a)++List.drop a.length (ax (aj (aa .i64 ((a.length:Int)+1))) (0:Int)),()))) fun y4=>
    A1 y4 (fun y5=>bif decide (0<=((y5.1.1.length:Nat):Int))&&decide (((y5.1.1.length:Nat):Int)<((y5.2.1.length:Nat):Int))then
     (bif Af.pre ((y5.2.1.set (aj ((y5.1.1.length:Nat):Int)) y5.1.2.1),())then some (Af.F ((y5.2.1.set (aj ((y5.1.1.length:Nat):Int)) y5.1.2.1),()))else none)else none) fun _=>none
  else none:Option (DenS GH))=some (Dw (nv (2^64) a+nv (2^64) b),()):=by
 have hw:=aLj a b ha hb (by omega) 0 (ej _)
 have h0:Co a b 0/(2^64)^0=0:=by unfold Co;simp[nv]
 rw[h0,show((0:Nat):Int)=0 from rfl,aPO a b [],←aLR]at hw
 have e3:decide (((a.length+1:Nat):Int)*8<=140737488355328)=true:=decide_eq_true (by omega)
 rw[BW _ (by omega),e3,AV,ab,hw]
 obtain⟨g1,g2⟩:=aU6 a b ha hb hab
 have hol:=aGA a b a.length (cg _)
 have p1:=Ea (pd (2^64) (a.length+1) (nv (2^64) a+nv (2^64) b)) (by rw[Fh];exact hlen)
 rw[Hj (by decide) _ (Tf (by decide) _ _),Tg (by decide) _ _ g2,←g1,←Eb]at p1
 generalize Co a b a.length/(2^64)^a.length=c at *
 generalize DW a b a.length=out at *
 show(bif decide (0<=(((Wd a).length:Nat):Int))&&decide ((((Wd a).length:Nat):Int)<(((Wd out).length:Nat):Int))then
     (bif Af.pre ((Wd out).set (Wd a).length (c:Int),())then some (Af.F ((Wd out).set (Wd a).length (c:Int),()))else none)else none)=_
 simp(disch:=omega) only[Cb,BW,Cc,BD,Bo,Cd,BP,BO,B8,B7,B6,B5,B3,B0,Ca,B9,B4,BJ,AV,Bz,AS,Bi,BH,ab,bi,cond_true,cond_false,bf,bh,bw,az,bm,bg,bd,bq,be,br,bp,ci,Az,CZ p1,CX p1]
 rfl
theorem zJ(l m:List Nat)(hl:Ws l)(hm:Ws m)(hl2:(Ai l).length<1000000)(hm2:(Ai m).length<1000000):Sa (Wd l,Wd m,())=some (Dw (nv (2^64) l+nv (2^64) m),()):=by
 show j6 Ay.pre Ay.F Af.pre Af.F YF (Wd l) (Wd m)=_;unfold j6;have p0:=Ea l hl.2;have p1:=Ea m hm.2;have h1:∀x∈Ai l,x<2^64:=fun x hx=>hl.1 x (Tu hx);have h2:∀x∈Ai m,x<2^64:=fun x hx=>hm.1 x (Tu hx);simp only[CZ p0,CX p0,CZ p1,CX p1,cond_true];rcases au (Ai l).length (Ai m).length with h|h
 ·rw[Az,Az,BP _ _ h,cond_true];have:=aC7 (Ai m) (Ai l) h2 h1 hm2 (by omega);rw[J7 (by decide) hl.1,J7 (by decide) hm.1,jc]at this;exact this
 ·rw[Az,Az,BO _ _ h,cond_false];have:=aC7 (Ai l) (Ai m) h1 h2 hl2 (by omega);rw[J7 (by decide) hl.1,J7 (by decide) hm.1]at this;exact this
theorem aKf(l:List Nat)(hl:Ws l):W9 (Wd l,())=some (Dw (nv (2^64) l),()):=by
 show j9 Af.pre Af.F (Wd l)=_;unfold j9;have p0:=Ea l hl.2;have hle:=(Ek l).1;have h2:=hl.2;have e3:decide ((((Ai l).length:Nat):Int)*8<=140737488355328)=true:=decide_eq_true (by omega);simp(disch:=omega) only[Cb,BW,Cc,BD,Bo,Cd,BP,BO,B8,B7,B6,B5,B3,B0,Ca,B9,B4,BJ,AV,Bz,AS,Bi,BH,ab,bi,cond_true,cond_false,bf,bh,bw,az,bm,bg,bd,bq,be,br,bp,ci,CZ p0,CX p0,Az,e3,fx,lh,gy];rw[cv (by rw[Az];exact cg _),lg,dp,Hj (by decide) l hl.1];rfl
theorem WT(l:List Nat)(hl:Ws l):R6 (Wd l,())=some (Dw (nv (2^64) l),()):=by
 show jK CP.pre CP.F (Wd l)=_;unfold jK;have p0:=aKf l hl;simp only[aP3 p0,aNr p0,cond_true]
end VL
namespace VL
open Go Vx
def Wi(n:Nat):Aa (.pair (.int .u64) (.pair (.int .u64) .unit)):=(((n/2^64:Nat):Int),(((n%2^64:Nat):Int),()))
theorem aAx(k:Nat)(h:0<k):decide ((k:Int)<=0)=false:=decide_eq_false (by omega)
theorem aLY{A q R P:Nat}(g1:A%2^64=R)(g2:q<P)(g4:R+P<=2^64):(A+q)%2^64=q+R:=by omega
theorem aLZ{X Y r:Nat}(h:X%2^64=Y)(hr:r<2^64):(2^64*X+r)%2^128=2^64*Y+r:=by omega
theorem aL0{X h q R P:Nat}(e:X=2^64*h+R+q)(g2:q<P)(g4:R+P<=2^64):X/2^64=h/\X%2^64=q+R:=by omega
theorem pD(n k:Nat)(hn:n<2^128):Q4 (Wi n,(k:Int),())=some (Wi (n*2^k%2^128),()):=by
 show jU (Wi n) k=_;unfold jU;rcases bj k with rfl|hk
 ·have e:n*2^0%2^128=n:=by rw[ij,gf,ar hn]
  rw[e];rfl
 rw[aAx k hk,cond_false];rcases au k 128 with h128|h128
 ·rw[show decide ((k:Int)>=128)=false from decide_eq_false (by omega),cond_false];have hlo:(n%2^64)<2^64:=bo _ (by decide);have hhi:n/2^64<2^64:=by omega
  have hsplit:n=2^64*(n/2^64)+n%2^64:=(ck n (2^64)).symm;rcases au k 64 with h64|h64
  ·have e8:aa .i64 (64-(k:Int))=((64-k:Nat):Int):=EA 64 k (by omega) (by omega);rw[show decide ((k:Int)>=64)=false from decide_eq_false (by omega),cond_false,AV,cond_true,e8,AV,cond_true,cond_true];show some ((A7 .u64 (AQ .u64 ((n/2^64:Nat):Int) k) (AJ .u64 ((n%2^64:Nat):Int) ((64-k:Nat):Int)),(AQ .u64 ((n%2^64:Nat):Int) k,())),())=_;rw[Ej _ k (by omega),Ej _ k (by omega),DD _ (64-k) (by omega)];have hp:=ag k;have hp2:=ag (64-k);have h2:2^64=2^(64-k)*2^k:=by rw[←ap];congr 1;omega
   generalize n/2^64=hi at *
   generalize n%2^64=lo at *
   have g1:hi*2^k%2^64=(hi%2^(64-k))*2^k:=by rw[h2,fb]
   have g2:lo/2^(64-k)<2^k:=by rw[cn hp2,aq,←h2];exact hlo
   have g3:hi%2^(64-k)+1<=2^(64-k):=bo _ hp2;have g4:=ay (2^k) g3;rw[←h2,cp,fi]at g4;have hor:A7 .u64 ((hi*2^k%2^64:Nat):Int) ((lo/2^(64-k):Nat):Int)=((lo/2^(64-k)+(hi%2^(64-k))*2^k:Nat):Int):=by
    have:=FR g2 (b:=hi%2^(64-k)) (by omega);rw[g1];have hc:∀a b:Nat,a<2^64->b<2^64->A7 .u64 (a:Int) (b:Int)=A7 .u64 (b:Int) (a:Int):=fun a b ha hb=>by
     rw[VQ ha hb,VQ hb ha,Nat.or_comm]
    rw[hc _ _ (by omega) (by omega)];exact this
   rw[hor];have hdm:=ck lo (2^(64-k));have v1:n*2^k=2^64*(hi*2^k+lo/2^(64-k))+lo*2^k%2^64:=by
    have g5:lo*2^k%2^64=(lo%2^(64-k))*2^k:=by rw[h2,fb]
    have g6:2^64*(lo/2^(64-k))=2^(64-k)*(lo/2^(64-k))*2^k:=by
     rw[jm,←h2]
    rw[hsplit,cp,bt,ao,gu,g6,g5,←cp,hdm]
   have v2:n*2^k%2^128=2^64*(lo/2^(64-k)+(hi%2^(64-k))*2^k)+lo*2^k%2^64:=by
    rw[v1];have hlo2:lo*2^k%2^64<2^64:=bo _ (by decide);exact aLZ (aLY g1 g2 g4) hlo2
   have hlo2:lo*2^k%2^64<2^64:=bo _ (by decide);have e1:n*2^k%2^128/2^64=lo/2^(64-k)+(hi%2^(64-k))*2^k:=by rw[v2];omega
   have e2:n*2^k%2^128%2^64=lo*2^k%2^64:=by rw[v2];omega
   unfold Wi;rw[e1,e2]
  ·have e8:aa .i64 ((k:Int)-64)=((k-64:Nat):Int):=EA k 64 (by omega) (by omega);rw[show decide ((k:Int)>=64)=true from decide_eq_true (by omega),cond_true,e8,AV,cond_true];show some ((AQ .u64 ((n%2^64:Nat):Int) ((k-64:Nat):Int),((0:Int),())),())=_;rw[Ej _ (k-64) (by omega)];have v1:n*2^k%2^128=2^64*(n%2^64*2^(k-64)%2^64):=by
    have h2:2^k=2^(k-64)*2^64:=by rw[←ap];congr 1;omega
    rw[h2,←ao,show 2^128=2^64*2^64 by decide,fb,aq _ (2^64),qh n (2^(k-64)),qh (n%2^64) (2^(k-64)),qr]
   have e1:n*2^k%2^128/2^64=n%2^64*2^(k-64)%2^64:=by rw[v1];omega
   have e2:n*2^k%2^128%2^64=0:=by rw[v1];omega
   unfold Wi;rw[e1,e2];rfl
 ·rw[show decide ((k:Int)>=128)=true from decide_eq_true (by omega),cond_true];have e:n*2^k%2^128=0:=by
   rw[show k=(k-128)+128 by omega,ap,←ao];exact nm _ _
  rw[e];rfl
theorem aKb(n k:Nat)(hn:n<2^128):TP (Wi n,(k:Int),())=some (Wi (n/2^k),()):=by
 show jV (Wi n) k=_;unfold jV;rcases bj k with rfl|hk
 ·have e:n/2^0=n:=by rw[ij,ms]
  rw[e];rfl
 rw[aAx k hk,cond_false];rcases au k 128 with h128|h128
 ·rw[show decide ((k:Int)>=128)=false from decide_eq_false (by omega),cond_false];have hlo:(n%2^64)<2^64:=bo _ (by decide);have hhi:n/2^64<2^64:=by omega
  rcases au k 64 with h64|h64
  ·have e8:aa .i64 (64-(k:Int))=((64-k:Nat):Int):=EA 64 k (by omega) (by omega);rw[show decide ((k:Int)>=64)=false from decide_eq_false (by omega),cond_false,AV,cond_true,e8,AV,cond_true,cond_true];show some ((AJ .u64 ((n/2^64:Nat):Int) k,(A7 .u64 (AJ .u64 ((n%2^64:Nat):Int) k) (AQ .u64 ((n/2^64:Nat):Int) ((64-k:Nat):Int)),())),())=_;rw[Ej _ (64-k) (by omega),DD _ k (by omega),DD _ k (by omega)];have hp:=ag k;have hp2:=ag (64-k);have h2:2^64=2^k*2^(64-k):=by rw[←ap];congr 1;omega
   have hsplit:n=2^64*(n/2^64)+n%2^64:=(ck n (2^64)).symm;generalize n/2^64=hi at *
   generalize n%2^64=lo at *
   have g1:hi*2^(64-k)%2^64=(hi%2^k)*2^(64-k):=by rw[h2,fb]
   have g2:lo/2^k<2^(64-k):=by rw[cn hp,aq,←h2];exact hlo
   have g3:hi%2^k+1<=2^k:=bo _ hp;have g4:=ay (2^(64-k)) g3;rw[←h2,cp,fi]at g4;rw[g1,FR g2 (by omega)];have v1:n/2^k=hi*2^(64-k)+lo/2^k:=by
    have:n=lo+2^k*(hi*2^(64-k)):=by rw[hsplit,h2,ao,aq hi];omega
    rw[this,fq _ _ hp,jc]
   have hdm:=ck hi (2^k);have v2:hi*2^(64-k)=2^64*(hi/2^k)+(hi%2^k)*2^(64-k):=by
    rw[h2,jm,←cp,hdm]
   rw[v2]at v1;obtain⟨e1,e2⟩:=aL0 v1 g2 g4;unfold Wi;rw[e1,e2]
  ·have e8:aa .i64 ((k:Int)-64)=((k-64:Nat):Int):=EA k 64 (by omega) (by omega);rw[show decide ((k:Int)>=64)=true from decide_eq_true (by omega),cond_true,e8,AV,cond_true];show some (((0:Int),(AJ .u64 ((n/2^64:Nat):Int) ((k-64:Nat):Int),())),())=_;rw[DD _ (k-64) (by omega)];have v1:n/2^k=n/2^64/2^(k-64):=by
    rw[dk,←ap];congr 2;omega
   have hs:n/2^k<2^64:=by
    rw[v1];exact av (dx _ _) hhi
   have e1:n/2^k/2^64=0:=bu hs;have e2:n/2^k%2^64=n/2^64/2^(k-64):=by rw[←v1];exact ar hs
   unfold Wi;rw[e1,e2];rfl
 ·rw[show decide ((k:Int)>=128)=true from decide_eq_true (by omega),cond_true];have e:n/2^k=0:=bu (ah hn (ae (by decide) h128));rw[e];rfl
theorem Rk(x y c:Nat):Ay.F ((x:Int),((y:Int),((c:Int),())))=(((((x+y+c)%2^64:Nat):Int)),((((x+y+c)/2^64:Nat):Int)),()):=rfl
theorem Rl(x y:Int)(c:Nat)(h:c<=1):Ay.pre (x,(y,((c:Int),())))=true:=by
 show(decide ((0:Int)<=(c:Int))&&decide ((c:Int)<=1))=true;rw[decide_eq_true (by omega),decide_eq_true (by omega)];rfl
theorem aQ(x y c:Nat)(h:c<=1)(hx:x<2^64)(hy:y<2^64):A4.F ((x:Int),((y:Int),((c:Int),())))=(((((x+2^64-y-c)%2^64:Nat):Int)),((if x<y+c then 1 else 0:Nat):Int),()):=by
 show((((x:Int)-y-c)%18446744073709551616:Int),((if(x:Int)<y+c then 1 else 0:Int)),())=_;have e1:((x:Int)-y-c)%18446744073709551616=((x+2^64-y-c)%2^64:Nat):=by omega
 rw[e1];by_cases h:x<y+c
 ·rw[if_pos h,if_pos (by omega)];rfl
 ·rw[if_neg h,if_neg (by omega)];rfl
theorem aR(x y:Int)(c:Nat)(h:c<=1):A4.pre (x,(y,((c:Int),())))=true:=by
 show(decide ((0:Int)<=(c:Int))&&decide ((c:Int)<=1))=true;rw[decide_eq_true (by omega),decide_eq_true (by omega)];rfl
theorem aKc(n m:Nat)(h:n+m<2^128):W2 (Wi n,Wi m,())=some (Wi (n+m),0,()):=by
 show jW Ay.pre Ay.F (Wi n) (Wi m)=_;unfold jW;have c1:(n%2^64+m%2^64+0)/2^64<=1:=by omega
 have p1:Ay.pre ((Wi n).2.1,((Wi m).2.1,((0:Int),())))=true:=Rl _ _ 0 (by decide);have q1:Ay.F ((Wi n).2.1,((Wi m).2.1,((0:Int),())))=_:=Rk (n%2^64) (m%2^64) 0;rw[p1,q1,cond_true];have p2:Ay.pre ((Wi n).1,((Wi m).1,((((n%2^64+m%2^64+0)/2^64:Nat):Int),())))=true:=Rl _ _ _ c1;have q2:Ay.F ((Wi n).1,((Wi m).1,((((n%2^64+m%2^64+0)/2^64:Nat):Int),())))=_:=Rk (n/2^64) (m/2^64) ((n%2^64+m%2^64+0)/2^64);dsimp only;rw[p2,q2,cond_true];have e1:(n/2^64+m/2^64+(n%2^64+m%2^64+0)/2^64)%2^64=(n+m)/2^64:=by omega
 have e2:(n%2^64+m%2^64+0)%2^64=(n+m)%2^64:=by omega
 have e3:(n/2^64+m/2^64+(n%2^64+m%2^64+0)/2^64)/2^64=0:=by omega
 rw[e1,e2,e3];rfl
theorem pE(n m:Nat)(hn:n<2^128)(h:m<=n):W4 (Wi n,Wi m,())=some (Wi (n-m),0,()):=by
 show jZ A4.pre A4.F (Wi n) (Wi m)=_;unfold jZ;have p1:A4.pre ((Wi n).2.1,((Wi m).2.1,((0:Int),())))=true:=aR _ _ 0 (by decide);have q1:A4.F ((Wi n).2.1,((Wi m).2.1,((0:Int),())))=_:=aQ (n%2^64) (m%2^64) 0 (by decide) (by omega) (by omega);rw[p1,q1,cond_true];have c1:(if n%2^64<m%2^64+0 then 1 else 0)<=1:=by split<;>omega
 have p2:A4.pre ((Wi n).1,((Wi m).1,(((if n%2^64<m%2^64+0 then 1 else 0:Nat):Int),())))=true:=aR _ _ _ c1;have q2:A4.F ((Wi n).1,((Wi m).1,(((if n%2^64<m%2^64+0 then 1 else 0:Nat):Int),())))=_:=aQ (n/2^64) (m/2^64) _ c1 (by omega) (by omega);dsimp only;rw[p2,q2,cond_true];have e2:(n%2^64+2^64-m%2^64-0)%2^64=(n-m)%2^64:=by omega
 rw[e2];by_cases hb:n%2^64<m%2^64+0
 ·rw[if_pos hb,if_neg (by omega)];have e1:(n/2^64+2^64-m/2^64-1)%2^64=(n-m)/2^64:=by omega
  rw[e1];rfl
 ·rw[if_neg hb,if_neg (by omega)];have e1:(n/2^64+2^64-m/2^64-0)%2^64=(n-m)/2^64:=by omega
  rw[e1];rfl
theorem zG(n m:Nat):W3 (Wi n,Wi m,())=some (if n=m then 0 else if n<m then -1 else 1,()):=by
 show jY (Wi n) (Wi m)=_;unfold jY;show(bif(((n/2^64:Nat):Int)==((m/2^64:Nat):Int)&&((n%2^64:Nat):Int)==((m%2^64:Nat):Int))then some ((0:Int),())
  else bif(decide (((n/2^64:Nat):Int)<((m/2^64:Nat):Int))||(((n/2^64:Nat):Int)==((m/2^64:Nat):Int)&&decide (((n%2^64:Nat):Int)<((m%2^64:Nat):Int))))then some ((-1:Int),())else some ((1:Int),()):Option (Int×Unit))=_
 rw[Is,Is,u9,u9];rcases gc n m with h|h|h
 ·have e1:(n/2^64==m/2^64&&n%2^64==m%2^64)=false:=by
   rw[me,beq_eq_false_iff_ne,beq_eq_false_iff_ne];omega
  have e2:(decide (n/2^64<m/2^64)||(n/2^64==m/2^64&&decide (n%2^64<m%2^64)))=true:=by
   rw[Bool.or_eq_true,ai,decide_eq_true_eq,decide_eq_true_eq,beq_iff_eq];omega
  rw[e1,e2,if_neg (by omega),if_pos h];rfl
 ·subst h;rw[if_pos rfl];simp
 ·have e1:(n/2^64==m/2^64&&n%2^64==m%2^64)=false:=by
   rw[me,beq_eq_false_iff_ne,beq_eq_false_iff_ne];omega
  have e2:(decide (n/2^64<m/2^64)||(n/2^64==m/2^64&&decide (n%2^64<m%2^64)))=false:=by
   rw[dv,me,decide_eq_false_iff_not,decide_eq_false_iff_not,beq_eq_false_iff_ne];omega
  rw[e1,e2,if_neg (by omega),if_neg (by omega)];rfl
end VL
namespace VL
open Go Vx
def Cv(m:Int)(neg odd:Bool)(rest:Nat):Bool:=if m=4 then neg else if m=3 then !neg else if m=0 then(if rest=2 then odd else decide (2<=rest))else if m=1 then decide (2<=rest)else if m=5 then !odd else false
theorem Io(a b:Int)(h:a≠b):(a==b)=false:=by simp[h]
theorem TW(m:Int)(neg odd:Bool)(rest:Nat):Se (m,neg,odd,(rest:Int),())=some (Cv m neg odd rest,()):=by
 show kM m neg odd (rest:Int)=_;have e2:decide ((rest:Int)>=2)=decide (2<=rest):=by rw[cu,decide_eq_true_eq,decide_eq_true_eq];omega
 have e3:((rest:Int)==2)=decide (rest=2):=by rw[cu,decide_eq_true_eq,beq_iff_eq];omega
 unfold kM Cv;rw[e2,e3];by_cases h4:m=4
 ·subst h4;cases neg<;>rfl
 rw[Io m 4 h4,cond_false,if_neg h4];by_cases h3:m=3
 ·subst h3;rfl
 rw[Io m 3 h3,cond_false,if_neg h3];by_cases h0:m=0
 ·subst h0;by_cases hr:rest=2
  ·subst hr;rfl
  ·rw[decide_eq_false hr,if_pos rfl,if_neg hr];rfl
 rw[Io m 0 h0,cond_false,if_neg h0];by_cases h1:m=1
 ·subst h1;rfl
 rw[Io m 1 h1,cond_false,if_neg h1];by_cases h5:m=5
 ·subst h5;rfl
 rw[Io m 5 h5,cond_false,if_neg h5]
def E2(n:Nat)(e q:Int):Nat:=if q<=e then n*2^(e-q).toNat else n/2^(q-e).toNat
def Cu(r s:Nat):Nat:=if r=0 then 0 else if r<2^(s-1)then 1 else if r=2^(s-1)then 2 else 3
def Kf(n:Nat)(e q:Int):Nat:=if q<=e then 0 else Cu (n%2^(q-e).toNat) (q-e).toNat
def j4(n:Nat)(e q:Int):Nat:=if 2<=q-e then MS n (q-e-2).toNat else n*2^(2-(q-e)).toNat
theorem aOC(n:Nat)(e q:Int):j4 n e q/4=E2 n e q/\j4 n e q%4=Kf n e q:=by
 unfold j4 E2 Kf;by_cases h2:2<=q-e
 ·rw[if_pos h2,if_neg (by omega),if_neg (by omega)];have es:(q-e).toNat=(q-e-2).toNat+2:=by omega
  rw[es];generalize(q-e-2).toNat=s;have hp:=ag s;have e1:2^(s+2)=2^s*4:=by rw[ap]
  have e2:2^(s+2-1)=2^s*2:=by rw[show s+2-1=s+1 by omega,df]
  unfold MS Cu;rw[e2,e1,←dk,mr];have hr:=bo n hp;generalize n%2^s=r at *
  generalize n/2^s=u at *
  have h4:u%4=0∨u%4=1∨u%4=2∨u%4=3:=by omega
  constructor
  ·split<;>omega
  ·rcases h4 with h|h|h|h<;>rw[h]<;>by_cases hz:r=0
   ·rw[if_pos hz,if_pos (by omega)];exact h
   ·rw[if_neg hz,if_neg (by omega),if_pos (by omega)];omega
   ·rw[if_pos hz,if_neg (by omega),if_pos (by omega)];exact h
   ·rw[if_neg hz,if_neg (by omega),if_pos (by omega)];omega
   ·rw[if_pos hz,if_neg (by omega),if_neg (by omega),if_pos (by omega)];exact h
   ·rw[if_neg hz,if_neg (by omega),if_neg (by omega),if_neg (by omega)];omega
   ·rw[if_pos hz,if_neg (by omega),if_neg (by omega),if_neg (by omega)];exact h
   ·rw[if_neg hz,if_neg (by omega),if_neg (by omega),if_neg (by omega)];omega
 ·rw[if_neg h2];by_cases h1:q<=e
  ·rw[if_pos h1,if_pos h1,show(2-(q-e)).toNat=(e-q).toNat+2 by omega,ap,←ao];generalize n*2^(e-q).toNat=x;omega
  ·rw[if_neg h1,if_neg h1,show(2-(q-e)).toNat=1 by omega,show(q-e).toNat=1 by omega];unfold Cu;rcases ik n with h|h
   ·rw[show n%2^1=0 from h,if_pos rfl];omega
   ·rw[show n%2^1=1 from h,if_neg (by omega),if_neg (by decide),if_pos (by decide)];omega
def DI(n:Nat)(e q:Int)(more:Bool):Nat:=if more then Kf n e q/2*2+1 else Kf n e q
def CM(m:Int)(neg:Bool)(n:Nat)(e q:Int)(more:Bool):Nat:=if DI n e q more≠0/\Cv m neg (decide (E2 n e q%2=1)) (DI n e q more)=true then E2 n e q+1 else E2 n e q
theorem Dr:Dw 0=[]:=by unfold Dw;rw[Es];rfl
theorem ID{n:Nat}(h:n≠0):0<(Dw n).length:=by
 unfold Dw;rw[Az,Gr (by decide) (by omega)];simp
theorem Ng{n:Nat}(h:n≠0):decide ((((Dw n).length:Nat):Int)>0)=true:=decide_eq_true (by have:=ID h;omega)
theorem RZ{n:Nat}(h:n≠0):decide ((0:Int)<(((Dw n).length:Nat):Int))=true:=decide_eq_true (by have:=ID h;omega)
theorem Kj(n:Nat):(Dw n).getD 0 0=((n%2^64:Nat):Int):=by
 unfold Dw;rw[BZ];rcases bj n with rfl|h
 ·rw[Es];rfl
 ·rw[Gr (by decide) h];rfl
theorem aIE:Dw 1=(1:Int)::[]:=by
 unfold Dw;rw[Gr (by decide) (by decide),Es];rfl
theorem Nf(n:Nat):(decide ((0:Int)<(((Dw n).length:Nat):Int))||!decide ((((Dw n).length:Nat):Int)>0))=true:=by
 by_cases h:0<(Dw n).length
 ·rw[decide_eq_true (by omega)];rfl
 ·rw[decide_eq_false (p:=(((Dw n).length:Nat):Int)>0) (by omega)];simp
theorem fY(n:Nat):A9 .u64 ((n%2^64:Nat):Int) 3=((n%4:Nat):Int):=by
 have:=UI (m:=n%2^64) (n:=2) (bo _ (by decide)) (by decide);rw[show n%2^64%2^2=n%4 by omega]at this;exact this
theorem aLT(n:Nat):A9 .u64 ((n%2^64:Nat):Int) 1=((n%2:Nat):Int):=by
 have:=UI (m:=n%2^64) (n:=1) (bo _ (by decide)) (by decide);rw[show n%2^64%2^1=n%2 by omega]at this;exact this
theorem or1(n:Nat)(h:n<2^64):A7 .u64 (n:Int) 1=((n/2*2+1:Nat):Int):=by
 have:=VQ (a:=n) (b:=1) h (by decide);rw[aGx]at this;exact this
theorem aGv:A7 .u64 0 1=1:=by decide
theorem VN(u:Nat):(decide ((((Dw u).length:Nat):Int)>0)&&(A9 .u64 ((Dw u).getD 0 0) 1==1))=decide (u%2=1):=by
 rw[Kj,aLT];rcases bj u with rfl|h
 ·rw[Dr];rfl
 ·rw[Ng (by omega),bh,cu,decide_eq_true_eq,beq_iff_eq];omega
theorem Di{n:Nat}(h:n<(2^64)^5000):Ws (dg (2^64) n):=by
 have:=CW (B:=2^64) (by decide) 5000 n h;exact aDM n (by omega)
theorem Cg(n:Nat):nv (2^64) (dg (2^64) n)=n:=iI (by decide) n
theorem aHK{j:Nat}(hj:Ws (dg (2^64) j)):Q5 (Dw j,(2:Int),())=some (Dw (j/4),0,()):=by
 have:=zI (dg (2^64) j) hj 2 (by decide);rw[Cg]at this;exact this
theorem aC3{u:Nat}(hu:Ws (dg (2^64) u))(hl:(dg (2^64) u).length<1000000):Sa (Dw u,((1:Int)::[]),())=some (Dw (u+1),()):=by
 have:=zJ (dg (2^64) u) [1] hu ⟨by simp,by simp⟩ (by rw[Rr (by decide)];exact hl) (by simp[Ai]);rw[Cg,show nv (2^64) [1]=1 by rfl]at this;exact this
end VL
namespace VL
open Go Vx
theorem iD:decide ((0:Int)>0)=false:=rfl
theorem aKi(m:Int)(neg:Bool)(n:Nat)(e q:Int)(more:Bool)(hn:n<(2^64)^2000)(hq:q-e<=10000000)(he:-1000000000<=e/\e<=1000000000)(hqb:-1000000000<=q/\q<=1000000000)
  (hs:q-e<2->2-(q-e)<=65536/\n*2^(2-(q-e)).toNat<(2^64)^1024) :
  TR ((neg,Dw n,e,more,()),m,q,())=some (Dw (CM m neg n e q more),decide (DI n e q more≠0),()):=by
 show kD _ _ _ _ _ _ _ _ _ _ (neg,Dw n,e,more,()) m q=_;unfold kD;have hnw:Ws (dg (2^64) n):=Di (jd hn (du (by decide) (by decide)));have e0:aa .i64 (q-e)=q-e:=As (by omega);have hj4:=aOC n e q;dsimp only;rw[e0];by_cases h2:2<=q-e
 ·rw[show decide (q-e>=2)=true from decide_eq_true h2,cond_true];obtain⟨s,hs⟩:=cw (show 0<=q-e-2 by omega);have e1:aa .i64 (q-e-2)=(s:Int):=by rw[As (by omega)];exact hs
  have hj:j4 n e q=MS n s:=by unfold j4;rw[if_pos h2];congr 1;omega
  rw[hj]at hj4;have hjn:MS n s<=n+1:=by
   unfold MS;have:=dx n (2^s);split<;>omega
  have p0:=aKm (dg (2^64) n) hnw s (by omega);rw[Cg]at p0;have hjl:MS n s<(2^64)^5000:=by
   have h1:(2^64)^2000<(2^64)^5000:=du (by decide) (by decide);generalize(2^64)^2000=A at *
   generalize(2^64)^5000=B at *
   omega
  clear hj;generalize MS n s=j at *
  have hj:Ws (dg (2^64) j):=Di hjl;rw[e1];have p0:TU (Dw n,(s:Int),())=some (Dw j,0,()):=p0;have p1:=aHK hj;have hu:Ws (dg (2^64) (j/4)):=Di (av (dx _ _) hjl);have hul:=CW (B:=2^64) (by decide) 5000 (j/4) (av (dx _ _) hjl);have p3:=aC3 hu (by omega);have h4:j%4<4:=bo _ (by decide);unfold CM DI;rw[←hj4.1,←hj4.2];rcases bj j with hj0|hj0
  ·subst hj0;have pz:Q5 ([],(2:Int),())=some (Dw (0/4),0,()):=by rw[←Dr];exact p1
   cases more with
   |true=>
    have p2:Se (m,neg,decide (0/4%2=1),(1:Int),())=some (Cv m neg (decide (0/4%2=1)) 1,()):=TW m neg _ 1;simp only[iQ p0,gX p0,cond_true,Dr,je,BJ,gn,cond_false,bi,iD,aGv,M1 pz,MN pz,Nf,VN,VW p2,UV p2,be,br,bh];cases hf:Cv m neg (decide (0/4%2=1)) 1 with
    |true=>simp only[cond_true,Kc p3,J5 p3];have hf:Cv m neg false 1=true:=hf;simp[hf]
    |false=>simp only[cond_false];have hf:Cv m neg false 1=false:=hf;simp[hf]
   |false=>
    simp only[iQ p0,gX p0,cond_true,Dr,je,gn,cond_false,bi,iD,M1 pz,MN pz,Nf,br];simp
  ·have hjn:j≠0:=by omega
   cases more with
   |true=>
    have p2:=TW m neg (decide (j/4%2=1)) (j%4/2*2+1);have hr:j%4/2*2+1≠0:=by omega
    simp only[iQ p0,gX p0,cond_true,Ng hjn,RZ hjn,bi,Kj j,fY,or1 (j%4) (by omega),M1 p1,MN p1,Nf,VN,VW p2,UV p2,be,br,Bi _ hr,bh];cases hf:Cv m neg (decide (j/4%2=1)) (j%4/2*2+1)with
    |true=>simp only[cond_true,Kc p3,J5 p3];simp[hf]
    |false=>simp only[cond_false];simp[hf]
   |false=>
    have p2:=TW m neg (decide (j/4%2=1)) (j%4);simp only[iQ p0,gX p0,cond_true,cond_false,Ng hjn,RZ hjn,bi,Kj j,fY,M1 p1,MN p1,Nf,VN,VW p2,UV p2,be,br];rcases bj (j%4)with hz|hz
    ·rw[BH _ hz,az,cond_false];simp[hz]
    ·have hr:j%4≠0:=by omega
     rw[Bi _ hr,bh];cases hf:Cv m neg (decide (j/4%2=1)) (j%4)with
     |true=>simp only[cond_true,Kc p3,J5 p3];simp[hf,hr]
     |false=>simp only[cond_false];simp[hf,hr]
 ·rw[show decide (q-e>=2)=false from decide_eq_false h2,cond_false];obtain⟨s,hse⟩:=cw (show 0<=2-(q-e) by omega);have e1:aa .i64 (2-(q-e))=(s:Int):=by rw[As (by omega)];exact hse
  have hj:j4 n e q=n*2^s:=by unfold j4;rw[if_neg h2];congr 2;omega
  rw[hj]at hj4;obtain⟨hs1,hs2⟩:=hs (by omega);rw[show(2-(q-e)).toNat=s by omega]at hs2;have p0:=zQ (dg (2^64) n) hnw s (by omega) (by rw[Cg];exact hs2);rw[Cg]at p0;have hjl:n*2^s<(2^64)^5000:=jd hs2 (du (by decide) (by decide));clear hj;generalize n*2^s=j at *
  have hj:Ws (dg (2^64) j):=Di hjl;rw[e1];have p0:Sd (Dw n,(s:Int),())=some (Dw j,0,()):=p0;have p1:=aHK hj;have hu:Ws (dg (2^64) (j/4)):=Di (av (dx _ _) hjl);have hul:=CW (B:=2^64) (by decide) 5000 (j/4) (av (dx _ _) hjl);have p3:=aC3 hu (by omega);have h4:j%4<4:=bo _ (by decide);unfold CM DI;rw[←hj4.1,←hj4.2];rcases bj j with hj0|hj0
  ·subst hj0;have pz:Q5 ([],(2:Int),())=some (Dw (0/4),0,()):=by rw[←Dr];exact p1
   cases more with
   |true=>
    have p2:Se (m,neg,decide (0/4%2=1),(1:Int),())=some (Cv m neg (decide (0/4%2=1)) 1,()):=TW m neg _ 1;simp only[Z5 p0,Zz p0,cond_true,Dr,je,BJ,gn,cond_false,bi,iD,aGv,M1 pz,MN pz,Nf,VN,VW p2,UV p2,be,br,bh];cases hf:Cv m neg (decide (0/4%2=1)) 1 with
    |true=>simp only[cond_true,Kc p3,J5 p3];have hf:Cv m neg false 1=true:=hf;simp[hf]
    |false=>simp only[cond_false];have hf:Cv m neg false 1=false:=hf;simp[hf]
   |false=>
    simp only[Z5 p0,Zz p0,cond_true,Dr,je,gn,cond_false,bi,iD,M1 pz,MN pz,Nf,br];simp
  ·have hjn:j≠0:=by omega
   cases more with
   |true=>
    have p2:=TW m neg (decide (j/4%2=1)) (j%4/2*2+1);have hr:j%4/2*2+1≠0:=by omega
    simp only[Z5 p0,Zz p0,cond_true,Ng hjn,RZ hjn,bi,Kj j,fY,or1 (j%4) (by omega),M1 p1,MN p1,Nf,VN,VW p2,UV p2,be,br,Bi _ hr,bh];cases hf:Cv m neg (decide (j/4%2=1)) (j%4/2*2+1)with
    |true=>simp only[cond_true,Kc p3,J5 p3];simp[hf]
    |false=>simp only[cond_false];simp[hf]
   |false=>
    have p2:=TW m neg (decide (j/4%2=1)) (j%4);simp only[Z5 p0,Zz p0,cond_true,cond_false,Ng hjn,RZ hjn,bi,Kj j,fY,M1 p1,MN p1,Nf,VN,VW p2,UV p2,be,br];rcases bj (j%4)with hz|hz
    ·rw[BH _ hz,az,cond_false];simp[hz]
    ·have hr:j%4≠0:=by omega
     rw[Bi _ hr,bh];cases hf:Cv m neg (decide (j/4%2=1)) (j%4)with
     |true=>simp only[cond_true,Kc p3,J5 p3];simp[hf,hr]
     |false=>simp only[cond_false];simp[hf,hr]
end VL
namespace VL
open Go Vx
def Dg(f:Int)(neg:Bool):Nat:=if neg then 2^(fW f-1)else 0
def Gu(f:Int)(neg:Bool):Nat:=(2^(fW f-fP f)-1)*2^(fP f-1)+Dg f neg
def xJ(m:Int)(neg:Bool):Bool:=((m==0||m==1)||(m==3&&!neg))||(m==4&&neg)
def Zb(f m:Int)(neg:Bool):Nat:=if xJ m neg then Gu f neg else Gu f neg-1
theorem Uh{f:Int}(h:Fm f)(neg:Bool):YA (f,neg,())=some ((Gu f neg:Int),0,()):=by
 rcases Ds h with rfl|rfl|rfl|rfl<;>cases neg<;>kernel_rfl
theorem aK4{f:Int}(h:Fm f)(neg:Bool):Yh (f,neg,())=some (((Gu f neg-1:Nat):Int),0,()):=by
 rcases Ds h with rfl|rfl|rfl|rfl<;>cases neg<;>kernel_rfl
theorem Q3{f:Int}(h:Fm f)(neg:Bool):W1 (f,neg,())=some ((Dg f neg:Int),0,()):=by
 rcases Ds h with rfl|rfl|rfl|rfl<;>cases neg<;>kernel_rfl
theorem aKh{f:Int}(h:Fm f)(m:Int)(neg:Bool):Xc (f,m,neg,())=some ((Zb f m neg:Int),()):=by
 show kC BY.pre BY.F JD.pre JD.F f m neg=_;have p0:=Uh h neg;have p1:=aK4 h neg;unfold kC Zb;show(bif xJ m neg then(bif BY.pre (f,neg,())then some ((BY.F (f,neg,())).1,())else none)else(bif JD.pre (f,neg,())then some ((JD.F (f,neg,())).1,())else none))=_;rw[V0 p0,UZ p0,aQP p1,aOd p1];cases xJ m neg<;>rfl
def AW(n:Nat)(e:Int):Int:=e+(An n:Int)-1
theorem Fb{n k:Nat}(h:n<2^k):An n<=k:=by
 rcases bj n with rfl|hn
 ·exact ej _
 ·have:=JY (n:=n) (by omega);have:An n-1<k:=(ct (a:=2) (by decide)).1 (av this h);omega
theorem JZ{n:Nat}(h:n≠0):1<=An n:=by unfold An;rw[if_neg h];omega
theorem f8{n:Nat}(h:n<(2^64)^2000):An n<=128000:=by
 apply Fb;rw[Cw]at h;exact h
theorem Sb{n:Nat}(h:n<(2^64)^5000):TS (Dw n,())=some ((An n:Int),()):=by
 have:=aKj _ (Di h);rw[Cg]at this;exact this
theorem MW{n:Nat}(h:n<(2^64)^2000):n<(2^64)^5000:=jd h (du (by decide) (by decide))
theorem aKg(neg:Bool)(n:Nat)(e:Int)(more:Bool)(hn:n<(2^64)^2000)(he:-1000000<=e/\e<=1000000):Xb ((neg,Dw n,e,more,()),())=some (AW n e,()):=by
 show kB Ch.pre Ch.F (neg,Dw n,e,more,())=_;unfold kB;have p0:=Sb (MW hn);have hb:=f8 hn;simp only[Ti p0,S5 p0,cond_true];rw[As (n:=e+(An n:Int)) (by omega),As (by omega)];rfl
theorem aQ4{n:Nat}{e q:Int}{p:Nat}(h:AW n e-p+1<=q):E2 n e q<2^p:=by
 unfold AW at h;unfold E2;have hb:=G8 n;by_cases hq:q<=e
 ·rw[if_pos hq];have h1:n*2^(e-q).toNat<2^An n*2^(e-q).toNat:=cm hb (ag _);rw[←ap]at h1;exact ah h1 (ae (by decide) (by omega))
 ·rw[if_neg hq,cn (ag _),←ap];exact ah hb (ae (by decide) (by omega))
theorem sV{m:Int}{neg:Bool}{n:Nat}{e q:Int}{more:Bool}{p:Nat}(h:AW n e-p+1<=q):CM m neg n e q more<=2^p:=by
 have:=aQ4 h;unfold CM;split<;>omega
theorem zL(m:Int)(neg:Bool)(n:Nat)(e q:Int)(more:Bool)(hn:n<(2^64)^2000)(he:-1000000<=e/\e<=1000000){p:Nat}(hp:p<=60)(h1:AW n e-p+1<=q)(h2:q<=AW n e∨q<=1000):
  TR ((neg,Dw n,e,more,()),m,q,())=some (Dw (CM m neg n e q more),decide (DI n e q more≠0),()):=by
 have hb:=f8 hn;unfold AW at h1 h2;refine aKi m neg n e q more hn (by omega) (by omega) (by omega) fun hs=>?_;refine⟨by omega,?_⟩;have hl:=G8 n;have h3:n*2^(2-(q-e)).toNat<2^An n*2^(2-(q-e)).toNat:=cm hl (ag _);rw[←ap]at h3;rw[Cw];exact ah h3 (ae (by decide) (by omega))
theorem aKk(neg:Bool)(n:Nat)(e:Int)(more:Bool)(f m:Int)(hf:Fm f)(hn:n<(2^64)^2000)(he:-1000000<=e/\e<=1000000):
  Xd ((neg,Dw n,e,more,()),Bt f,m,AW n e,())=some (decide (AW n e<1-(fX f:Int)/\AW n e-fP f+An (CM m neg n e (AW n e-fP f+1) more)<1-(fX f:Int)),()):=by
 show kF H1.pre H1.F Ch.pre Ch.F (neg,Dw n,e,more,()) ((fW f:Int),((fP f:Int),((1-(fX f:Int)),((fX f:Int),())))) m (AW n e)=_;unfold kF;have hb:=f8 hn;have hp:=EX hf;have hw:=Eg hf;have hx:=Ik hf;have hp8:=DJ hf;have ht:AW n e=e+(An n:Int)-1:=rfl;have p0:=zL m neg n e (AW n e-fP f+1) more hn he (p:=fP f) (by omega) (by omega) (by omega);have hc:=sV (m:=m) (neg:=neg) (more:=more) (n:=n) (e:=e) (q:=AW n e-fP f+1) (p:=fP f) (by omega);generalize CM m neg n e (AW n e-fP f+1) more=u at *
 have hu:u<(2^64)^5000:=by
  rw[Cw];exact av hc (du (by decide) (by omega))
 have hub:An u<=fP f+1:=Fb (av hc (du (by decide) (by omega)));have p1:=Sb hu;have e1:aa .i64 (AW n e-(fP f:Int))=AW n e-(fP f:Int):=As (by omega);have e2:aa .i64 (AW n e-(fP f:Int)+1)=AW n e-(fP f:Int)+1:=As (by omega);have e3:aa .i64 (AW n e-(fP f:Int)+(An u:Int))=AW n e-(fP f:Int)+(An u:Int):=As (by omega);dsimp only;rw[e1,e2];by_cases h:AW n e>=1-(fX f:Int)
 ·rw[decide_eq_true h,cond_true,decide_eq_false (by omega)]
 ·rw[decide_eq_false h,cond_false];simp only[aGK p0,aEC p0,cond_true,Ti p1,S5 p1,e3];have:(AW n e<1-(fX f:Int)):=by omega
  simp only[this,true_and]
end VL
namespace VL
open Go Vx
def MV(f:Int)(t:Int):Int:=(if 1-(fX f:Int)>t then 1-(fX f:Int)else t)-fP f+1
def FJ(f m:Int)(neg:Bool)(n:Nat)(e:Int)(more:Bool):Prop:=AW n e<1-(fX f:Int)/\AW n e-fP f+An (CM m neg n e (AW n e-fP f+1) more)<1-(fX f:Int)
instance (f m:Int) (neg:Bool) (n:Nat) (e:Int) (more:Bool):Decidable (FJ f m neg n e more):=by unfold FJ;infer_instance
def AH(f m:Int)(neg:Bool)(n:Nat)(e:Int)(more:Bool):Nat×Nat:=
 if AW n e>fX f then(Zb f m neg,20)
 else
  let q:=MV f (AW n e)
  let u:=CM m neg n e q more
  if q+An u-1>fX f then(Zb f m neg,20)
  else((q-(1-(fX f:Int)-fP f+1)).toNat*2^(fP f-1)+u+Dg f neg,
   if DI n e q more=0 then 0 else if FJ f m neg n e more then 24 else 16)
theorem aOt{f:Int}(hf:Fm f):(2*fX f-1)*2^(fP f-1)+2^fP f+2^(fP f-1)=2^(fW f-1):=by
 rcases Ds hf with rfl|rfl|rfl|rfl<;>decide
theorem SU{f:Int}(hf:Fm f):15<=fX f:=by
 rcases Ds hf with rfl|rfl|rfl|rfl<;>decide
theorem pB(neg:Bool)(n:Nat)(e:Int)(more:Bool)(f m:Int)(hf:Fm f)(hn:n<(2^64)^2000)(he:-1000000<=e/\e<=1000000):
  WW ((neg,Dw n,e,more,()),f,Bt f,m,())=some (((AH f m neg n e more).1:Int),((AH f m neg n e more).2:Int),()):=by
 show jP _ _ _ _ _ _ _ _ _ _ (neg,Dw n,e,more,()) f ((fW f:Int),((fP f:Int),((1-(fX f:Int)),((fX f:Int),())))) m=_;unfold jP AH;have hb:=f8 hn;have hp:=EX hf;have hp8:=DJ hf;have hw:=Eg hf;have hx:=Ik hf;have hx15:=SU hf;have ht:AW n e=e+(An n:Int)-1:=rfl;have pt:=aKg neg n e more hn he;have pb:=aKh hf m neg;have py:=aKk neg n e more f m hf hn he;have hrow:Bt f=((fW f:Int),((fP f:Int),((1-(fX f:Int)),((fX f:Int),())))):=rfl;rw[hrow]at py;simp only[aP5 pt,aNt pt,cond_true];by_cases h1:AW n e>(fX f:Int)
 ·rw[if_pos h1,decide_eq_true h1,cond_true];simp only[vX pb,tY pb,cond_true];rfl
 rw[if_neg h1,decide_eq_false h1,cond_false];have hM:∃M:Int,(if 1-(fX f:Int)>AW n e then 1-(fX f:Int)else AW n e)=M/\AW n e<=M/\1-(fX f:Int)<=M/\M<=fX f/\(M=AW n e∨M=1-(fX f:Int)):=by
  refine⟨_,rfl,?_⟩;split<;>omega
 obtain⟨M,hMe,m1,m2,m3,m4⟩:=hM;have hq:MV f (AW n e)=M-fP f+1:=by unfold MV;rw[hMe]
 simp only[hMe,hq];have e1:aa .i64 (M-(fP f:Int))=M-(fP f:Int):=As (by omega);have e2:aa .i64 (M-(fP f:Int)+1)=M-(fP f:Int)+1:=As (by omega);simp only[e1,e2];have p0:=zL m neg n e (M-(fP f:Int)+1) more hn he (p:=fP f) (by omega) (by omega) (by omega);have hc:=sV (m:=m) (neg:=neg) (more:=more) (n:=n) (e:=e) (q:=M-(fP f:Int)+1) (p:=fP f) (by omega);generalize CM m neg n e (M-(fP f:Int)+1) more=u at *
 generalize DI n e (M-(fP f:Int)+1) more=r at *
 have hP60:2^fP f<=2^60:=ae (by decide) (by omega);have hu:u<(2^64)^5000:=by
  rw[Cw];exact av hc (du (by decide) (by omega))
 have hub:An u<=fP f+1:=Fb (av hc (du (by decide) (by omega)));have p1:=Sb hu;have e3:aa .i64 ((fP f:Int)-1)=((fP f-1:Nat):Int):=Bo _ (by omega);have e4:aa .i64 ((fW f:Int)-1)=((fW f-1:Nat):Int):=Bo _ (by omega);have e5:aa .i64 (M-(fP f:Int)+1+(An u:Int))=M-(fP f:Int)+1+(An u:Int):=As (by omega);have e6:aa .i64 (M-(fP f:Int)+1+(An u:Int)-1)=M-(fP f:Int)+1+(An u:Int)-1:=As (by omega);have e7:aa .i64 (1-(fX f:Int)-(fP f:Int))=1-(fX f:Int)-(fP f:Int):=As (by omega);have e8:aa .i64 (1-(fX f:Int)-(fP f:Int)+1)=1-(fX f:Int)-(fP f:Int)+1:=As (by omega);obtain⟨k,hk⟩:=cw (show 0<=M-(fP f:Int)+1-(1-(fX f:Int)-(fP f:Int)+1) by omega);have e9:aa .i64 (M-(fP f:Int)+1-(1-(fX f:Int)-(fP f:Int)+1))=(k:Int):=by rw[As (by omega)];exact hk
 have e10:aa .u64 (k:Int)=(k:Int):=El (by omega);have hkn:(M-(fP f:Int)+1-(1-(fX f:Int)-(fP f:Int)+1)).toNat=k:=by omega
 have hhalf:=aOt hf;have hk2:k<=2*fX f-1:=by omega
 have hk3:=ay (2^(fP f-1)) hk2;have hW64:2^(fW f-1)<=2^63:=ae (by decide) (by omega);have hpp:=ag (fP f-1);have e11:AQ .u64 (k:Int) ((fP f-1:Nat):Int)=((k*2^(fP f-1):Nat):Int):=by
  rw[Ej _ _ (by omega),ar (by omega)]
 have e12:AQ .u64 1 ((fW f-1:Nat):Int)=((1*2^(fW f-1):Nat):Int):=by rw[M9 (by omega),fi]
 generalize hA:k*2^(fP f-1)=A at *
 have hbits:A+u<2^(fW f-1):=by omega
 have e13:aa .u64 ((A:Int)+((u%2^64:Nat):Int))=((A+u:Nat):Int):=by
  rw[ar (by omega),El (by omega)];omega
 have hor:∀b:Nat,b<2^(fW f-1)->A7 .u64 (b:Int) ((1*2^(fW f-1):Nat):Int)=((b+2^(fW f-1):Nat):Int):=fun b hb=>by
  have:=FR (a:=b) (b:=1) (k:=fW f-1) hb (by omega);rw[fi]at this⊢;exact this
 have hsg:Dg f neg=if neg then 2^(fW f-1)else 0:=rfl;have htd:decide (AW n e<1-(fX f:Int)/\AW n e-fP f+An (CM m neg n e (AW n e-fP f+1) more)<1-(fX f:Int))=decide (FJ f m neg n e more):=by
  unfold FJ;rfl
 rw[htd]at py;simp only[aGK p0,aEC p0,cond_true,e3,AV,Ti p1,S5 p1,e5,e6,e7,e8,e9,e10,e11,e4,e12,hkn,hA];rcases bj u with hu0|hu0
 ·subst hu0;have hl0:decide ((((Dw 0).length:Nat):Int)>0)=false:=by rw[Dr];rfl
  rw[hl0,cond_false];by_cases h2:M-(fP f:Int)+1+(An 0:Int)-1>(fX f:Int)
  ·rw[decide_eq_true h2,cond_true,if_pos h2];simp only[vX pb,tY pb,cond_true];rfl
  ·rw[decide_eq_false h2,cond_false,if_neg h2];have hbi:=hor (A) (by omega);rw[hbi];by_cases hr:r=0
   ·rw[if_pos hr,decide_eq_false (p:=r≠0) (by omega)];simp only[bd,cond_true];cases neg<;>rfl
   ·rw[if_neg hr,decide_eq_true (p:=r≠0) hr];simp only[bg,cond_false,aGL py,aED py,cond_true];by_cases hti:FJ f m neg n e more
    ·rw[if_pos hti,decide_eq_true hti];cases neg<;>rfl
    ·rw[if_neg hti,decide_eq_false hti];cases neg<;>rfl
 ·have hun:u≠0:=by omega
  simp only[Ng hun,RZ hun,cond_true,bi,Kj,e13];by_cases h2:M-(fP f:Int)+1+(An u:Int)-1>(fX f:Int)
  ·rw[decide_eq_true h2,cond_true,if_pos h2];simp only[vX pb,tY pb,cond_true];rfl
  ·rw[decide_eq_false h2,cond_false,if_neg h2];have hbi:=hor (A+u) (by omega);rw[hbi];by_cases hr:r=0
   ·rw[if_pos hr,decide_eq_false (p:=r≠0) (by omega)];simp only[bd,cond_true];cases neg<;>rfl
   ·rw[if_neg hr,decide_eq_true (p:=r≠0) hr];simp only[bg,cond_false,aGL py,aED py,cond_true];by_cases hti:FJ f m neg n e more
    ·rw[if_pos hti,decide_eq_true hti];cases neg<;>rfl
    ·rw[if_neg hti,decide_eq_false hti];cases neg<;>rfl
theorem pA{f m:Int}(hf:Fm f)(hm:0<=m/\m<=5):WU (f,m,())=some (Bt f,0,()):=by
 show jN Aq.pre Aq.F Qk.pre Qk.F f m=_;unfold jN;have p0:=FE hf;have p1:Xa (m,())=some (0,()):=by
  show kA m=_;unfold kA;rw[decide_eq_false (show ¬m<0 by omega),decide_eq_false (show ¬m>5 by omega)];rfl
 simp only[Dd p0,C9 p0,cond_true,aP4 p1,aNs p1];rfl
theorem aKl{f:Int}(h:Fm f)(neg:Bool):Xe (f,neg,())=some ((Dg f neg:Int),0,0,()):=by
 show kG Bb.pre Bb.F f neg=_;unfold kG;have p0:=Q3 h neg;simp only[RL p0,RF p0,cond_true]
theorem aVm(s:Nat)(hs:s<2^128):(Wi s).2.1::(Wi s).1::[]=Wd [s%2^64,s/2^64]/\Ws [s%2^64,s/2^64]/\nv (2^64) [s%2^64,s/2^64]=s:=by
 refine⟨rfl,⟨?_,by simp⟩,?_⟩
 ·intro x hx;have:x=s%2^64∨x=s/2^64:=by simpa using hx
  omega
 ·simp only[nv];omega
theorem LV{f m:Int}(hf:Fm f)(hm:0<=m/\m<=5)(neg:Bool)(s:Nat)(hs:s<2^128)(e:Int)(he:-40000<=e/\e<=40000)(more:Bool)(hmore:more=true->fP f+2<=An s):
  R9 (f,m,neg,Wi s,e,more,())=some (if s=0 then((Dg f neg:Int),0,0,())else(((AH f m neg s e more).1:Int),((AH f m neg s e more).2:Int),0,())):=by
 show jX _ _ _ _ _ _ _ _ _ _ f m neg (Wi s) e more=_;unfold jX;obtain⟨w1,w2,w3⟩:=aVm s hs;have hP:=EX hf;have hW:=Eg hf;have p0:=pA hf hm;have p1:=WT _ w2;rw[←w1,w3]at p1;have hs2:s<(2^64)^2000:=by
  rw[Cw];exact ah hs (ae (by decide) (by decide))
 have p2:=Sb (MW hs2);have p3:=aKl hf neg;have p4:=pB neg s e more f m hf hs2 (by omega);have e1:decide (e < -40000)=false:=decide_eq_false (by omega);have e2:decide (e>40000)=false:=decide_eq_false (by omega);have e3:aa .i64 ((Bt f).2.1+2)=((fP f+2:Nat):Int):=by
  show aa .i64 ((fP f:Int)+2)=_;rw[As (by omega)];rfl
 have e4:(more&&decide ((An s:Int)<((fP f+2:Nat):Int)))=false:=by
  cases more with
  |false=>rfl
  |true=>rw[decide_eq_false (by have:=hmore rfl;omega)];rfl
 have z0:((0:Int)!=0)=false:=rfl;simp only[vR p0,tR p0,cond_true,z0,cond_false,VU p1,UU p1,e1,e2,bq,Ti p2,S5 p2,be,e3,e4];by_cases h0:s=0
 ·rw[if_pos h0];subst h0;rw[show((((Dw 0).length:Nat):Int)==0)=true by rw[Dr];rfl,cond_true];simp only[aP6 p3,aNu p3,cond_true]
 ·rw[if_neg h0,AS _ (by have:=ID h0;omega),cond_false];simp only[vS p4,tS p4,cond_true]
end VL
namespace VL
open Go Vx
theorem aMr{r k s ρ:Nat}(hρ:0<ρ)(hρ2:ρ<2^k)(hs:1<=s):Cu (ρ+2^k*r) (k+s)=Cu r s/2*2+1:=by
 unfold Cu;have hp:2^(k+s-1)=2^k*2^(s-1):=by rw[←ap];congr 1;omega
 rw[hp];have hh:=ag (s-1);generalize 2^(s-1)=h at *
 generalize 2^k=K at *
 rw[if_neg (by omega)];rcases gc r h with h1|h1|h1
 ·have:K*(r+1)<=K*h:=ce _ h1;rw[bt,gf]at this;rw[if_pos (by omega)];by_cases hr:r=0
  ·rw[if_pos hr]
  ·rw[if_neg hr,if_pos h1]
 ·subst h1;rw[if_neg (by omega),if_neg (by omega),if_neg (by omega),if_neg (by omega),if_pos rfl]
 ·have:K*(h+1)<=K*r:=ce _ h1;rw[bt,gf]at this;rw[if_neg (by omega),if_neg (by omega),if_neg (by omega),if_neg (by omega),if_neg (by omega)]
theorem aMs{r k s:Nat}(hs:1<=s):Cu (2^k*r) (k+s)=Cu r s:=by
 unfold Cu;have hp:2^(k+s-1)=2^k*2^(s-1):=by rw[←ap];congr 1;omega
 rw[hp];have hk:=ag k;generalize 2^(s-1)=h at *
 generalize 2^k=K at *
 have h1:K*r=0↔r=0:=by
  constructor
  ·intro h;rcases nt.1 h with h|h<;>omega
  ·intro h;rw[h,fm]
 have h2:K*r<K*h↔r<h:=Nat.mul_lt_mul_left hk;have h3:K*r=K*h↔r=h:=Nat.mul_right_inj (by omega);simp only[h1,h2,h3]
theorem aOX(N k s:Nat):N%2^(k+s)=N%2^k+2^k*(N/2^k%2^s):=by
 rw[ap,mr]
theorem aHf{n:Nat}{e q:Int}(h:q<=e):E2 n e q=n*2^(e-q).toNat:=if_pos h
theorem iY{n:Nat}{e q:Int}(h:e<q):E2 n e q=n/2^(q-e).toNat:=if_neg (by omega)
theorem aHy{n:Nat}{e q:Int}(h:q<=e):Kf n e q=0:=if_pos h
theorem i7{n:Nat}{e q:Int}(h:e<q):Kf n e q=Cu (n%2^(q-e).toNat) (q-e).toNat:=if_neg (by omega)
theorem Zh(n:Nat)(e q:Int):DI n e q false=Kf n e q:=rfl
theorem aMy(n:Nat)(e q:Int):DI n e q true=Kf n e q/2*2+1:=rfl
theorem sW{N k:Nat}{E q:Int}(hq:N%2^k≠0->E+k<q):
  E2 (N/2^k) (E+k) q=E2 N E q/\DI (N/2^k) (E+k) q (decide (N%2^k≠0))=DI N E q false:=by
 have hk:=ag k;have hdm:=ck N (2^k);by_cases h1:E+k<q
 ·have es:(q-E).toNat=k+(q-(E+k)).toNat:=by omega
  have hs:1<=(q-(E+k)).toNat:=by omega
  rw[iY h1,iY (by omega),Zh,i7 (e:=E) (by omega),es];have hrs:=i7 (n:=N/2^k) h1;generalize(q-(E+k)).toNat=s at *
  refine⟨by rw[dk,←ap],?_⟩;rw[aOX];by_cases hr:N%2^k=0
  ·rw[hr,dw,aMs hs,show decide ((0:Nat)≠0)=false by decide,Zh,hrs]
  ·have hρ:0<N%2^k:=by omega
   rw[aMr hρ (bo _ hk) hs,decide_eq_true hr,aMy,hrs]
 ·have hr:N%2^k=0:=by
   by_cases h:N%2^k=0
   ·exact h
   ·exact absurd (hq h) h1
  rw[hr,de]at hdm;rw[hr];clear hq hr;generalize N/2^k=n at *
  subst hdm;have hz:decide ((0:Nat)≠0)=false:=by decide
  rw[hz,aHf (by omega),Zh,Zh,aHy (by omega)];by_cases h2:q<=E
  ·rw[aHf h2,aHy h2,show(E+k-q).toNat=k+(E-q).toNat by omega,ap,aq (2^k) n,ao];exact⟨rfl,rfl⟩
  ·rw[iY (by omega),i7 (by omega)];have ek:k=(q-E).toNat+(E+k-q).toNat:=by omega
   generalize(q-E).toNat=s at *
   generalize(E+k-q).toNat=t at *
   have:2^k*n=2^s*(2^t*n):=by rw[ek,ap,ao]
   rw[this,ga _ (ag s),kx];exact⟨aq _ _,rfl⟩
theorem gG{m:Int}{neg:Bool}{N k:Nat}{E q:Int}(hq:N%2^k≠0->E+k<q):CM m neg (N/2^k) (E+k) q (decide (N%2^k≠0))=CM m neg N E q false:=by
 obtain⟨h1,h2⟩:=sW hq;unfold CM;rw[h1,h2]
theorem aIq{N k:Nat}{E:Int}(hn:N/2^k≠0):AW (N/2^k) (E+k)=AW N E:=by
 have hk:=ag k;have h1:2^k<=N:=by
  rcases au N (2^k)with h|h
  ·exact absurd (bu h) hn
  ·exact h
 have:=sC h1;unfold AW;omega
theorem aI{f m:Int}{neg:Bool}{N k:Nat}{E:Int}(hf:Fm f)(hn:N/2^k≠0)(hm:N%2^k≠0->fP f+2<=An (N/2^k)):AH f m neg (N/2^k) (E+k) (decide (N%2^k≠0))=AH f m neg N E false:=by
 have ht:=aIq (E:=E) hn;have htd:AW (N/2^k) (E+k)=E+k+(An (N/2^k):Int)-1:=rfl;have hq1:N%2^k≠0->E+k<MV f (AW N E):=fun h=>by
  have:=hm h;unfold MV;split<;>omega
 have hq2:N%2^k≠0->E+k<AW N E-fP f+1:=fun h=>by
  have:=hm h;omega
 have hti:FJ f m neg (N/2^k) (E+k) (decide (N%2^k≠0))=FJ f m neg N E false:=by
  unfold FJ;rw[ht,gG hq2]
 unfold AH;simp only[ht,gG hq1,(sW hq1).2,hti]
theorem M4{f m:Int}{neg:Bool}(hf:Fm f){n:Nat}(hn:n≠0)(k:Nat)(e:Int):AH f m neg (n*2^k) e false=AH f m neg n (e+k) false:=by
 have hk:=ag k;have:=aI (f:=f) (m:=m) (neg:=neg) (N:=n*2^k) (k:=k) (E:=e) hf (by rw[ki _ hk];exact hn) (by rw[nm];omega);rw[ki _ hk,nm]at this;exact this.symm
end VL
namespace VL
open Go Vx
def Wo(f m:Int)(nx:Bool)(X ex:Int)(ny:Bool)(Y ey:Int):Option (DenS Jp):=bif(AE.pre (((0:Int),(X,())),((if((70:Int)<(aa .i64 (ex-ey)))then(70:Int)else(aa .i64 (ex-ey))),())))then(bif(AL.pre (((0:Int),(Y,())),((aa .i64 ((aa .i64 (ex-(if((70:Int)<(aa .i64 (ex-ey)))then(70:Int)else(aa .i64 (ex-ey)))))-ey)),())))then(bif(AE.pre ((AL.F (((0:Int),(Y,())),((aa .i64 ((aa .i64 (ex-(if((70:Int)<(aa .i64 (ex-ey)))then(70:Int)else(aa .i64 (ex-ey)))))-ey)),()))).1,((aa .i64 ((aa .i64 (ex-(if((70:Int)<(aa .i64 (ex-ey)))then(70:Int)else(aa .i64 (ex-ey)))))-ey)),())))then(bif(AL.pre (((0:Int),(Y,())),((aa .i64 ((aa .i64 (ex-(if((70:Int)<(aa .i64 (ex-ey)))then(70:Int)else(aa .i64 (ex-ey)))))-ey)),())))then(bif(nx==ny)then(bif(Ly.pre ((AE.F (((0:Int),(X,())),((if((70:Int)<(aa .i64 (ex-ey)))then(70:Int)else(aa .i64 (ex-ey))),()))).1,(AL.F (((0:Int),(Y,())),((aa .i64 ((aa .i64 (ex-(if((70:Int)<(aa .i64 (ex-ey)))then(70:Int)else(aa .i64 (ex-ey)))))-ey)),())))))then(bif(A3.pre (f,(m,(nx,((Ly.F ((AE.F (((0:Int),(X,())),((if((70:Int)<(aa .i64 (ex-ey)))then(70:Int)else(aa .i64 (ex-ey))),()))).1,(AL.F (((0:Int),(Y,())),((aa .i64 ((aa .i64 (ex-(if((70:Int)<(aa .i64 (ex-ey)))then(70:Int)else(aa .i64 (ex-ey)))))-ey)),()))))).1,((aa .i64 (ex-(if((70:Int)<(aa .i64 (ex-ey)))then(70:Int)else(aa .i64 (ex-ey))))),(((!(((AE.F ((AL.F (((0:Int),(Y,())),((aa .i64 ((aa .i64 (ex-(if((70:Int)<(aa .i64 (ex-ey)))then(70:Int)else(aa .i64 (ex-ey)))))-ey)),()))).1,((aa .i64 ((aa .i64 (ex-(if((70:Int)<(aa .i64 (ex-ey)))then(70:Int)else(aa .i64 (ex-ey)))))-ey)),()))).1.1==(0:Int))&&((AE.F ((AL.F (((0:Int),(Y,())),((aa .i64 ((aa .i64 (ex-(if((70:Int)<(aa .i64 (ex-ey)))then(70:Int)else(aa .i64 (ex-ey)))))-ey)),()))).1,((aa .i64 ((aa .i64 (ex-(if((70:Int)<(aa .i64 (ex-ey)))then(70:Int)else(aa .i64 (ex-ey)))))-ey)),()))).1.2.1==Y)))||((decide ((aa .i64 ((aa .i64 (ex-(if((70:Int)<(aa .i64 (ex-ey)))then(70:Int)else(aa .i64 (ex-ey)))))-ey))>(63:Int)))&&(Y !=(0:Int)))),())))))))then(some (A3.F (f,(m,(nx,((Ly.F ((AE.F (((0:Int),(X,())),((if((70:Int)<(aa .i64 (ex-ey)))then(70:Int)else(aa .i64 (ex-ey))),()))).1,(AL.F (((0:Int),(Y,())),((aa .i64 ((aa .i64 (ex-(if((70:Int)<(aa .i64 (ex-ey)))then(70:Int)else(aa .i64 (ex-ey)))))-ey)),()))))).1,((aa .i64 (ex-(if((70:Int)<(aa .i64 (ex-ey)))then(70:Int)else(aa .i64 (ex-ey))))),(((!(((AE.F ((AL.F (((0:Int),(Y,())),((aa .i64 ((aa .i64 (ex-(if((70:Int)<(aa .i64 (ex-ey)))then(70:Int)else(aa .i64 (ex-ey)))))-ey)),()))).1,((aa .i64 ((aa .i64 (ex-(if((70:Int)<(aa .i64 (ex-ey)))then(70:Int)else(aa .i64 (ex-ey)))))-ey)),()))).1.1==(0:Int))&&((AE.F ((AL.F (((0:Int),(Y,())),((aa .i64 ((aa .i64 (ex-(if((70:Int)<(aa .i64 (ex-ey)))then(70:Int)else(aa .i64 (ex-ey)))))-ey)),()))).1,((aa .i64 ((aa .i64 (ex-(if((70:Int)<(aa .i64 (ex-ey)))then(70:Int)else(aa .i64 (ex-ey)))))-ey)),()))).1.2.1==Y)))||((decide ((aa .i64 ((aa .i64 (ex-(if((70:Int)<(aa .i64 (ex-ey)))then(70:Int)else(aa .i64 (ex-ey)))))-ey))>(63:Int)))&&(Y !=(0:Int)))),()))))))))else none)else none)else bif(Du.pre ((AE.F (((0:Int),(X,())),((if((70:Int)<(aa .i64 (ex-ey)))then(70:Int)else(aa .i64 (ex-ey))),()))).1,(AL.F (((0:Int),(Y,())),((aa .i64 ((aa .i64 (ex-(if((70:Int)<(aa .i64 (ex-ey)))then(70:Int)else(aa .i64 (ex-ey)))))-ey)),())))))then(bif(decide ((Du.F ((AE.F (((0:Int),(X,())),((if((70:Int)<(aa .i64 (ex-ey)))then(70:Int)else(aa .i64 (ex-ey))),()))).1,(AL.F (((0:Int),(Y,())),((aa .i64 ((aa .i64 (ex-(if((70:Int)<(aa .i64 (ex-ey)))then(70:Int)else(aa .i64 (ex-ey)))))-ey)),()))))).1<(0:Int)))then(bif(BF.pre ((AL.F (((0:Int),(Y,())),((aa .i64 ((aa .i64 (ex-(if((70:Int)<(aa .i64 (ex-ey)))then(70:Int)else(aa .i64 (ex-ey)))))-ey)),()))).1,(AE.F (((0:Int),(X,())),((if((70:Int)<(aa .i64 (ex-ey)))then(70:Int)else(aa .i64 (ex-ey))),())))))then(bif((!(((AE.F ((AL.F (((0:Int),(Y,())),((aa .i64 ((aa .i64 (ex-(if((70:Int)<(aa .i64 (ex-ey)))then(70:Int)else(aa .i64 (ex-ey)))))-ey)),()))).1,((aa .i64 ((aa .i64 (ex-(if((70:Int)<(aa .i64 (ex-ey)))then(70:Int)else(aa .i64 (ex-ey)))))-ey)),()))).1.1==(0:Int))&&((AE.F ((AL.F (((0:Int),(Y,())),((aa .i64 ((aa .i64 (ex-(if((70:Int)<(aa .i64 (ex-ey)))then(70:Int)else(aa .i64 (ex-ey)))))-ey)),()))).1,((aa .i64 ((aa .i64 (ex-(if((70:Int)<(aa .i64 (ex-ey)))then(70:Int)else(aa .i64 (ex-ey)))))-ey)),()))).1.2.1==Y)))||((decide ((aa .i64 ((aa .i64 (ex-(if((70:Int)<(aa .i64 (ex-ey)))then(70:Int)else(aa .i64 (ex-ey)))))-ey))>(63:Int)))&&(Y !=(0:Int))))then(bif(BF.pre ((BF.F ((AL.F (((0:Int),(Y,())),((aa .i64 ((aa .i64 (ex-(if((70:Int)<(aa .i64 (ex-ey)))then(70:Int)else(aa .i64 (ex-ey)))))-ey)),()))).1,(AE.F (((0:Int),(X,())),((if((70:Int)<(aa .i64 (ex-ey)))then(70:Int)else(aa .i64 (ex-ey))),()))))).1,(((0:Int),((1:Int),())),())))then(bif((((BF.F ((BF.F ((AL.F (((0:Int),(Y,())),((aa .i64 ((aa .i64 (ex-(if((70:Int)<(aa .i64 (ex-ey)))then(70:Int)else(aa .i64 (ex-ey)))))-ey)),()))).1,(AE.F (((0:Int),(X,())),((if((70:Int)<(aa .i64 (ex-ey)))then(70:Int)else(aa .i64 (ex-ey))),()))))).1,(((0:Int),((1:Int),())),()))).1.1==(0:Int))&&((BF.F ((BF.F ((AL.F (((0:Int),(Y,())),((aa .i64 ((aa .i64 (ex-(if((70:Int)<(aa .i64 (ex-ey)))then(70:Int)else(aa .i64 (ex-ey)))))-ey)),()))).1,(AE.F (((0:Int),(X,())),((if((70:Int)<(aa .i64 (ex-ey)))then(70:Int)else(aa .i64 (ex-ey))),()))))).1,(((0:Int),((1:Int),())),()))).1.2.1==(0:Int)))&&(!((!(((AE.F ((AL.F (((0:Int),(Y,())),((aa .i64 ((aa .i64 (ex-(if((70:Int)<(aa .i64 (ex-ey)))then(70:Int)else(aa .i64 (ex-ey)))))-ey)),()))).1,((aa .i64 ((aa .i64 (ex-(if((70:Int)<(aa .i64 (ex-ey)))then(70:Int)else(aa .i64 (ex-ey)))))-ey)),()))).1.1==(0:Int))&&((AE.F ((AL.F (((0:Int),(Y,())),((aa .i64 ((aa .i64 (ex-(if((70:Int)<(aa .i64 (ex-ey)))then(70:Int)else(aa .i64 (ex-ey)))))-ey)),()))).1,((aa .i64 ((aa .i64 (ex-(if((70:Int)<(aa .i64 (ex-ey)))then(70:Int)else(aa .i64 (ex-ey)))))-ey)),()))).1.2.1==Y)))||((decide ((aa .i64 ((aa .i64 (ex-(if((70:Int)<(aa .i64 (ex-ey)))then(70:Int)else(aa .i64 (ex-ey)))))-ey))>(63:Int)))&&(Y !=(0:Int))))))then(bif(Bb.pre (f,((m==(4:Int)),())))then(some ((Bb.F (f,((m==(4:Int)),()))).1,((0:Int),((0:Int),()))))else none)else bif(A3.pre (f,(m,(ny,((BF.F ((BF.F ((AL.F (((0:Int),(Y,())),((aa .i64 ((aa .i64 (ex-(if((70:Int)<(aa .i64 (ex-ey)))then(70:Int)else(aa .i64 (ex-ey)))))-ey)),()))).1,(AE.F (((0:Int),(X,())),((if((70:Int)<(aa .i64 (ex-ey)))then(70:Int)else(aa .i64 (ex-ey))),()))))).1,(((0:Int),((1:Int),())),()))).1,((aa .i64 (ex-(if((70:Int)<(aa .i64 (ex-ey)))then(70:Int)else(aa .i64 (ex-ey))))),(((!(((AE.F ((AL.F (((0:Int),(Y,())),((aa .i64 ((aa .i64 (ex-(if((70:Int)<(aa .i64 (ex-ey)))then(70:Int)else(aa .i64 (ex-ey)))))-ey)),()))).1,((aa .i64 ((aa .i64 (ex-(if((70:Int)<(aa .i64 (ex-ey)))then(70:Int)else(aa .i64 (ex-ey)))))-ey)),()))).1.1==(0:Int))&&((AE.F ((AL.F (((0:Int),(Y,())),((aa .i64 ((aa .i64 (ex-(if((70:Int)<(aa .i64 (ex-ey)))then(70:Int)else(aa .i64 (ex-ey)))))-ey)),()))).1,((aa .i64 ((aa .i64 (ex-(if((70:Int)<(aa .i64 (ex-ey)))then(70:Int)else(aa .i64 (ex-ey)))))-ey)),()))).1.2.1==Y)))||((decide ((aa .i64 ((aa .i64 (ex-(if((70:Int)<(aa .i64 (ex-ey)))then(70:Int)else(aa .i64 (ex-ey)))))-ey))>(63:Int)))&&(Y !=(0:Int)))),())))))))then(some (A3.F (f,(m,(ny,((BF.F ((BF.F ((AL.F (((0:Int),(Y,())),((aa .i64 ((aa .i64 (ex-(if((70:Int)<(aa .i64 (ex-ey)))then(70:Int)else(aa .i64 (ex-ey)))))-ey)),()))).1,(AE.F (((0:Int),(X,())),((if((70:Int)<(aa .i64 (ex-ey)))then(70:Int)else(aa .i64 (ex-ey))),()))))).1,(((0:Int),((1:Int),())),()))).1,((aa .i64 (ex-(if((70:Int)<(aa .i64 (ex-ey)))then(70:Int)else(aa .i64 (ex-ey))))),(((!(((AE.F ((AL.F (((0:Int),(Y,())),((aa .i64 ((aa .i64 (ex-(if((70:Int)<(aa .i64 (ex-ey)))then(70:Int)else(aa .i64 (ex-ey)))))-ey)),()))).1,((aa .i64 ((aa .i64 (ex-(if((70:Int)<(aa .i64 (ex-ey)))then(70:Int)else(aa .i64 (ex-ey)))))-ey)),()))).1.1==(0:Int))&&((AE.F ((AL.F (((0:Int),(Y,())),((aa .i64 ((aa .i64 (ex-(if((70:Int)<(aa .i64 (ex-ey)))then(70:Int)else(aa .i64 (ex-ey)))))-ey)),()))).1,((aa .i64 ((aa .i64 (ex-(if((70:Int)<(aa .i64 (ex-ey)))then(70:Int)else(aa .i64 (ex-ey)))))-ey)),()))).1.2.1==Y)))||((decide ((aa .i64 ((aa .i64 (ex-(if((70:Int)<(aa .i64 (ex-ey)))then(70:Int)else(aa .i64 (ex-ey)))))-ey))>(63:Int)))&&(Y !=(0:Int)))),()))))))))else none)else none)else bif((((BF.F ((AL.F (((0:Int),(Y,())),((aa .i64 ((aa .i64 (ex-(if((70:Int)<(aa .i64 (ex-ey)))then(70:Int)else(aa .i64 (ex-ey)))))-ey)),()))).1,(AE.F (((0:Int),(X,())),((if((70:Int)<(aa .i64 (ex-ey)))then(70:Int)else(aa .i64 (ex-ey))),()))))).1.1==(0:Int))&&((BF.F ((AL.F (((0:Int),(Y,())),((aa .i64 ((aa .i64 (ex-(if((70:Int)<(aa .i64 (ex-ey)))then(70:Int)else(aa .i64 (ex-ey)))))-ey)),()))).1,(AE.F (((0:Int),(X,())),((if((70:Int)<(aa .i64 (ex-ey)))then(70:Int)else(aa .i64 (ex-ey))),()))))).1.2.1==(0:Int)))&&(!((!(((AE.F ((AL.F (((0:Int),(Y,())),((aa .i64 ((aa .i64 (ex-(if((70:Int)<(aa .i64 (ex-ey)))then(70:Int)else(aa .i64 (ex-ey)))))-ey)),()))).1,((aa .i64 ((aa .i64 (ex-(if((70:Int)<(aa .i64 (ex-ey)))then(70:Int)else(aa .i64 (ex-ey)))))-ey)),()))).1.1==(0:Int))&&((AE.F ((AL.F (((0:Int),(Y,())),((aa .i64 ((aa .i64 (ex-(if((70:Int)<(aa .i64 (ex-ey)))then(70:Int)else(aa .i64 (ex-ey)))))-ey)),()))).1,((aa .i64 ((aa .i64 (ex-(if((70:Int)<(aa .i64 (ex-ey)))then(70:Int)else(aa .i64 (ex-ey)))))-ey)),()))).1.2.1==Y)))||((decide ((aa .i64 ((aa .i64 (ex-(if((70:Int)<(aa .i64 (ex-ey)))then(70:Int)else(aa .i64 (ex-ey)))))-ey))>(63:Int)))&&(Y !=(0:Int))))))then(bif(Bb.pre (f,((m==(4:Int)),())))then(some ((Bb.F (f,((m==(4:Int)),()))).1,((0:Int),((0:Int),()))))else none)else bif(A3.pre (f,(m,(ny,((BF.F ((AL.F (((0:Int),(Y,())),((aa .i64 ((aa .i64 (ex-(if((70:Int)<(aa .i64 (ex-ey)))then(70:Int)else(aa .i64 (ex-ey)))))-ey)),()))).1,(AE.F (((0:Int),(X,())),((if((70:Int)<(aa .i64 (ex-ey)))then(70:Int)else(aa .i64 (ex-ey))),()))))).1,((aa .i64 (ex-(if((70:Int)<(aa .i64 (ex-ey)))then(70:Int)else(aa .i64 (ex-ey))))),(((!(((AE.F ((AL.F (((0:Int),(Y,())),((aa .i64 ((aa .i64 (ex-(if((70:Int)<(aa .i64 (ex-ey)))then(70:Int)else(aa .i64 (ex-ey)))))-ey)),()))).1,((aa .i64 ((aa .i64 (ex-(if((70:Int)<(aa .i64 (ex-ey)))then(70:Int)else(aa .i64 (ex-ey)))))-ey)),()))).1.1==(0:Int))&&((AE.F ((AL.F (((0:Int),(Y,())),((aa .i64 ((aa .i64 (ex-(if((70:Int)<(aa .i64 (ex-ey)))then(70:Int)else(aa .i64 (ex-ey)))))-ey)),()))).1,((aa .i64 ((aa .i64 (ex-(if((70:Int)<(aa .i64 (ex-ey)))then(70:Int)else(aa .i64 (ex-ey)))))-ey)),()))).1.2.1==Y)))||((decide ((aa .i64 ((aa .i64 (ex-(if((70:Int)<(aa .i64 (ex-ey)))then(70:Int)else(aa .i64 (ex-ey)))))-ey))>(63:Int)))&&(Y !=(0:Int)))),())))))))then(some (A3.F (f,(m,(ny,((BF.F ((AL.F (((0:Int),(Y,())),((aa .i64 ((aa .i64 (ex-(if((70:Int)<(aa .i64 (ex-ey)))then(70:Int)else(aa .i64 (ex-ey)))))-ey)),()))).1,(AE.F (((0:Int),(X,())),((if((70:Int)<(aa .i64 (ex-ey)))then(70:Int)else(aa .i64 (ex-ey))),()))))).1,((aa .i64 (ex-(if((70:Int)<(aa .i64 (ex-ey)))then(70:Int)else(aa .i64 (ex-ey))))),(((!(((AE.F ((AL.F (((0:Int),(Y,())),((aa .i64 ((aa .i64 (ex-(if((70:Int)<(aa .i64 (ex-ey)))then(70:Int)else(aa .i64 (ex-ey)))))-ey)),()))).1,((aa .i64 ((aa .i64 (ex-(if((70:Int)<(aa .i64 (ex-ey)))then(70:Int)else(aa .i64 (ex-ey)))))-ey)),()))).1.1==(0:Int))&&((AE.F ((AL.F (((0:Int),(Y,())),((aa .i64 ((aa .i64 (ex-(if((70:Int)<(aa .i64 (ex-ey)))then(70:Int)else(aa .i64 (ex-ey)))))-ey)),()))).1,((aa .i64 ((aa .i64 (ex-(if((70:Int)<(aa .i64 (ex-ey)))then(70:Int)else(aa .i64 (ex-ey)))))-ey)),()))).1.2.1==Y)))||((decide ((aa .i64 ((aa .i64 (ex-(if((70:Int)<(aa .i64 (ex-ey)))then(70:Int)else(aa .i64 (ex-ey)))))-ey))>(63:Int)))&&(Y !=(0:Int)))),()))))))))else none)else none)else bif(BF.pre ((AE.F (((0:Int),(X,())),((if((70:Int)<(aa .i64 (ex-ey)))then(70:Int)else(aa .i64 (ex-ey))),()))).1,(AL.F (((0:Int),(Y,())),((aa .i64 ((aa .i64 (ex-(if((70:Int)<(aa .i64 (ex-ey)))then(70:Int)else(aa .i64 (ex-ey)))))-ey)),())))))then(bif((!(((AE.F ((AL.F (((0:Int),(Y,())),((aa .i64 ((aa .i64 (ex-(if((70:Int)<(aa .i64 (ex-ey)))then(70:Int)else(aa .i64 (ex-ey)))))-ey)),()))).1,((aa .i64 ((aa .i64 (ex-(if((70:Int)<(aa .i64 (ex-ey)))then(70:Int)else(aa .i64 (ex-ey)))))-ey)),()))).1.1==(0:Int))&&((AE.F ((AL.F (((0:Int),(Y,())),((aa .i64 ((aa .i64 (ex-(if((70:Int)<(aa .i64 (ex-ey)))then(70:Int)else(aa .i64 (ex-ey)))))-ey)),()))).1,((aa .i64 ((aa .i64 (ex-(if((70:Int)<(aa .i64 (ex-ey)))then(70:Int)else(aa .i64 (ex-ey)))))-ey)),()))).1.2.1==Y)))||((decide ((aa .i64 ((aa .i64 (ex-(if((70:Int)<(aa .i64 (ex-ey)))then(70:Int)else(aa .i64 (ex-ey)))))-ey))>(63:Int)))&&(Y !=(0:Int))))then(bif(BF.pre ((BF.F ((AE.F (((0:Int),(X,())),((if((70:Int)<(aa .i64 (ex-ey)))then(70:Int)else(aa .i64 (ex-ey))),()))).1,(AL.F (((0:Int),(Y,())),((aa .i64 ((aa .i64 (ex-(if((70:Int)<(aa .i64 (ex-ey)))then(70:Int)else(aa .i64 (ex-ey)))))-ey)),()))))).1,(((0:Int),((1:Int),())),())))then(bif((((BF.F ((BF.F ((AE.F (((0:Int),(X,())),((if((70:Int)<(aa .i64 (ex-ey)))then(70:Int)else(aa .i64 (ex-ey))),()))).1,(AL.F (((0:Int),(Y,())),((aa .i64 ((aa .i64 (ex-(if((70:Int)<(aa .i64 (ex-ey)))then(70:Int)else(aa .i64 (ex-ey)))))-ey)),()))))).1,(((0:Int),((1:Int),())),()))).1.1==(0:Int))&&((BF.F ((BF.F ((AE.F (((0:Int),(X,())),((if((70:Int)<(aa .i64 (ex-ey)))then(70:Int)else(aa .i64 (ex-ey))),()))).1,(AL.F (((0:Int),(Y,())),((aa .i64 ((aa .i64 (ex-(if((70:Int)<(aa .i64 (ex-ey)))then(70:Int)else(aa .i64 (ex-ey)))))-ey)),()))))).1,(((0:Int),((1:Int),())),()))).1.2.1==(0:Int)))&&(!((!(((AE.F ((AL.F (((0:Int),(Y,())),((aa .i64 ((aa .i64 (ex-(if((70:Int)<(aa .i64 (ex-ey)))then(70:Int)else(aa .i64 (ex-ey)))))-ey)),()))).1,((aa .i64 ((aa .i64 (ex-(if((70:Int)<(aa .i64 (ex-ey)))then(70:Int)else(aa .i64 (ex-ey)))))-ey)),()))).1.1==(0:Int))&&((AE.F ((AL.F (((0:Int),(Y,())),((aa .i64 ((aa .i64 (ex-(if((70:Int)<(aa .i64 (ex-ey)))then(70:Int)else(aa .i64 (ex-ey)))))-ey)),()))).1,((aa .i64 ((aa .i64 (ex-(if((70:Int)<(aa .i64 (ex-ey)))then(70:Int)else(aa .i64 (ex-ey)))))-ey)),()))).1.2.1==Y)))||((decide ((aa .i64 ((aa .i64 (ex-(if((70:Int)<(aa .i64 (ex-ey)))then(70:Int)else(aa .i64 (ex-ey)))))-ey))>(63:Int)))&&(Y !=(0:Int))))))then(bif(Bb.pre (f,((m==(4:Int)),())))then(some ((Bb.F (f,((m==(4:Int)),()))).1,((0:Int),((0:Int),()))))else none)else bif(A3.pre (f,(m,(nx,((BF.F ((BF.F ((AE.F (((0:Int),(X,())),((if((70:Int)<(aa .i64 (ex-ey)))then(70:Int)else(aa .i64 (ex-ey))),()))).1,(AL.F (((0:Int),(Y,())),((aa .i64 ((aa .i64 (ex-(if((70:Int)<(aa .i64 (ex-ey)))then(70:Int)else(aa .i64 (ex-ey)))))-ey)),()))))).1,(((0:Int),((1:Int),())),()))).1,((aa .i64 (ex-(if((70:Int)<(aa .i64 (ex-ey)))then(70:Int)else(aa .i64 (ex-ey))))),(((!(((AE.F ((AL.F (((0:Int),(Y,())),((aa .i64 ((aa .i64 (ex-(if((70:Int)<(aa .i64 (ex-ey)))then(70:Int)else(aa .i64 (ex-ey)))))-ey)),()))).1,((aa .i64 ((aa .i64 (ex-(if((70:Int)<(aa .i64 (ex-ey)))then(70:Int)else(aa .i64 (ex-ey)))))-ey)),()))).1.1==(0:Int))&&((AE.F ((AL.F (((0:Int),(Y,())),((aa .i64 ((aa .i64 (ex-(if((70:Int)<(aa .i64 (ex-ey)))then(70:Int)else(aa .i64 (ex-ey)))))-ey)),()))).1,((aa .i64 ((aa .i64 (ex-(if((70:Int)<(aa .i64 (ex-ey)))then(70:Int)else(aa .i64 (ex-ey)))))-ey)),()))).1.2.1==Y)))||((decide ((aa .i64 ((aa .i64 (ex-(if((70:Int)<(aa .i64 (ex-ey)))then(70:Int)else(aa .i64 (ex-ey)))))-ey))>(63:Int)))&&(Y !=(0:Int)))),())))))))then(some (A3.F (f,(m,(nx,((BF.F ((BF.F ((AE.F (((0:Int),(X,())),((if((70:Int)<(aa .i64 (ex-ey)))then(70:Int)else(aa .i64 (ex-ey))),()))).1,(AL.F (((0:Int),(Y,())),((aa .i64 ((aa .i64 (ex-(if((70:Int)<(aa .i64 (ex-ey)))then(70:Int)else(aa .i64 (ex-ey)))))-ey)),()))))).1,(((0:Int),((1:Int),())),()))).1,((aa .i64 (ex-(if((70:Int)<(aa .i64 (ex-ey)))then(70:Int)else(aa .i64 (ex-ey))))),(((!(((AE.F ((AL.F (((0:Int),(Y,())),((aa .i64 ((aa .i64 (ex-(if((70:Int)<(aa .i64 (ex-ey)))then(70:Int)else(aa .i64 (ex-ey)))))-ey)),()))).1,((aa .i64 ((aa .i64 (ex-(if((70:Int)<(aa .i64 (ex-ey)))then(70:Int)else(aa .i64 (ex-ey)))))-ey)),()))).1.1==(0:Int))&&((AE.F ((AL.F (((0:Int),(Y,())),((aa .i64 ((aa .i64 (ex-(if((70:Int)<(aa .i64 (ex-ey)))then(70:Int)else(aa .i64 (ex-ey)))))-ey)),()))).1,((aa .i64 ((aa .i64 (ex-(if((70:Int)<(aa .i64 (ex-ey)))then(70:Int)else(aa .i64 (ex-ey)))))-ey)),()))).1.2.1==Y)))||((decide ((aa .i64 ((aa .i64 (ex-(if((70:Int)<(aa .i64 (ex-ey)))then(70:Int)else(aa .i64 (ex-ey)))))-ey))>(63:Int)))&&(Y !=(0:Int)))),()))))))))else none)else none)else bif((((BF.F ((AE.F (((0:Int),(X,())),((if((70:Int)<(aa .i64 (ex-ey)))then(70:Int)else(aa .i64 (ex-ey))),()))).1,(AL.F (((0:Int),(Y,())),((aa .i64 ((aa .i64 (ex-(if((70:Int)<(aa .i64 (ex-ey)))then(70:Int)else(aa .i64 (ex-ey)))))-ey)),()))))).1.1==(0:Int))&&((BF.F ((AE.F (((0:Int),(X,())),((if((70:Int)<(aa .i64 (ex-ey)))then(70:Int)else(aa .i64 (ex-ey))),()))).1,(AL.F (((0:Int),(Y,())),((aa .i64 ((aa .i64 (ex-(if((70:Int)<(aa .i64 (ex-ey)))then(70:Int)else(aa .i64 (ex-ey)))))-ey)),()))))).1.2.1==(0:Int)))&&(!((!(((AE.F ((AL.F (((0:Int),(Y,())),((aa .i64 ((aa .i64 (ex-(if((70:Int)<(aa .i64 (ex-ey)))then(70:Int)else(aa .i64 (ex-ey)))))-ey)),()))).1,((aa .i64 ((aa .i64 (ex-(if((70:Int)<(aa .i64 (ex-ey)))then(70:Int)else(aa .i64 (ex-ey)))))-ey)),()))).1.1==(0:Int))&&((AE.F ((AL.F (((0:Int),(Y,())),((aa .i64 ((aa .i64 (ex-(if((70:Int)<(aa .i64 (ex-ey)))then(70:Int)else(aa .i64 (ex-ey)))))-ey)),()))).1,((aa .i64 ((aa .i64 (ex-(if((70:Int)<(aa .i64 (ex-ey)))then(70:Int)else(aa .i64 (ex-ey)))))-ey)),()))).1.2.1==Y)))||((decide ((aa .i64 ((aa .i64 (ex-(if((70:Int)<(aa .i64 (ex-ey)))then(70:Int)else(aa .i64 (ex-ey)))))-ey))>(63:Int)))&&(Y !=(0:Int))))))then(bif(Bb.pre (f,((m==(4:Int)),())))then(some ((Bb.F (f,((m==(4:Int)),()))).1,((0:Int),((0:Int),()))))else none)else bif(A3.pre (f,(m,(nx,((BF.F ((AE.F (((0:Int),(X,())),((if((70:Int)<(aa .i64 (ex-ey)))then(70:Int)else(aa .i64 (ex-ey))),()))).1,(AL.F (((0:Int),(Y,())),((aa .i64 ((aa .i64 (ex-(if((70:Int)<(aa .i64 (ex-ey)))then(70:Int)else(aa .i64 (ex-ey)))))-ey)),()))))).1,((aa .i64 (ex-(if((70:Int)<(aa .i64 (ex-ey)))then(70:Int)else(aa .i64 (ex-ey))))),(((!(((AE.F ((AL.F (((0:Int),(Y,())),((aa .i64 ((aa .i64 (ex-(if((70:Int)<(aa .i64 (ex-ey)))then(70:Int)else(aa .i64 (ex-ey)))))-ey)),()))).1,((aa .i64 ((aa .i64 (ex-(if((70:Int)<(aa .i64 (ex-ey)))then(70:Int)else(aa .i64 (ex-ey)))))-ey)),()))).1.1==(0:Int))&&((AE.F ((AL.F (((0:Int),(Y,())),((aa .i64 ((aa .i64 (ex-(if((70:Int)<(aa .i64 (ex-ey)))then(70:Int)else(aa .i64 (ex-ey)))))-ey)),()))).1,((aa .i64 ((aa .i64 (ex-(if((70:Int)<(aa .i64 (ex-ey)))then(70:Int)else(aa .i64 (ex-ey)))))-ey)),()))).1.2.1==Y)))||((decide ((aa .i64 ((aa .i64 (ex-(if((70:Int)<(aa .i64 (ex-ey)))then(70:Int)else(aa .i64 (ex-ey)))))-ey))>(63:Int)))&&(Y !=(0:Int)))),())))))))then(some (A3.F (f,(m,(nx,((BF.F ((AE.F (((0:Int),(X,())),((if((70:Int)<(aa .i64 (ex-ey)))then(70:Int)else(aa .i64 (ex-ey))),()))).1,(AL.F (((0:Int),(Y,())),((aa .i64 ((aa .i64 (ex-(if((70:Int)<(aa .i64 (ex-ey)))then(70:Int)else(aa .i64 (ex-ey)))))-ey)),()))))).1,((aa .i64 (ex-(if((70:Int)<(aa .i64 (ex-ey)))then(70:Int)else(aa .i64 (ex-ey))))),(((!(((AE.F ((AL.F (((0:Int),(Y,())),((aa .i64 ((aa .i64 (ex-(if((70:Int)<(aa .i64 (ex-ey)))then(70:Int)else(aa .i64 (ex-ey)))))-ey)),()))).1,((aa .i64 ((aa .i64 (ex-(if((70:Int)<(aa .i64 (ex-ey)))then(70:Int)else(aa .i64 (ex-ey)))))-ey)),()))).1.1==(0:Int))&&((AE.F ((AL.F (((0:Int),(Y,())),((aa .i64 ((aa .i64 (ex-(if((70:Int)<(aa .i64 (ex-ey)))then(70:Int)else(aa .i64 (ex-ey)))))-ey)),()))).1,((aa .i64 ((aa .i64 (ex-(if((70:Int)<(aa .i64 (ex-ey)))then(70:Int)else(aa .i64 (ex-ey)))))-ey)),()))).1.2.1==Y)))||((decide ((aa .i64 ((aa .i64 (ex-(if((70:Int)<(aa .i64 (ex-ey)))then(70:Int)else(aa .i64 (ex-ey)))))-ey))>(63:Int)))&&(Y !=(0:Int)))),()))))))))else none)else none)else none)else none)else none)else none)else none
theorem aVa(f m:Int)(nx:Bool)(X ex:Int)(ny:Bool)(Y ey:Int):Uf (f,m,(nx,X,ex,()),(ny,Y,ey,()),()) =
 (bif((X==0)&&(Y==0))&&(nx==ny)then(bif Bb.pre (f,nx,())then some ((Bb.F (f,nx,())).1,0,0,())else none)
 else bif(X==0)||((Y !=0)&&decide (ex<ey))then(bif X==0 then Wo f m ny Y ey nx X ey else Wo f m ny Y ey nx X ex)
 else bif Y==0 then Wo f m nx X ex ny Y ex else Wo f m nx X ex ny Y ey):=by kernel_rfl
theorem aAz{n:Nat}(h:n<2^64):((0:Int),((n:Int),()))=Wi n:=by
 unfold Wi;rw[bu h,ar h];rfl
theorem aLK:((0:Int),((1:Int),()))=Wi 1:=rfl
theorem aAA{n:Nat}(h:n<2^128):(((Wi n).1==0)&&((Wi n).2.1==0))=decide (n=0):=by
 show(((n/2^64:Nat):Int)==0&&((n%2^64:Nat):Int)==0)=_;rw[FM,FM,cu,ai,beq_iff_eq,beq_iff_eq,decide_eq_true_eq];omega
theorem aOY{Y dn:Nat}(hY:Y<2^64):((!(((Wi (Y/2^dn*2^dn)).1==0)&&((Wi (Y/2^dn*2^dn)).2.1==(Y:Int))))||(decide ((dn:Int)>63)&&((Y:Int)!=0)))=decide (Y%2^dn≠0):=by
 have hdm:=ck Y (2^dn);rw[aq]at hdm;generalize hL:Y/2^dn*2^dn=L at *
 show((!(((L/2^64:Nat):Int)==0&&((L%2^64:Nat):Int)==(Y:Int)))||(decide ((dn:Int)>63)&&((Y:Int)!=0)))=_;rw[FM,Is,VK];by_cases h:Y%2^dn=0
 ·rw[decide_eq_false (p:=Y%2^dn≠0) (by omega)];rw[show(L/2^64==0)=true by rw[beq_iff_eq];omega,show(L%2^64==Y)=true by rw[beq_iff_eq];omega];by_cases hy:Y=0
  ·rw[hy];simp
  ·have:¬(dn:Int)>63:=fun hd=>by
    have h1:Y<2^dn:=ah hY (ae (by decide) (by omega));rw[ar h1]at h;exact hy h
   rw[decide_eq_false this];rfl
 ·rw[decide_eq_true (p:=Y%2^dn≠0) h];rw[show(L%2^64==Y)=false by rw[beq_eq_false_iff_ne];omega];simp
theorem f9{n k:Nat}(h:2^k<=n):k+1<=An n:=by
 have h1:=G8 n;have:k<An n:=(ct (a:=2) (by decide)).1 (av h h1);omega
def FW(f m:Int)(nx:Bool)(X:Nat)(ex:Int)(ny:Bool)(Y:Nat)(ey:Int):Nat×Nat:=let e:=if ex<=ey then ex else ey;let a:=X*2^(ex-e).toNat;let b:=Y*2^(ey-e).toNat;if nx=ny then(if a+b=0 then(Dg f nx,0)else AH f m nx (a+b) e false)else if a=b then(Dg f (m==4),0)else if b<a then AH f m nx (a-b) e false else AH f m ny (b-a) e false
theorem wY{f m:Int}{nx:Bool}{X:Nat}{ey:Int}{ny:Bool}{Y:Nat}(D:Nat):
  FW f m nx X (ey+D) ny Y ey=if nx=ny then(if X*2^D+Y=0 then(Dg f nx,0)else AH f m nx (X*2^D+Y) ey false)
   else if X*2^D=Y then(Dg f (m==4),0)else if Y<X*2^D then AH f m nx (X*2^D-Y) ey false else AH f m ny (Y-X*2^D) ey false:=by
 unfold FW;have he:(if ey+(D:Int)<=ey then ey+(D:Int)else ey)=ey:=by split<;>omega
 simp only[he];rw[show(ey+(D:Int)-ey).toNat=D by omega,show(ey-ey).toNat=0 by omega,ij,gf]
theorem wZ(f m:Int)(nx:Bool)(X:Nat)(ex:Int)(ny:Bool)(Y:Nat)(ey:Int):FW f m nx X ex ny Y ey=FW f m ny Y ey nx X ex:=by
 unfold FW;have he:(if ex<=ey then ex else ey)=(if ey<=ex then ey else ex):=by split<;>split<;>omega
 simp only[he];generalize(if ey<=ex then ey else ex)=e;generalize X*2^(ex-e).toNat=a;generalize Y*2^(ey-e).toNat=b;by_cases hn:nx=ny
 ·subst hn;rw[if_pos rfl,if_pos rfl,jc]
 ·rw[if_neg hn,if_neg (Ne.symm hn)];rcases gc a b with h|h|h
  ·rw[if_neg (by omega),if_neg (by omega),if_neg (by omega),if_pos h]
  ·rw[if_pos h,if_pos h.symm]
  ·rw[if_neg (by omega),if_pos h,if_neg (by omega),if_neg (by omega)]
theorem aS{f m:Int}(hf:Fm f)(nx:Bool)(X:Nat)(ex:Int)(ny:Bool)(ey:Int):FW f m nx X ex ny 0 ey=if X=0 then(if nx=ny then(Dg f nx,0)else(Dg f (m==4),0))else AH f m nx X ex false:=by
 rcases Int.le_total ex ey with h|h
 ·obtain⟨D,hD⟩:=cw (show 0<=ey-ex by omega);have:ey=ex+D:=by omega
  subst this;rw[wZ,wY,fc,dw];by_cases hn:nx=ny
  ·subst hn;simp only[↓reduceIte]
  ·rw[if_neg (Ne.symm hn),if_neg hn];by_cases hx:X=0
   ·subst hx;simp only[↓reduceIte]
   ·rw[if_neg (by omega),if_neg (by omega),if_neg hx,my]
 ·obtain⟨D,hD⟩:=cw (show 0<=ex-ey by omega);have:ex=ey+D:=by omega
  subst this;rw[wY,de];by_cases hx:X=0
  ·subst hx;rw[if_pos rfl,fc,if_pos rfl,if_pos rfl]
  ·have hp:=ag D;have hpos:0<X*2^D:=gd (by omega) hp;rw[if_neg hx];by_cases hn:nx=ny
   ·rw[if_pos hn,if_neg (by omega),M4 hf hx]
   ·rw[if_neg hn,if_neg (by omega),if_pos hpos,my,M4 hf hx]
theorem nR{f m:Int}(hf:Fm f)(hm:0<=m/\m<=5)(nx:Bool)(X D:Nat)(ny:Bool)(Y:Nat)(ey:Int)(hX:X<2^53)(hY:Y<2^53)(he:-2000<=ey/\ey+D<=2000)(h0:X≠0∨(Y=0/\nx≠ny)):
  Wo f m nx X (ey+D) ny Y ey=some (((FW f m nx X (ey+D) ny Y ey).1:Int),((FW f m nx X (ey+D) ny Y ey).2:Int),0,()):=by
 rw[wY];have hW:=Eg hf;have hP:=EX hf;have hU:∃U dn:Nat,(if(70:Int)<(D:Int)then(70:Int)else(D:Int))=(U:Int)/\D=U+dn/\U<=70/\(dn≠0->U=70):=by
  by_cases h:70<D
  ·exact⟨70,D-70,by rw[if_pos (by omega)];rfl,by omega,by omega,fun _=>rfl⟩
  ·exact⟨D,0,by rw[if_neg (by omega)],by omega,by omega,fun h=>absurd rfl h⟩
 obtain⟨U,dn,hU1,hU2,hU3,hU4⟩:=hU;have e1:aa .i64 (ey+(D:Int)-ey)=(D:Int):=by rw[As (by omega)];omega
 have e2:aa .i64 (ey+(D:Int)-(U:Int))=ey+(dn:Int):=by rw[As (by omega)];omega
 have e3:aa .i64 (ey+(dn:Int)-ey)=(dn:Int):=by rw[As (by omega)];omega
 have hpU:=ag U;have hpd:=ag dn;have hU70:2^U<=2^70:=ae (by decide) hU3;have hH:X*2^U<2^123:=by
  have h1:X*2^U<=X*2^70:=ce _ hU70;have h2:X*2^70<2^53*2^70:=cm hX (by decide);omega
 have hXD:X*2^D=X*2^U*2^dn:=by rw[hU2,ap,ao]
 have hbig:Y%2^dn≠0->2^70<=X*2^U/\X≠0:=fun h=>by
  have hd:dn≠0:=fun h1=>by rw[h1,ij,Nat.mod_one]at h;exact h rfl
  have hy:Y≠0:=fun h1=>by rw[h1,mu]at h;exact h rfl
  have hx:X≠0:=by
   rcases h0 with h|h
   ·exact h
   ·exact absurd h.1 hy
  refine⟨?_,hx⟩;rw[hU4 hd];exact il _ (by omega)
 have hYL:Y/2^dn<=Y:=dx _ _;have hLd:Y/2^dn*2^dn<=Y:=kb _ _;have p1:Q4 (((0:Int),((X:Int),())),((U:Int),()))=some (Wi (X*2^U),()):=by
  rw[aAz (by omega),pD _ _ (by omega),ar (by omega)]
 have p2:TP (((0:Int),((Y:Int),())),((dn:Int),()))=some (Wi (Y/2^dn),()):=by
  rw[aAz (by omega),aKb _ _ (by omega)]
 have p3:Q4 (Wi (Y/2^dn),((dn:Int),()))=some (Wi (Y/2^dn*2^dn),()):=by
  rw[pD _ _ (by omega),ar (by omega)]
 have p4:=aKc (X*2^U) (Y/2^dn) (by omega);have p5:=zG (X*2^U) (Y/2^dn);have pz:=Q3 hf (m==4);unfold Wo;simp only[e1,hU1,e2,e3,iP p1,gW p1,aPZ p2,aNn p2,iP p3,gW p3,cond_true,aP0 p4,aNo p4,aGI p5,aEA p5,aOY (show Y<2^64 by omega)];have hdm:=ck Y (2^dn);have hml:=bo Y hpd;have hX0H:X=0->X*2^U=0:=fun h=>by rw[h,fc]
 have hXb:X≠0->dn≠0->2^70<=X*2^U:=fun h1 h2=>by rw[hU4 h2];exact il _ (by omega)
 have hHp:X≠0->0<X*2^U:=fun h=>gd (by omega) hpU;clear e1 e2 e3 p1 p2 p3;rw[aq]at hdm;generalize hHe:X*2^U=H at *
 generalize hLe:Y/2^dn=L at *
 generalize hRe:Y%2^dn=R at *
 by_cases hn:nx=ny
 ·subst hn;rw[if_pos rfl,show(nx==nx)=true by cases nx<;>rfl,cond_true];have hX0:X≠0:=by
   rcases h0 with h|h
   ·exact h
   ·exact absurd rfl h.2
  have hHp:=hHp hX0;have hN:X*2^D+Y=Y+H*2^dn:=by rw[hXD,jc]
  have hNd:(X*2^D+Y)/2^dn=H+L:=by rw[hN,nz _ _ hpd,hLe,jc]
  have hNm:(X*2^D+Y)%2^dn=R:=by rw[hN,kz,hRe]
  have hbl:R≠0->fP f+2<=An (H+L):=fun h=>by
   have h1:=(hbig h).1;have:=f9 (n:=H+L) (k:=70) (by omega);omega
  have p6:=LV hf hm nx (H+L) (by omega) (ey+(dn:Int)) (by omega) (decide (R≠0)) (fun h=>hbl (by simpa using h));rw[if_neg (by omega)]at p6;simp only[Ix p6,In p6,cond_true];have htr:=aI (f:=f) (m:=m) (neg:=nx) (N:=X*2^D+Y) (k:=dn) (E:=ey) hf (by rw[hNd];omega) (by rw[hNd,hNm];exact hbl);rw[hNd,hNm]at htr;have hpp:0<H*2^dn:=gd hHp hpd;rw[htr,if_neg (by rw[hXD];omega)]
 ·rw[if_neg hn,show(nx==ny)=false by cases nx<;>cases ny<;>first|rfl|exact absurd rfl hn,cond_false];by_cases hlt:H<L
  ·have hm0:R=0:=by
    by_cases h:R=0
    ·exact h
    ·have:=(hbig h).1;omega
   have hdn:dn=0:=by
    by_cases h:dn=0
    ·exact h
    ·exfalso;rcases h0 with h1|h1
     ·have h2:=hXb h1 h;omega
     ·have:=h1.1;omega
   subst hdn;have hY1:Y=L:=by rw[←hLe];simp
   subst hY1;have hXD1:X*2^D=H:=by rw[hXD];simp
   rw[hm0,hXD1];have p7:=pE Y H (by omega) (by omega);have p6:=LV hf hm ny (Y-H) (by omega) (ey+((0:Nat):Int)) (by omega) false (fun h=>by cases h);rw[if_neg (by omega)]at p6;have z1:decide ((if H=Y then(0:Int)else if H<Y then -1 else 1)<0)=true:=by
    rw[if_neg (by omega),if_pos hlt];rfl
   have z2:decide ((0:Nat)≠0)=false:=by decide
   have z3:=aAA (n:=Y-H) (by omega);rw[decide_eq_false (p:=Y-H=0) (by omega)]at z3;simp only[z1,z2,cond_true,cond_false,vV p7,tW p7,z3,az,Ix p6,In p6];rw[if_neg (by omega),if_neg (by omega),gn,jn]
  ·have hge:L<=H:=by omega
   have p7:=pE H L (by omega) hge;have z1:decide ((if H=L then(0:Int)else if H<L then -1 else 1)<0)=false:=by
    by_cases h:H=L
    ·rw[if_pos h];rfl
    ·rw[if_neg h,if_neg hlt];rfl
   simp only[z1,cond_false,vV p7,tW p7,cond_true];by_cases hm0:R=0
   ·rw[hm0,show decide ((0:Nat)≠0)=false by decide,cond_false];have hYe:Y=L*2^dn:=by omega
    have z3:=aAA (n:=H-L) (by omega);rw[z3];by_cases hz:H-L=0
    ·have heq:X*2^D=Y:=by rw[hXD,hYe,show H=L by omega]
     rw[decide_eq_true hz,if_pos heq];simp only[bd,bf,cond_true,RL pz,RF pz];rfl
    ·rw[decide_eq_false hz];have p6:=LV hf hm nx (H-L) (by omega) (ey+(dn:Int)) (by omega) false (fun h=>by cases h);rw[if_neg hz]at p6;simp only[az,cond_false,Ix p6,In p6,cond_true];have hN:X*2^D-Y=(H-L)*2^dn:=by rw[hXD,Nat.sub_mul,←hYe]
     have hpp:0<(H-L)*2^dn:=gd (by omega) hpd;have hlt2:Y<X*2^D:=by omega
     rw[if_neg (by omega),if_pos hlt2,hN,M4 hf hz]
   ·rw[decide_eq_true (p:=R≠0) hm0,cond_true];obtain⟨hb1,hX0⟩:=hbig hm0;have p8:=pE (H-L) 1 (by omega) (by omega);rw[←aLK]at p8;have hbl:fP f+2<=An (H-L-1):=by
     have:=f9 (n:=H-L-1) (k:=69) (by omega);omega
    have p6:=LV hf hm nx (H-L-1) (by omega) (ey+(dn:Int)) (by omega) true (fun _=>hbl);rw[if_neg (by omega)]at p6;simp only[vV p8,tW p8,cond_true,bg,bm,cond_false,Ix p6,In p6];have h2:(L+1+(H-L-1))*2^dn=H*2^dn:=by rw[show L+1+(H-L-1)=H by omega]
    rw[cp,cp,fi]at h2;have hN:X*2^D-Y=(2^dn-R)+(H-L-1)*2^dn:=by rw[hXD];omega
    have hlt2:Y<X*2^D:=by omega
    have hNd:(X*2^D-Y)/2^dn=H-L-1:=by
     rw[hN,nz _ _ hpd,bu (by omega),dw]
    have hNm:(X*2^D-Y)%2^dn=2^dn-R:=by
     rw[hN,kz,ar (by omega)]
    have htr:=aI (f:=f) (m:=m) (neg:=nx) (N:=X*2^D-Y) (k:=dn) (E:=ey) hf (by rw[hNd];omega) (fun _=>by rw[hNd];exact hbl);rw[hNd,hNm,decide_eq_true (p:=2^dn-R≠0) (by omega)]at htr;rw[htr,if_neg (by omega),if_pos hlt2]
theorem aLb{f m:Int}(hf:Fm f)(hm:0<=m/\m<=5)(nx:Bool)(X:Nat)(ex:Int)(ny:Bool)(Y:Nat)(ey:Int)(hX:X<2^53)(hY:Y<2^53)(hex:-2000<=ex/\ex<=2000)(hey:-2000<=ey/\ey<=2000):
  Uf (f,m,(nx,(X:Int),ex,()),(ny,(Y:Int),ey,()),())=some (((FW f m nx X ex ny Y ey).1:Int),((FW f m nx X ex ny Y ey).2:Int),0,()):=by
 rw[aVa];by_cases hX0:X=0
 ·subst hX0;by_cases hYn:Y=0/\nx=ny
  ·obtain⟨rfl,rfl⟩:=hYn;have p0:=Q3 hf nx;rw[show((((0:Nat):Int)==0)&&(((0:Nat):Int)==0)&&(nx==nx))=true by cases nx<;>rfl,cond_true];simp only[RL p0,RF p0,cond_true];rw[aS hf,if_pos rfl,if_pos rfl];rfl
  ·have hg:((((0:Nat):Int)==0)&&(((Y:Nat):Int)==0)&&(nx==ny))=false:=by
    by_cases hy:Y=0
    ·have:nx≠ny:=fun h=>hYn ⟨hy,h⟩;subst hy;cases nx<;>cases ny<;>first|rfl|exact absurd rfl this
    ·rw[AS Y hy,bm,az]
   have h1:(((0:Nat):Int)==0)=true:=rfl;rw[hg,cond_false,h1,be,cond_true,cond_true];have ht:=nR hf hm ny Y 0 nx 0 ey hY hX (by omega) (by
    by_cases hy:Y=0
    ·exact .inr ⟨rfl,fun h=>hYn ⟨hy,h.symm⟩⟩
    ·exact .inl hy)
   rw[gn,jn]at ht;rw[gn,ht,wZ f m nx 0 ex,aS hf,aS hf]
 ·have hx0:((X:Int)==0)=false:=AS _ hX0;rw[hx0,az,az,cond_false,bp,cond_false];by_cases hY0:Y=0
  ·subst hY0;have ht:=nR hf hm nx X 0 ny 0 ex hX hY (by omega) (.inl hX0);rw[gn,jn]at ht;rw[show(((0:Nat):Int)!=0)=false by rfl,az,cond_false,show(((0:Nat):Int)==0)=true by rfl,cond_true,gn,ht,aS hf,aS hf]
  ·rw[Bi _ hY0,bh,AS _ hY0,cond_false];by_cases hlt:ex<ey
   ·rw[decide_eq_true hlt,cond_true];obtain⟨D,hD⟩:=cw (show 0<=ey-ex by omega);have hee:ey=ex+D:=by omega
    subst hee;rw[nR hf hm ny Y D nx X ex hY hX (by omega) (.inl hY0),wZ f m ny Y]
   ·rw[decide_eq_false hlt,cond_false];obtain⟨D,hD⟩:=cw (show 0<=ex-ey by omega);have hee:ex=ey+D:=by omega
    subst hee;rw[nR hf hm nx X D ny Y ey hX hY (by omega) (.inl hX0)]
end VL
namespace VL
open Go Vx
def Hs(l:List Nat):Prop:=(∀x∈l,x<2^32)/\l.length<=1000000
theorem Hs.dg{n:Nat}(h:n<2^100000):Hs (dg (2^32) n):=by
 refine⟨Gq (by decide) n,?_⟩;have:n<(2^32)^3125:=by rw[←lv];exact h
 have:=CW (B:=2^32) (by decide) 3125 n this;omega
theorem nZ(n:Nat)(h:n<2^64):aa .u64 (n:Int)=(n:Int):=El (by omega)
theorem xM(a b:Nat)(h:a*b<2^64):aa .u64 ((a:Int)*(b:Int))=((a*b:Nat):Int):=by
 rw[←jf,nZ _ h]
theorem Ww(a b:Nat)(h:a+b<2^64):aa .u64 ((a:Int)+(b:Int))=((a+b:Nat):Int):=by
 rw[←mq,nZ _ h]
theorem Y9{B:Nat}{l:List Nat}{v:Nat}(h:∀x∈l,x<B)(hv:v<B):∀x∈l++[v],x<B:=fun x hx=>by
 rcases cz.1 hx with hx|hx
 ·exact h x hx
 ·have:x=v:=by simpa using hx
  rw[this];exact hv
theorem ZW(B:Nat)(l:List Nat)(v:Nat):nv B (l++[v])=nv B l+B^l.length*v:=by
 rw[Td];simp[nv]
theorem aGn(B n:Nat):nv B (ax n 0)=0:=by
 induction n with
 |zero=>rfl
 |succ n ih=>rw[jx];simp[nv,ih]
end VL
namespace VL
open Go Vx
theorem VM(B:Nat)(l:List Nat)(i:Nat)(h:i<l.length):nv B (l.drop i)=l.getD i 0+B*nv B (l.drop (i+1)):=by
 rw[fg h,al,bc h];rfl
theorem aVe{B:Nat}(hB:2<=B){l:List Nat}(h:∀x∈l,x<B)(i:Nat):nv B (l.take i)<B^i:=by
 have:=DV hB (l.take i) fun x hx=>h x (fd hx);refine ah this (ae (by omega) ?_);rw[gm];exact lk _ _
theorem aUU{P A A' X Y:Nat}(h:A<P)(hxy:X<Y):A+P*X<A'+P*Y:=by
 have:P*(X+1)<=P*Y:=ce _ hxy;rw[bt,gf]at this;omega
theorem RQ{B:Nat}(hB:2<=B){a b:List Nat}(ha:∀x∈a,x<B){i:Nat}(hia:i<a.length)(hib:i<b.length)(hd:nv B (a.drop (i+1))=nv B (b.drop (i+1)))(h:a.getD i 0<b.getD i 0):nv B a<nv B b:=by
 rw[MY B a i (by omega),MY B b i (by omega),VM B a i hia,VM B b i hib,hd];exact aUU (aVe hB ha i) (by omega)
theorem sX{B:Nat}(hB:2<=B){x y:Nat}(h:(dg B x).length<(dg B y).length):x<y:=by
 have h1:=SM hB x;rcases au x y with h2|h2
 ·exact h2
 ·have:=CW hB (dg B x).length y (by omega);omega
theorem aOU{P B A A' O a b c c' v:Nat}(h:A+P*c=A'+O)(h2:a+B*c'=b+c+v):A+P*a+P*B*c'=A'+P*b+(O+P*v):=by
 have h3:P*(a+B*c')=P*(b+c+v):=by rw[h2]
 rw[bt,bt,bt,←ao]at h3;omega
theorem aDL{B:Nat}(hB:2<=B){x y:Nat}(h:y<=x):(dg B y).length<=(dg B x).length:=by
 rcases au (dg B x).length (dg B y).length with h1|h1
 ·have:=sX hB h1;omega
 ·exact h1
theorem Hs.len{n:Nat}(h:n<2^100000):(VL.dg (2^32) n).length<=3125:=by
 have:n<(2^32)^3125:=by rw[←lv];exact h
 exact CW (B:=2^32) (by decide) 3125 n this
theorem aVg(x:Nat):jp (x:Int) 2=((x%2:Nat):Int):=rfl
theorem aE(x m:Nat)(h:x<2^64)(hm:0<m):BC .u64 (x:Int) (m:Int)=((x/m:Nat):Int):=by
 unfold BC;have e:(x:Int).tdiv (m:Int)=((x/m:Nat):Int):=rfl;have:=dx x m;generalize x/m=q at *
 rw[e,El (by omega)]
end VL
namespace VL
open Go Vx
theorem Ff{f:Int}(hf:Fm f):fP f<=53:=by
 rcases Ds hf with rfl|rfl|rfl|rfl<;>decide
theorem aMz{f m:Int}(hf:Fm f){neg:Bool}{n:Nat}{e q:Int}(h:AW n e-fP f+1<=q):CM m neg n e q false<=2^fP f:=sV h
end VL
namespace VL
open Go Vx
def CO(nx:Bool)(X:Nat)(ex:Int)(ny:Bool)(Y:Nat)(ey:Int):Bool×Nat×Int:=
 if X=0 then(ny,Y,ey)else if Y=0 then(nx,X,ex)else
 let e:=if ey<ex then ey else ex
 let a:=X*2^(ex-e).toNat
 let b:=Y*2^(ey-e).toNat
 if nx=ny then(nx,a+b,e)else if b<=a then(nx,a-b,e)else(ny,b-a,e)
def Ad(f:Int)(a:Nat):Nat:=if eF f a=0 then mF f a else mF f a+2^(fP f-1)
def Ag(f:Int)(a:Nat):Int:=1-(fX f:Int)-(fP f:Int)+1+(if eF f a=0 then 0 else(eF f a:Int)-1)
theorem VF(f:Int)(a:Nat):mF f a<2^(fP f-1):=bo _ (ag _)
theorem FL{f:Int}(hf:Fm f)(a:Nat):Ad f a<2^53:=by
 have h1:=VF f a;have h2:=DJ hf;have h3:=EX hf;have h4:=Eg hf;have h5:2^(fP f-1)<=2^52:=ae (by decide) (by rcases Ds hf with rfl|rfl|rfl|rfl<;>decide);unfold Ad;split<;>omega
theorem SQ{f:Int}(hf:Fm f)(a:Nat):eF f a<2048:=by
 have:2^(fW f-fP f)<=2^11:=ae (by decide) (by rcases Ds hf with rfl|rfl|rfl|rfl<;>decide);have h:eF f a<2^(fW f-fP f):=bo _ (ag _);omega
theorem Gz{f:Int}(hf:Fm f)(a:Nat):-2000<=Ag f a/\Ag f a<=2000:=by
 have h1:=SQ hf a;have h2:=Ik hf;have h3:=Ff hf;have h4:=SU hf;have h5:=DJ hf;have h6:(eF f a:Int)<=2*fX f+1:=by
  have:eF f a<2^(fW f-fP f):=bo _ (ag _);have:=aD8 hf;omega
 unfold Ag;split<;>omega
def Au(f:Int)(a:Nat):Bool:=eF f a==BI f&&mF f a==0
def aC4(f m:Int)(a b:Nat):Int×Int×Int×Unit:=bif AG f a||AG f b then((CC f:Int),1,0,())else bif nan f a||nan f b then((CC f:Int),0,0,())else bif(Au f a&&Au f b)&&!(sF f a==sF f b)then((CC f:Int),1,0,())else bif Au f a then((a:Int),0,0,())else bif Au f b then((b:Int),0,0,())else(((FW f m (sF f a) (Ad f a) (Ag f a) (sF f b) (Ad f b) (Ag f b)).1:Int),((FW f m (sF f a) (Ad f a) (Ag f a) (sF f b) (Ad f b) (Ag f b)).2:Int),0,())
def SD(f m:Int)(a b:Nat):Int×Int×Int×Unit:=if Fm f then(if 0<=m/\m<=5 then(if Am f a=0/\Am f b=0 then aC4 f m a b else(0,0,4,()))else(0,0,3,()))else(0,0,2,())
def jH(f m:Int)(a b:Nat):Int×Int×Int×Unit:=SD f m a (if Am f b=0 then It f b else b)
theorem aO8{f:Int}{b:Nat}(h:Am f b=0):It f b<2^64:=M0 (aO7 (CT h).1 b)
end VL
namespace VL
open Go Vx
theorem So{f:Int}{a:Nat}(h:Am f a=0):YB (f,(a:Int),())=some (sF f a,(eF f a:Int),(mF f a:Int),0,()):=by
 obtain⟨hf,h0⟩:=CT h;have ha:=M0 h;show nP Ar.pre Ar.F Do.pre Do.F f a=_;unfold nP;have p0:=En f a ha;have p2:=dJ hf a ha;have hr1:decide (0<=f)=true:=decide_eq_true hf.1;have hr2:decide (f<((4:Nat):Int))=true:=decide_eq_true hf.2;simp only[i6 hf,hr1,hr2,DC p0,Dz p0,iU p2,hZ p2,h,cond_true,bne_self_eq_false,cond_false]
theorem aAr{f:Int}{a:Nat}(h:Am f a=0):Yt (f,Bt f,(a:Int),())=some ((sF f a,(Ad f a:Int),Ag f a,()),()):=by
 obtain⟨hf,h0⟩:=CT h;show nK Br.pre Br.F f (Bt f) a=_;unfold nK;have h1:=DJ hf;have h3:=Ff hf;have h4:=Ik hf;have hE:=SQ hf a;have hM:=VF f a;have hPp:2^(fP f-1)<=2^52:=ae (by decide) (by omega);have p0:=So h;have r1:(Bt f).2.1=(fP f:Int):=rfl;have r2:(Bt f).2.2.1=1-(fX f:Int):=rfl;have e0:aa .i64 ((fP f:Int)-1)=((fP f-1:Nat):Int):=Bo _ (by omega);have e1:aa .i64 (aa .i64 ((1-(fX f:Int))-(fP f:Int))+1)=1-(fX f:Int)-(fP f:Int)+1:=by
  rw[As (n:=_-(fP f:Int)) (by omega),As (by omega)]
 have e2:aa .i64 (eF f a:Int)=(eF f a:Int):=As (by omega);have e3:AQ .u64 1 ((fP f-1:Nat):Int)=((2^(fP f-1):Nat):Int):=M9 (by omega);have e4:A7 .u64 (mF f a:Int) ((2^(fP f-1):Nat):Int)=((mF f a+2^(fP f-1):Nat):Int):=by
  have:=FR (a:=mF f a) (b:=1) (k:=fP f-1) hM (by omega);rwa [fi]at this
 simp only[Tj p0,S6 p0,cond_true,r1,r2,e0,e1,e2,e3,e4,AV];by_cases hz:eF f a=0
 ·have hg:decide ((eF f a:Int)>0)=false:=decide_eq_false (by omega);have hm:Ad f a=mF f a:=by unfold Ad;rw[if_pos hz]
  have hx:Ag f a=1-(fX f:Int)-(fP f:Int)+1:=by unfold Ag;rw[if_pos hz,jn]
  rw[hg,cond_false,hm,hx]
 ·have hg:decide ((eF f a:Int)>0)=true:=decide_eq_true (by omega);have hm:Ad f a=mF f a+2^(fP f-1):=by unfold Ad;rw[if_neg hz]
  have hx:aa .i64 ((1-(fX f:Int)-(fP f:Int)+1)+aa .i64 ((eF f a:Int)-1))=Ag f a:=by
   unfold Ag;rw[if_neg hz,As (n:=(eF f a:Int)-1) (by omega),As (by omega)]
  rw[hg,cond_true,hm,hx]
theorem UP(f:Int)(a:Nat):(Av f a==2||Av f a==9)=Au f a:=by
 unfold Av Au;cases eF f a==BI f<;>cases eF f a==0<;>cases mF f a==0<;>cases sF f a<;>cases mF f a/2^(fP f-2)!=0<;>rfl
theorem aMt(f:Int)(a b:Nat):((Au f a&&Au f b)&&(Av f a !=Av f b))=((Au f a&&Au f b)&&!(sF f a==sF f b)):=by
 unfold Av Au;cases eF f a==BI f<;>cases mF f a==0<;>cases eF f b==BI f<;>cases mF f b==0<;>first|rfl|(cases sF f a<;>cases sF f b<;>rfl)
theorem pH(f m:Int){a b:Nat}(ha:a<2^64)(hb:b<2^64):Xl (f,m,(a:Int),(b:Int),())=some (SD f m a b):=by
 show kU Aq.pre Aq.F AD.pre AD.F AB.pre AB.F QZ.pre QZ.F QY.pre QY.F f m a b=_;unfold kU SD;by_cases hf:Fm f
 ·rw[if_pos hf];have p0:=FE hf;simp only[Dd p0,C9 p0,cond_true,bne_self_eq_false,cond_false];by_cases hm:0<=m/\m<=5
  ·have hmm:(decide (m<0)||decide (m>5))=false:=by
    rw[decide_eq_false (p:=m<0) (by omega),decide_eq_false (p:=m>5) (by omega)];rfl
   rw[if_pos hm,hmm,cond_false];have c4:∀x:Nat,Am f x≠0->Am f x=4:=fun x h=>by
    unfold Am at h⊢;rw[if_pos hf]at h⊢;split at h
    ·exact absurd rfl h
    ·rename_i h1;rw[if_neg h1]
   by_cases hca:Am f a=0
   ·have p1:=Gn ha hca;by_cases hcb:Am f b=0
    ·have p2:=Gn hb hcb;rw[if_pos ⟨hca,hcb⟩];have p3:=Eo hf;have p4:=aAr hca;have p5:=aAr hcb;have p6:=aLb hf hm (sF f a) (Ad f a) (Ag f a) (sF f b) (Ad f b) (Ag f b) (FL hf a) (FL hf b) (Gz hf a) (Gz hf b);simp only[DB p1,Dy p1,DB p2,Dy p2,cond_true,bne_self_eq_false,cond_false,FS p3,FI p3,aG8 p4,aEZ p4,aG8 p5,aEZ p5,aQX p6,aOl p6,UP,aMt];unfold aC4;rw[←Fc,←Fc,←Hb,←Hb];generalize((Au f a&&Au f b)&&!(sF f a==sF f b))=w1;generalize Au f a=w2;generalize Au f b=w3;generalize(Av f a==0)=x1;generalize(Av f b==0)=x2;generalize(Av f a==1)=x3;generalize(Av f b==1)=x4;cases x1<;>cases x2<;>cases x3<;>cases x4<;>cases w1<;>cases w2<;>cases w3<;>rfl
    ·have p2:=Sm hb hcb;rw[if_neg (fun h=>hcb h.2)];have hne:(Am f b !=0)=true:=by simpa using hcb
     simp only[DB p1,Dy p1,DB p2,Dy p2,cond_true,bne_self_eq_false,cond_false,hne];rw[c4 b hcb]
   ·have p1:=Sm ha hca;rw[if_neg (fun h=>hca h.1)];have hne:(Am f a !=0)=true:=by simpa using hca
    simp only[DB p1,Dy p1,cond_true,hne];rw[c4 a hca]
  ·rw[if_neg hm];have:(decide (m<0)||decide (m>5))=true:=by
    by_cases h:m<0
    ·rw[decide_eq_true h];rfl
    ·rw[decide_eq_true (p:=m>5) (by omega),br]
   rw[this];rfl
 ·rw[if_neg hf];have p0:=GZ hf;simp only[Dd p0,C9 p0];rfl
theorem aKq(f m:Int){a b:Nat}(ha:a<2^64)(hb:b<2^64):Xk (f,m,(a:Int),(b:Int),())=some (jH f m a b):=by
 show kT Ar.pre Ar.F DR.pre DR.F Fy.pre Fy.F f m a b=_;unfold kT jH;have p0:=En f b hb;by_cases h:Am f b=0
 ·have p1:=pP h;have p2:=pH f m ha (aO8 h);rw[if_pos h];simp only[DC p0,Dz p0,h,beq_self_eq_true,cond_true,v9 p1,uC p1,vZ p2,t0 p2]
 ·have p2:=pH f m ha hb;have hne:(Am f b==0)=false:=by simpa using h
  rw[if_neg h];simp only[DC p0,Dz p0,cond_true,hne,cond_false,vZ p2,t0 p2]
end VL
namespace VL
open Go Vx
def qm(f:Int):Int:=1-(fX f:Int)-(fP f:Int)+1
end VL
namespace VL
open Go Vx
def vI(f:Int)(neg:Bool)(X:Nat)(e:Int):Int:=bif neg then -((X*2^(e-qm f).toNat:Nat):Int)else((X*2^(e-qm f).toNat:Nat):Int)
end VL
namespace VL
open Go Vx
theorem aVU(f:Int)(a:Nat):qm f<=Ag f a:=by
 unfold Ag qm;split<;>omega
def sl(V:Nat->Int)(i:Nat):List Int:=[if 0<i then V 0 else 0,if 1<i then V 1 else 0,if 2<i then V 2 else 0,if 3<i then V 3 else 0,if 4<i then V 4 else 0,if 5<i then V 5 else 0]
end VL
namespace VL
open Go Vx
def vA(f:Int)(a:Nat):Int:=vI f (sF f a) (Ad f a) (Ag f a)
end VL
namespace VL
open Go Vx
def tz(n:Nat):Nat:=if n=0 then 0 else if n%2=1 then 0 else tz (n/2)+1
termination_by n
decreasing_by omega
theorem aX:∀(t k:Nat),tz (2^t*(2*k+1))=t
 |0,k=>by
  rw[tz,ij,fi,if_neg (by omega),if_pos (by omega)]
 |t+1,k=>by
  have e:2^(t+1)*(2*k+1)=2*(2^t*(2*k+1)):=by rw[df,aq (2^t) 2,ao]
  have hp:0<2^t*(2*k+1):=gd (ag t) (by omega)
  have ih:=aX t k
  rw[e]
  generalize 2^t*(2*k+1)=n at *
  rw[tz,if_neg (by omega),if_neg (by omega),show 2*n/2=n by omega,ih]
theorem Wt{n:Nat}(h:n≠0):∃k,n=2^tz n*(2*k+1):=by
 obtain⟨t,k,e⟩:=xH (x:=n) (by omega);refine⟨k,?_⟩;have:=aX t k;rw[←e]at this;rw[this];exact e
theorem aVs{x i t k r:Nat}(hx:x=2^t*(2*k+1))(ht:t<64):(2^64)^i*(x+2^64*r)=2^(64*i+t)*(2*(k+2^(64-t-1)*r)+1):=by
 have h1:2^64=2^t*(2^(64-t-1)*2):=by rw[←df,←ap];congr 1;omega
 rw[Cw,hx,ap,ao];congr 1;rw[h1,ao,←bt];congr 1;rw[ao,fu];omega
abbrev cD:=Aa (.pair (.bool) (.pair (.slice (.int .u64)) (.pair (.int .i64) (.unit))))
def dy(s:Bool)(n:Nat)(e:Int):cD:=(s,Dw n,e,())
theorem aD3:dy false 0 0=(false,[],0,()):=by unfold dy;rw[Dr]
theorem wG(i:Nat)(h:i<=1000000):BC .i64 ((64*i:Nat):Int) 64=(i:Int):=by
 rw[aF _ (by omega),show 64*i/64=i by omega]
theorem aLe(n:Nat)(h0:n≠0)(hl:(dg (2^64) n).length<=1000000)(M:R2 GO.mem):
  YC (((0:Int),(Dw n,((),((),())))),M)=some (.inl ((((64*(tz n/64):Nat):Int),(Dw n,((),((),())))),M)):=by
 have key:=Dc (aFy Bh.pre Bh.F BG.pre BG.F DO.pre DO.F) (fun x=>(dg (2^64) n).length-x.1.1.toNat/64)
  (fun x=>∃i:Nat,i<=(dg (2^64) n).length/\nv (2^64) ((dg (2^64) n).take i)=0/\x=((((64*i:Nat):Int),(Dw n,((),((),())))),M))
  (fun _=>.inl ((((64*(tz n/64):Nat):Int),(Dw n,((),((),())))),M)) ?_ (((0:Int),(Dw n,((),((),())))),M) ⟨0,ej _,rfl,rfl⟩
 ·exact key
 intro L x hx hL;obtain⟨i,hi,hz,rfl⟩:=hx;have hnv:=Cg n;have ha:=Gq (B:=2^64) (by decide) n;have hlt:i<(dg (2^64) n).length:=by
  rcases au i (dg (2^64) n).length with h|h
  ·exact h
  ·rw[cv h,hnv]at hz;exact absurd hz h0
 unfold U2;have e64:aa .i64 (((64*i:Nat):Int)+64)=((64*(i+1):Nat):Int):=by rw[As (by omega)];omega
 have hxl:=Cr (by decide) ha i;unfold Dw at hL⊢;rcases bj ((dg (2^64) n).getD i 0)with hw|hw
 ·simp(disch:=omega) only[wG,Cb,BW,Cc,BD,Bo,Cd,BP,BO,B8,B7,B6,B5,B3,B0,Ca,B9,B4,BJ,AV,Bz,AS,Bi,BH,ab,bi,cond_true,cond_false,bf,bh,bw,az,bm,bg,bd,bq,be,br,bp,ci,Az,BZ,e64];refine hL _ ⟨i+1,by omega,?_,rfl⟩ (by simp only[ab];omega);rw[ZY _ _ _ hlt,hz,hw,fm]
 ·simp(disch:=omega) only[wG,Cb,BW,Cc,BD,Bo,Cd,BP,BO,B8,B7,B6,B5,B3,B0,Ca,B9,B4,BJ,AV,Bz,AS,Bi,BH,ab,bi,cond_true,cond_false,bf,bh,bw,az,bm,bg,bd,bq,be,br,bp,ci,Az,BZ];obtain⟨t,k,e⟩:=xH hw;have ht:t<64:=by
   have h1:2^t*1<=2^t*(2*k+1):=ce _ (by omega);exact(ct (a:=2) (by decide)).1 (by omega)
  have hv:n=(2^64)^i*((dg (2^64) n).getD i 0+2^64*nv (2^64) ((dg (2^64) n).drop (i+1))):=by
   have h1:=MY (2^64) (dg (2^64) n) i hi;rw[hnv,hz,dw,VM _ _ _ hlt]at h1;exact h1
  rw[aVs e ht]at hv;have htz:tz n=64*i+t:=by rw[hv];exact aX _ _
  rw[htz,show(64*i+t)/64=i by omega]
theorem aJ6(s:Bool)(l:List Nat)(hl:Ws l)(e:Int)(he:-100000000<=e/\e<=100000000):
  Fa ((s,Wd l,e,()),())=some (if nv (2^64) l=0 then dy false 0 0 else dy s (nv (2^64) l/2^tz (nv (2^64) l)) (e+tz (nv (2^64) l)),()):=by
 show jJ Bh.pre Bh.F BG.pre BG.F DO.pre DO.F YC (s,Wd l,e,())=_;unfold jJ;dsimp only;have p0:=WT l hl;simp only[VU p0,UU p0,cond_true];have hlt:=DV (B:=2^64) (by decide) l hl.1;have hll:=hl.2;generalize hn:nv (2^64) l=n at *
 have hdl:(dg (2^64) n).length<=1000000:=fk (CW (by decide) _ _ hlt) hll;by_cases h0:n=0
 ·subst h0;rw[Dr,if_pos rfl,aD3];rfl
 ·have hlen:(((Dw n).length:Int)==0)=false:=AS _ (by have:=ID h0;omega);rw[hlen,cond_false,if_neg h0];have hw:=aLe n h0 hdl ((s,Wd l,e,()),(false,[],0,()),());rw[show YC (((0:Int),(Dw n,((),((),())))),((s,Wd l,e,()),((false,([],((0:Int),()))),())))=_ from hw];dsimp only[AY,A1];obtain⟨k,hk⟩:=Wt h0;have htl:tz n/64<(dg (2^64) n).length:=by
   rcases au (tz n/64) (dg (2^64) n).length with h|h
   ·exact h
   ·exfalso;have h1:=SM (B:=2^64) (by decide) n;rw[Cw]at h1;have h2:2^(64*(dg (2^64) n).length)<=2^tz n:=ae (by decide) (by omega);have h3:2^tz n*1<=2^tz n*(2*k+1):=ce _ (by omega);omega
  have hword:∃k',(dg (2^64) n).getD (tz n/64) 0=2^(tz n%64)*(2*k'+1):=by
   have h1:(dg (2^64) n).getD (tz n/64) 0=n/(2^64)^(tz n/64)%2^64:=by
    have h2:dg (2^64) n=pd (2^64) (dg (2^64) n).length n:=iO (by decide) (Gq (by decide) n) rfl (Cg n);rw[h2,Z2 _ _ _ _ htl]
   have h3:n/(2^64)^(tz n/64)=2^(tz n%64)*(2*k+1):=by
    have h4:2^tz n=(2^64)^(tz n/64)*2^(tz n%64):=by rw[Cw,←ap];congr 1;omega
    have h5:n=(2^64)^(tz n/64)*(2^(tz n%64)*(2*k+1)):=by rw[←ao,←h4];exact hk
    have h6:=ga (2^(tz n%64)*(2*k+1)) (show 0<(2^64)^(tz n/64)from iy (by decide));rw[←h5]at h6;exact h6
   rw[h1,h3];have hr:tz n%64<64:=bo _ (by decide);generalize tz n%64=r at *
   have h6:2^64=2^r*(2^(64-r-1)*2):=by rw[←df,←ap];congr 1;omega
   rw[h6,oi];refine⟨(2*k+1)%(2^(64-r-1)*2)/2,?_⟩;congr 1;have h7:(2*k+1)%(2^(64-r-1)*2)%2=(2*k+1)%2:=oz _ ⟨_,aq _ _⟩;omega
  obtain⟨k',hk'⟩:=hword;have hwl:=Cr (B:=2^64) (by decide) (Gq (by decide) n) (tz n/64);have p1:=dK (t:=tz n%64) (k:=k') (by rw[←hk'];exact hwl);rw[←hk']at p1;have p2:=zI (dg (2^64) n) (aDM n hdl) (tz n) (by omega);rw[Cg]at p2;have e1:aa .i64 (((64*(tz n/64):Nat):Int)+((tz n%64:Nat):Int))=(tz n:Int):=by rw[As (by omega)];omega
  have e2:aa .i64 (e+(tz n:Int))=e+(tz n:Int):=As (by omega);have hg:decide (((tz n/64:Nat):Int)<((dg (2^64) n).length:Int))=true:=decide_eq_true (by omega);unfold Dw at *
  simp(disch:=omega) only[wG,Cb,BW,Cc,BD,Bo,Cd,BP,BO,B8,B7,B6,B5,B3,B0,Ca,B9,B4,BJ,AV,Bz,AS,Bi,BH,ab,bi,cond_true,cond_false,bf,bh,bw,az,bm,bg,bd,bq,be,br,bp,ci,Az,BZ,iV p1,h9 p1,e1,M1 p2,MN p2,e2];rfl
theorem WS(s:Bool){n:Nat}(hn:n<(2^64)^5000)(e:Int)(he:-100000000<=e/\e<=100000000):
  Fa (dy s n e,())=some (if n=0 then dy false 0 0 else dy s (n/2^tz n) (e+tz n),()):=by
 have:=aJ6 s (dg (2^64) n) (Di hn) e he;rw[Cg]at this;exact this
theorem aIw(k:Nat):tz (2*k+1)=0:=by have:=aX 0 k;rwa [ij,fi]at this
theorem aUM{l:List Nat}{i:Nat}(h:i<l.length):l.set i (l.getD i 0)=l:=by
 rw[al,bc h];exact oc h
theorem aLm(a:List Nat)(ha:∀x∈a,x<2^64)(hlen:a.length<=1000000)(w s:Nat)(hs:s<64)(hw:w<=10000000)(i:Nat)(hi:i<=a.length):
  dP (((a.length:Int),(Wd a,((w:Int),((s:Int),((i:Int),((),())))))),(Wd (pd (2^64) (w+a.length+1) (2^(64*w+s)*nv (2^64) (a.take i))),()))=some (.inl (((),()),(Wd (pd (2^64) (w+a.length+1) (2^(64*w+s)*nv (2^64) a)),()))):=by
 have key:=Dc (aFG Bh.pre Bh.F) (fun x=>a.length-x.1.2.2.2.2.1.toNat)
  (fun x=>∃i:Nat,i<=a.length/\x=(((a.length:Int),(Wd a,((w:Int),((s:Int),((i:Int),((),())))))),(Wd (pd (2^64) (w+a.length+1) (2^(64*w+s)*nv (2^64) (a.take i))),())))
  (fun _=>.inl (((),()),(Wd (pd (2^64) (w+a.length+1) (2^(64*w+s)*nv (2^64) a)),()))) ?_ _ ⟨i,hi,rfl⟩
 ·exact key
 intro L x hx hL;obtain⟨i,hi,rfl⟩:=hx;unfold Va;rcases au i a.length with hlt|hge
 ·have hxl:=Cr (by decide) ha i;have ht:=DV (B:=2^64) (by decide) (a.take i) fun x hx=>ha x (fd hx);rw[gm,ic (by omega),Cw]at ht;have hV:2^(64*w+s)*nv (2^64) (a.take i)<2^(64*(w+i)+s):=by
   have e:64*(w+i)+s=(64*w+s)+64*i:=by omega
   rw[e,ap _ (64*w+s)];exact gw ht (ag _)
  have hnext:=ZY (2^64) a i hlt;have hgo:=hL (((a.length:Int),(Wd a,((w:Int),((s:Int),(((i+1:Nat):Int),((),())))))),(Wd (pd (2^64) (w+a.length+1) (2^(64*w+s)*nv (2^64) (a.take (i+1)))),())) ⟨i+1,by omega,rfl⟩ (by simp only[ab];omega);rw[hnext,bt,←ao,show 2^(64*w+s)*(2^64)^i=2^(64*(w+i)+s) by rw[Cw,←ap];congr 1;omega]at hgo;have hz1:(pd (2^64) (w+a.length+1) (2^(64*w+s)*nv (2^64) (a.take i))).getD (w+i+1) 0=0:=by
   rw[Z2 _ _ _ _ (by omega),Cw];have h64:2^(64*(w+i)+s)<=2^(64*(w+i+1)):=ae (by decide) (by omega);rw[bu (by omega)]
  generalize hout:pd (2^64) (w+a.length+1) (2^(64*w+s)*nv (2^64) (a.take i))=out at *
  obtain⟨q1,q2,q3⟩:=aFq (k:=w+i) hs hout.symm (by omega) hV hxl;have hol:out.length=w+a.length+1:=by rw[←hout,Fh]
  have g1:a.getD i 0*2^s%2^64=(a.getD i 0%2^(64-s))*2^s:=by
   have:2^64=2^(64-s)*2^s:=by rw[←ap];congr 1;omega
   rw[this,fb]
  have e8:aa .u64 (64-(s:Int))=((64-s:Nat):Int):=by rw[El (by omega)];omega
  rcases bj s with hs0|hs0
  ·have hq:out.set (w+i) (out.getD (w+i) 0+a.getD i 0%2^(64-s)*2^s)=pd (2^64) (w+a.length+1) (2^(64*w+s)*nv (2^64) (a.take i)+2^(64*(w+i)+s)*a.getD i 0):=by
    rw[←q3];have hd:a.getD i 0/2^(64-s)=0:=by rw[hs0];exact bu hxl
    have hg:(out.set (w+i) (out.getD (w+i) 0+a.getD i 0%2^(64-s)*2^s)).getD (w+i+1) 0=0:=by rw[aE5 (by omega)];exact hz1
    rw[hd];have:=aUM (l:=out.set (w+i) (out.getD (w+i) 0+a.getD i 0%2^(64-s)*2^s)) (i:=w+i+1) (by rw[iq];omega);rw[hg]at this;exact this.symm
   simp(disch:=omega) only[Cb,BW,Cc,BD,Bo,Cd,BP,BO,B8,B7,B6,B5,B3,B0,Ca,B9,B4,BJ,AV,Bz,AS,Bi,BH,ab,bi,cond_true,cond_false,bf,bh,bw,az,bm,bg,bd,bq,be,br,bp,ci,Az,BZ,Ej _ s (by omega),g1,FR q1 q2,Eb,hq];exact hgo
  ·simp(disch:=omega) only[Cb,BW,Cc,BD,Bo,Cd,BP,BO,B8,B7,B6,B5,B3,B0,Ca,B9,B4,BJ,AV,Bz,AS,Bi,BH,ab,bi,cond_true,cond_false,bf,bh,bw,az,bm,bg,bd,bq,be,br,bp,ci,Az,BZ,e8,Ej _ s (by omega),DD _ (64-s) (by omega),g1,FR q1 q2,Eb,iq,q3];exact hgo
 ·have e:i=a.length:=by omega
  subst e;rw[dj];simp(disch:=omega) only[Cb,BW,Cc,BD,Bo,Cd,BP,BO,B8,B7,B6,B5,B3,B0,Ca,B9,B4,BJ,AV,Bz,AS,Bi,BH,ab,bi,cond_true,cond_false,bf,bh,bw,az,bm,bg,bd,bq,be,br,bp,ci]
theorem zO{x:Nat}(hx:x<(2^64)^5000)(n:Nat)(hn:n<=1000000):Xf (Dw x,(n:Int),())=some (Dw (x*2^n),()):=by
 show kI Bh.pre Bh.F dP (Dw x) n=_;unfold kI;have hws:=Di hx;have hl:(dg (2^64) x).length<=5000:=CW (by decide) _ _ hx;have hv:=Cg x;by_cases h0:x=0
 ·subst h0;rw[Dr,fc,Dr];rfl
 ·have hlen:(((Dw x).length:Int)==0)=false:=AS _ (by have:=ID h0;omega);rw[hlen,cond_false];have e4:jp (n:Int) 64=((n%64:Nat):Int):=rfl;have e5:aa .u64 ((n%64:Nat):Int)=((n%64:Nat):Int):=nZ _ (by omega);have hw:=aLm (dg (2^64) x) hws.1 (by omega) (n/64) (n%64) (bo _ (by decide)) (by omega) 0 (ej _);rw[show nv (2^64) ((dg (2^64) x).take 0)=0 by rfl,fm,vO,show 64*(n/64)+n%64=n by omega,show((0:Nat):Int)=0 from rfl,hv]at hw;have e3:decide (((n/64+(dg (2^64) x).length+1:Nat):Int)*8<=140737488355328)=true:=decide_eq_true (by omega);have hV:2^n*x<(2^64)^(n/64+(dg (2^64) x).length+1):=by
   have:=SM (B:=2^64) (by decide) x;rw[Cw]at this⊢;have h1:2^n*x<2^n*2^(64*(dg (2^64) x).length):=gw this (ag _);rw[←ap]at h1;exact ah h1 (ae (by decide) (by omega))
  have p1:=WT (pd (2^64) (n/64+(dg (2^64) x).length+1) (2^n*x)) ⟨Tf (by decide) _ _,by rw[Fh];omega⟩;rw[Tg (by decide) _ _ hV,aq (2^n)]at p1;rw[aq (2^n)]at hw;unfold Dw at *
  simp(disch:=omega) only[Cb,BW,Cc,BD,Bo,Cd,BP,BO,B8,B7,B6,B5,B3,B0,Ca,B9,B4,BJ,AV,Bz,AS,Bi,BH,ab,bi,cond_true,cond_false,bf,bh,bw,az,bm,bg,bd,bq,be,br,bp,ci,Az,aF n (by omega),e4,e5,e3,Sp,hw];generalize pd (2^64) (n/64+(dg (2^64) x).length+1) (x*2^n)=out at *
  show(bif Bh.pre (Wd out,())then some (Bh.F (Wd out,()))else none)=_;rw[VU p1,UU p1];rfl
end VL
namespace VL
open Go Vx
theorem aLk(a b:List Nat)(ha:∀x∈a,x<2^64)(hb:∀x∈b,x<2^64)(hla:a.length<=1000000)(hab:a.length=b.length):
  dN ((Wd a,(Wd b,((a.length:Int)-1,()))),())=some (if nv (2^64) a=nv (2^64) b then .inl ((),())else .inr (((if nv (2^64) a<nv (2^64) b then(-1:Int)else 1),()),())):=by
 have key:=Dc (aFE Af.pre Af.F) (fun x=>(x.1.2.2.1+1).toNat)
  (fun x=>∃j:Nat,j<=a.length/\nv (2^64) (a.drop j)=nv (2^64) (b.drop j)/\x=((Wd a,(Wd b,((j:Int)-1,()))),()))
  (fun _=>if nv (2^64) a=nv (2^64) b then .inl ((),())else .inr (((if nv (2^64) a<nv (2^64) b then(-1:Int)else 1),()),())) ?_ ((Wd a,(Wd b,((a.length:Int)-1,()))),())
  ⟨a.length,cg _,by rw[kd,hab,kd],rfl⟩
 ·exact key
 intro L x hx hL;obtain⟨j,hj,hd,rfl⟩:=hx;unfold U8;rcases j with _|i
 ·have e1:decide ((((0:Nat):Int)-1)>=0)=false:=rfl;rw[lx,lx]at hd;simp only[e1,cond_false,if_pos hd]
 ·have e0:(((i+1:Nat):Int)-1)=(i:Int):=by omega
  have e2:aa .i64 ((i:Int)-1)=(i:Int)-1:=As (by omega);have e3:decide ((i:Int)>=0)=true:=decide_eq_true (by omega);simp(disch:=omega) only[e0,e2,e3,Cb,BW,Cc,BD,Bo,Cd,BP,BO,B8,B7,B6,B5,B3,B0,Ca,B9,B4,BJ,AV,Bz,AS,Bi,BH,ab,bi,cond_true,cond_false,bf,bh,bw,az,bm,bg,bd,bq,be,br,bp,ci,Az,BZ];rcases gc (a.getD i 0) (b.getD i 0)with h|h|h
  ·have hr:=RQ (by decide) ha (by omega) (by omega) hd h;simp(disch:=omega) only[Cb,BW,Cc,BD,Bo,Cd,BP,BO,B8,B7,B6,B5,B3,B0,Ca,B9,B4,BJ,AV,Bz,AS,Bi,BH,ab,bi,cond_true,cond_false,bf,bh,bw,az,bm,bg,bd,bq,be,br,bp,ci];rw[if_neg (by omega),if_pos hr]
  ·simp(disch:=omega) only[Cb,BW,Cc,BD,Bo,Cd,BP,BO,B8,B7,B6,B5,B3,B0,Ca,B9,B4,BJ,AV,Bz,AS,Bi,BH,ab,bi,cond_true,cond_false,bf,bh,bw,az,bm,bg,bd,bq,be,br,bp,ci];refine hL _ ⟨i,by omega,?_,rfl⟩ (by simp only[ab];omega);rw[VM _ a i (by omega),VM _ b i (by omega),hd,h]
  ·have hr:=RQ (by decide) hb (by omega) (by omega) hd.symm h;simp(disch:=omega) only[Cb,BW,Cc,BD,Bo,Cd,BP,BO,B8,B7,B6,B5,B3,B0,Ca,B9,B4,BJ,AV,Bz,AS,Bi,BH,ab,bi,cond_true,cond_false,bf,bh,bw,az,bm,bg,bd,bq,be,br,bp,ci];rw[if_neg (by omega),if_neg (by omega)]
theorem Q6{x:Nat}(hx:x<(2^64)^5000):Sc (Dw x,())=some (Dw x,()):=by
 have:=Ea (dg (2^64) x) (Di hx).2;rw[Rr (by decide)]at this;exact this
theorem dG{x y:Nat}(hx:x<(2^64)^5000)(hy:y<(2^64)^5000):W7 (Dw x,Dw y,())=some (if x=y then 0 else if x<y then -1 else 1,()):=by
 show j7 Af.pre Af.F dN (Dw x) (Dw y)=_;unfold j7;have p0:=Q6 hx;have p1:=Q6 hy;have hX:=Di hx;have hY:=Di hy;have hlx:=hX.2;simp only[CZ p0,CX p0,CZ p1,CX p1,cond_true];clear p0 p1;rcases gc (dg (2^64) x).length (dg (2^64) y).length with h|h|h
 ·have hr:=sX (by decide) h;unfold Dw;simp(disch:=omega) only[Cb,BW,Cc,BD,Bo,Cd,BP,BO,B8,B7,B6,B5,B3,B0,Ca,B9,B4,BJ,AV,Bz,AS,Bi,BH,ab,bi,cond_true,cond_false,bf,bh,bw,az,bm,bg,bd,bq,be,br,bp,ci,Az];rw[if_neg (by omega),if_pos hr]
 ·have hw:=aLk _ _ hX.1 hY.1 hlx h;rw[Cg,Cg]at hw;have e2:aa .i64 (((dg (2^64) x).length:Int)-1)=((dg (2^64) x).length:Int)-1:=As (by omega);unfold Dw;simp(disch:=omega) only[Cb,BW,Cc,BD,Bo,Cd,BP,BO,B8,B7,B6,B5,B3,B0,Ca,B9,B4,BJ,AV,Bz,AS,Bi,BH,ab,bi,cond_true,cond_false,bf,bh,bw,az,bm,bg,bd,bq,be,br,bp,ci,Az,e2,hw];by_cases he:x=y
  ·rw[if_pos he,if_pos he];first|rfl|skip
  ·rw[if_neg he,if_neg he];first|rfl|skip
 ·have hr:=sX (by decide) h;unfold Dw;simp(disch:=omega) only[Cb,BW,Cc,BD,Bo,Cd,BP,BO,B8,B7,B6,B5,B3,B0,Ca,B9,B4,BJ,AV,Bz,AS,Bi,BH,ab,bi,cond_true,cond_false,bf,bh,bw,az,bm,bg,bd,bq,be,br,bp,ci,Az];rw[if_neg (by omega),if_neg (by omega)]
theorem aL{out a:List Nat}{i v:Nat}(hol:out.length=i)(h:i<a.length):(out++a.drop i).set i v=(out++[v])++a.drop (i+1):=by
 rw[gh _ _ (by omega),hol,gy,fg h,kh,fj];rfl
theorem aOp{out a:List Nat}{i:Nat}(hol:out.length=i):(out++a.drop i).getD i 0=a.getD i 0:=by
 rw[al,List.getElem?_append_right (by omega),hol,gy,dr,de,←al]
theorem aLh(a b:List Nat)(ha:∀x∈a,x<2^64)(hb:∀x∈b,x<2^64)(hla:a.length<=1000000)(hba:b.length<=a.length)(hv:nv (2^64) b<=nv (2^64) a):
  YD (((a.length:Int),(Wd b,((0:Int),((0:Int),((),()))))),(Wd a,()))=some (.inl (((),()),(Wd (pd (2^64) a.length (nv (2^64) a-nv (2^64) b)),()))):=by
 have key:=Dc (aFB Ce.pre Ce.F A4.pre A4.F Af.pre Af.F) (fun x=>a.length-x.1.2.2.2.1.toNat)
  (fun x=>∃(i:Nat) (out:List Nat) (c:Nat),i<=a.length/\out.length=i/\(∀x∈out,x<2^64)/\c<=1/\nv (2^64) (a.take i)+(2^64)^i*c=nv (2^64) (b.take i)+nv (2^64) out /\
   x=(((a.length:Int),(Wd b,((c:Int),((i:Int),((),()))))),(Wd (out++a.drop i),())))
  (fun _=>.inl (((),()),(Wd (pd (2^64) a.length (nv (2^64) a-nv (2^64) b)),()))) ?_ (((a.length:Int),(Wd b,((0:Int),((0:Int),((),()))))),(Wd a,()))
  ⟨0,[],0,ej _,rfl,(fun x hx=>by simp at hx),by decide,by simp[nv],rfl⟩
 ·exact key
 intro L x hx hL;obtain⟨i,out,c,hi,hol,hod,hc,hov,rfl⟩:=hx;unfold U5;rcases au i a.length with hlt|hge
 ·have hxa:=Cr (by decide) ha i;have hxb:=Cr (by decide) hb i;have hna:=Ex (2^64) a i;have hnb:=Ex (2^64) b i;have hzb:b.length<=i->b.getD i 0=0:=fun h=>by rw[al,ff h];rfl
  have hset:=fun v=>aL (v:=v) hol hlt;have hlen:(out++a.drop i).length=a.length:=by simp;omega
  have hget:=aOp (a:=a) hol;generalize hda:a.getD i 0=da at *
  generalize hdb:b.getD i 0=db at *
  have hgo:∀c' v:Nat,c'<=1->v<2^64->da+2^64*c'=db+c+v->L (((a.length:Int),(Wd b,((c':Int),(((i+1:Nat):Int),((),()))))),(Wd (out++[v]++a.drop (i+1)),()))=_:=fun c' v h1 h2 h3=>
   hL _ ⟨i+1,out++[v],c',by omega,by simp;omega,Y9 hod h2,h1,by
    rw[hna,hnb,ZW,hol,df];exact aOU hov h3,rfl⟩ (by simp only[ab];omega)
  have hgo2:=hgo (if da<db+c then 1 else 0) ((da+2^64-db-c)%2^64) (by split<;>omega) (bo _ (by decide)) (by split<;>omega);have hF:=aQ da db c hc hxa hxb;have hP:=aR (da:Int) (db:Int) c hc;rcases au i b.length with hib|hib
  ·simp(disch:=omega) only[Cb,BW,Cc,BD,Bo,Cd,BP,BO,B8,B7,B6,B5,B3,B0,Ca,B9,B4,BJ,AV,Bz,AS,Bi,BH,ab,bi,cond_true,cond_false,bf,bh,bw,az,bm,bg,bd,bq,be,br,bp,ci,Az,BZ,hdb,hget,hF,hP,hlen,Eb,hset];exact hgo2
  ·have h0:=hzb hib;rw[h0]at hF hP;simp(disch:=omega) only[Cb,BW,Cc,BD,Bo,Cd,BP,BO,B8,B7,B6,B5,B3,B0,Ca,B9,B4,BJ,AV,Bz,AS,Bi,BH,ab,bi,cond_true,cond_false,bf,bh,bw,az,bm,bg,bd,bq,be,br,bp,ci,Az,BZ,hget];have hF':A4.F ((da:Int),((0:Int),((c:Int),())))=_:=hF;have hP':A4.pre ((da:Int),((0:Int),((c:Int),())))=true:=hP;rw[h0]at hgo2;simp(disch:=omega) only[Cb,BW,Cc,BD,Bo,Cd,BP,BO,B8,B7,B6,B5,B3,B0,Ca,B9,B4,BJ,AV,Bz,AS,Bi,BH,ab,bi,cond_true,cond_false,bf,bh,bw,az,bm,bg,bd,bq,be,br,bp,ci,hF',hP',hlen,Eb,hset];exact hgo2
 ·have e:i=a.length:=by omega
  subst e;rw[dj,cv hba]at hov;have hlt:=DV (B:=2^64) (by decide) out hod;rw[hol]at hlt;have hc0:(2^64)^a.length*c=0:=by
   rcases(show c=0∨c=1 by omega)with h|h
   ·rw[h,fm]
   ·rw[h,gf]at hov;omega
  have ho:=iO (B:=2^64) (v:=nv (2^64) a-nv (2^64) b) (by decide) hod hol (by omega);rw[kd,dp];simp(disch:=omega) only[Cb,BW,Cc,BD,Bo,Cd,BP,BO,B8,B7,B6,B5,B3,B0,Ca,B9,B4,BJ,AV,Bz,AS,Bi,BH,ab,bi,cond_true,cond_false,bf,bh,bw,az,bm,bg,bd,bq,be,br,bp,ci,Az];rw[←ho]
theorem zC(l:List Nat)(hl:Ws l):R8 (Wd l,())=some (Dw (nv (2^64) l),()):=by
 show jQ Af.pre Af.F (Wd l)=_;unfold jQ;have p0:=Ea l hl.2;have hle:=(Ek l).1;have h2:=hl.2;have e3:decide ((((Ai l).length:Nat):Int)*8<=140737488355328)=true:=decide_eq_true (by omega);simp(disch:=omega) only[Cb,BW,Cc,BD,Bo,Cd,BP,BO,B8,B7,B6,B5,B3,B0,Ca,B9,B4,BJ,AV,Bz,AS,Bi,BH,ab,bi,cond_true,cond_false,bf,bh,bw,az,bm,bg,bd,bq,be,br,bp,ci,CZ p0,CX p0,Az,e3,fx,lh,gy];rw[cv (by rw[Az];exact cg _),lg,dp,Hj (by decide) l hl.1];rfl
theorem pF{x y:Nat}(hx:x<(2^64)^5000)(h:y<=x):W8 (Dw x,Dw y,())=some (Dw (x-y),0,()):=by
 show j8 Qj.pre Qj.F Dt.pre Dt.F Bk.pre Bk.F CP.pre CP.F Af.pre Af.F TM.pre TM.F (Dw x) (Dw y)=_;unfold j8;have hy:y<(2^64)^5000:=av h hx;have p0:=dG hx hy;have p1:=zC (dg (2^64) x) (Di hx);rw[Cg]at p1;have p1:R8 (Dw x,())=some (Dw x,()):=p1;have p2:=Q6 hy;have z1:decide ((if x=y then(0:Int)else if x<y then -1 else 1)<0)=false:=by
  by_cases he:x=y
  ·rw[if_pos he];rfl
  ·rw[if_neg he,if_neg (by omega)];rfl
 have hX:=Di hx;have hY:=Di hy;have hlx:=hX.2;have p3:W0 (Dw x,Dw y,())=some (Dw (x-y),()):=by
  show jT Ce.pre Ce.F A4.pre A4.F Af.pre Af.F YD (Dw x) (Dw y)=_;unfold jT;have hw:=aLh (dg (2^64) x) (dg (2^64) y) hX.1 hY.1 hlx (aDL (by decide) h) (by rw[Cg,Cg];exact h);rw[Cg,Cg]at hw;have q1:=zF (pd (2^64) (dg (2^64) x).length (x-y)) (by rw[Fh];exact hlx);have hlt:=SM (B:=2^64) (by decide) x;rw[Hj (by decide) _ (Tf (by decide) _ _),Tg (by decide) _ _ (by omega)]at q1;rw[show(Dw x).length=(dg (2^64) x).length from Az _];rw[show YD ((((dg (2^64) x).length:Int),(Dw y,((0:Int),((0:Int),((),()))))),(Dw x,()))=_ from hw];show(bif Ce.pre (Wd (pd (2^64) (dg (2^64) x).length (x-y)),())then some (Ce.F (Wd (pd (2^64) (dg (2^64) x).length (x-y)),()))else none)=_;simp only[aGH q1,aEz q1,cond_true];rfl
 simp only[Z4 p0,Zy p0,cond_true,z1,cond_false,vT p1,tU p1,CZ p2,CX p2,aPY p3,aNm p3]
def od(s:Bool)(n:Nat)(e:Int):Bool×Nat×Int:=if n=0 then(false,0,0)else(s,n/2^tz n,e+tz n)
def Cf(t:Bool×Nat×Int):cD:=dy t.1 t.2.1 t.2.2
theorem Z0(s:Bool)(n:Nat)(e:Int):(if n=0 then dy false 0 0 else dy s (n/2^tz n) (e+tz n))=Cf (od s n e):=by
 unfold od Cf;split<;>rfl
theorem Ey(s:Bool)(n:Nat)(e:Int):(od s n e=(false,0,0)/\n=0)∨((od s n e).1=s/\(od s n e).2.1%2=1/\n≠0/\n=2^tz n*(od s n e).2.1/\(od s n e).2.2=e+tz n):=by
 unfold od;by_cases h:n=0
 ·rw[if_pos h];exact .inl ⟨rfl,h⟩
 ·right;rw[if_neg h];obtain⟨k,hk⟩:=Wt h;have hd:n/2^tz n=2*k+1:=by
   have:=ga (2*k+1) (ag (tz n));rw[←hk]at this;exact this
  dsimp only;rw[hd];exact⟨rfl,by omega,h,hk,rfl⟩
theorem Wq{n k:Nat}(h:n<2^k)(h0:n≠0):tz n<k:=by
 obtain⟨j,hj⟩:=Wt h0;have h1:2^tz n*1<=2^tz n*(2*j+1):=ce _ (by omega);exact(ct (a:=2) (by decide)).1 (by omega)
theorem aPd(s:Bool){n k:Nat}(e:Int)(hn:n<2^k)(he:-20000<=e/\e<=20000):(od s n e).2.1<2^k/\-20000<=(od s n e).2.2/\(od s n e).2.2<=20000+k:=by
 rcases Ey s n e with⟨h,_⟩|⟨_,h2,h3,h4,h5⟩
 ·rw[h];exact⟨ag _,by dsimp only;omega,by dsimp only;omega⟩
 ·have hle:(od s n e).2.1<=n:=by
   have:=il (od s n e).2.1 (ag (tz n));omega
  have:=Wq hn h3;refine⟨by omega,by omega,by omega⟩
theorem My{n k:Nat}(h:n<2^k)(hk:k<=64*2000):n<(2^64)^2000:=by
 rw[Cw];exact ah h (ae (by decide) hk)
theorem aD2{n k:Nat}(h:n<2^k)(hk:k<=64*1000):(Dw n).length<=1000:=by
 unfold Dw;rw[Az];refine CW (by decide) _ _ ?_;rw[Cw];exact ah h (ae (by decide) hk)
theorem dE(s:Bool){n k:Nat}(h:n<2^k)(hk:k<=64*1000)(e:Int)(he:-40000<=e/\e<=40000):H4 (dy s n e,())=some (0,()):=by
 show jL (s,Dw n,e,())=_;unfold jL;have:=aD2 h hk;dsimp only;rw[decide_eq_false (p:=((Dw n).length:Int)>1024) (by omega),decide_eq_false (p:=e < -40000) (by omega),decide_eq_false (p:=e>40000) (by omega)];rfl
theorem o9(s:Bool){n:Nat}(h:n<2^6000)(e:Int)(he:-20000<=e/\e<=20000):Q2 (dy s n e,())=some (Cf (od s n e),0,()):=by
 show jM CK.pre CK.F (s,Dw n,e,())=_;unfold jM;have p0:=WS s (MW (My h (by decide))) e (by omega);rw[Z0]at p0;have p0:Fa ((s,Dw n,e,()),())=some (Cf (od s n e),()):=p0;have hb:=aPd s e h he;have hl:=aD2 hb.1 (by decide);have e1:decide ((((Cf (od s n e)).2.1.length:Nat):Int)>1024)=false:=decide_eq_false (by
  show ¬((((Dw (od s n e).2.1).length:Nat):Int)>1024);omega)
 have e2:decide ((Cf (od s n e)).2.2.1 < -40000)=false:=decide_eq_false (by
  show ¬((od s n e).2.2 < -40000);omega)
 have e3:decide ((Cf (od s n e)).2.2.1>40000)=false:=decide_eq_false (by
  show ¬((od s n e).2.2>40000);omega)
 simp only[RK p0,RE p0,cond_true,e1,e2,e3,cond_false,bq]
theorem dF{x y:Nat}(hx:x<(2^64)^5000)(hy:y<(2^64)^5000):Sa (Dw x,Dw y,())=some (Dw (x+y),()):=by
 have h1:(dg (2^64) x).length<=5000:=CW (by decide) _ _ hx;have h2:(dg (2^64) y).length<=5000:=CW (by decide) _ _ hy;have:=zJ (dg (2^64) x) (dg (2^64) y) (Di hx) (Di hy) (by rw[Rr (by decide)];omega) (by rw[Rr (by decide)];omega);rw[Cg,Cg]at this;exact this
end VL
namespace VL
open Go Vx
theorem cB{x:Nat}(h0:x≠0)(h:x<2^64):Dw x=(x:Int)::[]:=by
 unfold Dw;rw[Gr (by decide) (by omega),ar h,bu h,Es];rfl
theorem Si{f:Int}{a:Nat}(h:Am f a=0)(hfin:eF f a≠BI f):Sg (f,(a:Int),())=some (Cf (od (sF f a) (Ad f a) (Ag f a)),0,()):=by
 obtain⟨hf,h0⟩:=CT h;have ha:=M0 h;show Wf Ar.pre Ar.F Do.pre Do.F Bq.pre Bq.F BG.pre BG.F f a=_;unfold Wf;have h1:=DJ hf;have h2:=EX hf;have h3:=Eg hf;have h4:=Ik hf;have h5:=Ff hf;have h6:=SU hf;have hE:=SQ hf a;have hM:=VF f a;have hPp:2^(fP f-1)<=2^52:=ae (by decide) (by omega);have hpp:=ag (fP f-1);have p0:=En f a ha;have p1:=Yx (fW f-fP f) (by omega);have p2:=dJ hf a ha;have hr1:decide (0<=f)=true:=decide_eq_true hf.1;have hr2:decide (f<((4:Nat):Int))=true:=decide_eq_true hf.2;have r1:(Bt f).1=(fW f:Int):=rfl;have r2:(Bt f).2.1=(fP f:Int):=rfl;have r3:(Bt f).2.2.1=1-(fX f:Int):=rfl;have e1:aa .i64 ((fW f:Int)-(fP f:Int))=((fW f-fP f:Nat):Int):=BD _ _ (by omega);have e2:aa .i64 ((fP f:Int)-1)=((fP f-1:Nat):Int):=Bo _ (by omega);have e3:AQ .u64 1 ((fP f-1:Nat):Int)=((2^(fP f-1):Nat):Int):=M9 (by omega);have e4:A7 .u64 (mF f a:Int) ((2^(fP f-1):Nat):Int)=((mF f a+2^(fP f-1):Nat):Int):=by
  have:=FR (a:=mF f a) (b:=1) (k:=fP f-1) hM (by omega);rwa [fi]at this
 have hfl:(((eF f a:Nat):Int)==((2^(fW f-fP f)-1:Nat):Int))=false:=by
  rw[Is];exact beq_eq_false_iff_ne.2 hfin
 have ew:∀z:Int,-1000000<=z/\z<=1000000->aa .i64 z=z:=fun z hz=>As (by omega);simp only[i6 hf,r1,r2,r3,hr1,hr2,DC p0,Dz p0,iU p2,hZ p2,h,cond_true,bne_self_eq_false,cond_false,e1,e2,e3,e4,aB p1,ZF p1,hfl,AV];by_cases hz:eF f a=0
 ·have hg:(((eF f a:Nat):Int)==0)=true:=Bz _ hz;have hm:Ad f a=mF f a:=by unfold Ad;rw[if_pos hz]
  have hx:Ag f a=1-(fX f:Int)-(fP f:Int)+1:=by unfold Ag;rw[if_pos hz,jn]
  rw[hg,cond_true,hm,hx];by_cases hm0:mF f a=0
  ·rw[Bz _ hm0,cond_true];unfold od Cf;rw[if_pos hm0,aD3]
  ·obtain⟨k,hk⟩:=Wt hm0;have htl:=Wq (n:=mF f a) (k:=53) (by omega) hm0;have p3:=dK (t:=tz (mF f a)) (k:=k) (by omega);rw[←hk]at p3;have hq:mF f a/2^tz (mF f a)≠0:=by
    have:=ga (2*k+1) (ag (tz (mF f a)));rw[←hk]at this;omega
   have hql:=dx (mF f a) (2^tz (mF f a));rw[AS _ hm0,cond_false];simp only[iV p3,h9 p3,cond_true,AV,DD (mF f a) (tz (mF f a)) (by omega)];rw[←cB hq (by omega)];unfold od Cf dy;rw[if_neg hm0];rw[ew 1 (by omega),ew (1-1) (by omega),ew (1-1+_) (by omega),ew (1-1+_-_) (by omega),ew (1-1+_-_+1) (by omega),ew _ (by omega)];rw[show(1:Int)-1+(1-(fX f:Int))-(fP f:Int)+1+(tz (mF f a):Int)=1-(fX f:Int)-(fP f:Int)+1+(tz (mF f a):Int) by omega]
 ·have hg:(((eF f a:Nat):Int)==0)=false:=AS _ hz;have hm:Ad f a=mF f a+2^(fP f-1):=by unfold Ad;rw[if_neg hz]
  have hx:Ag f a=1-(fX f:Int)-(fP f:Int)+1+((eF f a:Int)-1):=by unfold Ag;rw[if_neg hz]
  rw[hg,cond_false,hm,hx];have hm0:mF f a+2^(fP f-1)≠0:=by omega
  have hml:mF f a+2^(fP f-1)<2^54:=by omega
  generalize mF f a+2^(fP f-1)=n at *
  obtain⟨k,hk⟩:=Wt hm0;have htl:=Wq hml hm0;have p3:=dK (t:=tz n) (k:=k) (by rw[←hk];omega);rw[←hk]at p3;have hq:n/2^tz n≠0:=by
   have:=ga (2*k+1) (ag (tz n));rw[←hk]at this;omega
  have hql:=dx n (2^tz n);rw[AS _ hm0,cond_false];simp only[iV p3,h9 p3,cond_true,AV,DD n (tz n) (by omega)];rw[←cB hq (by omega)];unfold od Cf dy;rw[if_neg hm0];rw[ew (eF f a:Int) (by omega),ew ((eF f a:Int)-1) (by omega),ew ((eF f a:Int)-1+_) (by omega),ew ((eF f a:Int)-1+_-_) (by omega),ew ((eF f a:Int)-1+_-_+1) (by omega),ew _ (by omega)];rw[show(eF f a:Int)-1+(1-(fX f:Int))-(fP f:Int)+1+(tz n:Int)=1-(fX f:Int)-(fP f:Int)+1+((eF f a:Int)-1)+(tz n:Int) by omega]
theorem aGo(s:Bool)(n:Nat)(e:Int):od (od s n e).1 (od s n e).2.1 (od s n e).2.2=od s n e:=by
 rcases Ey s n e with⟨h,_⟩|⟨_,h2,_,_,_⟩
 ·rw[h];rfl
 ·obtain⟨k,hk⟩:∃k,(od s n e).2.1=2*k+1:=⟨(od s n e).2.1/2,by omega⟩
  generalize hD:od s n e=D at *
  obtain⟨d1,d2,d3⟩:=D;simp only at hk h2⊢;subst hk;unfold od;rw[if_neg (by omega),aIw,ij,ms,gn,jn]
theorem ZZ(s:Bool){n:Nat}(e:Int)(hn:n<2^53)(he:-2000<=e/\e<=2000):(od s n e).2.1<2^53/\-2500<=(od s n e).2.2/\(od s n e).2.2<=2500:=by
 rcases Ey s n e with⟨h,_⟩|⟨_,h2,h3,h4,h5⟩
 ·rw[h];exact⟨ag _,by dsimp only;omega,by dsimp only;omega⟩
 ·have hle:(od s n e).2.1<=n:=by
   have:=il (od s n e).2.1 (ag (tz n));omega
  have:=Wq hn h3;refine⟨by omega,by omega,by omega⟩
end VL
namespace VL
open Go Vx
theorem aHe{f:Int}(hf:Fm f):qm f<=0:=by
 have:=SU hf;have:=DJ hf;unfold qm;omega
theorem aVp(f:Int)(s:Bool)(e:Int):vI f s 0 e=0:=by
 unfold vI;rw[fc];cases s<;>rfl
theorem aK7(s:Bool){n:Nat}(hn:n<(2^64)^5000)(e:Int):Ub (dy s n e,())=some (if n=0 then 0 else if s=true then -1 else 1,()):=by
 show nE Bh.pre Bh.F (s,Dw n,e,())=_;unfold nE;have p0:=WT (dg (2^64) n) (Di hn);rw[Cg]at p0;have p0:R6 (Dw n,())=some (Dw n,()):=p0;dsimp only;simp only[VU p0,UU p0,cond_true];by_cases h:n=0
 ·rw[if_pos h,h,Dr];rfl
 ·have hlen:(((Dw n).length:Int)==0)=false:=AS _ (by have:=ID h;omega);rw[if_neg h,hlen,cond_false];cases s<;>rfl
theorem pM{f m:Int}(hf:Fm f)(hm:0<=m/\m<=5)(s:Bool){n:Nat}(hn:n<2^6000)(h0:n≠0)(hodd:n%2=1)(e:Int)(he:-20000<=e/\e<=20000):
  Q9 (f,m,dy s n e,())=some (((AH f m s n e false).1:Int),((AH f m s n e false).2:Int),0,()):=by
 show nG EI.pre EI.F Qh.pre Qh.F EJ.pre EJ.F f m (s,Dw n,e,())=_;unfold nG;have p0:=pA hf hm;have q1:=dE s hn (by decide) e (by omega);have q2:=o9 s hn e he;have hod:od s n e=(s,n,e):=by
  obtain⟨k,rfl⟩:∃k,n=2*k+1:=⟨n/2,by omega⟩
  unfold od;rw[if_neg (by omega),aIw,ij,ms,gn,jn]
 rw[hod]at q2;have p1:WV ((s,Dw n,e,()),())=some ((s,Dw n,e,()),0,()):=by
  show jO E8.pre E8.F D4.pre D4.F (s,Dw n,e,())=_;unfold jO;have q1:H4 ((s,Dw n,e,()),())=some (0,()):=q1;have q2:Q2 ((s,Dw n,e,()),())=some ((s,Dw n,e,()),0,()):=q2;simp only[Z3 q1,Zx q1,vQ q2,tQ q2,cond_true,bne_self_eq_false,cond_false]
 have p2:=pB s n e false f m hf (My hn (by decide)) (by omega);have hlen:(((Dw n).length:Int)==0)=false:=AS _ (by have:=ID h0;omega);simp only[vR p0,tR p0,cond_true,bne_self_eq_false,cond_false,aPW p1,aNk p1,hlen,vS p2,tS p2]
end VL
namespace VL
open Go Vx
def cd(f:Int)(S:Int):cD:=Cf (od (decide (S<0)) S.natAbs (qm f))
theorem aIv{n:Nat}(h:n≠0)(d:Nat):tz (n*2^d)=tz n+d:=by
 obtain⟨k,hk⟩:=Wt h;have e:n*2^d=2^(tz n+d)*(2*k+1):=by
  rw[ap,ao,aq (2^d),←ao,←hk]
 rw[e];exact aX _ _
theorem aMg{f:Int}(s:Bool)(n:Nat){e:Int}(he:qm f<=e):Cf (od s n e)=cd f (vI f s n e):=by
 unfold cd;congr 1;by_cases h0:n=0
 ·subst h0;rw[aVp];rfl
 ·have hp:=ag (e-qm f).toNat;have hpos:0<n*2^(e-qm f).toNat:=gd (by omega) hp;have hs:decide (vI f s n e<0)=s:=by
   unfold vI;generalize n*2^(e-qm f).toNat=N at *
   cases s<;>simp only[cond_true,cond_false]
   ·exact decide_eq_false (by omega)
   ·exact decide_eq_true (by omega)
  have hn:(vI f s n e).natAbs=n*2^(e-qm f).toNat:=by
   unfold vI;cases s
   ·exact iv _
   ·exact(oj _).trans (iv _)
  rw[hs,hn];unfold od;rw[if_neg h0,if_neg (by omega),aIv h0];have hd:n*2^(e-qm f).toNat/2^(tz n+(e-qm f).toNat)=n/2^tz n:=by
   rw[ap,Nat.mul_div_mul_right _ _ hp]
  rw[hd];congr 2;omega
def Bd(f:Int)(n:Nat)(e:Int):Prop:=qm f<=e/\e<=6000/\n*2^(e-qm f).toNat<2^5000
theorem Bd.lt{f:Int}{n:Nat}{e:Int}(h:Bd f n e):n<2^5000:=by
 have:=dz n (ag (e-qm f).toNat);exact av this h.2.2
theorem Bd.od{f:Int}(hf:Fm f){n:Nat}{e:Int}(s:Bool)(h:Bd f n e):Bd f (VL.od s n e).2.1 (VL.od s n e).2.2:=by
 rcases Ey s n e with⟨hz,_⟩|⟨_,h2,h3,h4,h5⟩
 ·rw[hz];exact⟨aHe hf,by dsimp only;omega,by dsimp only;rw[fc];exact ag _⟩
 ·have hle:2^(tz n+(e-qm f).toNat)<=n*2^(e-qm f).toNat:=by
   rw[ap];refine ay _ ?_;have:=dz (2^tz n) (show 0<(VL.od s n e).2.1 by omega);omega
  have hlt:=(ct (a:=2) (by decide)).1 (av hle h.2.2);have hq:=aHe hf;have h1:=h.1;refine⟨by omega,by omega,?_⟩;have e1:(VL.od s n e).2.1*2^((VL.od s n e).2.2-qm f).toNat=n*2^(e-qm f).toNat:=by
   rw[h5,show(e+(tz n:Int)-qm f).toNat=tz n+(e-qm f).toNat by omega,ap,←ao,aq _ (2^tz n),←h4]
  rw[e1];exact h.2.2
theorem Bd.sft{f:Int}{X:Nat}{ex e:Int}(h:Bd f X ex)(h1:e<=ex)(h2:qm f<=e):X*2^(ex-e).toNat<2^5000:=by
 have e1:X*2^(ex-qm f).toNat=X*2^(ex-e).toNat*2^(e-qm f).toNat:=by
  rw[ao,←ap];congr 2;omega
 have:=dz (X*2^(ex-e).toNat) (ag (e-qm f).toNat);rw[←e1]at this;exact av this h.2.2
theorem aMB(k:Nat):(2:Nat)^k+2^k=2^(k+1):=by rw[df];omega
end VL
namespace VL
open Go Vx
theorem aUN{f:Int}(hf:Fm f)(a:Nat):(Ag f a-qm f).toNat<=2047:=by
 have h1:=SQ hf a;unfold Ag qm;split<;>omega
theorem aIy(f:Int)(a:Nat):(vA f a).natAbs=Ad f a*2^(Ag f a-qm f).toNat:=by
 unfold vA vI;cases sF f a
 ·exact iv _
 ·exact(oj _).trans (iv _)
theorem aVo{f:Int}(hf:Fm f)(a:Nat):(vA f a).natAbs<2^2100:=by
 rw[aIy];have h1:Ad f a*2^(Ag f a-qm f).toNat<2^53*2^(Ag f a-qm f).toNat:=cm (FL hf a) (ag _);rw[←ap]at h1;have:=aUN hf a;exact ah h1 (ae (by decide) (by omega))
end VL
namespace VL
open Go Vx
structure Hid (p:Prop):Prop where
 out:p
end VL
namespace VL
open Go Vx
theorem aKU{f:Int}{a:Nat}(h:Am f a=0)(hfull:eF f a=BI f):Sg (f,(a:Int),())=some ((false,[],0,()),40,()):=by
 obtain⟨hf,h0⟩:=CT h;have ha:=M0 h;show Wf Ar.pre Ar.F Do.pre Do.F Bq.pre Bq.F BG.pre BG.F f a=_;unfold Wf;have h2:=EX hf;have h3:=Eg hf;have h4:=DJ hf;have h5:=Ff hf;have p0:=En f a ha;have p1:=Yx (fW f-fP f) (by omega);have p2:=dJ hf a ha;have hr1:decide (0<=f)=true:=decide_eq_true hf.1;have hr2:decide (f<((4:Nat):Int))=true:=decide_eq_true hf.2;have r1:(Bt f).1=(fW f:Int):=rfl;have r2:(Bt f).2.1=(fP f:Int):=rfl;have e1:aa .i64 ((fW f:Int)-(fP f:Int))=((fW f-fP f:Nat):Int):=BD _ _ (by omega);have hfl:(((eF f a:Nat):Int)==((2^(fW f-fP f)-1:Nat):Int))=true:=by
  rw[Is];exact beq_iff_eq.2 hfull
 simp only[i6 hf,r1,r2,hr1,hr2,DC p0,Dz p0,iU p2,hZ p2,h,cond_true,bne_self_eq_false,cond_false,e1,aB p1,ZF p1,hfl]
end VL
namespace VL
open Go Vx
theorem wR{l:List Nat}{j v:Nat}(hj:j<l.length)(h:l.getD j 0=v):l.set j v=l:=by
 rw[al,bc hj,Option.getD_some]at h;subst h;exact oc hj
end VL
namespace VL
open Go Vx
theorem Ie{n k:Nat}(h:n<2^k)(hk:k<=64*5000):n<(2^64)^5000:=by
 rw[Cw];exact ah h (ae (by decide) hk)
theorem aID(n:Nat):((((Dw n).length:Nat):Int)==0)=decide (n=0):=by
 by_cases h:n=0
 ·subst h;rw[Dr];rfl
 ·rw[decide_eq_false h];exact AS _ (by have:=ID h;omega)
end VL
namespace VL
open Go Vx
def CL(far n:Int):Int:=if(if far<n then far else n)>-far then(if far<n then far else n)else -far
theorem aMn{far:Int}(h:0<=far)(n:Int):-far<=CL far n/\CL far n<=far:=by
 unfold CL;split<;>split<;>omega
theorem aHp{f:Int}(hf:Fm f)(m:Int)(neg:Bool){N:Nat}(h0:N≠0)(hN:N<2^100){e:Int}(he:e<=-2500):
  AH f m neg N e false=((if Cv m neg false 1=true then 1 else 0)+Dg f neg,24):=by
 have hP:=DJ hf;have hPl:=Ff hf;have hX:=Ik hf;have hX15:=SU hf;have hbl:=Fb hN;have hbl1:=JZ h0;have htop:AW N e=e+(An N:Int)-1:=rfl;have hq:MV f (AW N e)=1-(fX f:Int)-(fP f:Int)+1:=by unfold MV;rw[if_pos (by omega)]
 obtain⟨d,hd⟩:=cw (show 0<=1-(fX f:Int)-(fP f:Int)+1-e by omega);have hN2:N<2^(d-1):=ah hN (ae (by decide) (by omega));have hN3:N<2^d:=ah hN (ae (by decide) (by omega));have hquo:E2 N e (1-(fX f:Int)-(fP f:Int)+1)=0:=by
  rw[iY (by omega),hd,ab,bu hN3]
 have hrst:DI N e (1-(fX f:Int)-(fP f:Int)+1) false=1:=by
  rw[Zh,i7 (by omega),hd,ab,ar hN3];unfold Cu;rw[if_neg h0,if_pos hN2]
 have hcut:CM m neg N e (1-(fX f:Int)-(fP f:Int)+1) false=(if Cv m neg false 1=true then 1 else 0):=by
  unfold CM;rw[hquo,hrst];by_cases h:Cv m neg false 1=true
  ·rw[if_pos h,if_pos ⟨by decide,h⟩]
  ·rw[if_neg h,if_neg (fun h2=>h h2.2)]
 have hb1:An (if Cv m neg false 1=true then 1 else 0)<=1:=by split<;>decide
 have hc2:=aMz (m:=m) (neg:=neg) (n:=N) (e:=e) hf (Int.le_refl (AW N e-(fP f:Int)+1));have hb2:=Fb (av hc2 (du (by decide) (Nat.lt_succ_self (fP f))));have htiny:FJ f m neg N e false:=⟨by omega,by omega⟩
 unfold AH;dsimp only;rw[hq,hcut,hrst,if_neg (by omega),if_neg (by omega),if_neg (show ¬(1:Nat)=0 by decide),if_pos htiny,Int.sub_self,bi,fc,dw]
theorem aHo{f:Int}(hf:Fm f)(m:Int)(neg:Bool){N:Nat}(h0:N≠0){e:Int}(he:2500<=e):
  AH f m neg N e false=(Zb f m neg,20):=by
 have hX:=Ik hf;have hbl1:=JZ h0;have htop:AW N e=e+(An N:Int)-1:=rfl;unfold AH;rw[if_pos (by omega)]
theorem aTW{f:Int}(hf:Fm f)(m:Int)(neg:Bool){N:Nat}(h0:N≠0)(hN:N<2^100){e:Int}(he:-2000<=e/\e<=2000)(n:Int):
  AH f m neg N (e+CL 10000 n) false=AH f m neg N (e+CL 5000 n) false:=by
 by_cases h1:n>5000
 ·have a1:5000<=CL 10000 n:=by unfold CL;split<;>split<;>omega
  have a2:5000<=CL 5000 n:=by unfold CL;split<;>split<;>omega
  rw[aHo hf m neg h0 (by omega),aHo hf m neg h0 (by omega)]
 ·by_cases h2:n < -5000
  ·have a1:CL 10000 n<=-5000:=by unfold CL;split<;>split<;>omega
   have a2:CL 5000 n<=-5000:=by unfold CL;split<;>split<;>omega
   rw[aHp hf m neg h0 hN (by omega),aHp hf m neg h0 hN (by omega)]
  ·have a1:CL 10000 n=CL 5000 n:=by
    have b1:CL 10000 n=n:=by unfold CL;rw[if_neg (show ¬(10000:Int)<n by omega),if_pos (by omega)]
    have b2:CL 5000 n=n:=by
     unfold CL;rw[if_neg (show ¬(5000:Int)<n by omega)];split<;>omega
    rw[b1,b2]
   rw[a1]
def Tp(f m:Int)(a:Nat)(n:Int):DenS KS:=if ¬Fm f then(0,0,2,())else if m<0∨m>5 then(0,0,3,())else if Am f a≠0 then(0,0,Am f a,())else bif nan f a then((CC f:Int),(bif AG f a then 1 else 0),0,())else if eF f a=BI f∨By f a=0 then((a:Int),0,0,())else(((AH f m (sF f a) (Ad f a) (Ag f a+CL 5000 n) false).1:Int),((AH f m (sF f a) (Ad f a) (Ag f a+CL 5000 n) false).2:Int),0,())
theorem aPT(f:Int)(a:Nat):(At f a==0)=decide (By f a=0):=by
 rw[cu,beq_iff_eq,decide_eq_true_eq];unfold At;cases sF f a<;>simp only[cond_true,cond_false]<;>omega
theorem aKJ(f m:Int){a:Nat}(ha:a<2^64)(n:Int):XH (f,m,(a:Int),n,())=some (Tp f m a n):=by
 show lP Aq.pre Aq.F DG.pre DG.F Cz.pre Cz.F AB.pre AB.F CA.pre CA.F Cy.pre Cy.F Dn.pre Dn.F f m a n=_;unfold lP Tp;try dsimp only
 rw[show(if((if((10000:Int)<n)then(10000:Int)else n)>(-(10000:Int)))then(if((10000:Int)<n)then(10000:Int)else n)else(-(10000:Int)))=CL 10000 n from rfl];by_cases hf:¬Fm f
 ·have p0:=GZ hf;rw[if_pos hf];simp only[Dd p0,C9 p0,cond_true];rfl
 have hf:=di.1 hf;have p0:=FE hf;rw[if_neg (show ¬¬Fm f from fun h=>h hf)];simp only[Dd p0,C9 p0,cond_true,bne_self_eq_false,cond_false];by_cases hm:m<0∨m>5
 ·rw[if_pos hm];have:(decide (m<0)||decide (m>5))=true:=by rcases hm with h|h<;>simp[h]
  rw[this,cond_true]
 rw[if_neg hm];have hmm:(decide (m<0)||decide (m>5))=false:=by
  rw[decide_eq_false (by omega),decide_eq_false (by omega)];rfl
 rw[hmm,cond_false];by_cases hc:Am f a≠0
 ·have p1:=dI ha hc;rw[if_pos hc];simp only[M2 p1,MO p1,cond_true,bne_iff_ne.2 hc]
 have hc:Am f a=0:=di.1 hc;have p1:=Yu ha hc;rw[if_neg (show ¬Am f a≠0 from fun h=>h hc)];have p2:=LW (Av f a,At f a,());have p3:=LX (Av f a,At f a,()) (Av f a,At f a,());have p4:=Eo hf;rw[show((Av f a,At f a,()):Int×Int×Unit).1=Av f a from rfl,Hb]at p2;rw[show((Av f a,At f a,()):Int×Int×Unit).1=Av f a from rfl,Fc,bq]at p3;simp only[M2 p1,MO p1,cond_true,bne_self_eq_false,cond_false,Z9 p2,ZD p2,aA p3,ZE p3,FS p4,FI p4];cases hn:nan f a with
 |true=>rfl
 |false=>
  simp only[cond_false];by_cases hi:eF f a=BI f
  ·have p5:=aKU hc hi;rw[if_pos (.inl hi)];simp only[RM p5,RG p5,cond_true];rfl
  have p5:=Si hc hi;simp only[RM p5,RG p5,cond_true,bne_self_eq_false,bp,aPT];by_cases hz:By f a=0
  ·rw[if_pos (.inr hz),decide_eq_true hz,cond_true]
  rw[if_neg (by rintro (h|h)<;>contradiction),decide_eq_false hz,cond_false];have hml:=FL hf a;have hxb:=Gz hf a;have hmn:Ad f a≠0:=by
   intro h;have hz0:=(xP hf a).2;unfold Ad at h;have hpp:=ag (fP f-1);split at h
   ·rename_i h2;exact hz (hz0 ⟨h2,h⟩)
   ·omega
  have hcb:=aMn (far:=10000) (by decide) n;rcases Ey (sF f a) (Ad f a) (Ag f a)with⟨_,h⟩|⟨o1,o2,o3,o4,o5⟩
  ·exact absurd h hmn
  have htz:=Wq hml hmn;have e1:(Cf (od (sF f a) (Ad f a) (Ag f a))).2.2.1=Ag f a+tz (Ad f a):=by
   show(od (sF f a) (Ad f a) (Ag f a)).2.2=_;exact o5
  have e2:(Cf (od (sF f a) (Ad f a) (Ag f a))).1=sF f a:=by
   show(od (sF f a) (Ad f a) (Ag f a)).1=_;exact o1
  have e3:(Cf (od (sF f a) (Ad f a) (Ag f a))).2.1=Dw (od (sF f a) (Ad f a) (Ag f a)).2.1:=rfl;rw[e1,e2,e3,As (n:=Ag f a+_+_) (by omega)];generalize(od (sF f a) (Ad f a) (Ag f a)).2.1=k at *
  have hk0:k≠0:=by omega
  have hkl:k<=Ad f a:=by
   have:=il k (ag (tz (Ad f a)));omega
  have p6:=pM hf (m:=m) (by omega) (sF f a) (n:=k) (jd (av hkl hml) (du (by decide) (by decide))) hk0 o2 (Ag f a+tz (Ad f a)+CL 10000 n) (by omega);have hsc:=M4 (f:=f) (m:=m) (neg:=sF f a) hf hk0 (tz (Ad f a)) (Ag f a+CL 10000 n);rw[aq,←o4,show Ag f a+CL 10000 n+(tz (Ad f a):Int)=Ag f a+tz (Ad f a)+CL 10000 n by omega]at hsc;rw[←hsc,aTW hf m (sF f a) hmn (jd hml (du (by decide) (by decide))) ⟨hxb.1,hxb.2⟩ n]at p6;have p6:Q9 (f,m,(sF f a,Dw k,Ag f a+tz (Ad f a)+CL 10000 n,()),())=_:=p6;simp only[v8 p6,uB p6,cond_true]
end VL
namespace VL
open Go Vx
theorem Y3{x:Nat}(h:x<2^64):A9 .u64 (x:Int) 4294967295=((x%2^32:Nat):Int):=UI (n:=32) h (by decide)
theorem To(x:Nat):AJ .u64 (x:Int) 32=((x/2^32:Nat):Int):=by
 have h:=aHL (a:=(x:Int)) 32 (by decide);rw[show((32:Nat):Int)=32 from rfl]at h;rw[h];norm_cast
theorem aO1{x0 x1 y0 y1:Nat}(h0:x0<2^32)(h1:x1<2^32)(k0:y0<2^32)(k1:y1<2^32):
  ((x1*y1%2^64+(x1*y0%2^64+x0*y0%2^64/2^32)%2^64/2^32)%2^64+((x1*y0%2^64+x0*y0%2^64/2^32)%2^64%2^32+x0*y1%2^64)%2^64/2^32)%2^64=(x0+2^32*x1)*(y0+2^32*y1)/2^64:=by
 have b00:x0*y0<=(2^32-1)*(2^32-1):=io (by omega) (by omega);have b01:x0*y1<=(2^32-1)*(2^32-1):=io (by omega) (by omega);have b10:x1*y0<=(2^32-1)*(2^32-1):=io (by omega) (by omega);have b11:x1*y1<=(2^32-1)*(2^32-1):=io (by omega) (by omega);have e1:x0*(2^32*y1)=2^32*(x0*y1):=fu _ _ _;have e2:2^32*x1*y0=2^32*(x1*y0):=ao _ _ _;have e3:2^32*x1*(2^32*y1)=2^64*(x1*y1):=by
  rw[ao,fu x1,←ao]
 rw[cp,bt,bt,e1,e2,e3];generalize x0*y0=a at *
 generalize x0*y1=b at *
 generalize x1*y0=c at *
 generalize x1*y1=d at *
 have ha:a%2^64=a:=ar (by omega);have hb:b%2^64=b:=ar (by omega);have hc:c%2^64=c:=ar (by omega);have hd:d%2^64=d:=ar (by omega);rw[ha,hb,hc,hd];have ht:(c+a/2^32)%2^64=c+a/2^32:=ar (by omega);rw[ht];generalize hT:c+a/2^32=t;have hw:(t%2^32+b)%2^64=t%2^32+b:=ar (by omega);rw[hw];have hq:(d+t/2^32)%2^64=d+t/2^32:=ar (by omega);rw[hq];omega
theorem dH{x y:Nat}(hx:x<2^64)(hy:y<2^64):Xp ((x:Int),(y:Int),())=some (((x*y/2^64:Nat):Int),((x*y%2^64:Nat):Int),()):=by
 show kY (x:Int) (y:Int)=_;unfold kY;dsimp only;rw[Y3 hx,Y3 hy,To x,To y];have hm:∀z:Nat,z%2^64<2^64:=fun z=>bo _ (by decide);have am:∀z:Nat,A9 .u64 ((z%2^64:Nat):Int) 4294967295=((z%2^64%2^32:Nat):Int):=fun z=>Y3 (hm z);have wm:∀a b:Nat,aa .u64 ((a:Int)*(b:Int))=((a*b%2^64:Nat):Int):=fun a b=>by rw[←jf];exact Kg _
 have wa:∀a b:Nat,aa .u64 ((a:Int)+(b:Int))=(((a+b)%2^64:Nat):Int):=fun a b=>by rw[←mq];exact Kg _
 simp only[wm,wa,To,am];have e:=aO1 (x0:=x%2^32) (x1:=x/2^32) (y0:=y%2^32) (y1:=y/2^32) (by omega) (by omega) (by omega) (by omega);rw[ln,ln]at e;rw[e]
theorem pI{x y:Nat}(hx:x<2^64)(hy:y<2^64):Xq ((x:Int),(y:Int),())=some (Wi (x*y),()):=by
 show kZ AO.pre AO.F (x:Int) (y:Int)=_;unfold kZ;have p:=dH hx hy;simp only[iR p,gY p,cond_true];rfl
def AK(f:Int)(a:Nat):Bool:=eF f a==0&&mF f a==0
theorem Zf{f:Int}(hf:Fm f)(a:Nat):(Av f a==5||Av f a==6)=AK f a:=by
 have hp:=RD hf;have hne:(eF f a==BI f&&eF f a==0)=false:=by
  cases h:eF f a==BI f
  ·rfl
  ·have:=beq_iff_eq.1 h;rw[bh,this];exact beq_eq_false_iff_ne.2 (by omega)
 unfold Av AK;cases h1:eF f a==BI f<;>cases h2:eF f a==0<;>rw[h1,h2]at hne<;>cases mF f a==0<;>cases sF f a<;>cases mF f a/2^(fP f-2)!=0<;>first|rfl|cases hne
theorem aVV{f:Int}(hf:Fm f){a:Nat}(h:eF f a=0):
  aa .i64 (aa .i64 (aa .i64 (aa .i64 (aa .i64 (1:Int)-1)+(1-(fX f:Int)))-(fP f:Int))+1)=Ag f a:=by
 have h3:=Ff hf;have h4:=Ik hf;unfold Ag;rw[if_pos h,show aa .i64 (1:Int)=1 from rfl,As (n:=(1:Int)-1) (by omega),As (n:=(1:Int)-1+(1-(fX f:Int))) (by omega),As (n:=(1:Int)-1+(1-(fX f:Int))-(fP f:Int)) (by omega),As (by omega)];omega
theorem aVT{f:Int}(hf:Fm f){a:Nat}(h:eF f a≠0):
  aa .i64 (aa .i64 (aa .i64 (aa .i64 (aa .i64 (eF f a:Int)-1)+(1-(fX f:Int)))-(fP f:Int))+1)=Ag f a:=by
 have h3:=Ff hf;have h4:=Ik hf;have hE:=SQ hf a;unfold Ag;rw[if_neg h,As (n:=(eF f a:Int)) (by omega),As (n:=(eF f a:Int)-1) (by omega),As (n:=(eF f a:Int)-1+(1-(fX f:Int))) (by omega),As (n:=(eF f a:Int)-1+(1-(fX f:Int))-(fP f:Int)) (by omega),As (by omega)];omega
theorem aOT{f:Int}(hf:Fm f)(a:Nat):A7 .u64 (mF f a:Int) (AQ .u64 1 (aa .i64 ((fP f:Int)-1)))=((mF f a+2^(fP f-1):Nat):Int):=by
 have h1:=DJ hf;have h3:=Ff hf;have hM:=VF f a;have hPp:2^(fP f-1)<=2^52:=ae (by decide) (by omega);have e0:aa .i64 ((fP f:Int)-1)=((fP f-1:Nat):Int):=Bo _ (by omega);have e3:AQ .u64 1 ((fP f-1:Nat):Int)=((2^(fP f-1):Nat):Int):=M9 (by omega);rw[e0,e3];have:=FR (a:=mF f a) (b:=1) (k:=fP f-1) hM (by omega);rwa [fi]at this
theorem zW{f:Int}{a:Nat}(h:Am f a=0):T4 (f,Bt f,(a:Int),())=some ((Av f a,sF f a,(Ad f a:Int),Ag f a,()),0,()):=by
 obtain⟨hf,h0⟩:=CT h;have ha:=M0 h;show Wc AD.pre AD.F Br.pre Br.F f (Bt f) a=_;unfold Wc;have p1:=Gn ha h;have p2:=So h;have h1:=DJ hf;have h3:=Ff hf;have r1:(Bt f).2.1=(fP f:Int):=rfl;have r2:(Bt f).2.2.1=1-(fX f:Int):=rfl;have e0:decide (0<=aa .i64 ((fP f:Int)-1))=true:=by
  rw[Bo _ (by omega)];exact AV _
 simp only[DB p1,Dy p1,Tj p2,S6 p2,cond_true,bne_self_eq_false,cond_false,r1,r2,e0];by_cases hz:eF f a=0
 ·rw[Bz _ hz,cond_true,aVV hf hz];have hm:Ad f a=mF f a:=by unfold Ad;rw[if_pos hz]
  rw[hm]
 ·rw[AS _ hz,cond_false,aVT hf hz,aOT hf];have hm:Ad f a=mF f a+2^(fP f-1):=by unfold Ad;rw[if_neg hz]
  rw[hm]
theorem zV{f:Int}{a:Nat}(ha:a<2^64)(h:Am f a≠0):T4 (f,Bt f,(a:Int),())=some ((0,false,0,0,()),Am f a,()):=by
 show Wc AD.pre AD.F Br.pre Br.F f (Bt f) a=_;unfold Wc;have p1:=Sm ha h;have e:(Am f a !=0)=true:=bne_iff_ne.2 h;simp only[DB p1,Dy p1,cond_true,e]
def aGb(f m:Int)(a b:Nat):Int×Int×Int×Unit:=bif nan f a||nan f b then((CC f:Int),(bif AG f a||AG f b then 1 else 0),0,())else bif(Au f a&&AK f b)||(AK f a&&Au f b)then((CC f:Int),1,0,())else bif Au f a||Au f b then((Gu f (!(sF f a==sF f b)):Int),0,0,())else bif AK f a||AK f b then((Dg f (!(sF f a==sF f b)):Int),0,0,())else(((AH f m (!(sF f a==sF f b)) (Ad f a*Ad f b) (Ag f a+Ag f b) false).1:Int),((AH f m (!(sF f a==sF f b)) (Ad f a*Ad f b) (Ag f a+Ag f b) false).2:Int),0,())
def VG(f m:Int)(a b:Nat):Int×Int×Int×Unit:=if ¬Fm f then(0,0,2,())else if m<0∨m>5 then(0,0,3,())else if Am f a≠0 then(0,0,Am f a,())else if Am f b≠0 then(0,0,Am f b,())else aGb f m a b
theorem Kh{f:Int}{a:Nat}(h:AK f a=false):Ad f a≠0:=by
 unfold AK at h;unfold Ad;by_cases hz:eF f a=0
 ·rw[if_pos hz];intro hm;rw[hz,hm]at h;cases h
 ·rw[if_neg hz];have:=ag (fP f-1);omega
theorem aKF(f m:Int){a b:Nat}(ha:a<2^64)(hb:b<2^64):XD (f,m,(a:Int),(b:Int),())=some (VG f m a b):=by
 show lJ Aq.pre Aq.F Qw.pre Qw.F Qx.pre Qx.F AB.pre AB.F Qy.pre Qy.F BY.pre BY.F Qz.pre Qz.F Bb.pre Bb.F C1.pre C1.F A3.pre A3.F f m a b=_;unfold lJ VG;dsimp only;by_cases hf:¬Fm f
 ·have p0:=GZ hf;rw[if_pos hf];simp only[Dd p0,C9 p0,cond_true];rfl
 have hf:=di.1 hf;have p0:=FE hf;rw[if_neg (show ¬¬Fm f from fun h=>h hf)];simp only[Dd p0,C9 p0,cond_true,bne_self_eq_false,cond_false];by_cases hm:m<0∨m>5
 ·rw[if_pos hm];have:(decide (m<0)||decide (m>5))=true:=by rcases hm with h|h<;>simp[h]
  rw[this,cond_true]
 rw[if_neg hm];have hm':0<=m/\m<=5:=by omega
 have:(decide (m<0)||decide (m>5))=false:=by simp;omega
 rw[this,cond_false];by_cases hca:Am f a≠0
 ·have p1:=zV ha hca;have e:(Am f a !=0)=true:=bne_iff_ne.2 hca;rw[if_pos hca];simp only[iS p1,gZ p1,cond_true,e]
 have hca:=di.1 hca;have p1:=zW hca;rw[if_neg (show ¬Am f a≠0 from fun h=>h hca)];simp only[iS p1,gZ p1,cond_true,bne_self_eq_false,cond_false];by_cases hcb:Am f b≠0
 ·have p2:=zV hb hcb;have e:(Am f b !=0)=true:=bne_iff_ne.2 hcb;rw[if_pos hcb];simp only[iS p2,gZ p2,cond_true,e]
 have hcb:=di.1 hcb;have p2:=zW hcb;rw[if_neg (show ¬Am f b≠0 from fun h=>h hcb)];have n351:∀(c:Int) (s:Bool) (n e:Int),XA ((c,s,n,e,()),())=some ((c==1||c==0),()):=fun _ _ _ _=>rfl;have n352:∀(c:Int) (s:Bool) (n e:Int),XB ((c,s,n,e,()),())=some ((c==2||c==9),()):=fun _ _ _ _=>rfl;have n353:∀(c:Int) (s:Bool) (n e:Int),XC ((c,s,n,e,()),())=some ((c==5||c==6),()):=fun _ _ _ _=>rfl;have q1:=n351 (Av f a) (sF f a) (Ad f a:Int) (Ag f a);have q2:=n351 (Av f b) (sF f b) (Ad f b:Int) (Ag f b);have q3:=n352 (Av f a) (sF f a) (Ad f a:Int) (Ag f a);have q4:=n352 (Av f b) (sF f b) (Ad f b:Int) (Ag f b);have q5:=n353 (Av f a) (sF f a) (Ad f a:Int) (Ag f a);have q6:=n353 (Av f b) (sF f b) (Ad f b:Int) (Ag f b);rw[Hb]at q1 q2;rw[UP]at q3 q4;rw[Zf hf]at q5 q6;have s:=!(sF f a==sF f b);have p3:=Eo hf;have p4:=Uh hf (!(sF f a==sF f b));have p5:=Q3 hf (!(sF f a==sF f b));have ma:=FL hf a;have mb:=FL hf b;have xa:=Gz hf a;have xb:=Gz hf b;have hprod:Ad f a*Ad f b<2^128:=ah (Nat.mul_lt_mul'' ma mb) (by decide);have p6:=pI (x:=Ad f a) (y:=Ad f b) (jd ma (by decide)) (jd mb (by decide));have p7:=LV hf hm' (!(sF f a==sF f b)) (Ad f a*Ad f b) hprod (Ag f a+Ag f b) (by omega) false (fun h=>by cases h);have ew:aa .i64 (Ag f a+Ag f b)=Ag f a+Ag f b:=As (by omega);simp only[iS p2,gZ p2,cond_true,bne_self_eq_false,cond_false,aGQ q1,aEI q1,aGQ q2,aEI q2,aGR q3,aEJ q3,aGR q4,aEJ q4,aGS q5,aEK q5,aGS q6,aEK q6,FS p3,FI p3,V0 p4,UZ p4,RL p5,RF p5,v3 p6,t6 p6,ew,Ix p7,In p7,be,Fc];unfold aGb;cases h1:nan f a||nan f b
 ·simp only[cond_false];cases h2:Au f a&&AK f b||AK f a&&Au f b
  ·simp only[cond_false];cases h3:Au f a||Au f b
   ·simp only[cond_false];cases h4:AK f a||AK f b
    ·simp only[cond_false];simp only[dv]at h4;rw[if_neg (Nat.mul_ne_zero (Kh h4.1) (Kh h4.2))]
    ·simp only[cond_true]
   ·simp only[cond_true]
  ·simp only[cond_true]
 ·simp only[cond_true];cases AG f a||AG f b<;>rfl
end VL
namespace VL
open Go Vx
theorem tE(n:Nat):∃r,r*r<=n/\n<(r+1)*(r+1):=by
 induction n with
 |zero=>exact⟨0,by decide,by decide⟩
 |succ n ih=>
  obtain⟨r,h1,h2⟩:=ih;by_cases h:n+1<(r+1)*(r+1)
  ·exact⟨r,by omega,h⟩
  ·refine⟨r+1,by omega,?_⟩;have:(r+1+1)*(r+1+1)=(r+1)*(r+1)+2*(r+1)+1:=by
    rw[bt (r+1+1),cp (r+1) 1 (r+1)];omega
   omega
def AA(n:Nat):Nat:=Classical.choose (tE n)
theorem iF(n:Nat):AA n*AA n<=n:=(kq (tE n)).1
theorem uR(n:Nat):n<(AA n+1)*(AA n+1):=(kq (tE n)).2
theorem jF{a b:Nat}(h:a<=b):a*a<=b*b:=io h h
theorem jE{a b:Nat}(h:a*a<b*b):a<b:=by
 rcases au a b with h1|h1
 ·exact h1
 ·exact absurd (jF h1) (by omega)
theorem aFm{n r:Nat}(h1:r*r<=n)(h2:n<(r+1)*(r+1)):AA n=r:=by
 have h3:=iF n;have h4:=uR n;have:=jE (show r*r<(AA n+1)*(AA n+1) by omega);have:=jE (show AA n*AA n<(r+1)*(r+1) by omega);omega
theorem uQ{n r:Nat}(h:r*r<=n):r<=AA n:=by
 have:=jE (show r*r<(AA n+1)*(AA n+1)from av h (uR n));omega
theorem uS(r:Nat):AA (r*r)=r:=aFm (cg _) (by rw[bt,cp];omega)
theorem aOA{n:Nat}(h:n≠0):1<=AA n:=uQ (by omega)
theorem VH(a b:Nat):(a*b)*(a*b)=a*a*(b*b):=by
 rw[ao,fu b a b,ao]
theorem aOB(n K:Nat)(hK:0<K):AA (n*(K*K))/K=AA n:=by
 symm;have h1:=iF (n*(K*K));have h2:=uR (n*(K*K));generalize AA (n*(K*K))=R at *
 have hKK:=gd hK hK;apply aFm
 ·have h3:=jF (kb R K);rw[VH]at h3;exact Nat.le_of_mul_le_mul_right (fk h3 h1) hKK
 ·have h3:R+1<=(R/K+1)*K:=by
   have:=Nat.lt_div_mul_add hK (a:=R);rw[cp,fi];omega
  have h4:=jF h3;rw[VH]at h4;exact Nat.lt_of_mul_lt_mul_right (ah h2 h4)
theorem aHN:∀(k R n:Nat),R*R=n*(2^k*2^k)->∃q,R=q*2^k/\q*q=n
 |0,R,n,h=>⟨R,by omega,by omega⟩
 |k+1,R,n,h=>by
  have e:n*(2^(k+1)*2^(k+1))=4*(n*(2^k*2^k)):=by
   rw[df,VH,←ao n,aq]
  rw[e]at h
  have hev:R%2=0:=by
   rcases ik R with h1|h1
   ·exact h1
   ·have h2:R=2*(R/2)+1:=by omega
    have h3:R*R%2=1:=by rw[qh,h1]
    omega
  obtain⟨S,rfl⟩:∃S,R=2*S:=⟨R/2,by omega⟩
  rw[VH]at h
  obtain⟨q,h1,h2⟩:=aHN k S n (by omega)
  exact⟨q,by rw[h1,df,aq (2^k) 2,fu],h2⟩
theorem aFl(n k:Nat):AA (n*(2^k*2^k))*AA (n*(2^k*2^k))=n*(2^k*2^k)↔AA n*AA n=n:=by
 constructor
 ·intro h;obtain⟨q,h1,h2⟩:=aHN k _ n h;rw[←h2,uS]
 ·intro h;have e:n*(2^k*2^k)=(AA n*2^k)*(AA n*2^k):=by rw[VH,h]
  rw[e,uS]
theorem aOz{n k:Nat}(h:AA n*AA n=n):AA (n*(2^k*2^k))=AA n*2^k:=by
 have e:n*(2^k*2^k)=(AA n*2^k)*(AA n*2^k):=by rw[VH,h]
 rw[e,uS]
theorem aHr{f m:Int}{neg:Bool}{N:Nat}{E:Int}(hf:Fm f)(hb:fP f+2<=An N):AH f m neg N E true=AH f m neg (2*N+1) (E-1) false:=by
 have hP:=DJ hf;have e1:(2*N+1)/2^1=N:=by omega
 have e2:(2*N+1)%2^1≠0:=by omega
 have h0:N≠0:=fun h=>by
  rw[h]at hb;have:An 0=0:=rfl;omega
 have:=aI (f:=f) (m:=m) (neg:=neg) (N:=2*N+1) (k:=1) (E:=E-1) hf (by rw[e1];exact h0) (fun _=>by rw[e1];exact hb);rw[e1,decide_eq_true e2,show E-1+((1:Nat):Int)=E by omega]at this;exact this
theorem aTV{f m:Int}{neg:Bool}{N k:Nat}{E:Int}(hf:Fm f)(hb:fP f+2<=An (N/2^k)):AH f m neg (N/2^k) E true=AH f m neg (2*N+1) (E-k-1) false:=by
 have hP:=DJ hf;have e1:(2*N+1)/2^(k+1)=N/2^k:=by
  rw[df,aq (2^k),←dk,show(2*N+1)/2=N by omega]
 have e2:(2*N+1)%2^(k+1)≠0:=by
  rw[df,aq (2^k),mr];omega
 have h0:N/2^k≠0:=fun h=>by
  rw[h]at hb;have:An 0=0:=rfl;omega
 have:=aI (f:=f) (m:=m) (neg:=neg) (N:=2*N+1) (k:=k+1) (E:=E-k-1) hf (by rw[e1];exact h0) (fun _=>by rw[e1];exact hb);rw[e1,decide_eq_true e2,show E-k-1+((k+1:Nat):Int)=E by omega]at this;exact this
def M6(f m:Int)(X:Nat)(E:Int):Nat×Nat:=if AA X*AA X=X then AH f m false (AA X) E false else AH f m false (2*AA X+1) (E-1) false
theorem aTX{f m:Int}(hf:Fm f){X:Nat}{E:Int}(hb:fP f+2<=An (AA X)):M6 f m X E=AH f m false (AA X) E (!decide (AA X*AA X=X)):=by
 unfold M6;by_cases h:AA X*AA X=X
 ·rw[if_pos h,decide_eq_true h];rfl
 ·rw[if_neg h,decide_eq_false h,bd,aHr hf hb]
theorem aHu{f m:Int}(hf:Fm f){X k:Nat}{E:Int}(h0:X≠0)(hb:fP f+2<=An (AA X)):M6 f m (X*(2^k*2^k)) (E-k)=M6 f m X E:=by
 have hpos:=aOA h0;have hsc:=aOB X (2^k) (ag k);unfold M6;by_cases h:AA X*AA X=X
 ·rw[if_pos h,if_pos ((aFl X k).2 h),aOz h,M4 hf (by omega),show E-(k:Int)+(k:Int)=E by omega]
 ·rw[if_neg h,if_neg (fun h2=>h ((aFl X k).1 h2)),←aHr hf hb];have:=aTV (f:=f) (m:=m) (neg:=false) (N:=AA (X*(2^k*2^k))) (k:=k) (E:=E) hf (by rw[hsc];exact hb);rw[hsc]at this;exact this.symm
theorem aOy{X k:Nat}(h:2^(2*k)<=X):k+1<=An (AA X):=by
 apply f9;apply uQ;rw[←ap,show k+k=2*k by omega];exact h
theorem uP{X k:Nat}(h:X<2^(2*k)):AA X<2^k:=by
 apply jE;rw[←ap,show k+k=2*k by omega];exact av (iF X) h
end VL
end
