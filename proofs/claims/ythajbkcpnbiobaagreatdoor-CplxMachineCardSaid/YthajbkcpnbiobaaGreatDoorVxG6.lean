/- Part 6 of the proof. What is proved: symbolic execution of the functions, proved sound; what each function of the program computes, and that every run ends with it; what these functions compute, in plain numbers. Conditions: each theorem bears its own. -/
import Derived.Test.YthajbkcpnbiobaaGreatDoorVxG5
set_option linter.all false
set_option exponentiation.threshold 1000000
noncomputable section
open BitVec renaming ofInt->cu,toNat_or->pg
open Bool renaming and_eq_false_iff->lb,and_eq_true->ae,and_false->bw,and_self->bg,and_true->ct,eq_iff_iff->ej,false_and->bc,false_or->co,not_false->bp,not_true->ca,or_eq_false_iff->li,or_false->cv,or_self->cr,or_true->bq,true_and->bj,true_or->bh
open Classical renaming not_not->ib
open Go.IntKind renaming bits->gm,signed->gw,wrap->aa
open Int renaming add_zero->mg,eq_ofNat_of_zero_le->di,natCast_add->my,natCast_mul->ko,natCast_zero->gl,tmod->ks,toNat->ah,toNat_natCast->ag,toNat_zero->bd
open List renaming append_assoc->dt,append_nil->cz,drop_eq_getElem_cons->dp,drop_length->jh,drop_replicate->kf,drop_zero->kx,getD_cons_succ->nq,getD_cons_zero->np,getD_eq_getElem?_getD->ai,getElem?_append_right->bi,getElem?_drop->df,getElem?_eq_getElem->av,getElem?_eq_none->dm,getElem?_eq_some_iff->ao,getElem?_of_mem->lh,length_cons->fw,length_map->kg,length_nil->ig,length_replicate->fc,length_set->kp,length_take->gd,mem_append->cn,mem_of_mem_drop->ka,mem_of_mem_take->dr,nil_append->ln,replicate->ap,replicate_succ->jd,replicate_zero->kd,set_append_right->fm,set_cons_zero->jk,set_set->mz,take->jp,take_length->du,take_of_length_le->cj,take_succ->pk,take_zero->mi
open Nat renaming add_assoc->gc,add_comm->gx,add_mul->cg,add_mul_div_left->fh,add_mul_div_right->nj,add_mul_mod_self_left->ip,add_mul_mod_self_right->jx,add_sub_cancel_left->je,add_zero->dc,div_add_mod->ci,div_div_eq_div_mul->dl,div_eq_of_lt->cq,div_le_self->fa,div_lt_iff_lt_mul->bm,eq_of_testBit_eq->lg,eq_zero_or_pos->ba,le_mul_of_pos_left->ku,le_mul_of_pos_right->fe,le_refl->bf,lt_of_le_of_lt->ax,lt_of_lt_of_le->al,lt_or_ge->aq,lt_trans->jc,lt_trichotomy->gf,min_eq_left->gn,min_le_left->kj,mod_add_div->kt,mod_eq_of_lt->be,mod_lt->bv,mod_mod->qa,mod_mul->nr,mod_two_eq_zero_or_one->lw,mul_add->bt,mul_assoc->aw,mul_comm->ar,mul_div_cancel->jl,mul_div_cancel_left->gg,mul_eq_zero->ph,mul_le_mul->iq,mul_le_mul_left->cm,mul_le_mul_right->au,mul_left_comm->gz,mul_lt_mul_of_pos_left->lx,mul_lt_mul_of_pos_right->cw,mul_mod->qb,mul_mod_left->ms,mul_mod_mul_right->dw,mul_mod_right->kw,mul_one->gr,mul_pos->ic,mul_right_comm->io,mul_zero->fi,one_mul->fu,or_comm->px,pow_add->bb,pow_le_pow_right->ak,pow_lt_pow_iff_right->cd,pow_lt_pow_right->fg,pow_mul->lq,pow_pos->ij,pow_succ->dx,pow_succ'->jw,pow_zero->js,sub_self->gk,sub_zero->md,testBit_succ->kc,testBit_two_pow_mul_add->ii,two_pow_add_eq_or_of_lt->lr,two_pow_pos->aj,zero_add->dj,zero_le->ee,zero_mod->ly,zero_mul->fk
namespace VL
open Go Vx
theorem RQ(B:Nat):∀(l m:List Nat),nv B (l++m)=nv B l+B^l.length*nv B m
 | [],m=>by simp[nv]
 |x::r,m=>by
  simp only[List.cons_append,nv,fw]
  rw[RQ B r m,dx,bt,gc]
  congr 2
  rw[ar (B^r.length) B,aw]
theorem DN{B:Nat}(hB:2<=B):∀(l:List Nat),(∀x∈l,x<B)->nv B l<B^l.length
 | [],_=>by simp[nv]
 |x::r,h=>by
  have ih:=DN hB r fun y hy=>h y (by simp[hy])
  have hx:=h x (by simp)
  simp only[nv,fw,dx]
  have:B*nv B r<=B*(B^r.length-1):=cm _ (by omega)
  have hp:0<B^r.length:=ij (by omega)
  rw[Nat.mul_sub]at this
  have h1:B*1<=B*B^r.length:=cm _ hp
  rw[ar (B^r.length) B]
  omega
theorem QB(B:Nat)(l:List Nat)(i:Nat)(h:i<=l.length):nv B l=nv B (l.take i)+B^i*nv B (l.drop i):=by
 conv=>lhs;rw[←List.take_append_drop i l]
 rw[RQ];simp[h]
theorem Jj{B:Nat}(hB:2<=B){l:List Nat}(h:∀x∈l,x<B):nv B (Aj l)=nv B l:=by
 rw[Gp hB l h,cZ hB]
theorem R0{l:List Nat}{x:Nat}(h:x∈Aj l):x∈l:=by
 rw[(DD l).2]at h;exact dr h
theorem aJG{l:List Nat}{i:Nat}(h:i<(Aj l).length):(Aj l)[i]? = l[i]?:=by
 have:(Aj l)[i]? = (l.take (Aj l).length)[i]?:=congrArg (fun t:List Nat=>t[i]?) (DD l).2;rw[this,List.getElem?_take_of_lt h]
theorem aQn{a b k:Nat}(ha:a<2^k)(hb:0<b):Am (a+2^k*b)=k+Am b:=by
 have hp:=aj k;have h1:2^k*1<=2^k*b:=cm _ hb;rw[nZ (n:=a+2^k*b) (k:=k) (by omega),fh _ _ hp,cq ha,dj]
theorem C6(i:Nat):(2^64)^i=2^(64*i):=by rw[←lq]
theorem aD9{l:List Nat}(h:∀x∈l,x<2^64)(hl:0<(Aj l).length):Am (nv (2^64) l)=64*((Aj l).length-1)+Am (l.getD ((Aj l).length-1) 0):=by
 have hlast:=XY l hl;have hle:=(DD l).1;rw[←Jj (by decide) h];have hm:∀x∈Aj l,x<2^64:=fun x hx=>h x (R0 hx);rw[QB _ (Aj l) ((Aj l).length-1) (by omega),C6];have hd:(Aj l).drop ((Aj l).length-1)=[l.getD ((Aj l).length-1) 0]:=by
  have hlt:(Aj l).length-1<(Aj l).length:=by omega
  rw[dp hlt];have e1:(Aj l).length-1+1=(Aj l).length:=by omega
  rw[e1,jh];congr 1;have:(Aj l)[(Aj l).length-1]? = l[(Aj l).length-1]?:=aJG hlt;rw[av hlt]at this;rw[ai,←this];rfl
 rw[hd];have hlow:=DN (B:=2^64) (by decide) ((Aj l).take ((Aj l).length-1)) fun x hx=>hm x (dr hx);rw[gd,gn (by omega),C6]at hlow;have:nv (2^64) [l.getD ((Aj l).length-1) 0]=l.getD ((Aj l).length-1) 0:=by simp[nv]
 rw[this];exact aQn hlow (by omega)
theorem aJH{l:List Nat}(h:∀x∈l,x<2^64)(h0:(Aj l).length=0):nv (2^64) l=0:=by
 have:Aj l=[]:=List.eq_nil_of_length_eq_zero h0;rw[←Jj (by decide) h,this];rfl
theorem CH{l:List Nat}{B:Nat}(hB:0<B)(h:∀x∈l,x<B)(i:Nat):l.getD i 0<B:=by
 rw[ai];cases e:l[i]? with
 |none=>exact hB
 |some x=>exact h x (List.mem_of_getElem? e)
theorem aNi(l:List Nat)(hl:Ws l):Sq (Wd l,())=some ((Am (nv (2^64) l):Int),()):=by
 obtain⟨h,hlen⟩:=hl;show fE Ah.pre Ah.F B4.pre B4.F (Wd l)=_;unfold fE;have p0:=DG l hlen;have hle:=(DD l).1;simp only[CU p0,CT p0,cond_true,AF];rcases ba (Aj l).length with h0|h0
 ·rw[h0,aJH h h0];rfl
 ·have e0:(((Aj l).length:Int)==0)=false:=by rw[Ji];exact beq_false_of_ne (by omega)
  have e1:aa .i64 (((Aj l).length:Int)-1)=(((Aj l).length-1:Nat):Int):=DS (Aj l).length 1 (by omega) (by omega);have e2:(decide ((0:Int)<=(((Aj l).length-1:Nat):Int))&&decide ((((Aj l).length-1:Nat):Int)<((Aj l).length:Int)))=true:=by simp only[ae,decide_eq_true_eq];omega
  have e3:(Wd (Aj l)).getD ((Aj l).length-1) 0=((l.getD ((Aj l).length-1) 0:Nat):Int):=by
   rw[CD];congr 1;rw[ai,ai];rw[aJG (by omega)]
  have hd:=CH (by decide) h ((Aj l).length-1);have p1:=xX _ hd;have hb:Am (l.getD ((Aj l).length-1) 0)<=64:=by
   rcases ba (l.getD ((Aj l).length-1) 0)with z|z
   ·rw[z];decide
   ·have:=Rw (n:=l.getD ((Aj l).length-1) 0) (by omega);have:Am (l.getD ((Aj l).length-1) 0)-1<64:=(cd (a:=2) (by decide)).1 (ax this hd);omega
  rw[e0,e1,e2,cond_false,cond_true,ag,e3];simp only[aHa p1,aFw p1,cond_true];rw[aD9 h h0,Ax (n:=64*(((Aj l).length-1:Nat):Int)) (by omega),Ax (by omega)];congr 2
end VL
namespace VL
open Go Vx
theorem iT(x:Nat):aa .u64 (x:Int)=((x%2^64:Nat):Int):=by
 simp[aa,gm,gw];try omega
theorem HC(x n:Nat)(hn:n<=64):A4 .u64 (x:Int) (n:Int)=((x*2^n%2^64:Nat):Int):=by
 have hm:(min (n:Int).toNat IntKind.u64.bits)=n:=by simp[gm];omega
 unfold A4;rw[hm];have e:(x:Int)*2^n=((x*2^n:Nat):Int):=by simp
 rw[e];exact iT _
theorem LQ{a b k:Nat}(ha:a<2^k)(h:a+b*2^k<2^64):An .u64 (a:Int) ((b*2^k:Nat):Int)=((a+b*2^k:Nat):Int):=by
 have key:(cu 64 (a:Int) ||| cu 64 ((b*2^k:Nat):Int)).toNat=a+b*2^k:=by
  rw[pg,Jk (by omega),Jk (by omega),ar b,px,←lr ha];omega
 show IntKind.u64.wrap (((cu 64 (a:Int) ||| cu 64 ((b*2^k:Nat):Int)).toNat:Nat):Int)=_;rw[key];exact Ev (by omega)
def A7(s:Nat):List Nat->List Nat
 | []=>[]
 |x::r=>(x/2^s+(r.getD 0 0%2^s)*2^(64-s))::A7 s r
theorem LX(s:Nat):∀l,(A7 s l).length=l.length
 | []=>rfl
 |_::r=>by simp[A7,LX s r]
theorem XO(s:Nat):∀(l:List Nat) (i:Nat),i<l.length->(A7 s l)[i]? = some (l.getD i 0/2^s+(l.getD (i+1) 0%2^s)*2^(64-s))
 | [],i,h=>by simp at h
 |x::r,0,_=>by simp[A7]
 |x::r,i+1,h=>by
  simp only[A7,List.getElem?_cons_succ]
  rw[XO s r i (by simpa using h)]
  simp
theorem T9{s:Nat}(hs:s<=64):2^64=2^s*2^(64-s):=by rw[←bb];congr 1;omega
theorem eA{s:Nat}(hs:s<=64){x y:Nat}(hx:x<2^64):x/2^s<2^(64-s)/\x/2^s+(y%2^s)*2^(64-s)<2^64:=by
 have hp:=aj s;have h1:x/2^s<2^(64-s):=by
  rw[bm hp,ar,←T9 hs];exact hx
 refine⟨h1,?_⟩;have h2:y%2^s+1<=2^s:=bv _ hp;have h3:=au (2^(64-s)) h2;rw[←T9 hs,cg,fu]at h3;omega
theorem aS1{B:Nat}{s:Nat}(hB:B%2^s=0):∀l:List Nat,nv B l%2^s=l.getD 0 0%2^s
 | []=>by simp[nv]
 |x::r=>by
  simp only[nv,np]
  obtain⟨c,hc⟩:=Nat.dvd_of_mod_eq_zero hB
  rw[hc,aw,ip]
theorem qV{s:Nat}(hs:s<=64):∀l:List Nat,nv (2^64) (A7 s l)=nv (2^64) l/2^s
 | []=>by simp[A7,nv]
 |x::r=>by
  have ih:=qV hs r
  simp only[A7,nv]
  rw[ih]
  have hp:=aj s
  have hm:=aS1 (B:=2^64) (s:=s) (by rw[T9 hs];exact kw _ _) r
  rw[←hm]
  have hN:nv (2^64) r=2^s*(nv (2^64) r/2^s)+nv (2^64) r%2^s:=(ci _ _).symm
  generalize nv (2^64) r/2^s=q at *
  generalize nv (2^64) r%2^s=t at *
  rw[hN]
  have e:x+2^64*(2^s*q+t)=x+2^s*(2^64*q+2^(64-s)*t):=by
   rw[bt,bt]
   have e1:2^64*(2^s*q)=2^s*(2^64*q):=by rw[←aw,←aw,ar (2^64) (2^s)]
   have e2:2^64*t=2^s*(2^(64-s)*t):=by rw[←aw,←T9 hs]
   rw[e1,e2]
  rw[e,fh _ _ hp,ar t]
  omega
end VL
namespace VL
open Go Vx
theorem aHW{O:List Nat}{i v:Nat}(hi:i<O.length)(hv:O[i]? = some v):(O.take i++ap (O.length-i) 0).set i v=O.take (i+1)++ap (O.length-(i+1)) 0:=by
 have e:O.length-i=(O.length-(i+1))+1:=by omega
 have hl:(O.take i).length=i:=by simp;omega
 rw[e,jd,fm _ _ (by omega),hl,gk,jk];rw[pk,hv];simp
theorem aFL{l:List Nat}{i v:Nat}(hi:i<l.length):(l.set i v).getD i 0=v:=by
 rw[ai,List.getElem?_set_self hi];rfl
theorem bW(l:List Nat)(w i:Nat):(l.drop w).getD i 0=l.getD (w+i) 0:=by
 rw[ai,ai,df]
theorem rZ(n:Nat)(hn:n<=1000000000):BQ .i64 (n:Int) 64=((n/64:Nat):Int):=by
 unfold BQ;have e:(n:Int).tdiv 64=((n/64:Nat):Int):=rfl;rw[e,Ax (by omega)]
theorem aNO(l:List Nat)(hl:l.length<=1000000)(n:Nat)(hn:n<=l.length)(ht:(Aj l).length<=n):
  ZA (((),((n:Int),())),(Wd l,()))=some (.inl (((),(((Aj l).length:Int),())),(Wd l,()))):=by
 have key:=Er aGc (fun x=>x.1.2.1.toNat)
  (fun x=>∃n:Nat,n<=l.length/\(Aj l).length<=n/\x=(((),((n:Int),())),(Wd l,())))
  (fun _=>.inl (((),(((Aj l).length:Int),())),(Wd l,()))) ?_ (((),((n:Int),())),(Wd l,())) ⟨n,hn,ht,rfl⟩
 ·exact key
 intro L x hx hL;obtain⟨n,hn,ht,rfl⟩:=hx;unfold Tr;rcases ba n with rfl|hpos
 ·have e1:decide (((0:Nat):Int)>0)=false:=rfl;simp only[e1,bp,bq,cond_true,bc,cond_false];have:(Aj l).length=0:=by omega
  rw[this]
 ·have e0:aa .i64 ((n:Int)-1)=((n-1:Nat):Int):=DS n 1 (by omega) (by omega);have e1:decide ((n:Int)>0)=true:=by simp;omega
  have e2:(decide ((0:Int)<=((n-1:Nat):Int))&&decide (((n-1:Nat):Int)<((Wd l).length:Int)))=true:=by
   rw[AF];simp;omega
  simp only[e0,e1,e2,bh,cond_true,bj,ag,CD,Ji];cases hz:(l.getD (n-1) 0==0)with
  |true=>
   simp only[cond_true];refine hL _ ⟨n-1,by omega,?_,rfl⟩ (by simp only[ag];omega);rcases aq (n-1) (Aj l).length with h|h
   ·exfalso;have e:n=(Aj l).length:=by omega
    have:=XY l (by omega);rw[←e]at this;exact this (by simpa using hz)
   ·exact h
  |false=>
   simp only[cond_false];have:(Aj l).length=n:=by
    rcases aq (n-1) (Aj l).length with h|h
    ·omega
    ·exfalso;have:=sZ l (n-1) h;rw[this]at hz;simp at hz
   rw[this]
theorem xL(l:List Nat)(hl:l.length<=1000000):U1 (Wd l,())=some (Wd (Aj l),()):=by
 show eJ ZA (Wd l)=_;unfold eJ;have h:=aNO l hl l.length (bf _) (DD l).1;rw[AF];rw[h];have e:(decide ((0:Int)<=((Aj l).length:Int))&&decide (((Aj l).length:Int)<=((Wd l).length:Int)))=true:=by
  rw[AF];have:=(DD l).1;simp;omega
 show(bif(decide ((0:Int)<=((Aj l).length:Int))&&decide (((Aj l).length:Int)<=((Wd l).length:Int)))then some (jp (ah ((Aj l).length:Int)) (Wd l),())else none)=_;rw[e,cond_true,ag,ZP];have:=(DD l).2;rw[←this]
theorem aNT(a:List Nat)(ha:∀x∈a,x<2^64)(hlen:a.length<=1000000)(w s:Nat)(hs:s<64)(hw:w<=a.length)(i:Nat)(hi:i<=(a.drop w).length):
  ZC ((((a.drop w).length:Int),(Wd a,((w:Int),((s:Int),((i:Int),((),())))))),(Wd ((A7 s (a.drop w)).take i++ap ((A7 s (a.drop w)).length-i) 0),()))=some (.inl (((),()),(Wd (A7 s (a.drop w)),()))):=by
 have key:=Er (aGh Ah.pre Ah.F) (fun x=>(a.drop w).length-x.1.2.2.2.2.1.toNat)
  (fun x=>∃i:Nat,i<=(a.drop w).length/\x=((((a.drop w).length:Int),(Wd a,((w:Int),((s:Int),((i:Int),((),())))))),(Wd ((A7 s (a.drop w)).take i++ap ((A7 s (a.drop w)).length-i) 0),())))
  (fun _=>.inl (((),()),(Wd (A7 s (a.drop w)),()))) ?_ _ ⟨i,hi,rfl⟩
 ·exact key
 intro L x hx hL;obtain⟨i,hi,rfl⟩:=hx;unfold Tx;have hdl:(a.drop w).length=a.length-w:=by simp
 have hol:=LX s (a.drop w);rcases aq i (a.drop w).length with hlt|hge
 ·have e1:decide ((i:Int)<((a.drop w).length:Int))=true:=by simp;omega
  have e2:aa .i64 ((w:Int)+(i:Int))=((w+i:Nat):Int):=by rw[Ax (by omega)];omega
  have e3:(decide ((0:Int)<=((w+i:Nat):Int))&&decide (((w+i:Nat):Int)<((Wd a).length:Int)))=true:=by
   rw[AF];simp only[ae,decide_eq_true_eq];omega
  have e4:decide ((0:Int)<=(s:Int))=true:=by simp
  have houtl:((A7 s (a.drop w)).take i++ap ((A7 s (a.drop w)).length-i) 0).length=(a.drop w).length:=by simp;omega
  generalize hout:(A7 s (a.drop w)).take i++ap ((A7 s (a.drop w)).length-i) 0=out at houtl⊢;have e5:(decide ((0:Int)<=(i:Int))&&decide ((i:Int)<((Wd out).length:Int)))=true:=by
   rw[AF];simp only[ae,decide_eq_true_eq];omega
  have e6:aa .i64 (((w+i:Nat):Int)+1)=((w+i+1:Nat):Int):=by rw[Ax (by omega)];omega
  have e7:aa .i64 ((i:Int)+1)=((i+1:Nat):Int):=by rw[Ax (by omega)];omega
  have e8:aa .i64 (64-(s:Int))=((64-s:Nat):Int):=DS 64 s (by omega) (by omega);have hx:=CH (by decide) ha (w+i);have hget:=XO s (a.drop w) i hlt;rw[bW,bW,←gc]at hget;have hnext:=fun v (hv:(A7 s (a.drop w))[i]? = some v)=>aHW (by omega) hv;rw[hout]at hnext;have e9:∀v:Nat,(decide ((0:Int)<=(i:Int))&&decide ((i:Int)<((Wd (out.set i v)).length:Int)))=true:=fun v=>by
   rw[AF,kp];simp only[ae,decide_eq_true_eq];omega
  simp only[e1,e2,e3,e4,e5,e6,e7,e8,cond_true,ag,CD,DP _ s (by omega),EQ,e9];rcases aq (w+i+1) a.length with h1|h1
  ·have f1:decide (((w+i+1:Nat):Int)<((Wd a).length:Int))=true:=by rw[AF];exact decide_eq_true (by omega)
   have f2:decide ((0:Int)<=((w+i+1:Nat):Int))=true:=decide_eq_true (by omega);have f3:decide ((0:Int)<=((64-s:Nat):Int))=true:=decide_eq_true (by omega);simp only[f1,f2,f3,bg,cond_true];have hw2:=eA (s:=s) (y:=a.getD (w+i+1) 0) (by omega) hx;have g1:a.getD (w+i+1) 0*2^(64-s)%2^64=(a.getD (w+i+1) 0%2^s)*2^(64-s):=by
    rw[T9 (s:=s) (by omega),dw]
   rw[aFL (by omega),HC _ _ (by omega),g1,LQ hw2.1 hw2.2,EQ,mz,hnext _ hget];exact hL _ ⟨i+1,by omega,rfl⟩ (by simp only[ag];omega)
  ·have f1:decide (((w+i+1:Nat):Int)<((Wd a).length:Int))=false:=by rw[AF];exact decide_eq_false (by omega)
   have hz:a.getD (w+i+1) 0=0:=by rw[ai,dm h1];rfl
   rw[hz,ly,fk,dc]at hget;simp only[f1,cond_false];rw[hnext _ hget];exact hL _ ⟨i+1,by omega,rfl⟩ (by simp only[ag];omega)
 ·have hie:i=(a.drop w).length:=by omega
  subst hie;have e1:decide (((a.drop w).length:Int)<((a.drop w).length:Int))=false:=by simp
  simp only[e1,cond_false];have:(A7 s (a.drop w)).take (a.drop w).length++ap ((A7 s (a.drop w)).length-(a.drop w).length) 0=A7 s (a.drop w):=by
   rw[←hol,du,gk,kd,cz]
  rw[this]
theorem xT(l:List Nat)(hl:Ws l)(n:Nat)(hn:n<=100000000):Sr (Wd l,(n:Int),())=some (Wd (dg (2^64) (nv (2^64) l/2^n)),()):=by
 obtain⟨h,hlen⟩:=hl;show fH Ah.pre Ah.F ZC (Wd l) n=_;unfold fH;have p0:=DG l hlen;have hB:2<=2^64:=by decide
 have hle:=(DD l).1;have hm:∀x∈Aj l,x<2^64:=fun x hx=>h x (R0 hx);have hv:=Jj hB h;have hsplit:2^n=(2^64)^(n/64)*2^(n%64):=by rw[C6,←bb];congr 1;omega
 simp only[CU p0,CT p0,cond_true,AF,rZ n (by omega)];rcases aq (n/64) (Aj l).length with h1|h1
 ·have e1:decide (((n/64:Nat):Int)>=((Aj l).length:Int))=false:=by simp;omega
  have e2:aa .i64 (((Aj l).length:Int)-((n/64:Nat):Int))=(((Aj l).drop (n/64)).length:Int):=by
   rw[DS _ _ (by omega) (by omega)];simp
  have hdl:((Aj l).drop (n/64)).length<=1000000:=by simp;omega
  have e3:(decide ((0:Int)<=(((Aj l).drop (n/64)).length:Int))&&decide ((((Aj l).drop (n/64)).length:Int)*8<=140737488355328))=true:=by
   simp only[ae,decide_eq_true_eq];omega
  have e4:ks (n:Int) 64=((n%64:Nat):Int):=rfl;have hw:=aNT (Aj l) hm (by omega) (n/64) (n%64) (bv _ (by decide)) (by omega) 0 (ee _);rw[mi,ln,md,LX]at hw;rw[e1,e2,e3,cond_false,cond_true,ag,e4,Wc,AF,fc];rw[show((0:Nat):Int)=0 from rfl]at hw;rw[hw];have hos:∀x∈A7 (n%64) ((Aj l).drop (n/64)),x<2^64:=fun x hx=>by
   obtain⟨i,hi⟩:=lh hx;have hil:i<((Aj l).drop (n/64)).length:=by rw[←LX (n%64)];exact(ao.1 hi).1
   rw[XO _ _ i hil]at hi;cases hi;exact(eA (s:=n%64) (by omega) (CH (by decide) (fun y hy=>hm y (ka hy)) i)).2
  have p1:=DG (A7 (n%64) ((Aj l).drop (n/64))) (by rw[LX];exact hdl);show(bif Ah.pre (Wd (A7 (n%64) ((Aj l).drop (n/64))),())then some (Ah.F (Wd (A7 (n%64) ((Aj l).drop (n/64))),()))else none)=_;rw[CU p1,CT p1,cond_true,Gp hB _ hos,qV (by omega)];have hd:nv (2^64) ((Aj l).drop (n/64))=nv (2^64) l/(2^64)^(n/64):=by
   rw[←hv,QB _ (Aj l) (n/64) (by omega)];have hlow:=DN hB ((Aj l).take (n/64)) fun x hx=>hm x (dr hx);rw[gd,gn (by omega)]at hlow;rw[fh _ _ (ij (by decide)),cq hlow,dj]
  rw[hd,dl,←hsplit];rfl
 ·have e1:decide (((n/64:Nat):Int)>=((Aj l).length:Int))=true:=by simp;omega
  rw[e1,cond_true];have hz:nv (2^64) l/2^n=0:=by
   rw[←hv];have:=DN hB (Aj l) hm;apply cq;refine al this ?_;rw[C6];exact ak (by decide) (by omega)
  rw[hz,DI];rfl
theorem aNN(a:List Nat)(ha:∀x∈a,x<2^64)(hlen:a.length<=1000000)(w s:Nat)(hs:s<64)(hw:w<=a.length)(i:Nat)(hi:i<=(a.drop w).length):
  Zz ((((a.drop w).length:Int),(Wd a,((w:Int),((s:Int),((i:Int),((),())))))),(Wd ((A7 s (a.drop w)).take i++ap ((A7 s (a.drop w)).length-i) 0),()))=some (.inl (((),()),(Wd (A7 s (a.drop w)),()))):=by
 have key:=Er (aGb BG.pre BG.F Ah.pre Ah.F) (fun x=>(a.drop w).length-x.1.2.2.2.2.1.toNat)
  (fun x=>∃i:Nat,i<=(a.drop w).length/\x=((((a.drop w).length:Int),(Wd a,((w:Int),((s:Int),((i:Int),((),())))))),(Wd ((A7 s (a.drop w)).take i++ap ((A7 s (a.drop w)).length-i) 0),())))
  (fun _=>.inl (((),()),(Wd (A7 s (a.drop w)),()))) ?_ _ ⟨i,hi,rfl⟩
 ·exact key
 intro L x hx hL;obtain⟨i,hi,rfl⟩:=hx;unfold Tq;have hdl:(a.drop w).length=a.length-w:=by simp
 have hol:=LX s (a.drop w);rcases aq i (a.drop w).length with hlt|hge
 ·have e1:decide ((i:Int)<((a.drop w).length:Int))=true:=by simp;omega
  have e2:aa .i64 ((w:Int)+(i:Int))=((w+i:Nat):Int):=by rw[Ax (by omega)];omega
  have e3:(decide ((0:Int)<=((w+i:Nat):Int))&&decide (((w+i:Nat):Int)<((Wd a).length:Int)))=true:=by
   rw[AF];simp only[ae,decide_eq_true_eq];omega
  have e4:decide ((0:Int)<=(s:Int))=true:=by simp
  have houtl:((A7 s (a.drop w)).take i++ap ((A7 s (a.drop w)).length-i) 0).length=(a.drop w).length:=by simp;omega
  generalize hout:(A7 s (a.drop w)).take i++ap ((A7 s (a.drop w)).length-i) 0=out at houtl⊢;have e5:(decide ((0:Int)<=(i:Int))&&decide ((i:Int)<((Wd out).length:Int)))=true:=by
   rw[AF];simp only[ae,decide_eq_true_eq];omega
  have e6:aa .i64 (((w+i:Nat):Int)+1)=((w+i+1:Nat):Int):=by rw[Ax (by omega)];omega
  have e7:aa .i64 ((i:Int)+1)=((i+1:Nat):Int):=by rw[Ax (by omega)];omega
  have e8:aa .i64 (64-(s:Int))=((64-s:Nat):Int):=DS 64 s (by omega) (by omega);have hx:=CH (by decide) ha (w+i);have hget:=XO s (a.drop w) i hlt;rw[bW,bW,←gc]at hget;have hnext:=fun v (hv:(A7 s (a.drop w))[i]? = some v)=>aHW (by omega) hv;rw[hout]at hnext;have e9:∀v:Nat,(decide ((0:Int)<=(i:Int))&&decide ((i:Int)<((Wd (out.set i v)).length:Int)))=true:=fun v=>by
   rw[AF,kp];simp only[ae,decide_eq_true_eq];omega
  simp only[e1,e2,e3,e4,e5,e6,e7,e8,cond_true,ag,CD,DP _ s (by omega),EQ,e9];rcases aq (w+i+1) a.length with h1|h1
  ·have f1:decide (((w+i+1:Nat):Int)<((Wd a).length:Int))=true:=by rw[AF];exact decide_eq_true (by omega)
   have f2:decide ((0:Int)<=((w+i+1:Nat):Int))=true:=decide_eq_true (by omega);have f3:decide ((0:Int)<=((64-s:Nat):Int))=true:=decide_eq_true (by omega);simp only[f1,f2,f3,bg,cond_true];have hw2:=eA (s:=s) (y:=a.getD (w+i+1) 0) (by omega) hx;have g1:a.getD (w+i+1) 0*2^(64-s)%2^64=(a.getD (w+i+1) 0%2^s)*2^(64-s):=by
    rw[T9 (s:=s) (by omega),dw]
   rw[aFL (by omega),HC _ _ (by omega),g1,LQ hw2.1 hw2.2,EQ,mz,hnext _ hget];exact hL _ ⟨i+1,by omega,rfl⟩ (by simp only[ag];omega)
  ·have f1:decide (((w+i+1:Nat):Int)<((Wd a).length:Int))=false:=by rw[AF];exact decide_eq_false (by omega)
   have hz:a.getD (w+i+1) 0=0:=by rw[ai,dm h1];rfl
   rw[hz,ly,fk,dc]at hget;simp only[f1,cond_false];rw[hnext _ hget];exact hL _ ⟨i+1,by omega,rfl⟩ (by simp only[ag];omega)
 ·have hie:i=(a.drop w).length:=by omega
  subst hie;have e1:decide (((a.drop w).length:Int)<((a.drop w).length:Int))=false:=by simp
  simp only[e1,cond_false];have:(A7 s (a.drop w)).take (a.drop w).length++ap ((A7 s (a.drop w)).length-(a.drop w).length) 0=A7 s (a.drop w):=by
   rw[←hol,du,gk,kd,cz]
  rw[this]
theorem aM7(l:List Nat)(hl:Ws l)(n:Nat)(hn:n<=100000000):U0 (Wd l,(n:Int),())=some (Wd (dg (2^64) (nv (2^64) l/2^n)),()):=by
 obtain⟨h,hlen⟩:=hl;show eI BG.pre BG.F Ah.pre Ah.F Zz (Wd l) n=_;unfold eI;have p0:=DG l hlen;have hB:2<=2^64:=by decide
 have hle:=(DD l).1;have hm:∀x∈Aj l,x<2^64:=fun x hx=>h x (R0 hx);have hv:=Jj hB h;have hsplit:2^n=(2^64)^(n/64)*2^(n%64):=by rw[C6,←bb];congr 1;omega
 simp only[CU p0,CT p0,cond_true,AF,rZ n (by omega)];rcases aq (n/64) (Aj l).length with h1|h1
 ·have e1:decide (((n/64:Nat):Int)>=((Aj l).length:Int))=false:=by simp;omega
  have e2:aa .i64 (((Aj l).length:Int)-((n/64:Nat):Int))=(((Aj l).drop (n/64)).length:Int):=by
   rw[DS _ _ (by omega) (by omega)];simp
  have hdl:((Aj l).drop (n/64)).length<=1000000:=by simp;omega
  have e3:(decide ((0:Int)<=(((Aj l).drop (n/64)).length:Int))&&decide ((((Aj l).drop (n/64)).length:Int)*8<=140737488355328))=true:=by
   simp only[ae,decide_eq_true_eq];omega
  have e4:ks (n:Int) 64=((n%64:Nat):Int):=rfl;have hw:=aNN (Aj l) hm (by omega) (n/64) (n%64) (bv _ (by decide)) (by omega) 0 (ee _);rw[mi,ln,md,LX]at hw;rw[e1,e2,e3,cond_false,cond_true,ag,e4,Wc,AF,fc];rw[show((0:Nat):Int)=0 from rfl]at hw;rw[hw];have hos:∀x∈A7 (n%64) ((Aj l).drop (n/64)),x<2^64:=fun x hx=>by
   obtain⟨i,hi⟩:=lh hx;have hil:i<((Aj l).drop (n/64)).length:=by rw[←LX (n%64)];exact(ao.1 hi).1
   rw[XO _ _ i hil]at hi;cases hi;exact(eA (s:=n%64) (by omega) (CH (by decide) (fun y hy=>hm y (ka hy)) i)).2
  have p1:=xL (A7 (n%64) ((Aj l).drop (n/64))) (by rw[LX];exact hdl);show(bif BG.pre (Wd (A7 (n%64) ((Aj l).drop (n/64))),())then some (BG.F (Wd (A7 (n%64) ((Aj l).drop (n/64))),()))else none)=_;rw[aG5 p1,aFr p1,cond_true,Gp hB _ hos,qV (by omega)];have hd:nv (2^64) ((Aj l).drop (n/64))=nv (2^64) l/(2^64)^(n/64):=by
   rw[←hv,QB _ (Aj l) (n/64) (by omega)];have hlow:=DN hB ((Aj l).take (n/64)) fun x hx=>hm x (dr hx);rw[gd,gn (by omega)]at hlow;rw[fh _ _ (ij (by decide)),cq hlow,dj]
  rw[hd,dl,←hsplit];rfl
 ·have e1:decide (((n/64:Nat):Int)>=((Aj l).length:Int))=true:=by simp;omega
  rw[e1,cond_true];have hz:nv (2^64) l/2^n=0:=by
   rw[←hv];have:=DN hB (Aj l) hm;apply cq;refine al this ?_;rw[C6];exact ak (by decide) (by omega)
  rw[hz,DI];rfl
end VL
namespace VL
open Go Vx
theorem Cq(a b:Nat)(h:a+b<2^62):aa .i64 ((a:Int)+(b:Int))=((a+b:Nat):Int):=by rw[Ax (by omega)];omega
theorem Cc(a:Nat)(h:a<2^62):aa .i64 ((a:Int)+1)=((a+1:Nat):Int):=by rw[Ax (by omega)];omega
theorem Cr(a:Nat)(h:a<2^56):aa .i64 (64*(a:Int))=((64*a:Nat):Int):=by rw[Ax (by omega)];omega
theorem Cs(a:Nat)(h:a<2^56):aa .i64 ((a:Int)*64)=((64*a:Nat):Int):=by rw[Ax (by omega)];omega
theorem Cd(m n:Nat)(h:n<=m/\m<2^62):aa .i64 ((m:Int)-(n:Int))=((m-n:Nat):Int):=by rw[Ax (by omega)];omega
theorem BI(m:Nat)(h:1<=m/\m<2^62):aa .i64 ((m:Int)-1)=((m-1:Nat):Int):=by rw[Ax (by omega)];omega
theorem B8(a b:Nat)(h:a<b):decide ((a:Int)<(b:Int))=true:=decide_eq_true (by omega)
theorem B7(a b:Nat)(h:b<=a):decide ((a:Int)<(b:Int))=false:=decide_eq_false (by omega)
theorem Cl(a b:Nat)(h:a<=b):decide ((a:Int)<=(b:Int))=true:=decide_eq_true (by omega)
theorem Ck(a b:Nat)(h:b<a):decide ((a:Int)<=(b:Int))=false:=decide_eq_false (by omega)
theorem Cj(a b:Nat)(h:b<a):decide ((a:Int)>(b:Int))=true:=decide_eq_true (by omega)
theorem Ci(a b:Nat)(h:a<=b):decide ((a:Int)>(b:Int))=false:=decide_eq_false (by omega)
theorem Cg(a b:Nat)(h:b<=a):decide ((a:Int)>=(b:Int))=true:=decide_eq_true (by omega)
theorem Cf(a b:Nat)(h:a<b):decide ((a:Int)>=(b:Int))=false:=decide_eq_false (by omega)
theorem Cn(a:Nat)(h:0<a):decide ((0:Int)<(a:Int))=true:=decide_eq_true (by omega)
theorem Cm(a:Nat)(h:a=0):decide ((0:Int)<(a:Int))=false:=decide_eq_false (by omega)
theorem Ch(a:Nat)(h:0<a):decide ((a:Int)>0)=true:=decide_eq_true (by omega)
theorem B2(a:Nat)(h:a=0):decide ((a:Int)>0)=false:=decide_eq_false (by omega)
theorem pW(a:Nat):decide ((a:Int)<0)=false:=decide_eq_false (by omega)
theorem BX(a:Nat)(h:a=0):((a:Int)==0)=true:=by rw[Ji];simp[h]
theorem Bi(a:Nat)(h:a≠0):((a:Int)==0)=false:=by rw[Ji];simp[h]
theorem Bv(a:Nat)(h:a≠0):((a:Int)!=0)=true:=by rw[TX];simp[h]
theorem B1(a:Nat)(h:a=0):((a:Int)!=0)=false:=by rw[TX];simp[h]
def pd(B:Nat):Nat->Nat->List Nat
 |0,_=>[]
 |k+1,v=>v%B::pd B k (v/B)
theorem FD(B:Nat):∀k v,(pd B k v).length=k
 |0,_=>rfl
 |k+1,v=>by simp[pd,FD B k]
theorem T6{B:Nat}(hB:0<B):∀k v,∀x∈pd B k v,x<B
 |0,_,x,hx=>by simp[pd]at hx
 |k+1,v,x,hx=>by
  simp only[pd,List.mem_cons]at hx
  rcases hx with rfl|hx
  ·exact bv _ hB
  ·exact T6 hB k _ x hx
theorem aGY{B:Nat}(hB:0<B):∀(l:List Nat),(∀x∈l,x<B)->l=pd B l.length (nv B l)
 | [],_=>rfl
 |x::r,h=>by
  have hx:=h x (by simp)
  simp only[fw,pd,nv]
  rw[ip,be hx,fh _ _ hB,cq hx,dj,←aGY hB r fun y hy=>h y (by simp[hy])]
theorem rC{B:Nat}(hB:0<B){l:List Nat}{k v:Nat}(h:∀x∈l,x<B)(hl:l.length=k)(hv:nv B l=v):l=pd B k v:=by
 have:=aGY hB l h;rw[hl,hv]at this;exact this
theorem T7{B:Nat}(hB:0<B):∀k v,v<B^k->nv B (pd B k v)=v
 |0,v,h=>by simp at h;subst h;rfl
 |k+1,v,h=>by
  simp only[pd,nv]
  rw[T7 hB k (v/B) (by rw[bm hB,←dx];exact h)]
  exact kt v B
theorem rD(B:Nat):∀k v i,i<k->(pd B k v).getD i 0=v/B^i%B
 |0,_,_,h=>by omega
 |k+1,v,0,_=>by simp[pd]
 |k+1,v,i+1,h=>by
  simp only[pd,nq]
  rw[rD B k (v/B) i (by omega),dl,←jw]
theorem aG0(B:Nat):∀k,pd B k 0=ap k 0
 |0=>rfl
 |k+1=>by simp[pd,aG0 B k,jd]
theorem qU(B:Nat):∀(l:List Nat) (i x:Nat),i<l.length->nv B (l.set i x)+B^i*l.getD i 0=nv B l+B^i*x
 | [],_,_,h=>by simp at h
 |y::r,0,x,_=>by simp[nv];omega
 |y::r,i+1,x,h=>by
  have:=qU B r i x (by simpa using h)
  simp only[List.set_cons_succ,nv,nq,jw]
  rw[aw,aw,gc,gc,←bt,←bt,this]
theorem aHV{B:Nat}{l:List Nat}(h:∀x∈l,x<B){i v:Nat}(hv:v<B):∀x∈l.set i v,x<B:=fun x hx=>by
 rcases List.mem_or_eq_of_mem_set hx with h1|h1
 ·exact h x h1
 ·rw[h1];exact hv
theorem Ql{B:Nat}(hB:2<=B)(n:Nat):Aj (dg B n)=dg B n:=by
 rw[Gp hB _ (Qk hB n),cZ hB]
theorem qW(B:Nat)(l:List Nat)(i:Nat)(h:i<l.length):nv B (l.take (i+1))=nv B (l.take i)+B^i*l.getD i 0:=by
 have hs:=QB B (l.take (i+1)) i (by simp;omega);rw[hs,List.take_take,gn (by omega)];congr 2;rw[List.drop_take,je,ai];rw[dp h,av h];show l[i]+B*0=l[i];rw[fi,dc]
theorem aJJ{x:Nat}(h:0<x):∃t k,x=2^t*(2*k+1):=by
 induction x using Nat.strongRecOn with
 |ind x ih=>
  rcases lw x with h0|h1
  ·obtain⟨t,k,e⟩:=ih (x/2) (by omega) (by omega);refine⟨t+1,k,?_⟩;rw[dx,ar (2^t) 2,aw,←e];omega
  ·exact⟨0,x/2,by simp;omega⟩
theorem aS3{t k n:Nat}:(2^t*(2*k+1))%2^n=0↔n<=t:=by
 constructor
 ·intro h;rcases aq t n with hlt|hge
  ·exfalso;have e:n=t+(n-t-1)+1:=by omega
   rw[e,gc,bb,Nat.mul_mod_mul_left,dx]at h;have hp:=aj t;have h2:(2*k+1)%(2^(n-t-1)*2)=0:=by
    rcases ph.1 h with h|h
    ·omega
    ·exact h
   have:(2*k+1)%2=0:=by
    have:=Nat.mod_mod_of_dvd (2*k+1) (show 2 ∣ 2^(n-t-1)*2 from⟨_,ar _ _⟩);rw[h2]at this;omega
   omega
  ·exact hge
 ·intro h;have e:t=n+(t-n):=by omega
  rw[e,bb,aw];exact kw _ _
theorem aP7{t k:Nat}(h:2^t*(2*k+1)<2^64):2^t*(2*k+1) &&& (2^64-2^t*(2*k+1))=2^t:=by
 have hp:=aj t;have ht:t<64:=by
  have:2^t*1<=2^t*(2*k+1):=cm _ (by omega);exact(cd (a:=2) (by decide)).1 (by omega)
 have hz:2^t*(2*k)+(2^t-1)+1=2^t*(2*k+1):=by rw[bt,gr];omega
 have hb:∀i,(2^64-2^t*(2*k+1)).testBit i=(decide (i<64)&&!(2^t*(2*k)+(2^t-1)).testBit i):=fun i=>by
  rw[←hz,Nat.testBit_two_pow_sub_succ (by omega)]
 apply lg;intro i;rw[Nat.testBit_and,hb,Nat.testBit_two_pow];have h1:(2^t*(2*k+1)).testBit i=(decide (t<=i)&&(2*k+1).testBit (i-t)):=by
  have:=ii (2*k+1) hp i;rw[dc]at this;rw[this];by_cases hi:i<t
  ·simp[hi];omega
  ·simp[hi];omega
 rw[h1,ii (2*k) (show 2^t-1<2^t by omega) i];rcases gf i t with hi|hi|hi
 ·simp[show ¬t<=i by omega,show ¬t=i by omega]
 ·subst hi;simp[ht]
 ·have e:i-t=(i-t-1)+1:=by omega
  simp only[show ¬i<t by omega,if_false,show ¬t=i by omega,decide_false];rw[e,kc,kc,show(2*k+1)/2=k by omega,show 2*k/2=k by omega];cases k.testBit (i-t-1)<;>simp
theorem aP6{a b:Nat}(ha:a<2^64)(hb:b<2^64):Bs .u64 (a:Int) (b:Int)=((a &&& b:Nat):Int):=by
 have key:(cu 64 (a:Int) &&& cu 64 (b:Int)).toNat=a &&& b:=by
  rw[BitVec.toNat_and,Jk ha,Jk hb]
 show IntKind.u64.wrap (((cu 64 (a:Int) &&& cu 64 (b:Int)).toNat:Nat):Int)=_;rw[key];have:=Nat.and_le_left (n:=a) (m:=b);exact Ev (by omega)
theorem Xw{a b:Nat}(ha:a<2^64)(hb:b<2^64):An .u64 (a:Int) (b:Int)=((a ||| b:Nat):Int):=by
 have key:(cu 64 (a:Int) ||| cu 64 (b:Int)).toNat=a ||| b:=by
  rw[pg,Jk ha,Jk hb]
 show IntKind.u64.wrap (((cu 64 (a:Int) ||| cu 64 (b:Int)).toNat:Nat):Int)=_;rw[key];have:=Nat.or_lt_two_pow ha hb;exact Ev (by omega)
theorem deb:∀t:Nat,t<64->aa .i64 (k_deb.getD (2^t*285870213051353865%2^64/2^58) 0)=(t:Int):=by
 have h:((List.range 64).all fun t=>decide (aa .i64 (k_deb.getD (2^t*285870213051353865%2^64/2^58) (0:Int))=(t:Int)))=true:=by decide +kernel
 intro t ht;have:=List.all_eq_true.1 h t (List.mem_range.2 ht);simpa using this
theorem kG{t k:Nat}(h:2^t*(2*k+1)<2^64):V2 (((2^t*(2*k+1):Nat):Int),())=some ((t:Int),()):=by
 have hp:=aj t;have h1:2^t*1<=2^t*(2*k+1):=cm _ (by omega);have ht:t<64:=(cd (a:=2) (by decide)).1 (by omega);have han:=aP7 h;show iJ ((2^t*(2*k+1):Nat):Int)=_;generalize hx:2^t*(2*k+1)=x at *
 unfold iJ;try dsimp only
 have e1:aa .u64 ((0:Int)-(x:Int))=((2^64-x:Nat):Int):=by
  have:∀y:Int,aa .u64 y=y%18446744073709551616:=fun y=>by
   simp[aa,gm,gw]
  rw[this];omega
 have e2:aa .u64 (((2^t:Nat):Int)*285870213051353865)=((2^t*285870213051353865%2^64:Nat):Int):=iT (2^t*285870213051353865);have e3:AJ .u64 ((2^t*285870213051353865%2^64:Nat):Int) 58=((2^t*285870213051353865%2^64/2^58:Nat):Int):=DP _ 58 (by decide);have e4:2^t*285870213051353865%2^64/2^58<64:=by omega
 have e5:(decide ((0:Int)<=((2^t*285870213051353865%2^64/2^58:Nat):Int))&&decide (((2^t*285870213051353865%2^64/2^58:Nat):Int)<(64:Nat)))=true:=by
  rw[decide_eq_true (by omega),decide_eq_true (by omega)];rfl
 rw[e1,aP6 h (by omega),han,e2,e3,e5,aHU,cond_true,Bi x (by omega),cond_false,ag,deb t ht]
end VL
namespace VL
open Go Vx
def Dw(n:Nat):List Int:=Wd (dg (2^64) n)
theorem aQM(n:Nat)(h:(dg (2^64) n).length<=1000000):Ws (dg (2^64) n):=⟨Qk (by decide) n,h⟩
theorem DH{B:Nat}(hB:2<=B):∀(k n:Nat),n<B^k->(dg B n).length<=k
 |0,n,h=>by simp at h;subst h;rw[DI];simp
 |k+1,n,h=>by
  rcases ba n with rfl|hn
  ·rw[DI];simp
  ·rw[Fw hB hn]
   have:=DH hB k (n/B) (by rw[bm (by omega),←dx];exact h)
   simp;omega
theorem WN{B:Nat}(hB:2<=B)(n:Nat):n<B^(dg B n).length:=by
 have:=DN hB _ (Qk hB n);rwa [cZ hB]at this
theorem aQR{x i t k r n:Nat}(hx:x=2^t*(2*k+1))(ht:t<64):((2^64)^i*(x+2^64*r))%2^n=0↔n<=64*i+t:=by
 have e:(2^64)^i*(x+2^64*r)=2^(64*i+t)*(2*(k+2^(64-t-1)*r)+1):=by
  have h1:2^64=2^t*(2^(64-t-1)*2):=by rw[←dx,←bb];congr 1;omega
  rw[C6,hx,bb,aw];congr 1;rw[h1,aw,←bt];congr 1;rw[aw,gz];omega
 rw[e];exact aS3
theorem aNV(a:List Nat)(ha:∀x∈a,x<2^64)(hlen:a.length<=1000000)(n:Nat)(hn:n<=1000000000)(i:Nat)(hi:i<=a.length)(hz:nv (2^64) (a.take i)=0):
  ZE (((a.length:Int),(Wd a,((n:Int),((i:Int),())))),())=some (if nv (2^64) a=0 then .inl ((),())else .inr ((decide (nv (2^64) a%2^n=0),()),())):=by
 have key:=Er (aGj Ah.pre Ah.F BW.pre BW.F) (fun x=>a.length-x.1.2.2.2.1.toNat)
  (fun x=>∃i:Nat,i<=a.length/\nv (2^64) (a.take i)=0/\x=(((a.length:Int),(Wd a,((n:Int),((i:Int),())))),()))
  (fun _=>if nv (2^64) a=0 then .inl ((),())else .inr ((decide (nv (2^64) a%2^n=0),()),())) ?_ _ ⟨i,hi,hz,rfl⟩
 ·exact key
 intro L x hx hL;obtain⟨i,hi,hz,rfl⟩:=hx;unfold Tz;rcases aq i a.length with hlt|hge
 ·simp(disch:=omega) only[Cq,Cc,Cr,Cd,BI,Cs,B8,B7,Cl,Ck,Cj,Ci,Cg,Cf,Cn,Cm,Ch,B2,A8,BX,Bi,Bv,B1,ag,bd,cond_true,cond_false,bg,bj,ct,bc,bw,ca,bp,cr,bh,bq,co,cv,AF,CD];have hxl:=CH (by decide) ha i;rcases ba (a.getD i 0)with h0|h0
  ·simp(disch:=omega) only[Cq,Cc,Cr,Cd,BI,Cs,B8,B7,Cl,Ck,Cj,Ci,Cg,Cf,Cn,Cm,Ch,B2,A8,BX,Bi,Bv,B1,ag,bd,cond_true,cond_false,bg,bj,ct,bc,bw,ca,bp,cr,bh,bq,co,cv];refine hL _ ⟨i+1,by omega,?_,rfl⟩ (by simp only[ag];omega);rw[qW _ _ _ hlt,hz,h0,fi]
  ·obtain⟨t,k,e⟩:=aJJ h0;have ht:t<64:=by
    have hp:=aj t;have h1:2^t*1<=2^t*(2*k+1):=cm _ (by omega);exact(cd (a:=2) (by decide)).1 (by omega)
   have p0:=kG (t:=t) (k:=k) (by omega);rw[←e]at p0;have hv:nv (2^64) a=(2^64)^i*(a.getD i 0+2^64*nv (2^64) (a.drop (i+1))):=by
    rw[QB _ a i hi,hz,dj,dp hlt];simp only[nv];rw[ai,av hlt];rfl
   have hne:nv (2^64) a≠0:=by
    rw[hv];have:0<(2^64)^i:=ij (by decide);exact Nat.ne_of_gt (ic this (by omega))
   have hd:=aQR (i:=i) (r:=nv (2^64) (a.drop (i+1))) (n:=n) e ht;rw[←hv]at hd;simp(disch:=omega) only[Cq,Cc,Cr,Cd,BI,Cs,B8,B7,Cl,Ck,Cj,Ci,Cg,Cf,Cn,Cm,Ch,B2,A8,BX,Bi,Bv,B1,ag,bd,cond_true,cond_false,bg,bj,ct,bc,bw,ca,bp,cr,bh,bq,co,cv,rP p0,pN p0,if_neg hne];have:decide (((64*i+t:Nat):Int)>=(n:Int))=decide (nv (2^64) a%2^n=0):=by
    rw[ej,decide_eq_true_eq,decide_eq_true_eq,hd];omega
   rw[this]
 ·have e:i=a.length:=by omega
  subst e;rw[du]at hz;simp(disch:=omega) only[Cq,Cc,Cr,Cd,BI,Cs,B8,B7,Cl,Ck,Cj,Ci,Cg,Cf,Cn,Cm,Ch,B2,A8,BX,Bi,Bv,B1,ag,bd,cond_true,cond_false,bg,bj,ct,bc,bw,ca,bp,cr,bh,bq,co,cv,if_pos hz]
theorem aNm(l:List Nat)(hl:Ws l)(n:Nat)(hn:n<=1000000000):Vk (Wd l,(n:Int),())=some (decide (nv (2^64) l%2^n=0),()):=by
 obtain⟨h,hlen⟩:=hl;show fN Ah.pre Ah.F BW.pre BW.F ZE (Wd l) n=_;unfold fN;have p0:=DG l hlen;have hm:∀x∈Aj l,x<2^64:=fun x hx=>h x (R0 hx);have hle:=(DD l).1;have hw:=aNV (Aj l) hm (by omega) n hn 0 (ee _) rfl;rw[Jj (by decide) h]at hw;simp only[CU p0,CT p0,cond_true,AF];rw[show((0:Nat):Int)=0 from rfl]at hw;rw[hw];by_cases h0:nv (2^64) l=0
 ·rw[if_pos h0,h0,ly];rfl
 ·rw[if_neg h0]
def LN(v n:Nat):Nat:=if v%2^n=0 then v/2^n else v/2^n/2*2+1
theorem aGT(w:Nat):w ||| 1=w/2*2+1:=by
 apply lg;intro i;rw[Nat.testBit_or];cases i with
 |zero=>simp[Nat.testBit_zero]
 |succ i=>
  rw[kc,kc,kc,show(w/2*2+1)/2=w/2 by omega,show 1/2=0 by rfl];simp
theorem aNl(l:List Nat)(hl:Ws l)(n:Nat)(hn:n<=100000000):Su (Wd l,(n:Int),())=some (Dw (LN (nv (2^64) l) n),0,()):=by
 show fJ Pt.pre Pt.F Cu.pre Cu.F Pw.pre Pw.F (Wd l) n=_;unfold fJ;have p0:=aM7 l hl n hn;have p1:=aNm l hl n (by omega);simp only[pW,cond_false,aTP p0,aRq p0,aT0 p1,aRB p1,cond_true,AF];unfold LN;by_cases h0:nv (2^64) l%2^n=0
 ·rw[if_pos h0,decide_eq_true h0];rfl
 ·rw[if_neg h0,decide_eq_false h0];generalize nv (2^64) l/2^n=q;rcases ba q with rfl|hq
  ·have e:Dw (0/2*2+1)=[1]:=by
    show Wd (dg (2^64) 1)=[1]
    rw[Fw (by decide) (by decide),DI];rfl
   rw[e,DI];rfl
  ·have hB:2<=2^64:=by decide
   have e:Dw (q/2*2+1)=Wd ((q%2^64/2*2+1)::dg (2^64) (q/2^64)):=by
    show Wd (dg (2^64) (q/2*2+1))=_;rw[Fw hB (by omega)];have e1:(q/2*2+1)%2^64=q%2^64/2*2+1:=by omega
    have e2:(q/2*2+1)/2^64=q/2^64:=by omega
    rw[e1,e2]
   have e2:An .u64 ((q%2^64:Nat):Int) 1=((q%2^64/2*2+1:Nat):Int):=by
    have:=Xw (a:=q%2^64) (b:=1) (by omega) (by decide);rw[aGT]at this;exact this
   rw[e,Fw hB hq];simp(disch:=omega) only[Cq,Cc,Cr,Cd,BI,Cs,B8,B7,Cl,Ck,Cj,Ci,Cg,Cf,Cn,Cm,Ch,B2,A8,BX,Bi,Bv,B1,ag,bd,cond_true,cond_false,bg,bj,ct,bc,bw,ca,bp,cr,bh,bq,co,cv,fw,CD,np,e2,EQ,jk]
theorem aNc(l:List Nat)(hl:Ws l)(n:Nat)(hn:n<=100000000):P5 (Wd l,(n:Int),())=some (Dw (nv (2^64) l/2^n),0,()):=by
 show eV Cu.pre Cu.F (Wd l) n=_;unfold eV;have p0:=xT l hl n hn;simp only[pW,cond_false,aG9 p0,aFv p0,cond_true];rfl
end VL
namespace VL
open Go Vx
theorem aR5{l:List Nat}{i j v:Nat}(h:i≠j):(l.set i v).getD j 0=l.getD j 0:=by
 rw[ai,ai,List.getElem?_set_ne h]
theorem aSp{out:List Nat}{K V k s x:Nat}(hs:s<64)(ho:out=pd (2^64) K V)(hk:k+1<K)(hV:V<2^(64*k+s))(hx:x<2^64):
  (out.getD k 0<2^s)/\(out.getD k 0+x%2^(64-s)*2^s<2^64)/\((out.set k (out.getD k 0+x%2^(64-s)*2^s)).set (k+1) (x/2^(64-s))=pd (2^64) K (V+2^(64*k+s)*x)):=by
 have hB:0<2^64:=by decide
 have hps:=aj s;have hpk:=aj (64*k);have hlen:out.length=K:=by rw[ho,FD]
 have hc:out.getD k 0=V/(2^64)^k%2^64:=by rw[ho,rD _ _ _ _ (by omega)]
 have hc2:V/(2^64)^k<2^s:=by
  rw[C6,bm hpk,ar,←bb];exact hV
 have hc1:out.getD (k+1) 0=0:=by
  rw[ho,rD _ _ _ _ hk,C6];have:V<2^(64*(k+1)):=al hV (ak (by decide) (by omega));rw[cq this]
 have h64:2^64=2^(64-s)*2^s:=by rw[←bb];congr 1;omega
 have hs64:2^s<=2^64:=ak (by decide) (by omega);have hce:V/(2^64)^k%2^64=V/(2^64)^k:=be (by omega);have hcl:out.getD k 0<2^s:=by rw[hc,hce];exact hc2
 have hp1:=aj (64-s);have hm:x%2^(64-s)+1<=2^(64-s):=bv _ hp1;have hm2:=au (2^s) hm;rw[←h64,cg,fu]at hm2;have hsum:out.getD k 0+x%2^(64-s)*2^s<2^64:=by omega
 refine⟨hcl,hsum,?_⟩;have hall:∀y∈out,y<2^64:=by rw[ho];exact T6 hB _ _
 have hxd:x/2^(64-s)<2^64:=ax (fa _ _) hx;refine rC hB (aHV (aHV hall hsum) hxd) (by simp[hlen]) ?_;have g1:=qU (2^64) out k (out.getD k 0+x%2^(64-s)*2^s) (by omega);have g2:=qU (2^64) (out.set k (out.getD k 0+x%2^(64-s)*2^s)) (k+1) (x/2^(64-s)) (by rw[kp];omega);rw[aR5 (by omega),hc1,fi,dc]at g2;have hVK:V<(2^64)^K:=by
  rw[C6];exact al hV (ak (by decide) (by omega))
 have hnv:nv (2^64) out=V:=by rw[ho,T7 hB _ _ hVK]
 rw[hnv,bt]at g1;rw[g2];have hx2:2^(64*k+s)*x=(2^64)^k*(x%2^(64-s)*2^s)+(2^64)^(k+1)*(x/2^(64-s)):=by
  have hdm:=ci x (2^(64-s));generalize x/2^(64-s)=q at *
  generalize x%2^(64-s)=r at *
  rw[bb 2 (64*k) s,←C6,show(2^64)^(k+1)=(2^64)^k*2^64 from dx _ _,aw ((2^64)^k),aw ((2^64)^k),←bt,←hdm];congr 1;rw[bt,ar r,gx];congr 1;rw[←aw,ar (2^s),←h64]
 omega
theorem aNX(a:List Nat)(ha:∀x∈a,x<2^64)(hlen:a.length<=1000000)(w s:Nat)(hs:s<64)(hw:w<=10000000)(i:Nat)(hi:i<=a.length):
  ZG (((a.length:Int),(Wd a,((w:Int),((s:Int),((i:Int),((),())))))),(Wd (pd (2^64) (w+a.length+1) (2^(64*w+s)*nv (2^64) (a.take i))),()))=some (.inl (((),()),(Wd (pd (2^64) (w+a.length+1) (2^(64*w+s)*nv (2^64) a)),()))):=by
 have key:=Er (aGl Ah.pre Ah.F) (fun x=>a.length-x.1.2.2.2.2.1.toNat)
  (fun x=>∃i:Nat,i<=a.length/\x=(((a.length:Int),(Wd a,((w:Int),((s:Int),((i:Int),((),())))))),(Wd (pd (2^64) (w+a.length+1) (2^(64*w+s)*nv (2^64) (a.take i))),())))
  (fun _=>.inl (((),()),(Wd (pd (2^64) (w+a.length+1) (2^(64*w+s)*nv (2^64) a)),()))) ?_ _ ⟨i,hi,rfl⟩
 ·exact key
 intro L x hx hL;obtain⟨i,hi,rfl⟩:=hx;unfold TB;rcases aq i a.length with hlt|hge
 ·have hxl:=CH (by decide) ha i;have ht:=DN (B:=2^64) (by decide) (a.take i) fun x hx=>ha x (dr hx);rw[gd,gn (by omega),C6]at ht;have hV:2^(64*w+s)*nv (2^64) (a.take i)<2^(64*(w+i)+s):=by
   have e:64*(w+i)+s=(64*w+s)+64*i:=by omega
   rw[e,bb _ (64*w+s)];exact lx ht (aj _)
  have hnext:=qW (2^64) a i hlt;have hgo:=hL (((a.length:Int),(Wd a,((w:Int),((s:Int),(((i+1:Nat):Int),((),())))))),(Wd (pd (2^64) (w+a.length+1) (2^(64*w+s)*nv (2^64) (a.take (i+1)))),())) ⟨i+1,by omega,rfl⟩ (by simp only[ag];omega);rw[hnext,bt,←aw,show 2^(64*w+s)*(2^64)^i=2^(64*(w+i)+s) by rw[C6,←bb];congr 1;omega]at hgo;generalize hout:pd (2^64) (w+a.length+1) (2^(64*w+s)*nv (2^64) (a.take i))=out at *
  obtain⟨q1,q2,q3⟩:=aSp (k:=w+i) hs hout.symm (by omega) hV hxl;have hol:out.length=w+a.length+1:=by rw[←hout,FD]
  have g1:a.getD i 0*2^s%2^64=(a.getD i 0%2^(64-s))*2^s:=by
   have:2^64=2^(64-s)*2^s:=by rw[←bb];congr 1;omega
   rw[this,dw]
  have e8:aa .i64 (64-(s:Int))=((64-s:Nat):Int):=DS 64 s (by omega) (by omega);simp(disch:=omega) only[Cq,Cc,Cr,Cd,BI,Cs,B8,B7,Cl,Ck,Cj,Ci,Cg,Cf,Cn,Cm,Ch,B2,A8,BX,Bi,Bv,B1,ag,bd,cond_true,cond_false,bg,bj,ct,bc,bw,ca,bp,cr,bh,bq,co,cv,AF,CD,e8,HC _ s (by omega),DP _ (64-s) (by omega),g1,LQ q1 q2,EQ,kp,q3];exact hgo
 ·have e:i=a.length:=by omega
  subst e;rw[du];simp(disch:=omega) only[Cq,Cc,Cr,Cd,BI,Cs,B8,B7,Cl,Ck,Cj,Ci,Cg,Cf,Cn,Cm,Ch,B2,A8,BX,Bi,Bv,B1,ag,bd,cond_true,cond_false,bg,bj,ct,bc,bw,ca,bp,cr,bh,bq,co,cv]
theorem kA(l:List Nat)(hl:Ws l)(n:Nat)(hn:n/64+(Aj l).length+1<=1000000):Q8 (Wd l,(n:Int),())=some (Dw (nv (2^64) l*2^n),()):=by
 obtain⟨h,hlen⟩:=hl;show fQ Ah.pre Ah.F ZG (Wd l) n=_;unfold fQ;have hB:2<=2^64:=by decide
 have p0:=DG l hlen;have hm:∀x∈Aj l,x<2^64:=fun x hx=>h x (R0 hx);have hle:=(DD l).1;have hv:=Jj hB h;simp only[CU p0,CT p0,cond_true,AF];rcases ba (Aj l).length with h0|h0
 ·rw[h0,aJH h h0,fk];unfold Dw;rw[DI];rfl
 ·have e4:ks (n:Int) 64=((n%64:Nat):Int):=rfl;have e3:decide (((n/64+(Aj l).length+1:Nat):Int)*8<=140737488355328)=true:=decide_eq_true (by omega);have hw:=aNX (Aj l) hm (by omega) (n/64) (n%64) (bv _ (by decide)) (by omega) 0 (ee _);rw[show nv (2^64) ((Aj l).take 0)=0 by rfl,fi,aG0,show 64*(n/64)+n%64=n by omega,show((0:Nat):Int)=0 from rfl]at hw;simp(disch:=omega) only[Cq,Cc,Cr,Cd,BI,Cs,B8,B7,Cl,Ck,Cj,Ci,Cg,Cf,Cn,Cm,Ch,B2,A8,BX,Bi,Bv,B1,ag,bd,cond_true,cond_false,bg,bj,ct,bc,bw,ca,bp,cr,bh,bq,co,cv,rZ n (by omega),e4,e3,Wc,hw];have hV:2^n*nv (2^64) (Aj l)<(2^64)^(n/64+(Aj l).length+1):=by
   have:=DN hB (Aj l) hm;rw[C6]at this⊢;have h1:2^n*nv (2^64) (Aj l)<2^n*2^(64*(Aj l).length):=lx this (aj _);rw[←bb]at h1;exact al h1 (ak (by decide) (by omega))
  have p1:=DG (pd (2^64) (n/64+(Aj l).length+1) (2^n*nv (2^64) (Aj l))) (by rw[FD];omega);rw[Gp hB _ (T6 (by decide) _ _),T7 (by decide) _ _ hV,hv,ar (2^n)]at p1;rw[hv,ar (2^n)];generalize pd (2^64) (n/64+(Aj l).length+1) (nv (2^64) l*2^n)=out at *
  show(bif Ah.pre (Wd out,())then some (Ah.F (Wd out,()))else none)=_;rw[CU p1,CT p1];rfl
theorem aNW(ls:List (List Nat))(hls:∀l∈ls,l.length<=1000000)(hn:ls.length<=1000000)(i:Nat)(hi:i<=ls.length)(hz:∀l∈ls.take i,(Aj l).length<=1024):
  ZF (((ls.length:Int),(ls.map Wd,((i:Int),()))),())=some (if(∀l∈ls,(Aj l).length<=1024)then .inl ((),())else .inr ((true,()),())):=by
 have key:=Er (aGk Ah.pre Ah.F) (fun x=>ls.length-x.1.2.2.1.toNat)
  (fun x=>∃i:Nat,i<=ls.length/\(∀l∈ls.take i,(Aj l).length<=1024)/\x=(((ls.length:Int),(ls.map Wd,((i:Int),()))),()))
  (fun _=>if(∀l∈ls,(Aj l).length<=1024)then .inl ((),())else .inr ((true,()),())) ?_ _ ⟨i,hi,hz,rfl⟩
 ·exact key
 intro L x hx hL;obtain⟨i,hi,hz,rfl⟩:=hx;unfold TA;rcases aq i ls.length with hlt|hge
 ·have eg:(ls.map Wd).getD i []=Wd (ls[i]):=by
   rw[ai,List.getElem?_map,av hlt];rfl
  have hil:ls[i]∈ls:=List.getElem_mem hlt;have p0:=DG ls[i] (hls _ hil);simp(disch:=omega) only[Cq,Cc,Cr,Cd,BI,Cs,B8,B7,Cl,Ck,Cj,Ci,Cg,Cf,Cn,Cm,Ch,B2,A8,BX,Bi,Bv,B1,ag,bd,cond_true,cond_false,bg,bj,ct,bc,bw,ca,bp,cr,bh,bq,co,cv,kg,eg,CU p0,CT p0,AF];rcases aq 1024 (Aj ls[i]).length with hg|hg
  ·have e:decide (((Aj ls[i]).length:Int)>1024)=true:=decide_eq_true (by omega);have hnot:¬∀l∈ls,(Aj l).length<=1024:=fun hh=>by have:=hh _ hil;omega
   rw[e,cond_true,if_neg hnot]
  ·have e:decide (((Aj ls[i]).length:Int)>1024)=false:=decide_eq_false (by omega);rw[e,cond_false];refine hL _ ⟨i+1,by omega,?_,rfl⟩ (by simp only[ag];omega);intro l hl;rw[pk,av hlt]at hl;rcases cn.1 hl with hl|hl
   ·exact hz l hl
   ·have:l=ls[i]:=by simpa using hl
    rw[this];exact hg
 ·have e:i=ls.length:=by omega
  subst e;rw[du]at hz;simp(disch:=omega) only[Cq,Cc,Cr,Cd,BI,Cs,B8,B7,Cl,Ck,Cj,Ci,Cg,Cf,Cn,Cm,Ch,B2,A8,BX,Bi,Bv,B1,ag,bd,cond_true,cond_false,bg,bj,ct,bc,bw,ca,bp,cr,bh,bq,co,cv,if_pos hz]
theorem xY(ls:List (List Nat))(hls:∀l∈ls,l.length<=1000000)(hn:ls.length<=1000000):
  P6 (ls.map Wd,())=some (!decide (∀l∈ls,(Aj l).length<=1024),()):=by
 show fO Ah.pre Ah.F ZF (ls.map Wd)=_;unfold fO;have hw:=aNW ls hls hn 0 (ee _) (fun l hl=>by simp at hl);rw[show((0:Nat):Int)=0 from rfl]at hw;rw[kg,hw];by_cases h:∀l∈ls,(Aj l).length<=1024
 ·rw[if_pos h,decide_eq_true h];rfl
 ·rw[if_neg h,decide_eq_false h];rfl
theorem xZ(l:List Nat)(hl:l.length<=1000000):P6 ((Wd l::[]),())=some (!decide ((Aj l).length<=1024),()):=by
 have:=xY [l] (by simp;exact hl) (by simp);rw[show[l].map Wd=Wd l::[]from rfl]at this;rw[this];simp
theorem xW(l:List Nat)(hl:Ws l)(n:Nat)(hn:n<=65536)(hv:nv (2^64) l*2^n<(2^64)^1024):Q6 (Wd l,(n:Int),())=some (Dw (nv (2^64) l*2^n),0,()):=by
 show fK CY.pre CY.F D2.pre D2.F (Wd l) n=_;unfold fK;have p0:=xZ l hl.2;have hB:2<=2^64:=by decide
 have h1:=DH hB 1024 _ hv;have h0:(Aj l).length<=1024:=by
  rw[Gp hB _ hl.1];apply DH hB;exact ax (fe _ (aj _)) hv
 have p1:=kA l hl n (by omega);have p2:=xZ (dg (2^64) (nv (2^64) l*2^n)) (by omega);rw[Ql hB]at p2;rw[decide_eq_true h0]at p0;rw[decide_eq_true h1]at p2;have e2:decide ((n:Int)>65536)=false:=decide_eq_false (by omega);simp only[pW,e2,cr,cond_false,rJ p0,pH p0,cond_true,ca,rK p1,pI p1];unfold Dw;simp only[rJ p2,pH p2,cond_true,ca,cond_false]
end VL
namespace VL
open Go Vx
theorem Et(B:Nat)(l:List Nat)(i:Nat):nv B (l.take (i+1))=nv B (l.take i)+B^i*l.getD i 0:=by
 rcases aq i l.length with h|h
 ·exact qW B l i h
 ·rw[cj (by omega),cj h,ai,dm h];simp
def BU(a b:List Nat)(i:Nat):Nat:=nv (2^64) (a.take i)+nv (2^64) (b.take i)
def Dq(a b:List Nat)(i:Nat):List Nat:=pd (2^64) i (BU a b i%(2^64)^i)++(a++[0]).drop i
theorem Xv{l:List Nat}(h:∀x∈l,x<2^64)(i:Nat):nv (2^64) (l.take i)<(2^64)^i:=by
 have:=DN (B:=2^64) (by decide) (l.take i) fun x hx=>h x (dr hx);refine al this (ak (by decide) ?_);rw[gd];exact kj _ _
theorem aEq{a b:List Nat}(ha:∀x∈a,x<2^64)(hb:∀x∈b,x<2^64)(i:Nat):BU a b i/(2^64)^i<=1:=by
 have h1:=Xv ha i;have h2:=Xv hb i;have hp:0<(2^64)^i:=ij (by decide);unfold BU;have:(nv (2^64) (a.take i)+nv (2^64) (b.take i))/(2^64)^i<2:=by
  rw[bm hp];omega
 omega
theorem aH4(a b:List Nat)(i:Nat):BU a b (i+1)=BU a b i%(2^64)^i+(2^64)^i*(a.getD i 0+b.getD i 0+BU a b i/(2^64)^i):=by
 have hdm:=ci (BU a b i) ((2^64)^i);have h1:BU a b (i+1)=BU a b i+(2^64)^i*(a.getD i 0+b.getD i 0):=by
  unfold BU;rw[Et,Et,bt];omega
 rw[h1,bt ((2^64)^i) (a.getD i 0+b.getD i 0)];omega
theorem aYO(a b:List Nat)(i:Nat):BU a b (i+1)/(2^64)^(i+1)=(a.getD i 0+b.getD i 0+BU a b i/(2^64)^i)/2^64:=by
 have hp:0<(2^64)^i:=ij (by decide);rw[aH4,dx (2^64) i,←dl,fh _ _ hp,cq (bv _ hp),dj]
theorem aYP(a b:List Nat)(i:Nat):BU a b (i+1)%(2^64)^(i+1)=BU a b i%(2^64)^i+(2^64)^i*((a.getD i 0+b.getD i 0+BU a b i/(2^64)^i)%2^64):=by
 have hp:0<(2^64)^i:=ij (by decide);rw[aH4 a b i,dx (2^64) i,nr,ip,qa,fh _ _ hp,cq (bv _ hp),dj]
theorem aGZ{k r v:Nat}(hr:r<(2^64)^k)(hv:v<2^64):pd (2^64) k r++[v]=pd (2^64) (k+1) (r+(2^64)^k*v):=by
 refine rC (by decide) ?_ (by simp[FD]) ?_
 ·intro x hx;rcases cn.1 hx with hx|hx
  ·exact T6 (by decide) _ _ x hx
  ·have:x=v:=by simpa using hx
   rw[this];exact hv
 ·rw[RQ,FD,T7 (by decide) _ _ hr];simp[nv]
theorem aTG(a b:List Nat)(i:Nat)(hi:i<a.length):(Dq a b i).set i ((a.getD i 0+b.getD i 0+BU a b i/(2^64)^i)%2^64)=Dq a b (i+1):=by
 have hp:0<(2^64)^i:=ij (by decide);unfold Dq;rw[aYP,←aGZ (bv _ hp) (bv _ (by decide)),fm _ _ (by rw[FD];exact bf _),FD,gk,
  dp (l:=a++[0]) (i:=i) (by simp;omega),jk,dt]
 rfl
theorem aGX(a b:List Nat)(i:Nat)(hi:i<=a.length):(Dq a b i).length=a.length+1:=by
 unfold Dq;rw[List.length_append,FD];simp;omega
theorem aNR(a b:List Nat)(ha:∀x∈a,x<2^64)(hb:∀x∈b,x<2^64)(hlen:a.length<=1000000)(i:Nat)(hi:i<=a.length):
  V7 (((a.length:Int),(Wd b,((i:Int),(Wd a,(((BU a b i/(2^64)^i:Nat):Int),((),())))))),(Wd (Dq a b i),()))=some (.inl ((Wd a,(((BU a b a.length/(2^64)^a.length:Nat):Int),((),()))),(Wd (Dq a b a.length),()))):=by
 have key:=Er (aGf Ar.pre Ar.F Ah.pre Ah.F) (fun x=>a.length-x.1.2.2.1.toNat)
  (fun x=>∃i:Nat,i<=a.length/\x=(((a.length:Int),(Wd b,((i:Int),(Wd a,(((BU a b i/(2^64)^i:Nat):Int),((),())))))),(Wd (Dq a b i),())))
  (fun _=>.inl ((Wd a,(((BU a b a.length/(2^64)^a.length:Nat):Int),((),()))),(Wd (Dq a b a.length),()))) ?_ _ ⟨i,hi,rfl⟩
 ·exact key
 intro L x hx hL;obtain⟨i,hi,rfl⟩:=hx;unfold Tv;rcases aq i a.length with hlt|hge
 ·have hc:=aEq ha hb i;have hol:=aGX a b i hi;have hset:=aTG a b i hlt;have hgo:=hL (((a.length:Int),(Wd b,(((i+1:Nat):Int),(Wd a,(((BU a b (i+1)/(2^64)^(i+1):Nat):Int),((),())))))),(Wd (Dq a b (i+1)),())) ⟨i+1,by omega,rfl⟩ (by simp only[ag];omega);rw[aYO,←hset]at hgo;have hF:∀x y c:Nat,Ar.F ((x:Int),((y:Int),((c:Int),())))=(((((x+y+c)%2^64:Nat):Int)),((((x+y+c)/2^64:Nat):Int)),()):=fun x y c=>rfl;have hP:∀(x y:Int) (c:Nat),c<=1->Ar.pre (x,(y,((c:Int),())))=true:=fun x y c h=>by
   show(decide ((0:Int)<=(c:Int))&&decide ((c:Int)<=1))=true;rw[decide_eq_true (by omega),decide_eq_true (by omega)];rfl
  generalize BU a b i/(2^64)^i=c at *
  generalize Dq a b i=out at *
  rcases aq i b.length with hbl|hbl
  ·simp(disch:=omega) only[Cq,Cc,Cr,Cd,BI,Cs,B8,B7,Cl,Ck,Cj,Ci,Cg,Cf,Cn,Cm,Ch,B2,A8,BX,Bi,Bv,B1,ag,bd,cond_true,cond_false,bg,bj,ct,bc,bw,ca,bp,cr,bh,bq,co,cv,AF,CD,hP _ _ c hc,hF,EQ];exact hgo
  ·have hbz:b.getD i 0=0:=by rw[ai,dm hbl];rfl
   have hF0:Ar.F (((a.getD i 0:Nat):Int),((0:Int),((c:Int),())))=((((a.getD i 0+b.getD i 0+c)%2^64:Nat):Int),(((a.getD i 0+b.getD i 0+c)/2^64:Nat):Int),()):=by rw[hbz];rfl
   simp(disch:=omega) only[Cq,Cc,Cr,Cd,BI,Cs,B8,B7,Cl,Ck,Cj,Ci,Cg,Cf,Cn,Cm,Ch,B2,A8,BX,Bi,Bv,B1,ag,bd,cond_true,cond_false,bg,bj,ct,bc,bw,ca,bp,cr,bh,bq,co,cv,AF,CD,hP _ _ c hc,hF0,EQ];exact hgo
 ·have e:i=a.length:=by omega
  subst e;simp(disch:=omega) only[Cq,Cc,Cr,Cd,BI,Cs,B8,B7,Cl,Ck,Cj,Ci,Cg,Cf,Cn,Cm,Ch,B2,A8,BX,Bi,Bv,B1,ag,bd,cond_true,cond_false,bg,bj,ct,bc,bw,ca,bp,cr,bh,bq,co,cv]
theorem aYM(a b:List Nat)(ha:∀x∈a,x<2^64)(hb:∀x∈b,x<2^64)(hab:b.length<=a.length):
  (Dq a b a.length).set a.length (BU a b a.length/(2^64)^a.length)=pd (2^64) (a.length+1) (nv (2^64) a+nv (2^64) b)/\nv (2^64) a+nv (2^64) b<(2^64)^(a.length+1):=by
 have hp:0<(2^64)^a.length:=ij (by decide);have hc:=aEq ha hb a.length;have hs:BU a b a.length=nv (2^64) a+nv (2^64) b:=by
  unfold BU;rw[du,cj hab]
 have hdm:=ci (BU a b a.length) ((2^64)^a.length);refine⟨?_,?_⟩
 ·have hd:(a++[0]).drop a.length=[0]:=by simp
  unfold Dq;rw[hd,fm _ _ (by rw[FD];exact bf _),FD,gk,jk,aGZ (bv _ hp) (by omega),gx (BU a b a.length%(2^64)^a.length),hdm,hs]
 ·rw[←hs];have h1:=Xv ha a.length;have h2:=Xv hb a.length;unfold BU;rw[dx (2^64) a.length];omega
theorem aP3{a:List Nat}:jp (ap (a.length+1) (0:Int)).length (Wd a)++List.drop a.length (ap (a.length+1) (0:Int))=Wd (Dq a ([]:List Nat) 0):=by
 rw[fc,kf,je,cj (by rw[AF];omega)];unfold Dq;simp[Wd,pd]
theorem aTH(a b c:List Nat):Dq a b 0=Dq a c 0:=by unfold Dq;simp[pd]
theorem aDS(a b:List Nat)(ha:∀x∈a,x<2^64)(hb:∀x∈b,x<2^64)(hlen:a.length+1<=1000000)(hab:b.length<=a.length):
  (bif decide (0<=aa .i64 ((a.length:Int)+1))&&decide (aa .i64 ((a.length:Int)+1)*8<=140737488355328)then
   A3 (V7 (((a.length:Int),(Wd b,((0:Int),(Wd a,((0:Int),((),())))))),(jp (ap (ah (aa .i64 ((a.length:Int)+1))) (0:Int)).length (Wd a)++List.drop a.length (ap (ah (aa .i64 ((a.length:Int)+1))) (0:Int)),()))) fun y4=>
    A1 y4 (fun y5=>bif decide (0<=((y5.1.1.length:Nat):Int))&&decide (((y5.1.1.length:Nat):Int)<((y5.2.1.length:Nat):Int))then
     (bif Ah.pre ((y5.2.1.set (ah ((y5.1.1.length:Nat):Int)) y5.1.2.1),())then some (Ah.F ((y5.2.1.set (ah ((y5.1.1.length:Nat):Int)) y5.1.2.1),()))else none)else none) fun _=>none
  else none:Option (DenS FQ))=some (Dw (nv (2^64) a+nv (2^64) b),()):=by
 have hw:=aNR a b ha hb (by omega) 0 (ee _)
 have h0:BU a b 0/(2^64)^0=0:=by unfold BU;simp[nv]
 rw[h0,show((0:Nat):Int)=0 from rfl,aTH a b [],←aP3]at hw
 have e3:decide (((a.length+1:Nat):Int)*8<=140737488355328)=true:=decide_eq_true (by omega)
 rw[Cc _ (by omega),e3,A8,ag,hw]
 obtain⟨g1,g2⟩:=aYM a b ha hb hab
 have hol:=aGX a b a.length (bf _)
 have p1:=DG (pd (2^64) (a.length+1) (nv (2^64) a+nv (2^64) b)) (by rw[FD];exact hlen)
 rw[Gp (by decide) _ (T6 (by decide) _ _),T7 (by decide) _ _ g2,←g1,←EQ]at p1
 generalize BU a b a.length/(2^64)^a.length=c at *
 generalize Dq a b a.length=out at *
 show(bif decide (0<=(((Wd a).length:Nat):Int))&&decide ((((Wd a).length:Nat):Int)<(((Wd out).length:Nat):Int))then
     (bif Ah.pre ((Wd out).set (Wd a).length (c:Int),())then some (Ah.F ((Wd out).set (Wd a).length (c:Int),()))else none)else none)=_
 simp(disch:=omega) only[Cq,Cc,Cr,Cd,BI,Cs,B8,B7,Cl,Ck,Cj,Ci,Cg,Cf,Cn,Cm,Ch,B2,A8,BX,Bi,Bv,B1,ag,bd,cond_true,cond_false,bg,bj,ct,bc,bw,ca,bp,cr,bh,bq,co,cv,AF,CU p1,CT p1]
 rfl
theorem xQ(l m:List Nat)(hl:Ws l)(hm:Ws m)(hl2:(Aj l).length<1000000)(hm2:(Aj m).length<1000000):Q3 (Wd l,Wd m,())=some (Dw (nv (2^64) l+nv (2^64) m),()):=by
 show eW Ar.pre Ar.F Ah.pre Ah.F V7 (Wd l) (Wd m)=_;unfold eW;have p0:=DG l hl.2;have p1:=DG m hm.2;have h1:∀x∈Aj l,x<2^64:=fun x hx=>hl.1 x (R0 hx);have h2:∀x∈Aj m,x<2^64:=fun x hx=>hm.1 x (R0 hx);simp only[CU p0,CT p0,CU p1,CT p1,cond_true];rcases aq (Aj l).length (Aj m).length with h|h
 ·rw[AF,AF,B8 _ _ h,cond_true];have:=aDS (Aj m) (Aj l) h2 h1 hm2 (by omega);rw[Jj (by decide) hl.1,Jj (by decide) hm.1,gx]at this;exact this
 ·rw[AF,AF,B7 _ _ h,cond_false];have:=aDS (Aj l) (Aj m) h1 h2 hl2 (by omega);rw[Jj (by decide) hl.1,Jj (by decide) hm.1]at this;exact this
theorem aNe(l:List Nat)(hl:Ws l):Vd (Wd l,())=some (Dw (nv (2^64) l),()):=by
 show eZ Ah.pre Ah.F (Wd l)=_;unfold eZ;have p0:=DG l hl.2;have hle:=(DD l).1;have h2:=hl.2;have e3:decide ((((Aj l).length:Nat):Int)*8<=140737488355328)=true:=decide_eq_true (by omega);simp(disch:=omega) only[Cq,Cc,Cr,Cd,BI,Cs,B8,B7,Cl,Ck,Cj,Ci,Cg,Cf,Cn,Cm,Ch,B2,A8,BX,Bi,Bv,B1,ag,bd,cond_true,cond_false,bg,bj,ct,bc,bw,ca,bp,cr,bh,bq,co,cv,CU p0,CT p0,AF,e3,fc,kf,gk];rw[cj (by rw[AF];exact bf _),kd,cz,Gp (by decide) l hl.1];rfl
theorem xB(l:List Nat)(hl:Ws l):Sn (Wd l,())=some (Dw (nv (2^64) l),()):=by
 show eD Ct.pre Ct.F (Wd l)=_;unfold eD;have p0:=aNe l hl;simp only[aTW p0,aRx p0,cond_true]
end VL
namespace VL
open Go Vx
def Wi(n:Nat):Ab (.pair (.int .u64) (.pair (.int .u64) .unit)):=(((n/2^64:Nat):Int),(((n%2^64:Nat):Int),()))
theorem aAL(k:Nat)(h:0<k):decide ((k:Int)<=0)=false:=decide_eq_false (by omega)
theorem aQa{A q R P:Nat}(g1:A%2^64=R)(g2:q<P)(g4:R+P<=2^64):(A+q)%2^64=q+R:=by omega
theorem aQb{X Y r:Nat}(h:X%2^64=Y)(hr:r<2^64):(2^64*X+r)%2^128=2^64*Y+r:=by omega
theorem aQc{X h q R P:Nat}(e:X=2^64*h+R+q)(g2:q<P)(g4:R+P<=2^64):X/2^64=h/\X%2^64=q+R:=by omega
theorem xM(n k:Nat)(hn:n<2^128):Q2 (Wi n,(k:Int),())=some (Wi (n*2^k%2^128),()):=by
 show eM (Wi n) k=_;unfold eM;rcases ba k with rfl|hk
 ·have e:n*2^0%2^128=n:=by rw[js,gr,be hn]
  rw[e];rfl
 rw[aAL k hk,cond_false];rcases aq k 128 with h128|h128
 ·rw[show decide ((k:Int)>=128)=false from decide_eq_false (by omega),cond_false];have hlo:(n%2^64)<2^64:=bv _ (by decide);have hhi:n/2^64<2^64:=by omega
  have hsplit:n=2^64*(n/2^64)+n%2^64:=(ci n (2^64)).symm;rcases aq k 64 with h64|h64
  ·have e8:aa .i64 (64-(k:Int))=((64-k:Nat):Int):=DS 64 k (by omega) (by omega);rw[show decide ((k:Int)>=64)=false from decide_eq_false (by omega),cond_false,A8,cond_true,e8,A8,cond_true,cond_true];show some ((An .u64 (A4 .u64 ((n/2^64:Nat):Int) k) (AJ .u64 ((n%2^64:Nat):Int) ((64-k:Nat):Int)),(A4 .u64 ((n%2^64:Nat):Int) k,())),())=_;rw[HC _ k (by omega),HC _ k (by omega),DP _ (64-k) (by omega)];have hp:=aj k;have hp2:=aj (64-k);have h2:2^64=2^(64-k)*2^k:=by rw[←bb];congr 1;omega
   generalize n/2^64=hi at *
   generalize n%2^64=lo at *
   have g1:hi*2^k%2^64=(hi%2^(64-k))*2^k:=by rw[h2,dw]
   have g2:lo/2^(64-k)<2^k:=by rw[bm hp2,ar,←h2];exact hlo
   have g3:hi%2^(64-k)+1<=2^(64-k):=bv _ hp2;have g4:=au (2^k) g3;rw[←h2,cg,fu]at g4;have hor:An .u64 ((hi*2^k%2^64:Nat):Int) ((lo/2^(64-k):Nat):Int)=((lo/2^(64-k)+(hi%2^(64-k))*2^k:Nat):Int):=by
    have:=LQ g2 (b:=hi%2^(64-k)) (by omega);rw[g1];have hc:∀a b:Nat,a<2^64->b<2^64->An .u64 (a:Int) (b:Int)=An .u64 (b:Int) (a:Int):=fun a b ha hb=>by
     rw[Xw ha hb,Xw hb ha,px]
    rw[hc _ _ (by omega) (by omega)];exact this
   rw[hor];have hdm:=ci lo (2^(64-k));have v1:n*2^k=2^64*(hi*2^k+lo/2^(64-k))+lo*2^k%2^64:=by
    have g5:lo*2^k%2^64=(lo%2^(64-k))*2^k:=by rw[h2,dw]
    have g6:2^64*(lo/2^(64-k))=2^(64-k)*(lo/2^(64-k))*2^k:=by
     rw[io,←h2]
    rw[hsplit,cg,bt,aw,gc,g6,g5,←cg,hdm]
   have v2:n*2^k%2^128=2^64*(lo/2^(64-k)+(hi%2^(64-k))*2^k)+lo*2^k%2^64:=by
    rw[v1];have hlo2:lo*2^k%2^64<2^64:=bv _ (by decide);exact aQb (aQa g1 g2 g4) hlo2
   have hlo2:lo*2^k%2^64<2^64:=bv _ (by decide);have e1:n*2^k%2^128/2^64=lo/2^(64-k)+(hi%2^(64-k))*2^k:=by rw[v2];omega
   have e2:n*2^k%2^128%2^64=lo*2^k%2^64:=by rw[v2];omega
   unfold Wi;rw[e1,e2]
  ·have e8:aa .i64 ((k:Int)-64)=((k-64:Nat):Int):=DS k 64 (by omega) (by omega);rw[show decide ((k:Int)>=64)=true from decide_eq_true (by omega),cond_true,e8,A8,cond_true];show some ((A4 .u64 ((n%2^64:Nat):Int) ((k-64:Nat):Int),((0:Int),())),())=_;rw[HC _ (k-64) (by omega)];have v1:n*2^k%2^128=2^64*(n%2^64*2^(k-64)%2^64):=by
    have h2:2^k=2^(k-64)*2^64:=by rw[←bb];congr 1;omega
    rw[h2,←aw,show 2^128=2^64*2^64 by decide,dw,ar _ (2^64),qb n (2^(k-64)),qb (n%2^64) (2^(k-64)),qa]
   have e1:n*2^k%2^128/2^64=n%2^64*2^(k-64)%2^64:=by rw[v1];omega
   have e2:n*2^k%2^128%2^64=0:=by rw[v1];omega
   unfold Wi;rw[e1,e2];rfl
 ·rw[show decide ((k:Int)>=128)=true from decide_eq_true (by omega),cond_true];have e:n*2^k%2^128=0:=by
   rw[show k=(k-128)+128 by omega,bb,←aw];exact ms _ _
  rw[e];rfl
theorem aM8(n k:Nat)(hn:n<2^128):So (Wi n,(k:Int),())=some (Wi (n/2^k),()):=by
 show eN (Wi n) k=_;unfold eN;rcases ba k with rfl|hk
 ·have e:n/2^0=n:=by rw[js,Nat.div_one]
  rw[e];rfl
 rw[aAL k hk,cond_false];rcases aq k 128 with h128|h128
 ·rw[show decide ((k:Int)>=128)=false from decide_eq_false (by omega),cond_false];have hlo:(n%2^64)<2^64:=bv _ (by decide);have hhi:n/2^64<2^64:=by omega
  rcases aq k 64 with h64|h64
  ·have e8:aa .i64 (64-(k:Int))=((64-k:Nat):Int):=DS 64 k (by omega) (by omega);rw[show decide ((k:Int)>=64)=false from decide_eq_false (by omega),cond_false,A8,cond_true,e8,A8,cond_true,cond_true];show some ((AJ .u64 ((n/2^64:Nat):Int) k,(An .u64 (AJ .u64 ((n%2^64:Nat):Int) k) (A4 .u64 ((n/2^64:Nat):Int) ((64-k:Nat):Int)),())),())=_;rw[HC _ (64-k) (by omega),DP _ k (by omega),DP _ k (by omega)];have hp:=aj k;have hp2:=aj (64-k);have h2:2^64=2^k*2^(64-k):=by rw[←bb];congr 1;omega
   have hsplit:n=2^64*(n/2^64)+n%2^64:=(ci n (2^64)).symm;generalize n/2^64=hi at *
   generalize n%2^64=lo at *
   have g1:hi*2^(64-k)%2^64=(hi%2^k)*2^(64-k):=by rw[h2,dw]
   have g2:lo/2^k<2^(64-k):=by rw[bm hp,ar,←h2];exact hlo
   have g3:hi%2^k+1<=2^k:=bv _ hp;have g4:=au (2^(64-k)) g3;rw[←h2,cg,fu]at g4;rw[g1,LQ g2 (by omega)];have v1:n/2^k=hi*2^(64-k)+lo/2^k:=by
    have:n=lo+2^k*(hi*2^(64-k)):=by rw[hsplit,h2,aw,ar hi];omega
    rw[this,fh _ _ hp,gx]
   have hdm:=ci hi (2^k);have v2:hi*2^(64-k)=2^64*(hi/2^k)+(hi%2^k)*2^(64-k):=by
    rw[h2,io,←cg,hdm]
   rw[v2]at v1;obtain⟨e1,e2⟩:=aQc v1 g2 g4;unfold Wi;rw[e1,e2]
  ·have e8:aa .i64 ((k:Int)-64)=((k-64:Nat):Int):=DS k 64 (by omega) (by omega);rw[show decide ((k:Int)>=64)=true from decide_eq_true (by omega),cond_true,e8,A8,cond_true];show some (((0:Int),(AJ .u64 ((n/2^64:Nat):Int) ((k-64:Nat):Int),())),())=_;rw[DP _ (k-64) (by omega)];have v1:n/2^k=n/2^64/2^(k-64):=by
    rw[dl,←bb];congr 2;omega
   have hs:n/2^k<2^64:=by
    rw[v1];exact ax (fa _ _) hhi
   have e1:n/2^k/2^64=0:=cq hs;have e2:n/2^k%2^64=n/2^64/2^(k-64):=by rw[←v1];exact be hs
   unfold Wi;rw[e1,e2];rfl
 ·rw[show decide ((k:Int)>=128)=true from decide_eq_true (by omega),cond_true];have e:n/2^k=0:=cq (al hn (ak (by decide) h128));rw[e];rfl
theorem S5(x y c:Nat):Ar.F ((x:Int),((y:Int),((c:Int),())))=(((((x+y+c)%2^64:Nat):Int)),((((x+y+c)/2^64:Nat):Int)),()):=rfl
theorem S6(x y:Int)(c:Nat)(h:c<=1):Ar.pre (x,(y,((c:Int),())))=true:=by
 show(decide ((0:Int)<=(c:Int))&&decide ((c:Int)<=1))=true;rw[decide_eq_true (by omega),decide_eq_true (by omega)];rfl
theorem XT(x y c:Nat)(h:c<=1)(hx:x<2^64)(hy:y<2^64):AW.F ((x:Int),((y:Int),((c:Int),())))=(((((x+2^64-y-c)%2^64:Nat):Int)),((if x<y+c then 1 else 0:Nat):Int),()):=by
 show((((x:Int)-y-c)%18446744073709551616:Int),((if(x:Int)<y+c then 1 else 0:Int)),())=_;have e1:((x:Int)-y-c)%18446744073709551616=((x+2^64-y-c)%2^64:Nat):=by omega
 rw[e1];by_cases h:x<y+c
 ·rw[if_pos h,if_pos (by omega)];rfl
 ·rw[if_neg h,if_neg (by omega)];rfl
theorem XU(x y:Int)(c:Nat)(h:c<=1):AW.pre (x,(y,((c:Int),())))=true:=by
 show(decide ((0:Int)<=(c:Int))&&decide ((c:Int)<=1))=true;rw[decide_eq_true (by omega),decide_eq_true (by omega)];rfl
theorem aM9(n m:Nat)(h:n+m<2^128):U5 (Wi n,Wi m,())=some (Wi (n+m),0,()):=by
 show eO Ar.pre Ar.F (Wi n) (Wi m)=_;unfold eO;have c1:(n%2^64+m%2^64+0)/2^64<=1:=by omega
 have p1:Ar.pre ((Wi n).2.1,((Wi m).2.1,((0:Int),())))=true:=S6 _ _ 0 (by decide);have q1:Ar.F ((Wi n).2.1,((Wi m).2.1,((0:Int),())))=_:=S5 (n%2^64) (m%2^64) 0;rw[p1,q1,cond_true];have p2:Ar.pre ((Wi n).1,((Wi m).1,((((n%2^64+m%2^64+0)/2^64:Nat):Int),())))=true:=S6 _ _ _ c1;have q2:Ar.F ((Wi n).1,((Wi m).1,((((n%2^64+m%2^64+0)/2^64:Nat):Int),())))=_:=S5 (n/2^64) (m/2^64) ((n%2^64+m%2^64+0)/2^64);dsimp only;rw[p2,q2,cond_true];have e1:(n/2^64+m/2^64+(n%2^64+m%2^64+0)/2^64)%2^64=(n+m)/2^64:=by omega
 have e2:(n%2^64+m%2^64+0)%2^64=(n+m)%2^64:=by omega
 have e3:(n/2^64+m/2^64+(n%2^64+m%2^64+0)/2^64)/2^64=0:=by omega
 rw[e1,e2,e3];rfl
theorem j7(n m:Nat)(hn:n<2^128)(h:m<=n):U9 (Wi n,Wi m,())=some (Wi (n-m),0,()):=by
 show eR AW.pre AW.F (Wi n) (Wi m)=_;unfold eR;have p1:AW.pre ((Wi n).2.1,((Wi m).2.1,((0:Int),())))=true:=XU _ _ 0 (by decide);have q1:AW.F ((Wi n).2.1,((Wi m).2.1,((0:Int),())))=_:=XT (n%2^64) (m%2^64) 0 (by decide) (by omega) (by omega);rw[p1,q1,cond_true];have c1:(if n%2^64<m%2^64+0 then 1 else 0)<=1:=by split<;>omega
 have p2:AW.pre ((Wi n).1,((Wi m).1,(((if n%2^64<m%2^64+0 then 1 else 0:Nat):Int),())))=true:=XU _ _ _ c1;have q2:AW.F ((Wi n).1,((Wi m).1,(((if n%2^64<m%2^64+0 then 1 else 0:Nat):Int),())))=_:=XT (n/2^64) (m/2^64) _ c1 (by omega) (by omega);dsimp only;rw[p2,q2,cond_true];have e2:(n%2^64+2^64-m%2^64-0)%2^64=(n-m)%2^64:=by omega
 rw[e2];by_cases hb:n%2^64<m%2^64+0
 ·rw[if_pos hb,if_neg (by omega)];have e1:(n/2^64+2^64-m/2^64-1)%2^64=(n-m)/2^64:=by omega
  rw[e1];rfl
 ·rw[if_neg hb,if_neg (by omega)];have e1:(n/2^64+2^64-m/2^64-0)%2^64=(n-m)/2^64:=by omega
  rw[e1];rfl
theorem aNa(n m:Nat):U8 (Wi n,Wi m,())=some (if n=m then 0 else if n<m then -1 else 1,()):=by
 show eQ (Wi n) (Wi m)=_;unfold eQ;show(bif(((n/2^64:Nat):Int)==((m/2^64:Nat):Int)&&((n%2^64:Nat):Int)==((m%2^64:Nat):Int))then some ((0:Int),())
  else bif(decide (((n/2^64:Nat):Int)<((m/2^64:Nat):Int))||(((n/2^64:Nat):Int)==((m/2^64:Nat):Int)&&decide (((n%2^64:Nat):Int)<((m%2^64:Nat):Int))))then some ((-1:Int),())else some ((1:Int),()):Option (Int×Unit))=_
 rw[RO,RO,qO,qO];rcases gf n m with h|h|h
 ·have e1:(n/2^64==m/2^64&&n%2^64==m%2^64)=false:=by
   rw[lb,beq_eq_false_iff_ne,beq_eq_false_iff_ne];omega
  have e2:(decide (n/2^64<m/2^64)||(n/2^64==m/2^64&&decide (n%2^64<m%2^64)))=true:=by
   rw[Bool.or_eq_true,ae,decide_eq_true_eq,decide_eq_true_eq,beq_iff_eq];omega
  rw[e1,e2,if_neg (by omega),if_pos h];rfl
 ·subst h;rw[if_pos rfl];simp
 ·have e1:(n/2^64==m/2^64&&n%2^64==m%2^64)=false:=by
   rw[lb,beq_eq_false_iff_ne,beq_eq_false_iff_ne];omega
  have e2:(decide (n/2^64<m/2^64)||(n/2^64==m/2^64&&decide (n%2^64<m%2^64)))=false:=by
   rw[li,lb,decide_eq_false_iff_not,decide_eq_false_iff_not,beq_eq_false_iff_ne];omega
  rw[e1,e2,if_neg (by omega),if_neg (by omega)];rfl
end VL
namespace VL
open Go Vx
def DK(m:Int)(neg odd:Bool)(rest:Nat):Bool:=if m=4 then neg else if m=3 then !neg else if m=0 then(if rest=2 then odd else decide (2<=rest))else if m=1 then decide (2<=rest)else if m=5 then !odd else false
theorem TO(a b:Int)(h:a≠b):(a==b)=false:=by simp[h]
theorem Sv(m:Int)(neg odd:Bool)(rest:Nat):Q7 (m,neg,odd,(rest:Int),())=some (DK m neg odd rest,()):=by
 show fL m neg odd (rest:Int)=_;have e2:decide ((rest:Int)>=2)=decide (2<=rest):=by rw[ej,decide_eq_true_eq,decide_eq_true_eq];omega
 have e3:((rest:Int)==2)=decide (rest=2):=by rw[ej,decide_eq_true_eq,beq_iff_eq];omega
 unfold fL DK;rw[e2,e3];by_cases h4:m=4
 ·subst h4;cases neg<;>rfl
 rw[TO m 4 h4,cond_false,if_neg h4];by_cases h3:m=3
 ·subst h3;rfl
 rw[TO m 3 h3,cond_false,if_neg h3];by_cases h0:m=0
 ·subst h0;by_cases hr:rest=2
  ·subst hr;rfl
  ·rw[decide_eq_false hr,if_pos rfl,if_neg hr];rfl
 rw[TO m 0 h0,cond_false,if_neg h0];by_cases h1:m=1
 ·subst h1;rfl
 rw[TO m 1 h1,cond_false,if_neg h1];by_cases h5:m=5
 ·subst h5;rfl
 rw[TO m 5 h5,cond_false,if_neg h5]
def Hz(n:Nat)(e q:Int):Nat:=if q<=e then n*2^(e-q).toNat else n/2^(q-e).toNat
def Ja(r s:Nat):Nat:=if r=0 then 0 else if r<2^(s-1)then 1 else if r=2^(s-1)then 2 else 3
def QK(n:Nat)(e q:Int):Nat:=if q<=e then 0 else Ja (n%2^(q-e).toNat) (q-e).toNat
def j4(n:Nat)(e q:Int):Nat:=if 2<=q-e then LN n (q-e-2).toNat else n*2^(2-(q-e)).toNat
theorem aSl(n:Nat)(e q:Int):j4 n e q/4=Hz n e q/\j4 n e q%4=QK n e q:=by
 unfold j4 Hz QK;by_cases h2:2<=q-e
 ·rw[if_pos h2,if_neg (by omega),if_neg (by omega)];have es:(q-e).toNat=(q-e-2).toNat+2:=by omega
  rw[es];generalize(q-e-2).toNat=s;have hp:=aj s;have e1:2^(s+2)=2^s*4:=by rw[bb]
  have e2:2^(s+2-1)=2^s*2:=by rw[show s+2-1=s+1 by omega,dx]
  unfold LN Ja;rw[e2,e1,←dl,nr];have hr:=bv n hp;generalize n%2^s=r at *
  generalize n/2^s=u at *
  have h4:u%4=0∨u%4=1∨u%4=2∨u%4=3:=by omega
  constructor
  ·split<;>omega
  ·rcases h4 with h|h|h|h<;>rw[h]<;>by_cases hz:r=0
   ·rw[if_pos hz,if_pos (by omega)];exact h
   ·rw[if_neg hz,if_neg (by omega),if_pos (by omega)];omega
   ·rw[if_pos hz,if_neg (by omega),if_pos (by omega)];exact h
   ·rw[if_neg hz,if_neg (by omega),if_pos (by omega)];omega
   ·rw[if_pos hz,if_neg (by omega),if_neg (by omega),if_pos (by omega)];exact h
   ·rw[if_neg hz,if_neg (by omega),if_neg (by omega),if_neg (by omega)];omega
   ·rw[if_pos hz,if_neg (by omega),if_neg (by omega),if_neg (by omega)];exact h
   ·rw[if_neg hz,if_neg (by omega),if_neg (by omega),if_neg (by omega)];omega
 ·rw[if_neg h2];by_cases h1:q<=e
  ·rw[if_pos h1,if_pos h1,show(2-(q-e)).toNat=(e-q).toNat+2 by omega,bb,←aw];generalize n*2^(e-q).toNat=x;omega
  ·rw[if_neg h1,if_neg h1,show(2-(q-e)).toNat=1 by omega,show(q-e).toNat=1 by omega];unfold Ja;rcases lw n with h|h
   ·rw[show n%2^1=0 from h,if_pos rfl];omega
   ·rw[show n%2^1=1 from h,if_neg (by omega),if_neg (by decide),if_pos (by decide)];omega
def Ep(n:Nat)(e q:Int)(more:Bool):Nat:=if more then QK n e q/2*2+1 else QK n e q
def B5(m:Int)(neg:Bool)(n:Nat)(e q:Int)(more:Bool):Nat:=if Ep n e q more≠0/\DK m neg (decide (Hz n e q%2=1)) (Ep n e q more)=true then Hz n e q+1 else Hz n e q
theorem Ew:Dw 0=[]:=by unfold Dw;rw[DI];rfl
theorem Ys{n:Nat}(h:n≠0):0<(Dw n).length:=by
 unfold Dw;rw[AF,Fw (by decide) (by omega)];simp
theorem L5{n:Nat}(h:n≠0):decide ((((Dw n).length:Nat):Int)>0)=true:=decide_eq_true (by have:=Ys h;omega)
theorem Uy{n:Nat}(h:n≠0):decide ((0:Int)<(((Dw n).length:Nat):Int))=true:=decide_eq_true (by have:=Ys h;omega)
theorem QQ(n:Nat):(Dw n).getD 0 0=((n%2^64:Nat):Int):=by
 unfold Dw;rw[CD];rcases ba n with rfl|h
 ·rw[DI];rfl
 ·rw[Fw (by decide) h];rfl
theorem aJS:Dw 1=(1:Int)::[]:=by
 unfold Dw;rw[Fw (by decide) (by decide),DI];rfl
theorem L4(n:Nat):(decide ((0:Int)<(((Dw n).length:Nat):Int))||!decide ((((Dw n).length:Nat):Int)>0))=true:=by
 by_cases h:0<(Dw n).length
 ·rw[decide_eq_true (by omega)];rfl
 ·rw[decide_eq_false (p:=(((Dw n).length:Nat):Int)>0) (by omega)];simp
theorem bD(n:Nat):Bs .u64 ((n%2^64:Nat):Int) 3=((n%4:Nat):Int):=by
 have:=WD (m:=n%2^64) (n:=2) (bv _ (by decide)) (by decide);rw[show n%2^64%2^2=n%4 by omega]at this;exact this
theorem aP5(n:Nat):Bs .u64 ((n%2^64:Nat):Int) 1=((n%2:Nat):Int):=by
 have:=WD (m:=n%2^64) (n:=1) (bv _ (by decide)) (by decide);rw[show n%2^64%2^1=n%2 by omega]at this;exact this
theorem or1(n:Nat)(h:n<2^64):An .u64 (n:Int) 1=((n/2*2+1:Nat):Int):=by
 have:=Xw (a:=n) (b:=1) h (by decide);rw[aGT]at this;exact this
theorem aGR:An .u64 0 1=1:=by decide
theorem TY(u:Nat):(decide ((((Dw u).length:Nat):Int)>0)&&(Bs .u64 ((Dw u).getD 0 0) 1==1))=decide (u%2=1):=by
 rw[QQ,aP5];rcases ba u with rfl|h
 ·rw[Ew];rfl
 ·rw[L5 (by omega),bj,ej,decide_eq_true_eq,beq_iff_eq];omega
theorem Dd{n:Nat}(h:n<(2^64)^5000):Ws (dg (2^64) n):=by
 have:=DH (B:=2^64) (by decide) 5000 n h;exact aQM n (by omega)
theorem CA(n:Nat):nv (2^64) (dg (2^64) n)=n:=cZ (by decide) n
theorem aHX{j:Nat}(hj:Ws (dg (2^64) j)):P5 (Dw j,(2:Int),())=some (Dw (j/4),0,()):=by
 have:=aNc (dg (2^64) j) hj 2 (by decide);rw[CA]at this;exact this
theorem aDQ{u:Nat}(hu:Ws (dg (2^64) u))(hl:(dg (2^64) u).length<1000000):Q3 (Dw u,((1:Int)::[]),())=some (Dw (u+1),()):=by
 have:=xQ (dg (2^64) u) [1] hu ⟨by simp,by simp⟩ (by rw[Ql (by decide)];exact hl) (by simp[Aj]);rw[CA,show nv (2^64) [1]=1 by rfl]at this;exact this
end VL
namespace VL
open Go Vx
theorem cR:decide ((0:Int)>0)=false:=rfl
theorem aNh(m:Int)(neg:Bool)(n:Nat)(e q:Int)(more:Bool)(hn:n<(2^64)^2000)(hq:q-e<=10000000)(he:-1000000000<=e/\e<=1000000000)(hqb:-1000000000<=q/\q<=1000000000)
  (hs:q-e<2->2-(q-e)<=65536/\n*2^(2-(q-e)).toNat<(2^64)^1024) :
  Sp ((neg,Dw n,e,more,()),m,q,())=some (Dw (B5 m neg n e q more),decide (Ep n e q more≠0),()):=by
 show fD _ _ _ _ _ _ _ _ _ _ (neg,Dw n,e,more,()) m q=_;unfold fD;have hnw:Ws (dg (2^64) n):=Dd (jc hn (fg (by decide) (by decide)));have e0:aa .i64 (q-e)=q-e:=Ax (by omega);have hj4:=aSl n e q;dsimp only;rw[e0];by_cases h2:2<=q-e
 ·rw[show decide (q-e>=2)=true from decide_eq_true h2,cond_true];obtain⟨s,hs⟩:=di (show 0<=q-e-2 by omega);have e1:aa .i64 (q-e-2)=(s:Int):=by rw[Ax (by omega)];exact hs
  have hj:j4 n e q=LN n s:=by unfold j4;rw[if_pos h2];congr 1;omega
  rw[hj]at hj4;have hjn:LN n s<=n+1:=by
   unfold LN;have:=fa n (2^s);split<;>omega
  have p0:=aNl (dg (2^64) n) hnw s (by omega);rw[CA]at p0;have hjl:LN n s<(2^64)^5000:=by
   have h1:(2^64)^2000<(2^64)^5000:=fg (by decide) (by decide);generalize(2^64)^2000=A at *
   generalize(2^64)^5000=B at *
   omega
  clear hj;generalize LN n s=j at *
  have hj:Ws (dg (2^64) j):=Dd hjl;rw[e1];have p0:Su (Dw n,(s:Int),())=some (Dw j,0,()):=p0;have p1:=aHX hj;have hu:Ws (dg (2^64) (j/4)):=Dd (ax (fa _ _) hjl);have hul:=DH (B:=2^64) (by decide) 5000 (j/4) (ax (fa _ _) hjl);have p3:=aDQ hu (by omega);have h4:j%4<4:=bv _ (by decide);unfold B5 Ep;rw[←hj4.1,←hj4.2];rcases ba j with hj0|hj0
  ·subst hj0;have pz:P5 ([],(2:Int),())=some (Dw (0/4),0,()):=by rw[←Ew];exact p1
   cases more with
   |true=>
    have p2:Q7 (m,neg,decide (0/4%2=1),(1:Int),())=some (DK m neg (decide (0/4%2=1)) 1,()):=Sv m neg _ 1;simp only[dE p0,cF p0,cond_true,Ew,ig,B2,gl,cond_false,bd,cR,aGR,QE pz,Qv pz,L4,TY,Ua p2,Tn p2,bh,bq,bj];cases hf:DK m neg (decide (0/4%2=1)) 1 with
    |true=>simp only[cond_true,LS p3,LI p3];have hf:DK m neg false 1=true:=hf;simp[hf]
    |false=>simp only[cond_false];have hf:DK m neg false 1=false:=hf;simp[hf]
   |false=>
    simp only[dE p0,cF p0,cond_true,Ew,ig,gl,cond_false,bd,cR,QE pz,Qv pz,L4,bq];simp
  ·have hjn:j≠0:=by omega
   cases more with
   |true=>
    have p2:=Sv m neg (decide (j/4%2=1)) (j%4/2*2+1);have hr:j%4/2*2+1≠0:=by omega
    simp only[dE p0,cF p0,cond_true,L5 hjn,Uy hjn,bd,QQ j,bD,or1 (j%4) (by omega),QE p1,Qv p1,L4,TY,Ua p2,Tn p2,bh,bq,Bv _ hr,bj];cases hf:DK m neg (decide (j/4%2=1)) (j%4/2*2+1)with
    |true=>simp only[cond_true,LS p3,LI p3];simp[hf]
    |false=>simp only[cond_false];simp[hf]
   |false=>
    have p2:=Sv m neg (decide (j/4%2=1)) (j%4);simp only[dE p0,cF p0,cond_true,cond_false,L5 hjn,Uy hjn,bd,QQ j,bD,QE p1,Qv p1,L4,TY,Ua p2,Tn p2,bh,bq];rcases ba (j%4)with hz|hz
    ·rw[B1 _ hz,bc,cond_false];simp[hz]
    ·have hr:j%4≠0:=by omega
     rw[Bv _ hr,bj];cases hf:DK m neg (decide (j/4%2=1)) (j%4)with
     |true=>simp only[cond_true,LS p3,LI p3];simp[hf,hr]
     |false=>simp only[cond_false];simp[hf,hr]
 ·rw[show decide (q-e>=2)=false from decide_eq_false h2,cond_false];obtain⟨s,hse⟩:=di (show 0<=2-(q-e) by omega);have e1:aa .i64 (2-(q-e))=(s:Int):=by rw[Ax (by omega)];exact hse
  have hj:j4 n e q=n*2^s:=by unfold j4;rw[if_neg h2];congr 2;omega
  rw[hj]at hj4;obtain⟨hs1,hs2⟩:=hs (by omega);rw[show(2-(q-e)).toNat=s by omega]at hs2;have p0:=xW (dg (2^64) n) hnw s (by omega) (by rw[CA];exact hs2);rw[CA]at p0;have hjl:n*2^s<(2^64)^5000:=jc hs2 (fg (by decide) (by decide));clear hj;generalize n*2^s=j at *
  have hj:Ws (dg (2^64) j):=Dd hjl;rw[e1];have p0:Q6 (Dw n,(s:Int),())=some (Dw j,0,()):=p0;have p1:=aHX hj;have hu:Ws (dg (2^64) (j/4)):=Dd (ax (fa _ _) hjl);have hul:=DH (B:=2^64) (by decide) 5000 (j/4) (ax (fa _ _) hjl);have p3:=aDQ hu (by omega);have h4:j%4<4:=bv _ (by decide);unfold B5 Ep;rw[←hj4.1,←hj4.2];rcases ba j with hj0|hj0
  ·subst hj0;have pz:P5 ([],(2:Int),())=some (Dw (0/4),0,()):=by rw[←Ew];exact p1
   cases more with
   |true=>
    have p2:Q7 (m,neg,decide (0/4%2=1),(1:Int),())=some (DK m neg (decide (0/4%2=1)) 1,()):=Sv m neg _ 1;simp only[XA p0,W2 p0,cond_true,Ew,ig,B2,gl,cond_false,bd,cR,aGR,QE pz,Qv pz,L4,TY,Ua p2,Tn p2,bh,bq,bj];cases hf:DK m neg (decide (0/4%2=1)) 1 with
    |true=>simp only[cond_true,LS p3,LI p3];have hf:DK m neg false 1=true:=hf;simp[hf]
    |false=>simp only[cond_false];have hf:DK m neg false 1=false:=hf;simp[hf]
   |false=>
    simp only[XA p0,W2 p0,cond_true,Ew,ig,gl,cond_false,bd,cR,QE pz,Qv pz,L4,bq];simp
  ·have hjn:j≠0:=by omega
   cases more with
   |true=>
    have p2:=Sv m neg (decide (j/4%2=1)) (j%4/2*2+1);have hr:j%4/2*2+1≠0:=by omega
    simp only[XA p0,W2 p0,cond_true,L5 hjn,Uy hjn,bd,QQ j,bD,or1 (j%4) (by omega),QE p1,Qv p1,L4,TY,Ua p2,Tn p2,bh,bq,Bv _ hr,bj];cases hf:DK m neg (decide (j/4%2=1)) (j%4/2*2+1)with
    |true=>simp only[cond_true,LS p3,LI p3];simp[hf]
    |false=>simp only[cond_false];simp[hf]
   |false=>
    have p2:=Sv m neg (decide (j/4%2=1)) (j%4);simp only[XA p0,W2 p0,cond_true,cond_false,L5 hjn,Uy hjn,bd,QQ j,bD,QE p1,Qv p1,L4,TY,Ua p2,Tn p2,bh,bq];rcases ba (j%4)with hz|hz
    ·rw[B1 _ hz,bc,cond_false];simp[hz]
    ·have hr:j%4≠0:=by omega
     rw[Bv _ hr,bj];cases hf:DK m neg (decide (j/4%2=1)) (j%4)with
     |true=>simp only[cond_true,LS p3,LI p3];simp[hf,hr]
     |false=>simp only[cond_false];simp[hf,hr]
end VL
namespace VL
open Go Vx
def Ca(f:Int)(neg:Bool):Nat:=if neg then 2^(fW f-1)else 0
def DL(f:Int)(neg:Bool):Nat:=(2^(fW f-fP f)-1)*2^(fP f-1)+Ca f neg
def QN(m:Int)(neg:Bool):Bool:=((m==0||m==1)||(m==3&&!neg))||(m==4&&neg)
def Ta(f m:Int)(neg:Bool):Nat:=if QN m neg then DL f neg else DL f neg-1
theorem kH{f:Int}(h:Fm f)(neg:Bool):V3 (f,neg,())=some ((DL f neg:Int),0,()):=by
 rcases CP h with rfl|rfl|rfl|rfl<;>cases neg<;>kernel_rfl
theorem aND{f:Int}(h:Fm f)(neg:Bool):VI (f,neg,())=some (((DL f neg-1:Nat):Int),0,()):=by
 rcases CP h with rfl|rfl|rfl|rfl<;>cases neg<;>kernel_rfl
theorem U4{f:Int}(h:Fm f)(neg:Bool):U3 (f,neg,())=some ((Ca f neg:Int),0,()):=by
 rcases CP h with rfl|rfl|rfl|rfl<;>cases neg<;>kernel_rfl
theorem aNg{f:Int}(h:Fm f)(m:Int)(neg:Bool):Vg (f,m,neg,())=some ((Ta f m neg:Int),()):=by
 show fC Cv.pre Cv.F IK.pre IK.F f m neg=_;have p0:=kH h neg;have p1:=aND h neg;unfold fC Ta;show(bif QN m neg then(bif Cv.pre (f,neg,())then some ((Cv.F (f,neg,())).1,())else none)else(bif IK.pre (f,neg,())then some ((IK.F (f,neg,())).1,())else none))=_;rw[rQ p0,pO p0,aUe p1,aRP p1];cases QN m neg<;>rfl
def AK(n:Nat)(e:Int):Int:=e+(Am n:Int)-1
theorem Qf{n k:Nat}(h:n<2^k):Am n<=k:=by
 rcases ba n with rfl|hn
 ·exact ee _
 ·have:=Rw (n:=n) (by omega);have:Am n-1<k:=(cd (a:=2) (by decide)).1 (ax this h);omega
theorem aD8{n:Nat}(h:n≠0):1<=Am n:=by unfold Am;rw[if_neg h];omega
theorem bF{n:Nat}(h:n<(2^64)^2000):Am n<=128000:=by
 apply Qf;rw[C6]at h;exact h
theorem Q4{n:Nat}(h:n<(2^64)^5000):Sq (Dw n,())=some ((Am n:Int),()):=by
 have:=aNi _ (Dd h);rw[CA]at this;exact this
theorem aGa{n:Nat}(h:n<(2^64)^2000):n<(2^64)^5000:=jc h (fg (by decide) (by decide))
theorem aNf(neg:Bool)(n:Nat)(e:Int)(more:Bool)(hn:n<(2^64)^2000)(he:-1000000<=e/\e<=1000000):Vf ((neg,Dw n,e,more,()),())=some (AK n e,()):=by
 show fB BL.pre BL.F (neg,Dw n,e,more,())=_;unfold fB;have p0:=Q4 (aGa hn);have hb:=bF hn;simp only[RT p0,RF p0,cond_true];rw[Ax (n:=e+(Am n:Int)) (by omega),Ax (by omega)];rfl
theorem aUx{n:Nat}{e q:Int}{p:Nat}(h:AK n e-p+1<=q):Hz n e q<2^p:=by
 unfold AK at h;unfold Hz;have hb:=Qg n;by_cases hq:q<=e
 ·rw[if_pos hq];have h1:n*2^(e-q).toNat<2^Am n*2^(e-q).toNat:=cw hb (aj _);rw[←bb]at h1;exact al h1 (ak (by decide) (by omega))
 ·rw[if_neg hq,bm (aj _),←bb];exact al hb (ak (by decide) (by omega))
theorem oJ{m:Int}{neg:Bool}{n:Nat}{e q:Int}{more:Bool}{p:Nat}(h:AK n e-p+1<=q):B5 m neg n e q more<=2^p:=by
 have:=aUx h;unfold B5;split<;>omega
theorem xR(m:Int)(neg:Bool)(n:Nat)(e q:Int)(more:Bool)(hn:n<(2^64)^2000)(he:-1000000<=e/\e<=1000000){p:Nat}(hp:p<=60)(h1:AK n e-p+1<=q)(h2:q<=AK n e∨q<=1000):
  Sp ((neg,Dw n,e,more,()),m,q,())=some (Dw (B5 m neg n e q more),decide (Ep n e q more≠0),()):=by
 have hb:=bF hn;unfold AK at h1 h2;refine aNh m neg n e q more hn (by omega) (by omega) (by omega) fun hs=>?_;refine⟨by omega,?_⟩;have hl:=Qg n;have h3:n*2^(2-(q-e)).toNat<2^Am n*2^(2-(q-e)).toNat:=cw hl (aj _);rw[←bb]at h3;rw[C6];exact al h3 (ak (by decide) (by omega))
theorem aNj(neg:Bool)(n:Nat)(e:Int)(more:Bool)(f m:Int)(hf:Fm f)(hn:n<(2^64)^2000)(he:-1000000<=e/\e<=1000000):
  Vh ((neg,Dw n,e,more,()),BT f,m,AK n e,())=some (decide (AK n e<1-(fX f:Int)/\AK n e-fP f+Am (B5 m neg n e (AK n e-fP f+1) more)<1-(fX f:Int)),()):=by
 show fF G6.pre G6.F BL.pre BL.F (neg,Dw n,e,more,()) ((fW f:Int),((fP f:Int),((1-(fX f:Int)),((fX f:Int),())))) m (AK n e)=_;unfold fF;have hb:=bF hn;have hp:=Gk hf;have hw:=Fy hf;have hx:=RC hf;have hp8:=Fx hf;have ht:AK n e=e+(Am n:Int)-1:=rfl;have p0:=xR m neg n e (AK n e-fP f+1) more hn he (p:=fP f) (by omega) (by omega) (by omega);have hc:=oJ (m:=m) (neg:=neg) (more:=more) (n:=n) (e:=e) (q:=AK n e-fP f+1) (p:=fP f) (by omega);generalize B5 m neg n e (AK n e-fP f+1) more=u at *
 have hu:u<(2^64)^5000:=by
  rw[C6];exact ax hc (fg (by decide) (by omega))
 have hub:Am u<=fP f+1:=Qf (ax hc (fg (by decide) (by omega)));have p1:=Q4 hu;have e1:aa .i64 (AK n e-(fP f:Int))=AK n e-(fP f:Int):=Ax (by omega);have e2:aa .i64 (AK n e-(fP f:Int)+1)=AK n e-(fP f:Int)+1:=Ax (by omega);have e3:aa .i64 (AK n e-(fP f:Int)+(Am u:Int))=AK n e-(fP f:Int)+(Am u:Int):=Ax (by omega);dsimp only;rw[e1,e2];by_cases h:AK n e>=1-(fX f:Int)
 ·rw[decide_eq_true h,cond_true,decide_eq_false (by omega)]
 ·rw[decide_eq_false h,cond_false];simp only[aG7 p0,aFt p0,cond_true,RT p1,RF p1,e3];have:(AK n e<1-(fX f:Int)):=by omega
  simp only[this,true_and]
end VL
namespace VL
open Go Vx
def C4(f:Int)(t:Int):Int:=(if 1-(fX f:Int)>t then 1-(fX f:Int)else t)-fP f+1
def DM(f m:Int)(neg:Bool)(n:Nat)(e:Int)(more:Bool):Prop:=AK n e<1-(fX f:Int)/\AK n e-fP f+Am (B5 m neg n e (AK n e-fP f+1) more)<1-(fX f:Int)
instance (f m:Int) (neg:Bool) (n:Nat) (e:Int) (more:Bool):Decidable (DM f m neg n e more):=by unfold DM;infer_instance
def Ba(f m:Int)(neg:Bool)(n:Nat)(e:Int)(more:Bool):Nat×Nat:=
 if AK n e>fX f then(Ta f m neg,20)
 else
  let q:=C4 f (AK n e)
  let u:=B5 m neg n e q more
  if q+Am u-1>fX f then(Ta f m neg,20)
  else((q-(1-(fX f:Int)-fP f+1)).toNat*2^(fP f-1)+u+Ca f neg,
   if Ep n e q more=0 then 0 else if DM f m neg n e more then 24 else 16)
theorem aSc{f:Int}(hf:Fm f):(2*fX f-1)*2^(fP f-1)+2^fP f+2^(fP f-1)=2^(fW f-1):=by
 rcases CP hf with rfl|rfl|rfl|rfl<;>decide
theorem Tj{f:Int}(hf:Fm f):15<=fX f:=by
 rcases CP hf with rfl|rfl|rfl|rfl<;>decide
theorem xG(neg:Bool)(n:Nat)(e:Int)(more:Bool)(f m:Int)(hf:Fm f)(hn:n<(2^64)^2000)(he:-1000000<=e/\e<=1000000):
  UY ((neg,Dw n,e,more,()),f,BT f,m,())=some (((Ba f m neg n e more).1:Int),((Ba f m neg n e more).2:Int),()):=by
 show eG _ _ _ _ _ _ _ _ _ _ (neg,Dw n,e,more,()) f ((fW f:Int),((fP f:Int),((1-(fX f:Int)),((fX f:Int),())))) m=_;unfold eG Ba;have hb:=bF hn;have hp:=Gk hf;have hp8:=Fx hf;have hw:=Fy hf;have hx:=RC hf;have hx15:=Tj hf;have ht:AK n e=e+(Am n:Int)-1:=rfl;have pt:=aNf neg n e more hn he;have pb:=aNg hf m neg;have py:=aNj neg n e more f m hf hn he;have hrow:BT f=((fW f:Int),((fP f:Int),((1-(fX f:Int)),((fX f:Int),())))):=rfl;rw[hrow]at py;simp only[aTY pt,aRz pt,cond_true];by_cases h1:AK n e>(fX f:Int)
 ·rw[if_pos h1,decide_eq_true h1,cond_true];simp only[rI pb,pG pb,cond_true];rfl
 rw[if_neg h1,decide_eq_false h1,cond_false];have hM:∃M:Int,(if 1-(fX f:Int)>AK n e then 1-(fX f:Int)else AK n e)=M/\AK n e<=M/\1-(fX f:Int)<=M/\M<=fX f/\(M=AK n e∨M=1-(fX f:Int)):=by
  refine⟨_,rfl,?_⟩;split<;>omega
 obtain⟨M,hMe,m1,m2,m3,m4⟩:=hM;have hq:C4 f (AK n e)=M-fP f+1:=by unfold C4;rw[hMe]
 simp only[hMe,hq];have e1:aa .i64 (M-(fP f:Int))=M-(fP f:Int):=Ax (by omega);have e2:aa .i64 (M-(fP f:Int)+1)=M-(fP f:Int)+1:=Ax (by omega);simp only[e1,e2];have p0:=xR m neg n e (M-(fP f:Int)+1) more hn he (p:=fP f) (by omega) (by omega) (by omega);have hc:=oJ (m:=m) (neg:=neg) (more:=more) (n:=n) (e:=e) (q:=M-(fP f:Int)+1) (p:=fP f) (by omega);generalize B5 m neg n e (M-(fP f:Int)+1) more=u at *
 generalize Ep n e (M-(fP f:Int)+1) more=r at *
 have hP60:2^fP f<=2^60:=ak (by decide) (by omega);have hu:u<(2^64)^5000:=by
  rw[C6];exact ax hc (fg (by decide) (by omega))
 have hub:Am u<=fP f+1:=Qf (ax hc (fg (by decide) (by omega)));have p1:=Q4 hu;have e3:aa .i64 ((fP f:Int)-1)=((fP f-1:Nat):Int):=BI _ (by omega);have e4:aa .i64 ((fW f:Int)-1)=((fW f-1:Nat):Int):=BI _ (by omega);have e5:aa .i64 (M-(fP f:Int)+1+(Am u:Int))=M-(fP f:Int)+1+(Am u:Int):=Ax (by omega);have e6:aa .i64 (M-(fP f:Int)+1+(Am u:Int)-1)=M-(fP f:Int)+1+(Am u:Int)-1:=Ax (by omega);have e7:aa .i64 (1-(fX f:Int)-(fP f:Int))=1-(fX f:Int)-(fP f:Int):=Ax (by omega);have e8:aa .i64 (1-(fX f:Int)-(fP f:Int)+1)=1-(fX f:Int)-(fP f:Int)+1:=Ax (by omega);obtain⟨k,hk⟩:=di (show 0<=M-(fP f:Int)+1-(1-(fX f:Int)-(fP f:Int)+1) by omega);have e9:aa .i64 (M-(fP f:Int)+1-(1-(fX f:Int)-(fP f:Int)+1))=(k:Int):=by rw[Ax (by omega)];exact hk
 have e10:aa .u64 (k:Int)=(k:Int):=Ev (by omega);have hkn:(M-(fP f:Int)+1-(1-(fX f:Int)-(fP f:Int)+1)).toNat=k:=by omega
 have hhalf:=aSc hf;have hk2:k<=2*fX f-1:=by omega
 have hk3:=au (2^(fP f-1)) hk2;have hW64:2^(fW f-1)<=2^63:=ak (by decide) (by omega);have hpp:=aj (fP f-1);have e11:A4 .u64 (k:Int) ((fP f-1:Nat):Int)=((k*2^(fP f-1):Nat):Int):=by
  rw[HC _ _ (by omega),be (by omega)]
 have e12:A4 .u64 1 ((fW f-1:Nat):Int)=((1*2^(fW f-1):Nat):Int):=by rw[XN (by omega),fu]
 generalize hA:k*2^(fP f-1)=A at *
 have hbits:A+u<2^(fW f-1):=by omega
 have e13:aa .u64 ((A:Int)+((u%2^64:Nat):Int))=((A+u:Nat):Int):=by
  rw[be (by omega),Ev (by omega)];omega
 have hor:∀b:Nat,b<2^(fW f-1)->An .u64 (b:Int) ((1*2^(fW f-1):Nat):Int)=((b+2^(fW f-1):Nat):Int):=fun b hb=>by
  have:=LQ (a:=b) (b:=1) (k:=fW f-1) hb (by omega);rw[fu]at this⊢;exact this
 have hsg:Ca f neg=if neg then 2^(fW f-1)else 0:=rfl;have htd:decide (AK n e<1-(fX f:Int)/\AK n e-fP f+Am (B5 m neg n e (AK n e-fP f+1) more)<1-(fX f:Int))=decide (DM f m neg n e more):=by
  unfold DM;rfl
 rw[htd]at py;simp only[aG7 p0,aFt p0,cond_true,e3,A8,RT p1,RF p1,e5,e6,e7,e8,e9,e10,e11,e4,e12,hkn,hA];rcases ba u with hu0|hu0
 ·subst hu0;have hl0:decide ((((Dw 0).length:Nat):Int)>0)=false:=by rw[Ew];rfl
  rw[hl0,cond_false];by_cases h2:M-(fP f:Int)+1+(Am 0:Int)-1>(fX f:Int)
  ·rw[decide_eq_true h2,cond_true,if_pos h2];simp only[rI pb,pG pb,cond_true];rfl
  ·rw[decide_eq_false h2,cond_false,if_neg h2];have hbi:=hor (A) (by omega);rw[hbi];by_cases hr:r=0
   ·rw[if_pos hr,decide_eq_false (p:=r≠0) (by omega)];simp only[bp,cond_true];cases neg<;>rfl
   ·rw[if_neg hr,decide_eq_true (p:=r≠0) hr];simp only[ca,cond_false,aG8 py,aFu py,cond_true];by_cases hti:DM f m neg n e more
    ·rw[if_pos hti,decide_eq_true hti];cases neg<;>rfl
    ·rw[if_neg hti,decide_eq_false hti];cases neg<;>rfl
 ·have hun:u≠0:=by omega
  simp only[L5 hun,Uy hun,cond_true,bd,QQ,e13];by_cases h2:M-(fP f:Int)+1+(Am u:Int)-1>(fX f:Int)
  ·rw[decide_eq_true h2,cond_true,if_pos h2];simp only[rI pb,pG pb,cond_true];rfl
  ·rw[decide_eq_false h2,cond_false,if_neg h2];have hbi:=hor (A+u) (by omega);rw[hbi];by_cases hr:r=0
   ·rw[if_pos hr,decide_eq_false (p:=r≠0) (by omega)];simp only[bp,cond_true];cases neg<;>rfl
   ·rw[if_neg hr,decide_eq_true (p:=r≠0) hr];simp only[ca,cond_false,aG8 py,aFu py,cond_true];by_cases hti:DM f m neg n e more
    ·rw[if_pos hti,decide_eq_true hti];cases neg<;>rfl
    ·rw[if_neg hti,decide_eq_false hti];cases neg<;>rfl
theorem xE{f m:Int}(hf:Fm f)(hm:0<=m/\m<=5):UX (f,m,())=some (BT f,0,()):=by
 show eE Al.pre Al.F Pv.pre Pv.F f m=_;unfold eE;have p0:=IR hf;have p1:Ve (m,())=some (0,()):=by
  show fA m=_;unfold fA;rw[decide_eq_false (show ¬m<0 by omega),decide_eq_false (show ¬m>5 by omega)];rfl
 simp only[C7 p0,C3 p0,cond_true,aTX p1,aRy p1];rfl
theorem aNk{f:Int}(h:Fm f)(neg:Bool):Vi (f,neg,())=some ((Ca f neg:Int),0,0,()):=by
 show fG Bp.pre Bp.F f neg=_;unfold fG;have p0:=U4 h neg;simp only[Xy p0,W0 p0,cond_true]
theorem aY1(s:Nat)(hs:s<2^128):(Wi s).2.1::(Wi s).1::[]=Wd [s%2^64,s/2^64]/\Ws [s%2^64,s/2^64]/\nv (2^64) [s%2^64,s/2^64]=s:=by
 refine⟨rfl,⟨?_,by simp⟩,?_⟩
 ·intro x hx;have:x=s%2^64∨x=s/2^64:=by simpa using hx
  omega
 ·simp only[nv];omega
theorem U7{f m:Int}(hf:Fm f)(hm:0<=m/\m<=5)(neg:Bool)(s:Nat)(hs:s<2^128)(e:Int)(he:-40000<=e/\e<=40000)(more:Bool)(hmore:more=true->fP f+2<=Am s):
  U6 (f,m,neg,Wi s,e,more,())=some (if s=0 then((Ca f neg:Int),0,0,())else(((Ba f m neg s e more).1:Int),((Ba f m neg s e more).2:Int),0,())):=by
 show eP _ _ _ _ _ _ _ _ _ _ f m neg (Wi s) e more=_;unfold eP;obtain⟨w1,w2,w3⟩:=aY1 s hs;have hP:=Gk hf;have hW:=Fy hf;have p0:=xE hf hm;have p1:=xB _ w2;rw[←w1,w3]at p1;have hs2:s<(2^64)^2000:=by
  rw[C6];exact al hs (ak (by decide) (by decide))
 have p2:=Q4 (aGa hs2);have p3:=aNk hf neg;have p4:=xG neg s e more f m hf hs2 (by omega);have e1:decide (e < -40000)=false:=decide_eq_false (by omega);have e2:decide (e>40000)=false:=decide_eq_false (by omega);have e3:aa .i64 ((BT f).2.1+2)=((fP f+2:Nat):Int):=by
  show aa .i64 ((fP f:Int)+2)=_;rw[Ax (by omega)];rfl
 have e4:(more&&decide ((Am s:Int)<((fP f+2:Nat):Int)))=false:=by
  cases more with
  |false=>rfl
  |true=>rw[decide_eq_false (by have:=hmore rfl;omega)];rfl
 have z0:((0:Int)!=0)=false:=rfl;simp only[aG3 p0,aFp p0,cond_true,z0,cond_false,rE p1,pC p1,e1,e2,cr,RT p2,RF p2,bh,e3,e4];by_cases h0:s=0
 ·rw[if_pos h0];subst h0;rw[show((((Dw 0).length:Nat):Int)==0)=true by rw[Ew];rfl,cond_true];simp only[aTZ p3,aRA p3,cond_true]
 ·rw[if_neg h0,Bi _ (by have:=Ys h0;omega),cond_false];simp only[aG4 p4,aFq p4,cond_true]
end VL
namespace VL
open Go Vx
theorem aQz{r k s ρ:Nat}(hρ:0<ρ)(hρ2:ρ<2^k)(hs:1<=s):Ja (ρ+2^k*r) (k+s)=Ja r s/2*2+1:=by
 unfold Ja;have hp:2^(k+s-1)=2^k*2^(s-1):=by rw[←bb];congr 1;omega
 rw[hp];have hh:=aj (s-1);generalize 2^(s-1)=h at *
 generalize 2^k=K at *
 rw[if_neg (by omega)];rcases gf r h with h1|h1|h1
 ·have:K*(r+1)<=K*h:=cm _ h1;rw[bt,gr]at this;rw[if_pos (by omega)];by_cases hr:r=0
  ·rw[if_pos hr]
  ·rw[if_neg hr,if_pos h1]
 ·subst h1;rw[if_neg (by omega),if_neg (by omega),if_neg (by omega),if_neg (by omega),if_pos rfl]
 ·have:K*(h+1)<=K*r:=cm _ h1;rw[bt,gr]at this;rw[if_neg (by omega),if_neg (by omega),if_neg (by omega),if_neg (by omega),if_neg (by omega)]
theorem aQA{r k s:Nat}(hs:1<=s):Ja (2^k*r) (k+s)=Ja r s:=by
 unfold Ja;have hp:2^(k+s-1)=2^k*2^(s-1):=by rw[←bb];congr 1;omega
 rw[hp];have hk:=aj k;generalize 2^(s-1)=h at *
 generalize 2^k=K at *
 have h1:K*r=0↔r=0:=by
  constructor
  ·intro h;rcases ph.1 h with h|h<;>omega
  ·intro h;rw[h,fi]
 have h2:K*r<K*h↔r<h:=Nat.mul_lt_mul_left hk;have h3:K*r=K*h↔r=h:=Nat.mul_right_inj (by omega);simp only[h1,h2,h3]
theorem aSO(N k s:Nat):N%2^(k+s)=N%2^k+2^k*(N/2^k%2^s):=by
 rw[bb,nr]
theorem aHu{n:Nat}{e q:Int}(h:q<=e):Hz n e q=n*2^(e-q).toNat:=if_pos h
theorem rW{n:Nat}{e q:Int}(h:e<q):Hz n e q=n/2^(q-e).toNat:=if_neg (by omega)
theorem aHL{n:Nat}{e q:Int}(h:q<=e):QK n e q=0:=if_pos h
theorem sD{n:Nat}{e q:Int}(h:e<q):QK n e q=Ja (n%2^(q-e).toNat) (q-e).toNat:=if_neg (by omega)
theorem bR(n:Nat)(e q:Int):Ep n e q false=QK n e q:=rfl
theorem aQD(n:Nat)(e q:Int):Ep n e q true=QK n e q/2*2+1:=rfl
theorem oK{N k:Nat}{E q:Int}(hq:N%2^k≠0->E+k<q):
  Hz (N/2^k) (E+k) q=Hz N E q/\Ep (N/2^k) (E+k) q (decide (N%2^k≠0))=Ep N E q false:=by
 have hk:=aj k;have hdm:=ci N (2^k);by_cases h1:E+k<q
 ·have es:(q-E).toNat=k+(q-(E+k)).toNat:=by omega
  have hs:1<=(q-(E+k)).toNat:=by omega
  rw[rW h1,rW (by omega),bR,sD (e:=E) (by omega),es];have hrs:=sD (n:=N/2^k) h1;generalize(q-(E+k)).toNat=s at *
  refine⟨by rw[dl,←bb],?_⟩;rw[aSO];by_cases hr:N%2^k=0
  ·rw[hr,dj,aQA hs,show decide ((0:Nat)≠0)=false by decide,bR,hrs]
  ·have hρ:0<N%2^k:=by omega
   rw[aQz hρ (bv _ hk) hs,decide_eq_true hr,aQD,hrs]
 ·have hr:N%2^k=0:=by
   by_cases h:N%2^k=0
   ·exact h
   ·exact absurd (hq h) h1
  rw[hr,dc]at hdm;rw[hr];clear hq hr;generalize N/2^k=n at *
  subst hdm;have hz:decide ((0:Nat)≠0)=false:=by decide
  rw[hz,aHu (by omega),bR,bR,aHL (by omega)];by_cases h2:q<=E
  ·rw[aHu h2,aHL h2,show(E+k-q).toNat=k+(E-q).toNat by omega,bb,ar (2^k) n,aw];exact⟨rfl,rfl⟩
  ·rw[rW (by omega),sD (by omega)];have ek:k=(q-E).toNat+(E+k-q).toNat:=by omega
   generalize(q-E).toNat=s at *
   generalize(E+k-q).toNat=t at *
   have:2^k*n=2^s*(2^t*n):=by rw[ek,bb,aw]
   rw[this,gg _ (aj s),kw];exact⟨ar _ _,rfl⟩
theorem bQ{m:Int}{neg:Bool}{N k:Nat}{E q:Int}(hq:N%2^k≠0->E+k<q):B5 m neg (N/2^k) (E+k) q (decide (N%2^k≠0))=B5 m neg N E q false:=by
 obtain⟨h1,h2⟩:=oK hq;unfold B5;rw[h1,h2]
theorem aJF{N k:Nat}{E:Int}(hn:N/2^k≠0):AK (N/2^k) (E+k)=AK N E:=by
 have hk:=aj k;have h1:2^k<=N:=by
  rcases aq N (2^k)with h|h
  ·exact absurd (cq h) hn
  ·exact h
 have:=nZ h1;unfold AK;omega
theorem r9{f m:Int}{neg:Bool}{N k:Nat}{E:Int}(hf:Fm f)(hn:N/2^k≠0)(hm:N%2^k≠0->fP f+2<=Am (N/2^k)):Ba f m neg (N/2^k) (E+k) (decide (N%2^k≠0))=Ba f m neg N E false:=by
 have ht:=aJF (E:=E) hn;have htd:AK (N/2^k) (E+k)=E+k+(Am (N/2^k):Int)-1:=rfl;have hq1:N%2^k≠0->E+k<C4 f (AK N E):=fun h=>by
  have:=hm h;unfold C4;split<;>omega
 have hq2:N%2^k≠0->E+k<AK N E-fP f+1:=fun h=>by
  have:=hm h;omega
 have hti:DM f m neg (N/2^k) (E+k) (decide (N%2^k≠0))=DM f m neg N E false:=by
  unfold DM;rw[ht,bQ hq2]
 unfold Ba;simp only[ht,bQ hq1,(oK hq1).2,hti]
theorem dX{f m:Int}{neg:Bool}(hf:Fm f){n:Nat}(hn:n≠0)(k:Nat)(e:Int):Ba f m neg (n*2^k) e false=Ba f m neg n (e+k) false:=by
 have hk:=aj k;have:=r9 (f:=f) (m:=m) (neg:=neg) (N:=n*2^k) (k:=k) (E:=e) hf (by rw[jl _ hk];exact hn) (by rw[ms];omega);rw[jl _ hk,ms]at this;exact this.symm
end VL
namespace VL
open Go Vx
def Ul(f m:Int)(nx:Bool)(X ex:Int)(ny:Bool)(Y ey:Int):Option (DenS Iv):=bif(AE.pre (((0:Int),(X,())),((if((70:Int)<(aa .i64 (ex-ey)))then(70:Int)else(aa .i64 (ex-ey))),())))then(bif(AH.pre (((0:Int),(Y,())),((aa .i64 ((aa .i64 (ex-(if((70:Int)<(aa .i64 (ex-ey)))then(70:Int)else(aa .i64 (ex-ey)))))-ey)),())))then(bif(AE.pre ((AH.F (((0:Int),(Y,())),((aa .i64 ((aa .i64 (ex-(if((70:Int)<(aa .i64 (ex-ey)))then(70:Int)else(aa .i64 (ex-ey)))))-ey)),()))).1,((aa .i64 ((aa .i64 (ex-(if((70:Int)<(aa .i64 (ex-ey)))then(70:Int)else(aa .i64 (ex-ey)))))-ey)),())))then(bif(AH.pre (((0:Int),(Y,())),((aa .i64 ((aa .i64 (ex-(if((70:Int)<(aa .i64 (ex-ey)))then(70:Int)else(aa .i64 (ex-ey)))))-ey)),())))then(bif(nx==ny)then(bif(KM.pre ((AE.F (((0:Int),(X,())),((if((70:Int)<(aa .i64 (ex-ey)))then(70:Int)else(aa .i64 (ex-ey))),()))).1,(AH.F (((0:Int),(Y,())),((aa .i64 ((aa .i64 (ex-(if((70:Int)<(aa .i64 (ex-ey)))then(70:Int)else(aa .i64 (ex-ey)))))-ey)),())))))then(bif(BH.pre (f,(m,(nx,((KM.F ((AE.F (((0:Int),(X,())),((if((70:Int)<(aa .i64 (ex-ey)))then(70:Int)else(aa .i64 (ex-ey))),()))).1,(AH.F (((0:Int),(Y,())),((aa .i64 ((aa .i64 (ex-(if((70:Int)<(aa .i64 (ex-ey)))then(70:Int)else(aa .i64 (ex-ey)))))-ey)),()))))).1,((aa .i64 (ex-(if((70:Int)<(aa .i64 (ex-ey)))then(70:Int)else(aa .i64 (ex-ey))))),(((!(((AE.F ((AH.F (((0:Int),(Y,())),((aa .i64 ((aa .i64 (ex-(if((70:Int)<(aa .i64 (ex-ey)))then(70:Int)else(aa .i64 (ex-ey)))))-ey)),()))).1,((aa .i64 ((aa .i64 (ex-(if((70:Int)<(aa .i64 (ex-ey)))then(70:Int)else(aa .i64 (ex-ey)))))-ey)),()))).1.1==(0:Int))&&((AE.F ((AH.F (((0:Int),(Y,())),((aa .i64 ((aa .i64 (ex-(if((70:Int)<(aa .i64 (ex-ey)))then(70:Int)else(aa .i64 (ex-ey)))))-ey)),()))).1,((aa .i64 ((aa .i64 (ex-(if((70:Int)<(aa .i64 (ex-ey)))then(70:Int)else(aa .i64 (ex-ey)))))-ey)),()))).1.2.1==Y)))||((decide ((aa .i64 ((aa .i64 (ex-(if((70:Int)<(aa .i64 (ex-ey)))then(70:Int)else(aa .i64 (ex-ey)))))-ey))>(63:Int)))&&(Y !=(0:Int)))),())))))))then(some (BH.F (f,(m,(nx,((KM.F ((AE.F (((0:Int),(X,())),((if((70:Int)<(aa .i64 (ex-ey)))then(70:Int)else(aa .i64 (ex-ey))),()))).1,(AH.F (((0:Int),(Y,())),((aa .i64 ((aa .i64 (ex-(if((70:Int)<(aa .i64 (ex-ey)))then(70:Int)else(aa .i64 (ex-ey)))))-ey)),()))))).1,((aa .i64 (ex-(if((70:Int)<(aa .i64 (ex-ey)))then(70:Int)else(aa .i64 (ex-ey))))),(((!(((AE.F ((AH.F (((0:Int),(Y,())),((aa .i64 ((aa .i64 (ex-(if((70:Int)<(aa .i64 (ex-ey)))then(70:Int)else(aa .i64 (ex-ey)))))-ey)),()))).1,((aa .i64 ((aa .i64 (ex-(if((70:Int)<(aa .i64 (ex-ey)))then(70:Int)else(aa .i64 (ex-ey)))))-ey)),()))).1.1==(0:Int))&&((AE.F ((AH.F (((0:Int),(Y,())),((aa .i64 ((aa .i64 (ex-(if((70:Int)<(aa .i64 (ex-ey)))then(70:Int)else(aa .i64 (ex-ey)))))-ey)),()))).1,((aa .i64 ((aa .i64 (ex-(if((70:Int)<(aa .i64 (ex-ey)))then(70:Int)else(aa .i64 (ex-ey)))))-ey)),()))).1.2.1==Y)))||((decide ((aa .i64 ((aa .i64 (ex-(if((70:Int)<(aa .i64 (ex-ey)))then(70:Int)else(aa .i64 (ex-ey)))))-ey))>(63:Int)))&&(Y !=(0:Int)))),()))))))))else none)else none)else bif(DE.pre ((AE.F (((0:Int),(X,())),((if((70:Int)<(aa .i64 (ex-ey)))then(70:Int)else(aa .i64 (ex-ey))),()))).1,(AH.F (((0:Int),(Y,())),((aa .i64 ((aa .i64 (ex-(if((70:Int)<(aa .i64 (ex-ey)))then(70:Int)else(aa .i64 (ex-ey)))))-ey)),())))))then(bif(decide ((DE.F ((AE.F (((0:Int),(X,())),((if((70:Int)<(aa .i64 (ex-ey)))then(70:Int)else(aa .i64 (ex-ey))),()))).1,(AH.F (((0:Int),(Y,())),((aa .i64 ((aa .i64 (ex-(if((70:Int)<(aa .i64 (ex-ey)))then(70:Int)else(aa .i64 (ex-ey)))))-ey)),()))))).1<(0:Int)))then(bif(Bt.pre ((AH.F (((0:Int),(Y,())),((aa .i64 ((aa .i64 (ex-(if((70:Int)<(aa .i64 (ex-ey)))then(70:Int)else(aa .i64 (ex-ey)))))-ey)),()))).1,(AE.F (((0:Int),(X,())),((if((70:Int)<(aa .i64 (ex-ey)))then(70:Int)else(aa .i64 (ex-ey))),())))))then(bif((!(((AE.F ((AH.F (((0:Int),(Y,())),((aa .i64 ((aa .i64 (ex-(if((70:Int)<(aa .i64 (ex-ey)))then(70:Int)else(aa .i64 (ex-ey)))))-ey)),()))).1,((aa .i64 ((aa .i64 (ex-(if((70:Int)<(aa .i64 (ex-ey)))then(70:Int)else(aa .i64 (ex-ey)))))-ey)),()))).1.1==(0:Int))&&((AE.F ((AH.F (((0:Int),(Y,())),((aa .i64 ((aa .i64 (ex-(if((70:Int)<(aa .i64 (ex-ey)))then(70:Int)else(aa .i64 (ex-ey)))))-ey)),()))).1,((aa .i64 ((aa .i64 (ex-(if((70:Int)<(aa .i64 (ex-ey)))then(70:Int)else(aa .i64 (ex-ey)))))-ey)),()))).1.2.1==Y)))||((decide ((aa .i64 ((aa .i64 (ex-(if((70:Int)<(aa .i64 (ex-ey)))then(70:Int)else(aa .i64 (ex-ey)))))-ey))>(63:Int)))&&(Y !=(0:Int))))then(bif(Bt.pre ((Bt.F ((AH.F (((0:Int),(Y,())),((aa .i64 ((aa .i64 (ex-(if((70:Int)<(aa .i64 (ex-ey)))then(70:Int)else(aa .i64 (ex-ey)))))-ey)),()))).1,(AE.F (((0:Int),(X,())),((if((70:Int)<(aa .i64 (ex-ey)))then(70:Int)else(aa .i64 (ex-ey))),()))))).1,(((0:Int),((1:Int),())),())))then(bif((((Bt.F ((Bt.F ((AH.F (((0:Int),(Y,())),((aa .i64 ((aa .i64 (ex-(if((70:Int)<(aa .i64 (ex-ey)))then(70:Int)else(aa .i64 (ex-ey)))))-ey)),()))).1,(AE.F (((0:Int),(X,())),((if((70:Int)<(aa .i64 (ex-ey)))then(70:Int)else(aa .i64 (ex-ey))),()))))).1,(((0:Int),((1:Int),())),()))).1.1==(0:Int))&&((Bt.F ((Bt.F ((AH.F (((0:Int),(Y,())),((aa .i64 ((aa .i64 (ex-(if((70:Int)<(aa .i64 (ex-ey)))then(70:Int)else(aa .i64 (ex-ey)))))-ey)),()))).1,(AE.F (((0:Int),(X,())),((if((70:Int)<(aa .i64 (ex-ey)))then(70:Int)else(aa .i64 (ex-ey))),()))))).1,(((0:Int),((1:Int),())),()))).1.2.1==(0:Int)))&&(!((!(((AE.F ((AH.F (((0:Int),(Y,())),((aa .i64 ((aa .i64 (ex-(if((70:Int)<(aa .i64 (ex-ey)))then(70:Int)else(aa .i64 (ex-ey)))))-ey)),()))).1,((aa .i64 ((aa .i64 (ex-(if((70:Int)<(aa .i64 (ex-ey)))then(70:Int)else(aa .i64 (ex-ey)))))-ey)),()))).1.1==(0:Int))&&((AE.F ((AH.F (((0:Int),(Y,())),((aa .i64 ((aa .i64 (ex-(if((70:Int)<(aa .i64 (ex-ey)))then(70:Int)else(aa .i64 (ex-ey)))))-ey)),()))).1,((aa .i64 ((aa .i64 (ex-(if((70:Int)<(aa .i64 (ex-ey)))then(70:Int)else(aa .i64 (ex-ey)))))-ey)),()))).1.2.1==Y)))||((decide ((aa .i64 ((aa .i64 (ex-(if((70:Int)<(aa .i64 (ex-ey)))then(70:Int)else(aa .i64 (ex-ey)))))-ey))>(63:Int)))&&(Y !=(0:Int))))))then(bif(Bp.pre (f,((m==(4:Int)),())))then(some ((Bp.F (f,((m==(4:Int)),()))).1,((0:Int),((0:Int),()))))else none)else bif(BH.pre (f,(m,(ny,((Bt.F ((Bt.F ((AH.F (((0:Int),(Y,())),((aa .i64 ((aa .i64 (ex-(if((70:Int)<(aa .i64 (ex-ey)))then(70:Int)else(aa .i64 (ex-ey)))))-ey)),()))).1,(AE.F (((0:Int),(X,())),((if((70:Int)<(aa .i64 (ex-ey)))then(70:Int)else(aa .i64 (ex-ey))),()))))).1,(((0:Int),((1:Int),())),()))).1,((aa .i64 (ex-(if((70:Int)<(aa .i64 (ex-ey)))then(70:Int)else(aa .i64 (ex-ey))))),(((!(((AE.F ((AH.F (((0:Int),(Y,())),((aa .i64 ((aa .i64 (ex-(if((70:Int)<(aa .i64 (ex-ey)))then(70:Int)else(aa .i64 (ex-ey)))))-ey)),()))).1,((aa .i64 ((aa .i64 (ex-(if((70:Int)<(aa .i64 (ex-ey)))then(70:Int)else(aa .i64 (ex-ey)))))-ey)),()))).1.1==(0:Int))&&((AE.F ((AH.F (((0:Int),(Y,())),((aa .i64 ((aa .i64 (ex-(if((70:Int)<(aa .i64 (ex-ey)))then(70:Int)else(aa .i64 (ex-ey)))))-ey)),()))).1,((aa .i64 ((aa .i64 (ex-(if((70:Int)<(aa .i64 (ex-ey)))then(70:Int)else(aa .i64 (ex-ey)))))-ey)),()))).1.2.1==Y)))||((decide ((aa .i64 ((aa .i64 (ex-(if((70:Int)<(aa .i64 (ex-ey)))then(70:Int)else(aa .i64 (ex-ey)))))-ey))>(63:Int)))&&(Y !=(0:Int)))),())))))))then(some (BH.F (f,(m,(ny,((Bt.F ((Bt.F ((AH.F (((0:Int),(Y,())),((aa .i64 ((aa .i64 (ex-(if((70:Int)<(aa .i64 (ex-ey)))then(70:Int)else(aa .i64 (ex-ey)))))-ey)),()))).1,(AE.F (((0:Int),(X,())),((if((70:Int)<(aa .i64 (ex-ey)))then(70:Int)else(aa .i64 (ex-ey))),()))))).1,(((0:Int),((1:Int),())),()))).1,((aa .i64 (ex-(if((70:Int)<(aa .i64 (ex-ey)))then(70:Int)else(aa .i64 (ex-ey))))),(((!(((AE.F ((AH.F (((0:Int),(Y,())),((aa .i64 ((aa .i64 (ex-(if((70:Int)<(aa .i64 (ex-ey)))then(70:Int)else(aa .i64 (ex-ey)))))-ey)),()))).1,((aa .i64 ((aa .i64 (ex-(if((70:Int)<(aa .i64 (ex-ey)))then(70:Int)else(aa .i64 (ex-ey)))))-ey)),()))).1.1==(0:Int))&&((AE.F ((AH.F (((0:Int),(Y,())),((aa .i64 ((aa .i64 (ex-(if((70:Int)<(aa .i64 (ex-ey)))then(70:Int)else(aa .i64 (ex-ey)))))-ey)),()))).1,((aa .i64 ((aa .i64 (ex-(if((70:Int)<(aa .i64 (ex-ey)))then(70:Int)else(aa .i64 (ex-ey)))))-ey)),()))).1.2.1==Y)))||((decide ((aa .i64 ((aa .i64 (ex-(if((70:Int)<(aa .i64 (ex-ey)))then(70:Int)else(aa .i64 (ex-ey)))))-ey))>(63:Int)))&&(Y !=(0:Int)))),()))))))))else none)else none)else bif((((Bt.F ((AH.F (((0:Int),(Y,())),((aa .i64 ((aa .i64 (ex-(if((70:Int)<(aa .i64 (ex-ey)))then(70:Int)else(aa .i64 (ex-ey)))))-ey)),()))).1,(AE.F (((0:Int),(X,())),((if((70:Int)<(aa .i64 (ex-ey)))then(70:Int)else(aa .i64 (ex-ey))),()))))).1.1==(0:Int))&&((Bt.F ((AH.F (((0:Int),(Y,())),((aa .i64 ((aa .i64 (ex-(if((70:Int)<(aa .i64 (ex-ey)))then(70:Int)else(aa .i64 (ex-ey)))))-ey)),()))).1,(AE.F (((0:Int),(X,())),((if((70:Int)<(aa .i64 (ex-ey)))then(70:Int)else(aa .i64 (ex-ey))),()))))).1.2.1==(0:Int)))&&(!((!(((AE.F ((AH.F (((0:Int),(Y,())),((aa .i64 ((aa .i64 (ex-(if((70:Int)<(aa .i64 (ex-ey)))then(70:Int)else(aa .i64 (ex-ey)))))-ey)),()))).1,((aa .i64 ((aa .i64 (ex-(if((70:Int)<(aa .i64 (ex-ey)))then(70:Int)else(aa .i64 (ex-ey)))))-ey)),()))).1.1==(0:Int))&&((AE.F ((AH.F (((0:Int),(Y,())),((aa .i64 ((aa .i64 (ex-(if((70:Int)<(aa .i64 (ex-ey)))then(70:Int)else(aa .i64 (ex-ey)))))-ey)),()))).1,((aa .i64 ((aa .i64 (ex-(if((70:Int)<(aa .i64 (ex-ey)))then(70:Int)else(aa .i64 (ex-ey)))))-ey)),()))).1.2.1==Y)))||((decide ((aa .i64 ((aa .i64 (ex-(if((70:Int)<(aa .i64 (ex-ey)))then(70:Int)else(aa .i64 (ex-ey)))))-ey))>(63:Int)))&&(Y !=(0:Int))))))then(bif(Bp.pre (f,((m==(4:Int)),())))then(some ((Bp.F (f,((m==(4:Int)),()))).1,((0:Int),((0:Int),()))))else none)else bif(BH.pre (f,(m,(ny,((Bt.F ((AH.F (((0:Int),(Y,())),((aa .i64 ((aa .i64 (ex-(if((70:Int)<(aa .i64 (ex-ey)))then(70:Int)else(aa .i64 (ex-ey)))))-ey)),()))).1,(AE.F (((0:Int),(X,())),((if((70:Int)<(aa .i64 (ex-ey)))then(70:Int)else(aa .i64 (ex-ey))),()))))).1,((aa .i64 (ex-(if((70:Int)<(aa .i64 (ex-ey)))then(70:Int)else(aa .i64 (ex-ey))))),(((!(((AE.F ((AH.F (((0:Int),(Y,())),((aa .i64 ((aa .i64 (ex-(if((70:Int)<(aa .i64 (ex-ey)))then(70:Int)else(aa .i64 (ex-ey)))))-ey)),()))).1,((aa .i64 ((aa .i64 (ex-(if((70:Int)<(aa .i64 (ex-ey)))then(70:Int)else(aa .i64 (ex-ey)))))-ey)),()))).1.1==(0:Int))&&((AE.F ((AH.F (((0:Int),(Y,())),((aa .i64 ((aa .i64 (ex-(if((70:Int)<(aa .i64 (ex-ey)))then(70:Int)else(aa .i64 (ex-ey)))))-ey)),()))).1,((aa .i64 ((aa .i64 (ex-(if((70:Int)<(aa .i64 (ex-ey)))then(70:Int)else(aa .i64 (ex-ey)))))-ey)),()))).1.2.1==Y)))||((decide ((aa .i64 ((aa .i64 (ex-(if((70:Int)<(aa .i64 (ex-ey)))then(70:Int)else(aa .i64 (ex-ey)))))-ey))>(63:Int)))&&(Y !=(0:Int)))),())))))))then(some (BH.F (f,(m,(ny,((Bt.F ((AH.F (((0:Int),(Y,())),((aa .i64 ((aa .i64 (ex-(if((70:Int)<(aa .i64 (ex-ey)))then(70:Int)else(aa .i64 (ex-ey)))))-ey)),()))).1,(AE.F (((0:Int),(X,())),((if((70:Int)<(aa .i64 (ex-ey)))then(70:Int)else(aa .i64 (ex-ey))),()))))).1,((aa .i64 (ex-(if((70:Int)<(aa .i64 (ex-ey)))then(70:Int)else(aa .i64 (ex-ey))))),(((!(((AE.F ((AH.F (((0:Int),(Y,())),((aa .i64 ((aa .i64 (ex-(if((70:Int)<(aa .i64 (ex-ey)))then(70:Int)else(aa .i64 (ex-ey)))))-ey)),()))).1,((aa .i64 ((aa .i64 (ex-(if((70:Int)<(aa .i64 (ex-ey)))then(70:Int)else(aa .i64 (ex-ey)))))-ey)),()))).1.1==(0:Int))&&((AE.F ((AH.F (((0:Int),(Y,())),((aa .i64 ((aa .i64 (ex-(if((70:Int)<(aa .i64 (ex-ey)))then(70:Int)else(aa .i64 (ex-ey)))))-ey)),()))).1,((aa .i64 ((aa .i64 (ex-(if((70:Int)<(aa .i64 (ex-ey)))then(70:Int)else(aa .i64 (ex-ey)))))-ey)),()))).1.2.1==Y)))||((decide ((aa .i64 ((aa .i64 (ex-(if((70:Int)<(aa .i64 (ex-ey)))then(70:Int)else(aa .i64 (ex-ey)))))-ey))>(63:Int)))&&(Y !=(0:Int)))),()))))))))else none)else none)else bif(Bt.pre ((AE.F (((0:Int),(X,())),((if((70:Int)<(aa .i64 (ex-ey)))then(70:Int)else(aa .i64 (ex-ey))),()))).1,(AH.F (((0:Int),(Y,())),((aa .i64 ((aa .i64 (ex-(if((70:Int)<(aa .i64 (ex-ey)))then(70:Int)else(aa .i64 (ex-ey)))))-ey)),())))))then(bif((!(((AE.F ((AH.F (((0:Int),(Y,())),((aa .i64 ((aa .i64 (ex-(if((70:Int)<(aa .i64 (ex-ey)))then(70:Int)else(aa .i64 (ex-ey)))))-ey)),()))).1,((aa .i64 ((aa .i64 (ex-(if((70:Int)<(aa .i64 (ex-ey)))then(70:Int)else(aa .i64 (ex-ey)))))-ey)),()))).1.1==(0:Int))&&((AE.F ((AH.F (((0:Int),(Y,())),((aa .i64 ((aa .i64 (ex-(if((70:Int)<(aa .i64 (ex-ey)))then(70:Int)else(aa .i64 (ex-ey)))))-ey)),()))).1,((aa .i64 ((aa .i64 (ex-(if((70:Int)<(aa .i64 (ex-ey)))then(70:Int)else(aa .i64 (ex-ey)))))-ey)),()))).1.2.1==Y)))||((decide ((aa .i64 ((aa .i64 (ex-(if((70:Int)<(aa .i64 (ex-ey)))then(70:Int)else(aa .i64 (ex-ey)))))-ey))>(63:Int)))&&(Y !=(0:Int))))then(bif(Bt.pre ((Bt.F ((AE.F (((0:Int),(X,())),((if((70:Int)<(aa .i64 (ex-ey)))then(70:Int)else(aa .i64 (ex-ey))),()))).1,(AH.F (((0:Int),(Y,())),((aa .i64 ((aa .i64 (ex-(if((70:Int)<(aa .i64 (ex-ey)))then(70:Int)else(aa .i64 (ex-ey)))))-ey)),()))))).1,(((0:Int),((1:Int),())),())))then(bif((((Bt.F ((Bt.F ((AE.F (((0:Int),(X,())),((if((70:Int)<(aa .i64 (ex-ey)))then(70:Int)else(aa .i64 (ex-ey))),()))).1,(AH.F (((0:Int),(Y,())),((aa .i64 ((aa .i64 (ex-(if((70:Int)<(aa .i64 (ex-ey)))then(70:Int)else(aa .i64 (ex-ey)))))-ey)),()))))).1,(((0:Int),((1:Int),())),()))).1.1==(0:Int))&&((Bt.F ((Bt.F ((AE.F (((0:Int),(X,())),((if((70:Int)<(aa .i64 (ex-ey)))then(70:Int)else(aa .i64 (ex-ey))),()))).1,(AH.F (((0:Int),(Y,())),((aa .i64 ((aa .i64 (ex-(if((70:Int)<(aa .i64 (ex-ey)))then(70:Int)else(aa .i64 (ex-ey)))))-ey)),()))))).1,(((0:Int),((1:Int),())),()))).1.2.1==(0:Int)))&&(!((!(((AE.F ((AH.F (((0:Int),(Y,())),((aa .i64 ((aa .i64 (ex-(if((70:Int)<(aa .i64 (ex-ey)))then(70:Int)else(aa .i64 (ex-ey)))))-ey)),()))).1,((aa .i64 ((aa .i64 (ex-(if((70:Int)<(aa .i64 (ex-ey)))then(70:Int)else(aa .i64 (ex-ey)))))-ey)),()))).1.1==(0:Int))&&((AE.F ((AH.F (((0:Int),(Y,())),((aa .i64 ((aa .i64 (ex-(if((70:Int)<(aa .i64 (ex-ey)))then(70:Int)else(aa .i64 (ex-ey)))))-ey)),()))).1,((aa .i64 ((aa .i64 (ex-(if((70:Int)<(aa .i64 (ex-ey)))then(70:Int)else(aa .i64 (ex-ey)))))-ey)),()))).1.2.1==Y)))||((decide ((aa .i64 ((aa .i64 (ex-(if((70:Int)<(aa .i64 (ex-ey)))then(70:Int)else(aa .i64 (ex-ey)))))-ey))>(63:Int)))&&(Y !=(0:Int))))))then(bif(Bp.pre (f,((m==(4:Int)),())))then(some ((Bp.F (f,((m==(4:Int)),()))).1,((0:Int),((0:Int),()))))else none)else bif(BH.pre (f,(m,(nx,((Bt.F ((Bt.F ((AE.F (((0:Int),(X,())),((if((70:Int)<(aa .i64 (ex-ey)))then(70:Int)else(aa .i64 (ex-ey))),()))).1,(AH.F (((0:Int),(Y,())),((aa .i64 ((aa .i64 (ex-(if((70:Int)<(aa .i64 (ex-ey)))then(70:Int)else(aa .i64 (ex-ey)))))-ey)),()))))).1,(((0:Int),((1:Int),())),()))).1,((aa .i64 (ex-(if((70:Int)<(aa .i64 (ex-ey)))then(70:Int)else(aa .i64 (ex-ey))))),(((!(((AE.F ((AH.F (((0:Int),(Y,())),((aa .i64 ((aa .i64 (ex-(if((70:Int)<(aa .i64 (ex-ey)))then(70:Int)else(aa .i64 (ex-ey)))))-ey)),()))).1,((aa .i64 ((aa .i64 (ex-(if((70:Int)<(aa .i64 (ex-ey)))then(70:Int)else(aa .i64 (ex-ey)))))-ey)),()))).1.1==(0:Int))&&((AE.F ((AH.F (((0:Int),(Y,())),((aa .i64 ((aa .i64 (ex-(if((70:Int)<(aa .i64 (ex-ey)))then(70:Int)else(aa .i64 (ex-ey)))))-ey)),()))).1,((aa .i64 ((aa .i64 (ex-(if((70:Int)<(aa .i64 (ex-ey)))then(70:Int)else(aa .i64 (ex-ey)))))-ey)),()))).1.2.1==Y)))||((decide ((aa .i64 ((aa .i64 (ex-(if((70:Int)<(aa .i64 (ex-ey)))then(70:Int)else(aa .i64 (ex-ey)))))-ey))>(63:Int)))&&(Y !=(0:Int)))),())))))))then(some (BH.F (f,(m,(nx,((Bt.F ((Bt.F ((AE.F (((0:Int),(X,())),((if((70:Int)<(aa .i64 (ex-ey)))then(70:Int)else(aa .i64 (ex-ey))),()))).1,(AH.F (((0:Int),(Y,())),((aa .i64 ((aa .i64 (ex-(if((70:Int)<(aa .i64 (ex-ey)))then(70:Int)else(aa .i64 (ex-ey)))))-ey)),()))))).1,(((0:Int),((1:Int),())),()))).1,((aa .i64 (ex-(if((70:Int)<(aa .i64 (ex-ey)))then(70:Int)else(aa .i64 (ex-ey))))),(((!(((AE.F ((AH.F (((0:Int),(Y,())),((aa .i64 ((aa .i64 (ex-(if((70:Int)<(aa .i64 (ex-ey)))then(70:Int)else(aa .i64 (ex-ey)))))-ey)),()))).1,((aa .i64 ((aa .i64 (ex-(if((70:Int)<(aa .i64 (ex-ey)))then(70:Int)else(aa .i64 (ex-ey)))))-ey)),()))).1.1==(0:Int))&&((AE.F ((AH.F (((0:Int),(Y,())),((aa .i64 ((aa .i64 (ex-(if((70:Int)<(aa .i64 (ex-ey)))then(70:Int)else(aa .i64 (ex-ey)))))-ey)),()))).1,((aa .i64 ((aa .i64 (ex-(if((70:Int)<(aa .i64 (ex-ey)))then(70:Int)else(aa .i64 (ex-ey)))))-ey)),()))).1.2.1==Y)))||((decide ((aa .i64 ((aa .i64 (ex-(if((70:Int)<(aa .i64 (ex-ey)))then(70:Int)else(aa .i64 (ex-ey)))))-ey))>(63:Int)))&&(Y !=(0:Int)))),()))))))))else none)else none)else bif((((Bt.F ((AE.F (((0:Int),(X,())),((if((70:Int)<(aa .i64 (ex-ey)))then(70:Int)else(aa .i64 (ex-ey))),()))).1,(AH.F (((0:Int),(Y,())),((aa .i64 ((aa .i64 (ex-(if((70:Int)<(aa .i64 (ex-ey)))then(70:Int)else(aa .i64 (ex-ey)))))-ey)),()))))).1.1==(0:Int))&&((Bt.F ((AE.F (((0:Int),(X,())),((if((70:Int)<(aa .i64 (ex-ey)))then(70:Int)else(aa .i64 (ex-ey))),()))).1,(AH.F (((0:Int),(Y,())),((aa .i64 ((aa .i64 (ex-(if((70:Int)<(aa .i64 (ex-ey)))then(70:Int)else(aa .i64 (ex-ey)))))-ey)),()))))).1.2.1==(0:Int)))&&(!((!(((AE.F ((AH.F (((0:Int),(Y,())),((aa .i64 ((aa .i64 (ex-(if((70:Int)<(aa .i64 (ex-ey)))then(70:Int)else(aa .i64 (ex-ey)))))-ey)),()))).1,((aa .i64 ((aa .i64 (ex-(if((70:Int)<(aa .i64 (ex-ey)))then(70:Int)else(aa .i64 (ex-ey)))))-ey)),()))).1.1==(0:Int))&&((AE.F ((AH.F (((0:Int),(Y,())),((aa .i64 ((aa .i64 (ex-(if((70:Int)<(aa .i64 (ex-ey)))then(70:Int)else(aa .i64 (ex-ey)))))-ey)),()))).1,((aa .i64 ((aa .i64 (ex-(if((70:Int)<(aa .i64 (ex-ey)))then(70:Int)else(aa .i64 (ex-ey)))))-ey)),()))).1.2.1==Y)))||((decide ((aa .i64 ((aa .i64 (ex-(if((70:Int)<(aa .i64 (ex-ey)))then(70:Int)else(aa .i64 (ex-ey)))))-ey))>(63:Int)))&&(Y !=(0:Int))))))then(bif(Bp.pre (f,((m==(4:Int)),())))then(some ((Bp.F (f,((m==(4:Int)),()))).1,((0:Int),((0:Int),()))))else none)else bif(BH.pre (f,(m,(nx,((Bt.F ((AE.F (((0:Int),(X,())),((if((70:Int)<(aa .i64 (ex-ey)))then(70:Int)else(aa .i64 (ex-ey))),()))).1,(AH.F (((0:Int),(Y,())),((aa .i64 ((aa .i64 (ex-(if((70:Int)<(aa .i64 (ex-ey)))then(70:Int)else(aa .i64 (ex-ey)))))-ey)),()))))).1,((aa .i64 (ex-(if((70:Int)<(aa .i64 (ex-ey)))then(70:Int)else(aa .i64 (ex-ey))))),(((!(((AE.F ((AH.F (((0:Int),(Y,())),((aa .i64 ((aa .i64 (ex-(if((70:Int)<(aa .i64 (ex-ey)))then(70:Int)else(aa .i64 (ex-ey)))))-ey)),()))).1,((aa .i64 ((aa .i64 (ex-(if((70:Int)<(aa .i64 (ex-ey)))then(70:Int)else(aa .i64 (ex-ey)))))-ey)),()))).1.1==(0:Int))&&((AE.F ((AH.F (((0:Int),(Y,())),((aa .i64 ((aa .i64 (ex-(if((70:Int)<(aa .i64 (ex-ey)))then(70:Int)else(aa .i64 (ex-ey)))))-ey)),()))).1,((aa .i64 ((aa .i64 (ex-(if((70:Int)<(aa .i64 (ex-ey)))then(70:Int)else(aa .i64 (ex-ey)))))-ey)),()))).1.2.1==Y)))||((decide ((aa .i64 ((aa .i64 (ex-(if((70:Int)<(aa .i64 (ex-ey)))then(70:Int)else(aa .i64 (ex-ey)))))-ey))>(63:Int)))&&(Y !=(0:Int)))),())))))))then(some (BH.F (f,(m,(nx,((Bt.F ((AE.F (((0:Int),(X,())),((if((70:Int)<(aa .i64 (ex-ey)))then(70:Int)else(aa .i64 (ex-ey))),()))).1,(AH.F (((0:Int),(Y,())),((aa .i64 ((aa .i64 (ex-(if((70:Int)<(aa .i64 (ex-ey)))then(70:Int)else(aa .i64 (ex-ey)))))-ey)),()))))).1,((aa .i64 (ex-(if((70:Int)<(aa .i64 (ex-ey)))then(70:Int)else(aa .i64 (ex-ey))))),(((!(((AE.F ((AH.F (((0:Int),(Y,())),((aa .i64 ((aa .i64 (ex-(if((70:Int)<(aa .i64 (ex-ey)))then(70:Int)else(aa .i64 (ex-ey)))))-ey)),()))).1,((aa .i64 ((aa .i64 (ex-(if((70:Int)<(aa .i64 (ex-ey)))then(70:Int)else(aa .i64 (ex-ey)))))-ey)),()))).1.1==(0:Int))&&((AE.F ((AH.F (((0:Int),(Y,())),((aa .i64 ((aa .i64 (ex-(if((70:Int)<(aa .i64 (ex-ey)))then(70:Int)else(aa .i64 (ex-ey)))))-ey)),()))).1,((aa .i64 ((aa .i64 (ex-(if((70:Int)<(aa .i64 (ex-ey)))then(70:Int)else(aa .i64 (ex-ey)))))-ey)),()))).1.2.1==Y)))||((decide ((aa .i64 ((aa .i64 (ex-(if((70:Int)<(aa .i64 (ex-ey)))then(70:Int)else(aa .i64 (ex-ey)))))-ey))>(63:Int)))&&(Y !=(0:Int)))),()))))))))else none)else none)else none)else none)else none)else none)else none
theorem aYR(f m:Int)(nx:Bool)(X ex:Int)(ny:Bool)(Y ey:Int):SK (f,m,(nx,X,ex,()),(ny,Y,ey,()),()) =
 (bif((X==0)&&(Y==0))&&(nx==ny)then(bif Bp.pre (f,nx,())then some ((Bp.F (f,nx,())).1,0,0,())else none)
 else bif(X==0)||((Y !=0)&&decide (ex<ey))then(bif X==0 then Ul f m ny Y ey nx X ey else Ul f m ny Y ey nx X ex)
 else bif Y==0 then Ul f m nx X ex ny Y ex else Ul f m nx X ex ny Y ey):=by kernel_rfl
theorem aAN{n:Nat}(h:n<2^64):((0:Int),((n:Int),()))=Wi n:=by
 unfold Wi;rw[cq h,be h];rfl
theorem aN8:((0:Int),((1:Int),()))=Wi 1:=rfl
theorem aAO{n:Nat}(h:n<2^128):(((Wi n).1==0)&&((Wi n).2.1==0))=decide (n=0):=by
 show(((n/2^64:Nat):Int)==0&&((n%2^64:Nat):Int)==0)=_;rw[Ji,Ji,ej,ae,beq_iff_eq,beq_iff_eq,decide_eq_true_eq];omega
theorem aSP{Y dn:Nat}(hY:Y<2^64):((!(((Wi (Y/2^dn*2^dn)).1==0)&&((Wi (Y/2^dn*2^dn)).2.1==(Y:Int))))||(decide ((dn:Int)>63)&&((Y:Int)!=0)))=decide (Y%2^dn≠0):=by
 have hdm:=ci Y (2^dn);rw[ar]at hdm;generalize hL:Y/2^dn*2^dn=L at *
 show((!(((L/2^64:Nat):Int)==0&&((L%2^64:Nat):Int)==(Y:Int)))||(decide ((dn:Int)>63)&&((Y:Int)!=0)))=_;rw[Ji,RO,TX];by_cases h:Y%2^dn=0
 ·rw[decide_eq_false (p:=Y%2^dn≠0) (by omega)];rw[show(L/2^64==0)=true by rw[beq_iff_eq];omega,show(L%2^64==Y)=true by rw[beq_iff_eq];omega];by_cases hy:Y=0
  ·rw[hy];simp
  ·have:¬(dn:Int)>63:=fun hd=>by
    have h1:Y<2^dn:=al hY (ak (by decide) (by omega));rw[be h1]at h;exact hy h
   rw[decide_eq_false this];rfl
 ·rw[decide_eq_true (p:=Y%2^dn≠0) h];rw[show(L%2^64==Y)=false by rw[beq_eq_false_iff_ne];omega];simp
theorem bG{n k:Nat}(h:2^k<=n):k+1<=Am n:=by
 have h1:=Qg n;have:k<Am n:=(cd (a:=2) (by decide)).1 (ax h h1);omega
def DR(f m:Int)(nx:Bool)(X:Nat)(ex:Int)(ny:Bool)(Y:Nat)(ey:Int):Nat×Nat:=let e:=if ex<=ey then ex else ey;let a:=X*2^(ex-e).toNat;let b:=Y*2^(ey-e).toNat;if nx=ny then(if a+b=0 then(Ca f nx,0)else Ba f m nx (a+b) e false)else if a=b then(Ca f (m==4),0)else if b<a then Ba f m nx (a-b) e false else Ba f m ny (b-a) e false
theorem sP{f m:Int}{nx:Bool}{X:Nat}{ey:Int}{ny:Bool}{Y:Nat}(D:Nat):
  DR f m nx X (ey+D) ny Y ey=if nx=ny then(if X*2^D+Y=0 then(Ca f nx,0)else Ba f m nx (X*2^D+Y) ey false)
   else if X*2^D=Y then(Ca f (m==4),0)else if Y<X*2^D then Ba f m nx (X*2^D-Y) ey false else Ba f m ny (Y-X*2^D) ey false:=by
 unfold DR;have he:(if ey+(D:Int)<=ey then ey+(D:Int)else ey)=ey:=by split<;>omega
 simp only[he];rw[show(ey+(D:Int)-ey).toNat=D by omega,show(ey-ey).toNat=0 by omega,js,gr]
theorem sQ(f m:Int)(nx:Bool)(X:Nat)(ex:Int)(ny:Bool)(Y:Nat)(ey:Int):DR f m nx X ex ny Y ey=DR f m ny Y ey nx X ex:=by
 unfold DR;have he:(if ex<=ey then ex else ey)=(if ey<=ex then ey else ex):=by split<;>split<;>omega
 simp only[he];generalize(if ey<=ex then ey else ex)=e;generalize X*2^(ex-e).toNat=a;generalize Y*2^(ey-e).toNat=b;by_cases hn:nx=ny
 ·subst hn;rw[if_pos rfl,if_pos rfl,gx]
 ·rw[if_neg hn,if_neg (Ne.symm hn)];rcases gf a b with h|h|h
  ·rw[if_neg (by omega),if_neg (by omega),if_neg (by omega),if_pos h]
  ·rw[if_pos h,if_pos h.symm]
  ·rw[if_neg (by omega),if_pos h,if_neg (by omega),if_neg (by omega)]
theorem XV{f m:Int}(hf:Fm f)(nx:Bool)(X:Nat)(ex:Int)(ny:Bool)(ey:Int):DR f m nx X ex ny 0 ey=if X=0 then(if nx=ny then(Ca f nx,0)else(Ca f (m==4),0))else Ba f m nx X ex false:=by
 rcases Int.le_total ex ey with h|h
 ·obtain⟨D,hD⟩:=di (show 0<=ey-ex by omega);have:ey=ex+D:=by omega
  subst this;rw[sQ,sP,fk,dj];by_cases hn:nx=ny
  ·subst hn;simp only[↓reduceIte]
  ·rw[if_neg (Ne.symm hn),if_neg hn];by_cases hx:X=0
   ·subst hx;simp only[↓reduceIte]
   ·rw[if_neg (by omega),if_neg (by omega),if_neg hx,md]
 ·obtain⟨D,hD⟩:=di (show 0<=ex-ey by omega);have:ex=ey+D:=by omega
  subst this;rw[sP,dc];by_cases hx:X=0
  ·subst hx;rw[if_pos rfl,fk,if_pos rfl,if_pos rfl]
  ·have hp:=aj D;have hpos:0<X*2^D:=ic (by omega) hp;rw[if_neg hx];by_cases hn:nx=ny
   ·rw[if_pos hn,if_neg (by omega),dX hf hx]
   ·rw[if_neg hn,if_neg (by omega),if_pos hpos,md,dX hf hx]
theorem iM{f m:Int}(hf:Fm f)(hm:0<=m/\m<=5)(nx:Bool)(X D:Nat)(ny:Bool)(Y:Nat)(ey:Int)(hX:X<2^53)(hY:Y<2^53)(he:-2000<=ey/\ey+D<=2000)(h0:X≠0∨(Y=0/\nx≠ny)):
  Ul f m nx X (ey+D) ny Y ey=some (((DR f m nx X (ey+D) ny Y ey).1:Int),((DR f m nx X (ey+D) ny Y ey).2:Int),0,()):=by
 rw[sP];have hW:=Fy hf;have hP:=Gk hf;have hU:∃U dn:Nat,(if(70:Int)<(D:Int)then(70:Int)else(D:Int))=(U:Int)/\D=U+dn/\U<=70/\(dn≠0->U=70):=by
  by_cases h:70<D
  ·exact⟨70,D-70,by rw[if_pos (by omega)];rfl,by omega,by omega,fun _=>rfl⟩
  ·exact⟨D,0,by rw[if_neg (by omega)],by omega,by omega,fun h=>absurd rfl h⟩
 obtain⟨U,dn,hU1,hU2,hU3,hU4⟩:=hU;have e1:aa .i64 (ey+(D:Int)-ey)=(D:Int):=by rw[Ax (by omega)];omega
 have e2:aa .i64 (ey+(D:Int)-(U:Int))=ey+(dn:Int):=by rw[Ax (by omega)];omega
 have e3:aa .i64 (ey+(dn:Int)-ey)=(dn:Int):=by rw[Ax (by omega)];omega
 have hpU:=aj U;have hpd:=aj dn;have hU70:2^U<=2^70:=ak (by decide) hU3;have hH:X*2^U<2^123:=by
  have h1:X*2^U<=X*2^70:=cm _ hU70;have h2:X*2^70<2^53*2^70:=cw hX (by decide);omega
 have hXD:X*2^D=X*2^U*2^dn:=by rw[hU2,bb,aw]
 have hbig:Y%2^dn≠0->2^70<=X*2^U/\X≠0:=fun h=>by
  have hd:dn≠0:=fun h1=>by rw[h1,js,Nat.mod_one]at h;exact h rfl
  have hy:Y≠0:=fun h1=>by rw[h1,ly]at h;exact h rfl
  have hx:X≠0:=by
   rcases h0 with h|h
   ·exact h
   ·exact absurd h.1 hy
  refine⟨?_,hx⟩;rw[hU4 hd];exact ku _ (by omega)
 have hYL:Y/2^dn<=Y:=fa _ _;have hLd:Y/2^dn*2^dn<=Y:=Nat.div_mul_le_self _ _;have p1:Q2 (((0:Int),((X:Int),())),((U:Int),()))=some (Wi (X*2^U),()):=by
  rw[aAN (by omega),xM _ _ (by omega),be (by omega)]
 have p2:So (((0:Int),((Y:Int),())),((dn:Int),()))=some (Wi (Y/2^dn),()):=by
  rw[aAN (by omega),aM8 _ _ (by omega)]
 have p3:Q2 (Wi (Y/2^dn),((dn:Int),()))=some (Wi (Y/2^dn*2^dn),()):=by
  rw[xM _ _ (by omega),be (by omega)]
 have p4:=aM9 (X*2^U) (Y/2^dn) (by omega);have p5:=aNa (X*2^U) (Y/2^dn);have pz:=U4 hf (m==4);unfold Ul;simp only[e1,hU1,e2,e3,aG6 p1,aFs p1,aTR p2,aRs p2,aG6 p3,aFs p3,cond_true,aTS p4,aRt p4,aTT p5,aRu p5,aSP (show Y<2^64 by omega)];have hdm:=ci Y (2^dn);have hml:=bv Y hpd;have hX0H:X=0->X*2^U=0:=fun h=>by rw[h,fk]
 have hXb:X≠0->dn≠0->2^70<=X*2^U:=fun h1 h2=>by rw[hU4 h2];exact ku _ (by omega)
 have hHp:X≠0->0<X*2^U:=fun h=>ic (by omega) hpU;clear e1 e2 e3 p1 p2 p3;rw[ar]at hdm;generalize hHe:X*2^U=H at *
 generalize hLe:Y/2^dn=L at *
 generalize hRe:Y%2^dn=R at *
 by_cases hn:nx=ny
 ·subst hn;rw[if_pos rfl,show(nx==nx)=true by cases nx<;>rfl,cond_true];have hX0:X≠0:=by
   rcases h0 with h|h
   ·exact h
   ·exact absurd rfl h.2
  have hHp:=hHp hX0;have hN:X*2^D+Y=Y+H*2^dn:=by rw[hXD,gx]
  have hNd:(X*2^D+Y)/2^dn=H+L:=by rw[hN,nj _ _ hpd,hLe,gx]
  have hNm:(X*2^D+Y)%2^dn=R:=by rw[hN,jx,hRe]
  have hbl:R≠0->fP f+2<=Am (H+L):=fun h=>by
   have h1:=(hbig h).1;have:=bG (n:=H+L) (k:=70) (by omega);omega
  have p6:=U7 hf hm nx (H+L) (by omega) (ey+(dn:Int)) (by omega) (decide (R≠0)) (fun h=>hbl (by simpa using h));rw[if_neg (by omega)]at p6;simp only[Xz p6,W1 p6,cond_true];have htr:=r9 (f:=f) (m:=m) (neg:=nx) (N:=X*2^D+Y) (k:=dn) (E:=ey) hf (by rw[hNd];omega) (by rw[hNd,hNm];exact hbl);rw[hNd,hNm]at htr;have hpp:0<H*2^dn:=ic hHp hpd;rw[htr,if_neg (by rw[hXD];omega)]
 ·rw[if_neg hn,show(nx==ny)=false by cases nx<;>cases ny<;>first|rfl|exact absurd rfl hn,cond_false];by_cases hlt:H<L
  ·have hm0:R=0:=by
    by_cases h:R=0
    ·exact h
    ·have:=(hbig h).1;omega
   have hdn:dn=0:=by
    by_cases h:dn=0
    ·exact h
    ·exfalso;rcases h0 with h1|h1
     ·have h2:=hXb h1 h;omega
     ·have:=h1.1;omega
   subst hdn;have hY1:Y=L:=by rw[←hLe];simp
   subst hY1;have hXD1:X*2^D=H:=by rw[hXD];simp
   rw[hm0,hXD1];have p7:=j7 Y H (by omega) (by omega);have p6:=U7 hf hm ny (Y-H) (by omega) (ey+((0:Nat):Int)) (by omega) false (fun h=>by cases h);rw[if_neg (by omega)]at p6;have z1:decide ((if H=Y then(0:Int)else if H<Y then -1 else 1)<0)=true:=by
    rw[if_neg (by omega),if_pos hlt];rfl
   have z2:decide ((0:Nat)≠0)=false:=by decide
   have z3:=aAO (n:=Y-H) (by omega);rw[decide_eq_false (p:=Y-H=0) (by omega)]at z3;simp only[z1,z2,cond_true,cond_false,rG p7,pE p7,z3,bc,Xz p6,W1 p6];rw[if_neg (by omega),if_neg (by omega),gl,mg]
  ·have hge:L<=H:=by omega
   have p7:=j7 H L (by omega) hge;have z1:decide ((if H=L then(0:Int)else if H<L then -1 else 1)<0)=false:=by
    by_cases h:H=L
    ·rw[if_pos h];rfl
    ·rw[if_neg h,if_neg hlt];rfl
   simp only[z1,cond_false,rG p7,pE p7,cond_true];by_cases hm0:R=0
   ·rw[hm0,show decide ((0:Nat)≠0)=false by decide,cond_false];have hYe:Y=L*2^dn:=by omega
    have z3:=aAO (n:=H-L) (by omega);rw[z3];by_cases hz:H-L=0
    ·have heq:X*2^D=Y:=by rw[hXD,hYe,show H=L by omega]
     rw[decide_eq_true hz,if_pos heq];simp only[bp,bg,cond_true,Xy pz,W0 pz];rfl
    ·rw[decide_eq_false hz];have p6:=U7 hf hm nx (H-L) (by omega) (ey+(dn:Int)) (by omega) false (fun h=>by cases h);rw[if_neg hz]at p6;simp only[bc,cond_false,Xz p6,W1 p6,cond_true];have hN:X*2^D-Y=(H-L)*2^dn:=by rw[hXD,Nat.sub_mul,←hYe]
     have hpp:0<(H-L)*2^dn:=ic (by omega) hpd;have hlt2:Y<X*2^D:=by omega
     rw[if_neg (by omega),if_pos hlt2,hN,dX hf hz]
   ·rw[decide_eq_true (p:=R≠0) hm0,cond_true];obtain⟨hb1,hX0⟩:=hbig hm0;have p8:=j7 (H-L) 1 (by omega) (by omega);rw[←aN8]at p8;have hbl:fP f+2<=Am (H-L-1):=by
     have:=bG (n:=H-L-1) (k:=69) (by omega);omega
    have p6:=U7 hf hm nx (H-L-1) (by omega) (ey+(dn:Int)) (by omega) true (fun _=>hbl);rw[if_neg (by omega)]at p6;simp only[rG p8,pE p8,cond_true,ca,bw,cond_false,Xz p6,W1 p6];have h2:(L+1+(H-L-1))*2^dn=H*2^dn:=by rw[show L+1+(H-L-1)=H by omega]
    rw[cg,cg,fu]at h2;have hN:X*2^D-Y=(2^dn-R)+(H-L-1)*2^dn:=by rw[hXD];omega
    have hlt2:Y<X*2^D:=by omega
    have hNd:(X*2^D-Y)/2^dn=H-L-1:=by
     rw[hN,nj _ _ hpd,cq (by omega),dj]
    have hNm:(X*2^D-Y)%2^dn=2^dn-R:=by
     rw[hN,jx,be (by omega)]
    have htr:=r9 (f:=f) (m:=m) (neg:=nx) (N:=X*2^D-Y) (k:=dn) (E:=ey) hf (by rw[hNd];omega) (fun _=>by rw[hNd];exact hbl);rw[hNd,hNm,decide_eq_true (p:=2^dn-R≠0) (by omega)]at htr;rw[htr,if_neg (by omega),if_pos hlt2]
theorem aNM{f m:Int}(hf:Fm f)(hm:0<=m/\m<=5)(nx:Bool)(X:Nat)(ex:Int)(ny:Bool)(Y:Nat)(ey:Int)(hX:X<2^53)(hY:Y<2^53)(hex:-2000<=ex/\ex<=2000)(hey:-2000<=ey/\ey<=2000):
  SK (f,m,(nx,(X:Int),ex,()),(ny,(Y:Int),ey,()),())=some (((DR f m nx X ex ny Y ey).1:Int),((DR f m nx X ex ny Y ey).2:Int),0,()):=by
 rw[aYR];by_cases hX0:X=0
 ·subst hX0;by_cases hYn:Y=0/\nx=ny
  ·obtain⟨rfl,rfl⟩:=hYn;have p0:=U4 hf nx;rw[show((((0:Nat):Int)==0)&&(((0:Nat):Int)==0)&&(nx==nx))=true by cases nx<;>rfl,cond_true];simp only[Xy p0,W0 p0,cond_true];rw[XV hf,if_pos rfl,if_pos rfl];rfl
  ·have hg:((((0:Nat):Int)==0)&&(((Y:Nat):Int)==0)&&(nx==ny))=false:=by
    by_cases hy:Y=0
    ·have:nx≠ny:=fun h=>hYn ⟨hy,h⟩;subst hy;cases nx<;>cases ny<;>first|rfl|exact absurd rfl this
    ·rw[Bi Y hy,bw,bc]
   have h1:(((0:Nat):Int)==0)=true:=rfl;rw[hg,cond_false,h1,bh,cond_true,cond_true];have ht:=iM hf hm ny Y 0 nx 0 ey hY hX (by omega) (by
    by_cases hy:Y=0
    ·exact .inr ⟨rfl,fun h=>hYn ⟨hy,h.symm⟩⟩
    ·exact .inl hy)
   rw[gl,mg]at ht;rw[gl,ht,sQ f m nx 0 ex,XV hf,XV hf]
 ·have hx0:((X:Int)==0)=false:=Bi _ hX0;rw[hx0,bc,bc,cond_false,co,cond_false];by_cases hY0:Y=0
  ·subst hY0;have ht:=iM hf hm nx X 0 ny 0 ex hX hY (by omega) (.inl hX0);rw[gl,mg]at ht;rw[show(((0:Nat):Int)!=0)=false by rfl,bc,cond_false,show(((0:Nat):Int)==0)=true by rfl,cond_true,gl,ht,XV hf,XV hf]
  ·rw[Bv _ hY0,bj,Bi _ hY0,cond_false];by_cases hlt:ex<ey
   ·rw[decide_eq_true hlt,cond_true];obtain⟨D,hD⟩:=di (show 0<=ey-ex by omega);have hee:ey=ex+D:=by omega
    subst hee;rw[iM hf hm ny Y D nx X ex hY hX (by omega) (.inl hY0),sQ f m ny Y]
   ·rw[decide_eq_false hlt,cond_false];obtain⟨D,hD⟩:=di (show 0<=ex-ey by omega);have hee:ex=ey+D:=by omega
    subst hee;rw[iM hf hm nx X D ny Y ey hX hY (by omega) (.inl hX0)]
end VL
namespace VL
open Go Vx
def Hs(l:List Nat):Prop:=(∀x∈l,x<2^32)/\l.length<=1000000
theorem Hs.dg{n:Nat}(h:n<2^100000):Hs (dg (2^32) n):=by
 refine⟨Qk (by decide) n,?_⟩;have:n<(2^32)^3125:=by rw[←lq];exact h
 have:=DH (B:=2^32) (by decide) 3125 n this;omega
theorem tE(n:Nat)(h:n<2^64):aa .u64 (n:Int)=(n:Int):=Ev (by omega)
theorem tF(a b:Nat)(h:a*b<2^64):aa .u64 ((a:Int)*(b:Int))=((a*b:Nat):Int):=by
 rw[←ko,tE _ h]
theorem iU(a b:Nat)(h:a+b<2^64):aa .u64 ((a:Int)+(b:Int))=((a+b:Nat):Int):=by
 rw[←my,tE _ h]
theorem WF{B:Nat}{l:List Nat}{v:Nat}(h:∀x∈l,x<B)(hv:v<B):∀x∈l++[v],x<B:=fun x hx=>by
 rcases cn.1 hx with hx|hx
 ·exact h x hx
 ·have:x=v:=by simpa using hx
  rw[this];exact hv
theorem Xu(B:Nat)(l:List Nat)(v:Nat):nv B (l++[v])=nv B l+B^l.length*v:=by
 rw[RQ];simp[nv]
theorem aS2(B n:Nat):nv B (ap n 0)=0:=by
 induction n with
 |zero=>rfl
 |succ n ih=>rw[jd];simp[nv,ih]
end VL
namespace VL
open Go Vx
theorem Xt(B:Nat)(l:List Nat)(i:Nat)(h:i<l.length):nv B (l.drop i)=l.getD i 0+B*nv B (l.drop (i+1)):=by
 rw[dp h,ai,av h];rfl
theorem aYV{B:Nat}(hB:2<=B){l:List Nat}(h:∀x∈l,x<B)(i:Nat):nv B (l.take i)<B^i:=by
 have:=DN hB (l.take i) fun x hx=>h x (dr hx);refine al this (ak (by omega) ?_);rw[gd];exact kj _ _
theorem aYz{P A A' X Y:Nat}(h:A<P)(hxy:X<Y):A+P*X<A'+P*Y:=by
 have:P*(X+1)<=P*Y:=cm _ hxy;rw[bt,gr]at this;omega
theorem QI{B:Nat}(hB:2<=B){a b:List Nat}(ha:∀x∈a,x<B){i:Nat}(hia:i<a.length)(hib:i<b.length)(hd:nv B (a.drop (i+1))=nv B (b.drop (i+1)))(h:a.getD i 0<b.getD i 0):nv B a<nv B b:=by
 rw[QB B a i (by omega),QB B b i (by omega),Xt B a i hia,Xt B b i hib,hd];exact aYz (aYV hB ha i) (by omega)
theorem oL{B:Nat}(hB:2<=B){x y:Nat}(h:(dg B x).length<(dg B y).length):x<y:=by
 have h1:=WN hB x;rcases aq x y with h2|h2
 ·exact h2
 ·have:=DH hB (dg B x).length y (by omega);omega
theorem aSN{P B A A' O a b c c' v:Nat}(h:A+P*c=A'+O)(h2:a+B*c'=b+c+v):A+P*a+P*B*c'=A'+P*b+(O+P*v):=by
 have h3:P*(a+B*c')=P*(b+c+v):=by rw[h2]
 rw[bt,bt,bt,←aw]at h3;omega
theorem aEE{B:Nat}(hB:2<=B){x y:Nat}(h:y<=x):(dg B y).length<=(dg B x).length:=by
 rcases aq (dg B x).length (dg B y).length with h1|h1
 ·have:=oL hB h1;omega
 ·exact h1
theorem Hs.len{n:Nat}(h:n<2^100000):(VL.dg (2^32) n).length<=3125:=by
 have:n<(2^32)^3125:=by rw[←lq];exact h
 exact DH (B:=2^32) (by decide) 3125 n this
theorem rY(x m:Nat)(h:x<2^64)(hm:0<m):BQ .u64 (x:Int) (m:Int)=((x/m:Nat):Int):=by
 unfold BQ;have e:(x:Int).tdiv (m:Int)=((x/m:Nat):Int):=rfl;have:=fa x m;generalize x/m=q at *
 rw[e,Ev (by omega)]
end VL
namespace VL
open Go Vx
theorem LC{f:Int}(hf:Fm f):fP f<=53:=by
 rcases CP hf with rfl|rfl|rfl|rfl<;>decide
theorem aGC{m:Int}(hm:0<=m/\m<=5):m=0∨m=1∨m=2∨m=3∨m=4∨m=5:=by omega
theorem aQE{f m:Int}(hf:Fm f){neg:Bool}{n:Nat}{e q:Int}(h:AK n e-fP f+1<=q):B5 m neg n e q false<=2^fP f:=oJ h
end VL
namespace VL
open Go Vx
def Aw(f:Int)(a:Nat):Nat:=if eF f a=0 then mF f a else mF f a+2^(fP f-1)
def Au(f:Int)(a:Nat):Int:=1-(fX f:Int)-(fP f:Int)+1+(if eF f a=0 then 0 else(eF f a:Int)-1)
theorem cU(f:Int)(a:Nat):mF f a<2^(fP f-1):=bv _ (aj _)
theorem TR{f:Int}(hf:Fm f)(a:Nat):Aw f a<2^53:=by
 have h1:=cU f a;have h2:=Fx hf;have h3:=Gk hf;have h4:=Fy hf;have h5:2^(fP f-1)<=2^52:=ak (by decide) (by rcases CP hf with rfl|rfl|rfl|rfl<;>decide);unfold Aw;split<;>omega
theorem cA{f:Int}(hf:Fm f)(a:Nat):eF f a<2048:=by
 have:2^(fW f-fP f)<=2^11:=ak (by decide) (by rcases CP hf with rfl|rfl|rfl|rfl<;>decide);have h:eF f a<2^(fW f-fP f):=bv _ (aj _);omega
theorem Up{f:Int}(hf:Fm f)(a:Nat):-2000<=Au f a/\Au f a<=2000:=by
 have h1:=cA hf a;have h2:=RC hf;have h3:=LC hf;have h4:=Tj hf;have h5:=Fx hf;have h6:(eF f a:Int)<=2*fX f+1:=by
  have:eF f a<2^(fW f-fP f):=bv _ (aj _);have:=aEX hf;omega
 unfold Au;split<;>omega
def AD(f:Int)(a:Nat):Bool:=eF f a==C2 f&&mF f a==0
def aX(f m:Int)(a b:Nat):Int×Int×Int×Unit:=bif Bu f a||Bu f b then((Cp f:Int),1,0,())else bif nan f a||nan f b then((Cp f:Int),0,0,())else bif(AD f a&&AD f b)&&!(sF f a==sF f b)then((Cp f:Int),1,0,())else bif AD f a then((a:Int),0,0,())else bif AD f b then((b:Int),0,0,())else(((DR f m (sF f a) (Aw f a) (Au f a) (sF f b) (Aw f b) (Au f b)).1:Int),((DR f m (sF f a) (Aw f a) (Au f a) (sF f b) (Aw f b) (Au f b)).2:Int),0,())
def Rs(f m:Int)(a b:Nat):Int×Int×Int×Unit:=if Fm f then(if 0<=m/\m<=5 then(if Ak f a=0/\Ak f b=0 then aX f m a b else(0,0,4,()))else(0,0,3,()))else(0,0,2,())
def Uh(f m:Int)(a b:Nat):Int×Int×Int×Unit:=Rs f m a (if Ak f b=0 then QA f b else b)
theorem aSX{f:Int}{b:Nat}(h:Ak f b=0):QA f b<2^64:=T5 (aGH (Hl h).1 b)
end VL
namespace VL
open Go Vx
theorem kI{f:Int}{a:Nat}(h:Ak f a=0):V4 (f,(a:Int),())=some (sF f a,(eF f a:Int),(mF f a:Int),0,()):=by
 obtain⟨hf,h0⟩:=Hl h;have ha:=T5 h;show iK Ao.pre Ao.F C9.pre C9.F f a=_;unfold iK;have p0:=IQ f a ha;have p2:=kF hf a ha;have hr1:decide (0<=f)=true:=decide_eq_true hf.1;have hr2:decide (f<((4:Nat):Int))=true:=decide_eq_true hf.2;simp only[sB hf,hr1,hr2,Hy p0,Hq p0,rO p2,pM p2,h,cond_true,bne_self_eq_false,cond_false]
theorem aAt{f:Int}{a:Nat}(h:Ak f a=0):VZ (f,BT f,(a:Int),())=some ((sF f a,(Aw f a:Int),Au f a,()),()):=by
 obtain⟨hf,h0⟩:=Hl h;show iG BM.pre BM.F f (BT f) a=_;unfold iG;have h1:=Fx hf;have h3:=LC hf;have h4:=RC hf;have hE:=cA hf a;have hM:=cU f a;have hPp:2^(fP f-1)<=2^52:=ak (by decide) (by omega);have p0:=kI h;have r1:(BT f).2.1=(fP f:Int):=rfl;have r2:(BT f).2.2.1=1-(fX f:Int):=rfl;have e0:aa .i64 ((fP f:Int)-1)=((fP f-1:Nat):Int):=BI _ (by omega);have e1:aa .i64 (aa .i64 ((1-(fX f:Int))-(fP f:Int))+1)=1-(fX f:Int)-(fP f:Int)+1:=by
  rw[Ax (n:=_-(fP f:Int)) (by omega),Ax (by omega)]
 have e2:aa .i64 (eF f a:Int)=(eF f a:Int):=Ax (by omega);have e3:A4 .u64 1 ((fP f-1:Nat):Int)=((2^(fP f-1):Nat):Int):=XN (by omega);have e4:An .u64 (mF f a:Int) ((2^(fP f-1):Nat):Int)=((mF f a+2^(fP f-1):Nat):Int):=by
  have:=LQ (a:=mF f a) (b:=1) (k:=fP f-1) hM (by omega);rwa [fu]at this
 simp only[rR p0,pP p0,cond_true,r1,r2,e0,e1,e2,e3,e4,A8];by_cases hz:eF f a=0
 ·have hg:decide ((eF f a:Int)>0)=false:=decide_eq_false (by omega);have hm:Aw f a=mF f a:=by unfold Aw;rw[if_pos hz]
  have hx:Au f a=1-(fX f:Int)-(fP f:Int)+1:=by unfold Au;rw[if_pos hz,mg]
  rw[hg,cond_false,hm,hx]
 ·have hg:decide ((eF f a:Int)>0)=true:=decide_eq_true (by omega);have hm:Aw f a=mF f a+2^(fP f-1):=by unfold Aw;rw[if_neg hz]
  have hx:aa .i64 ((1-(fX f:Int)-(fP f:Int)+1)+aa .i64 ((eF f a:Int)-1))=Au f a:=by
   unfold Au;rw[if_neg hz,Ax (n:=(eF f a:Int)-1) (by omega),Ax (by omega)]
  rw[hg,cond_true,hm,hx]
theorem oH(f:Int)(a:Nat):(BN f a==2||BN f a==9)=AD f a:=by
 unfold BN AD;cases eF f a==C2 f<;>cases eF f a==0<;>cases mF f a==0<;>cases sF f a<;>cases mF f a/2^(fP f-2)!=0<;>rfl
theorem aQB(f:Int)(a b:Nat):((AD f a&&AD f b)&&(BN f a !=BN f b))=((AD f a&&AD f b)&&!(sF f a==sF f b)):=by
 unfold BN AD;cases eF f a==C2 f<;>cases mF f a==0<;>cases eF f b==C2 f<;>cases mF f b==0<;>first|rfl|(cases sF f a<;>cases sF f b<;>rfl)
theorem kB(f m:Int){a b:Nat}(ha:a<2^64)(hb:b<2^64):Vm (f,m,(a:Int),(b:Int),())=some (Rs f m a b):=by
 show fS Al.pre Al.F AS.pre AS.F AO.pre AO.F P4.pre P4.F P3.pre P3.F f m a b=_;unfold fS Rs;by_cases hf:Fm f
 ·rw[if_pos hf];have p0:=IR hf;simp only[C7 p0,C3 p0,cond_true,bne_self_eq_false,cond_false];by_cases hm:0<=m/\m<=5
  ·have hmm:(decide (m<0)||decide (m>5))=false:=by
    rw[decide_eq_false (p:=m<0) (by omega),decide_eq_false (p:=m>5) (by omega)];rfl
   rw[if_pos hm,hmm,cond_false];have c4:∀x:Nat,Ak f x≠0->Ak f x=4:=fun x h=>by
    unfold Ak at h⊢;rw[if_pos hf]at h⊢;split at h
    ·exact absurd rfl h
    ·rename_i h1;rw[if_neg h1]
   by_cases hca:Ak f a=0
   ·have p1:=Zw ha hca;by_cases hcb:Ak f b=0
    ·have p2:=Zw hb hcb;rw[if_pos ⟨hca,hcb⟩];have p3:=Zx hf;have p4:=aAt hca;have p5:=aAt hcb;have p6:=aNM hf hm (sF f a) (Aw f a) (Au f a) (sF f b) (Aw f b) (Au f b) (TR hf a) (TR hf b) (Up hf a) (Up hf b);simp only[QF p1,Qw p1,QF p2,Qw p2,cond_true,bne_self_eq_false,cond_false,dK p3,cN p3,aHo p4,aFJ p4,aHo p5,aFJ p5,aUs p6,aR3 p6,oH,aQB];unfold aX;rw[←bM,←bM,←bL,←bL];generalize((AD f a&&AD f b)&&!(sF f a==sF f b))=w1;generalize AD f a=w2;generalize AD f b=w3;generalize(BN f a==0)=x1;generalize(BN f b==0)=x2;generalize(BN f a==1)=x3;generalize(BN f b==1)=x4;cases x1<;>cases x2<;>cases x3<;>cases x4<;>cases w1<;>cases w2<;>cases w3<;>rfl
    ·have p2:=kE hb hcb;rw[if_neg (fun h=>hcb h.2)];have hne:(Ak f b !=0)=true:=by simpa using hcb
     simp only[QF p1,Qw p1,QF p2,Qw p2,cond_true,bne_self_eq_false,cond_false,hne];rw[c4 b hcb]
   ·have p1:=kE ha hca;rw[if_neg (fun h=>hca h.1)];have hne:(Ak f a !=0)=true:=by simpa using hca
    simp only[QF p1,Qw p1,cond_true,hne];rw[c4 a hca]
  ·rw[if_neg hm];have:(decide (m<0)||decide (m>5))=true:=by
    by_cases h:m<0
    ·rw[decide_eq_true h];rfl
    ·rw[decide_eq_true (p:=m>5) (by omega),bq]
   rw[this];rfl
 ·rw[if_neg hf];have p0:=KT hf;simp only[C7 p0,C3 p0];rfl
theorem aNn(f m:Int){a b:Nat}(ha:a<2^64)(hb:b<2^64):Vl (f,m,(a:Int),(b:Int),())=some (Uh f m a b):=by
 show fR Ao.pre Ao.F En.pre En.F EN.pre EN.F f m a b=_;unfold fR Uh;have p0:=IQ f b hb;by_cases h:Ak f b=0
 ·have p1:=aNL h;have p2:=kB f m ha (aSX h);rw[if_pos h];simp only[Hy p0,Hq p0,h,beq_self_eq_true,cond_true,aUr p1,aR2 p1,rL p2,pJ p2]
 ·have p2:=kB f m ha hb;have hne:(Ak f b==0)=false:=by simpa using h
  rw[if_neg h];simp only[Hy p0,Hq p0,cond_true,hne,cond_false,rL p2,pJ p2]
end VL
namespace VL
open Go Vx
theorem aSf(f:Int)(neg:Bool):DL f neg=DC f+Ca f neg:=by
 unfold DL DC C2;rw[ar]
theorem nS(f:Int)(s:Bool)(x:Nat):x+Ca f s=Es f s x:=by
 unfold Es Ca;cases s<;>rfl
theorem aFV{f:Int}(hf:Fm f):DC f=(2*fX f+1)*2^(fP f-1):=by
 unfold DC C2;rw[←aEX hf,ar]
def Jq(f m:Int)(neg:Bool)(n:Nat)(e:Int):Nat×Nat:=
 if AK n e>fX f then((if QN m neg then DC f else DC f-1),20)
 else
  let q:=C4 f (AK n e)
  let u:=B5 m neg n e q false
  if q+Am u-1>fX f then((if QN m neg then DC f else DC f-1),20)
  else((q-(1-(fX f:Int)-fP f+1)).toNat*2^(fP f-1)+u,
   if Ep n e q false=0 then 0 else if DM f m neg n e false then 24 else 16)
theorem aSg{f:Int}(hf:Fm f):1<=DC f:=by
 rw[aFV hf];exact ic (by omega) (aj _)
theorem aD5{f m:Int}(hf:Fm f)(neg:Bool):Ta f m neg=Es f neg (if QN m neg then DC f else DC f-1):=by
 have:=aSg hf;unfold Ta;rw[aSf,←nS];split<;>omega
theorem XH{f:Int}(hf:Fm f)(m:Int)(neg:Bool)(n:Nat)(e:Int):Ba f m neg n e false=(Es f neg (Jq f m neg n e).1,(Jq f m neg n e).2):=by
 unfold Ba Jq;by_cases h:AK n e>fX f
 ·rw[if_pos h,if_pos h,aD5 hf]
 ·rw[if_neg h,if_neg h];dsimp only;by_cases h2:C4 f (AK n e)+(Am (B5 m neg n e (C4 f (AK n e)) false):Int)-1>fX f
  ·rw[if_pos h2,if_pos h2,aD5 hf]
  ·rw[if_neg h2,if_neg h2];dsimp only;rw[nS]
theorem aSy(f:Int)(hf:Fm f)(t:Int)(ht:¬t>fX f):t-(fP f:Int)+1<=C4 f t/\1-(fX f:Int)-(fP f:Int)+1<=C4 f t/\C4 f t<=(fX f:Int)-(fP f:Int)+1:=by
 have:=Tj hf;unfold C4;split<;>refine⟨?_,?_,?_⟩<;>omega
theorem aXD{f m:Int}(hf:Fm f){neg:Bool}{n:Nat}{e:Int}(h1:¬AK n e>fX f)(h2:¬C4 f (AK n e)+(Am (B5 m neg n e (C4 f (AK n e)) false):Int)-1>fX f):
  (C4 f (AK n e)-(1-(fX f:Int)-fP f+1)).toNat*2^(fP f-1)+B5 m neg n e (C4 f (AK n e)) false<DC f:=by
 obtain⟨g1,g2,g3⟩:=aSy f hf _ h1;have hu:=aQE (m:=m) (neg:=neg) hf g1;generalize C4 f (AK n e)=q at *
 generalize B5 m neg n e q false=u at *
 have hP:=Fx hf;have hX:=Tj hf;have hpp:=aj (fP f-1);have h2p:2^fP f=2*2^(fP f-1):=by rw[←jw,Nat.succ_eq_add_one,Nat.sub_add_cancel (by omega)]
 rw[aFV hf];obtain⟨k,hk⟩:=di (show 0<=q-(1-(fX f:Int)-(fP f:Int)+1) by omega);rw[hk,ag];rcases aq u (2^fP f)with h|h
 ·have hk2:k+2<=2*fX f+1:=by omega
  have:=au (2^(fP f-1)) hk2;rw[cg]at this;omega
 ·have hb:fP f+1<=Am u:=bG h;have hk2:k+3<=2*fX f+1:=by omega
  have:=au (2^(fP f-1)) hk2;rw[cg]at this;omega
theorem dW{f:Int}(hf:Fm f)(m:Int)(neg:Bool)(n:Nat)(e:Int):(Jq f m neg n e).1<=DC f:=by
 unfold Jq;by_cases h:AK n e>fX f
 ·rw[if_pos h];dsimp only;split<;>omega
 ·rw[if_neg h];dsimp only;by_cases h2:C4 f (AK n e)+(Am (B5 m neg n e (C4 f (AK n e)) false):Int)-1>fX f
  ·rw[if_pos h2];dsimp only;split<;>omega
  ·rw[if_neg h2];exact Nat.le_of_lt (aXD hf h h2)
def RN(m:Int):Int:=if m=3 then 4 else if m=4 then 3 else m
theorem aR4{m:Int}(hm:0<=m/\m<=5)(neg odd:Bool)(r:Nat):DK (RN m) (!neg) odd r=DK m neg odd r:=by
 rcases aGC hm with rfl|rfl|rfl|rfl|rfl|rfl<;>cases neg<;>rfl
theorem aY3{m:Int}(hm:0<=m/\m<=5)(neg:Bool):QN (RN m) (!neg)=QN m neg:=by
 rcases aGC hm with rfl|rfl|rfl|rfl|rfl|rfl<;>cases neg<;>rfl
theorem aEA{m:Int}(hm:0<=m/\m<=5)(neg:Bool)(n:Nat)(e q:Int)(more:Bool):B5 (RN m) (!neg) n e q more=B5 m neg n e q more:=by
 unfold B5;rw[aR4 hm]
theorem aYX{f m:Int}(hm:0<=m/\m<=5)(neg:Bool)(n:Nat)(e:Int)(more:Bool):DM f (RN m) (!neg) n e more↔DM f m neg n e more:=by
 unfold DM;rw[aEA hm]
theorem aXE{f m:Int}(hm:0<=m/\m<=5)(neg:Bool)(n:Nat)(e:Int):Jq f (RN m) (!neg) n e=Jq f m neg n e:=by
 unfold Jq;simp only[aY3 hm,aEA hm,aYX hm]
theorem d0(f:Int)(s:Bool):Ca f s=Es f s 0:=by
 rw[←nS,dj]
theorem aYN{f m:Int}(hf:Fm f)(hm:0<=m/\m<=5)(nx:Bool)(X:Nat)(ex:Int)(ny:Bool)(Y:Nat)(ey:Int):
  ∃s s' x g,DR f m nx X ex ny Y ey=(Es f s x,g)/\DR f (RN m) (!nx) X ex (!ny) Y ey=(Es f s' x,g)/\x<=DC f/\(s'=!s∨x=0):=by
 unfold DR;dsimp only;generalize(if ex<=ey then ex else ey)=e;generalize X*2^(ex-e).toNat=a;generalize Y*2^(ey-e).toNat=b;have hr:∀neg n,Ba f (RN m) (!neg) n e false=(Es f (!neg) (Jq f m neg n e).1,(Jq f m neg n e).2):=fun neg n=>by
  rw[XH hf,aXE hm]
 by_cases hn:nx=ny
 ·subst hn;rw[if_pos rfl,if_pos rfl];by_cases h0:a+b=0
  ·rw[if_pos h0,if_pos h0];exact⟨nx,!nx,0,0,by rw[d0],by rw[d0],ee _,.inr rfl⟩
  ·rw[if_neg h0,if_neg h0];exact⟨nx,!nx,_,_,XH hf _ _ _ _,hr _ _,dW hf _ _ _ _,.inl rfl⟩
 ·have hn2:¬((!nx)=(!ny)):=fun h=>hn (by cases nx<;>cases ny<;>first|rfl|cases h);rw[if_neg hn,if_neg hn2];by_cases h1:a=b
  ·rw[if_pos h1,if_pos h1];exact⟨_,_,0,0,by rw[d0],by rw[d0],ee _,.inr rfl⟩
  ·rw[if_neg h1,if_neg h1];by_cases h2:b<a
   ·rw[if_pos h2,if_pos h2];exact⟨nx,!nx,_,_,XH hf _ _ _ _,hr _ _,dW hf _ _ _ _,.inl rfl⟩
   ·rw[if_neg h2,if_neg h2];exact⟨ny,!ny,_,_,XH hf _ _ _ _,hr _ _,dW hf _ _ _ _,.inl rfl⟩
theorem aFU{f:Int}(hf:Fm f):DC f<2^(fW f-1):=by have:=aSh hf;omega
end VL
namespace VL
open Go Vx
def qm(f:Int):Int:=1-(fX f:Int)-(fP f:Int)+1
end VL
namespace VL
open Go Vx
def Wy(f m:Int)(a b:Nat):Nat×Nat:=bif Bu f a||Bu f b then(Cp f,1)else bif nan f a||nan f b then(Cp f,0)else bif(AD f a&&AD f b)&&!(sF f a==sF f b)then(Cp f,1)else bif AD f a then(a,0)else bif AD f b then(b,0)else DR f m (sF f a) (Aw f a) (Au f a) (sF f b) (Aw f b) (Au f b)
theorem aP2(f m:Int)(a b:Nat):aX f m a b=(((Wy f m a b).1:Int),((Wy f m a b).2:Int),0,()):=by
 unfold aX Wy;cases Bu f a||Bu f b<;>cases nan f a||nan f b<;>cases(AD f a&&AD f b)&&!(sF f a==sF f b)<;>cases AD f a<;>cases AD f b<;>rfl
theorem aYQ{f m:Int}(hf:Fm f)(hm:0<=m/\m<=5)(nx:Bool)(X:Nat)(ex:Int)(ny:Bool)(Y:Nat)(ey:Int):
  ∃s x g,DR f m nx X ex ny Y ey=(Es f s x,g)/\x<=DC f:=by
 obtain⟨s,_,x,g,h,_,h2,_⟩:=aYN hf hm nx X ex ny Y ey;exact⟨s,x,g,h,h2⟩
theorem aP1{f m:Int}(hf:Fm f)(hm:0<=m/\m<=5){a b:Nat}(ha:Ak f a=0)(hb:Ak f b=0):Ak f (Wy f m a b).1=0:=by
 have hn:=(Xr hf).2;unfold Wy;cases Bu f a||Bu f b
 ·cases nan f a||nan f b
  ·cases(AD f a&&AD f b)&&!(sF f a==sF f b)
   ·cases AD f a
    ·cases AD f b
     ·obtain⟨s,x,g,h,hx⟩:=aYQ hf hm (sF f a) (Aw f a) (Au f a) (sF f b) (Aw f b) (Au f b);simp only[cond_false];rw[h];exact qK hf _ (ax hx (aFU hf))
     ·exact hb
    ·exact ha
   ·exact hn
  ·exact hn
 ·exact hn
end VL
namespace VL
open Go Vx
def vI(f:Int)(neg:Bool)(X:Nat)(e:Int):Int:=bif neg then -((X*2^(e-qm f).toNat:Nat):Int)else((X*2^(e-qm f).toNat:Nat):Int)
end VL
namespace VL
open Go Vx
def sl(V:Nat->Int)(i:Nat):List Int:=[if 0<i then V 0 else 0,if 1<i then V 1 else 0,if 2<i then V 2 else 0,if 3<i then V 3 else 0,if 4<i then V 4 else 0,if 5<i then V 5 else 0]
end VL
namespace VL
open Go Vx
def vA(f:Int)(a:Nat):Int:=vI f (sF f a) (Aw f a) (Au f a)
end VL
namespace VL
open Go Vx
def tz(n:Nat):Nat:=if n=0 then 0 else if n%2=1 then 0 else tz (n/2)+1
termination_by n
decreasing_by omega
theorem aJL:∀(t k:Nat),tz (2^t*(2*k+1))=t
 |0,k=>by
  rw[tz,js,fu,if_neg (by omega),if_pos (by omega)]
 |t+1,k=>by
  have e:2^(t+1)*(2*k+1)=2*(2^t*(2*k+1)):=by rw[dx,ar (2^t) 2,aw]
  have hp:0<2^t*(2*k+1):=ic (aj t) (by omega)
  have ih:=aJL t k
  rw[e]
  generalize 2^t*(2*k+1)=n at *
  rw[tz,if_neg (by omega),if_neg (by omega),show 2*n/2=n by omega,ih]
theorem iQ{n:Nat}(h:n≠0):∃k,n=2^tz n*(2*k+1):=by
 obtain⟨t,k,e⟩:=aJJ (x:=n) (by omega);refine⟨k,?_⟩;have:=aJL t k;rw[←e]at this;rw[this];exact e
abbrev tI:=Ab (.pair (.bool) (.pair (.slice (.int .u64)) (.pair (.int .i64) (.unit))))
def dy(s:Bool)(n:Nat)(e:Int):tI:=(s,Dw n,e,())
theorem aQX:dy false 0 0=(false,[],0,()):=by unfold dy;rw[Ew]
end VL
namespace VL
open Go Vx
theorem aNS(a b:List Nat)(ha:∀x∈a,x<2^64)(hb:∀x∈b,x<2^64)(hla:a.length<=1000000)(hab:a.length=b.length):
  ZB ((Wd a,(Wd b,((a.length:Int)-1,()))),())=some (if nv (2^64) a=nv (2^64) b then .inl ((),())else .inr (((if nv (2^64) a<nv (2^64) b then(-1:Int)else 1),()),())):=by
 have key:=Er (aGg Ah.pre Ah.F) (fun x=>(x.1.2.2.1+1).toNat)
  (fun x=>∃j:Nat,j<=a.length/\nv (2^64) (a.drop j)=nv (2^64) (b.drop j)/\x=((Wd a,(Wd b,((j:Int)-1,()))),()))
  (fun _=>if nv (2^64) a=nv (2^64) b then .inl ((),())else .inr (((if nv (2^64) a<nv (2^64) b then(-1:Int)else 1),()),())) ?_ ((Wd a,(Wd b,((a.length:Int)-1,()))),())
  ⟨a.length,bf _,by rw[jh,hab,jh],rfl⟩
 ·exact key
 intro L x hx hL;obtain⟨j,hj,hd,rfl⟩:=hx;unfold Tw;rcases j with _|i
 ·have e1:decide ((((0:Nat):Int)-1)>=0)=false:=rfl;rw[kx,kx]at hd;simp only[e1,cond_false,if_pos hd]
 ·have e0:(((i+1:Nat):Int)-1)=(i:Int):=by omega
  have e2:aa .i64 ((i:Int)-1)=(i:Int)-1:=Ax (by omega);have e3:decide ((i:Int)>=0)=true:=decide_eq_true (by omega);simp(disch:=omega) only[e0,e2,e3,Cq,Cc,Cr,Cd,BI,Cs,B8,B7,Cl,Ck,Cj,Ci,Cg,Cf,Cn,Cm,Ch,B2,A8,BX,Bi,Bv,B1,ag,bd,cond_true,cond_false,bg,bj,ct,bc,bw,ca,bp,cr,bh,bq,co,cv,AF,CD];rcases gf (a.getD i 0) (b.getD i 0)with h|h|h
  ·have hr:=QI (by decide) ha (by omega) (by omega) hd h;simp(disch:=omega) only[Cq,Cc,Cr,Cd,BI,Cs,B8,B7,Cl,Ck,Cj,Ci,Cg,Cf,Cn,Cm,Ch,B2,A8,BX,Bi,Bv,B1,ag,bd,cond_true,cond_false,bg,bj,ct,bc,bw,ca,bp,cr,bh,bq,co,cv];rw[if_neg (by omega),if_pos hr]
  ·simp(disch:=omega) only[Cq,Cc,Cr,Cd,BI,Cs,B8,B7,Cl,Ck,Cj,Ci,Cg,Cf,Cn,Cm,Ch,B2,A8,BX,Bi,Bv,B1,ag,bd,cond_true,cond_false,bg,bj,ct,bc,bw,ca,bp,cr,bh,bq,co,cv];refine hL _ ⟨i,by omega,?_,rfl⟩ (by simp only[ag];omega);rw[Xt _ a i (by omega),Xt _ b i (by omega),hd,h]
  ·have hr:=QI (by decide) hb (by omega) (by omega) hd.symm h;simp(disch:=omega) only[Cq,Cc,Cr,Cd,BI,Cs,B8,B7,Cl,Ck,Cj,Ci,Cg,Cf,Cn,Cm,Ch,B2,A8,BX,Bi,Bv,B1,ag,bd,cond_true,cond_false,bg,bj,ct,bc,bw,ca,bp,cr,bh,bq,co,cv];rw[if_neg (by omega),if_neg (by omega)]
theorem Ss{x:Nat}(hx:x<(2^64)^5000):Q5 (Dw x,())=some (Dw x,()):=by
 have:=DG (dg (2^64) x) (Dd hx).2;rw[Ql (by decide)]at this;exact this
theorem j9{x y:Nat}(hx:x<(2^64)^5000)(hy:y<(2^64)^5000):Vb (Dw x,Dw y,())=some (if x=y then 0 else if x<y then -1 else 1,()):=by
 show eX Ah.pre Ah.F ZB (Dw x) (Dw y)=_;unfold eX;have p0:=Ss hx;have p1:=Ss hy;have hX:=Dd hx;have hY:=Dd hy;have hlx:=hX.2;simp only[CU p0,CT p0,CU p1,CT p1,cond_true];clear p0 p1;rcases gf (dg (2^64) x).length (dg (2^64) y).length with h|h|h
 ·have hr:=oL (by decide) h;unfold Dw;simp(disch:=omega) only[Cq,Cc,Cr,Cd,BI,Cs,B8,B7,Cl,Ck,Cj,Ci,Cg,Cf,Cn,Cm,Ch,B2,A8,BX,Bi,Bv,B1,ag,bd,cond_true,cond_false,bg,bj,ct,bc,bw,ca,bp,cr,bh,bq,co,cv,AF];rw[if_neg (by omega),if_pos hr]
 ·have hw:=aNS _ _ hX.1 hY.1 hlx h;rw[CA,CA]at hw;have e2:aa .i64 (((dg (2^64) x).length:Int)-1)=((dg (2^64) x).length:Int)-1:=Ax (by omega);unfold Dw;simp(disch:=omega) only[Cq,Cc,Cr,Cd,BI,Cs,B8,B7,Cl,Ck,Cj,Ci,Cg,Cf,Cn,Cm,Ch,B2,A8,BX,Bi,Bv,B1,ag,bd,cond_true,cond_false,bg,bj,ct,bc,bw,ca,bp,cr,bh,bq,co,cv,AF,e2,hw];by_cases he:x=y
  ·rw[if_pos he,if_pos he];first|rfl|skip
  ·rw[if_neg he,if_neg he];first|rfl|skip
 ·have hr:=oL (by decide) h;unfold Dw;simp(disch:=omega) only[Cq,Cc,Cr,Cd,BI,Cs,B8,B7,Cl,Ck,Cj,Ci,Cg,Cf,Cn,Cm,Ch,B2,A8,BX,Bi,Bv,B1,ag,bd,cond_true,cond_false,bg,bj,ct,bc,bw,ca,bp,cr,bh,bq,co,cv,AF];rw[if_neg (by omega),if_neg (by omega)]
theorem XL{out a:List Nat}{i v:Nat}(hol:out.length=i)(h:i<a.length):(out++a.drop i).set i v=(out++[v])++a.drop (i+1):=by
 rw[fm _ _ (by omega),hol,gk,dp h,jk,dt];rfl
theorem aR8{out a:List Nat}{i:Nat}(hol:out.length=i):(out++a.drop i).getD i 0=a.getD i 0:=by
 rw[ai,bi (by omega),hol,gk,df,dc,←ai]
theorem aNP(a b:List Nat)(ha:∀x∈a,x<2^64)(hb:∀x∈b,x<2^64)(hla:a.length<=1000000)(hba:b.length<=a.length)(hv:nv (2^64) b<=nv (2^64) a):
  V5 (((a.length:Int),(Wd b,((0:Int),((0:Int),((),()))))),(Wd a,()))=some (.inl (((),()),(Wd (pd (2^64) a.length (nv (2^64) a-nv (2^64) b)),()))):=by
 have key:=Er (aGd BG.pre BG.F AW.pre AW.F Ah.pre Ah.F) (fun x=>a.length-x.1.2.2.2.1.toNat)
  (fun x=>∃(i:Nat) (out:List Nat) (c:Nat),i<=a.length/\out.length=i/\(∀x∈out,x<2^64)/\c<=1/\nv (2^64) (a.take i)+(2^64)^i*c=nv (2^64) (b.take i)+nv (2^64) out /\
   x=(((a.length:Int),(Wd b,((c:Int),((i:Int),((),()))))),(Wd (out++a.drop i),())))
  (fun _=>.inl (((),()),(Wd (pd (2^64) a.length (nv (2^64) a-nv (2^64) b)),()))) ?_ (((a.length:Int),(Wd b,((0:Int),((0:Int),((),()))))),(Wd a,()))
  ⟨0,[],0,ee _,rfl,(fun x hx=>by simp at hx),by decide,by simp[nv],rfl⟩
 ·exact key
 intro L x hx hL;obtain⟨i,out,c,hi,hol,hod,hc,hov,rfl⟩:=hx;unfold Tt;rcases aq i a.length with hlt|hge
 ·have hxa:=CH (by decide) ha i;have hxb:=CH (by decide) hb i;have hna:=Et (2^64) a i;have hnb:=Et (2^64) b i;have hzb:b.length<=i->b.getD i 0=0:=fun h=>by rw[ai,dm h];rfl
  have hset:=fun v=>XL (v:=v) hol hlt;have hlen:(out++a.drop i).length=a.length:=by simp;omega
  have hget:=aR8 (a:=a) hol;generalize hda:a.getD i 0=da at *
  generalize hdb:b.getD i 0=db at *
  have hgo:∀c' v:Nat,c'<=1->v<2^64->da+2^64*c'=db+c+v->L (((a.length:Int),(Wd b,((c':Int),(((i+1:Nat):Int),((),()))))),(Wd (out++[v]++a.drop (i+1)),()))=_:=fun c' v h1 h2 h3=>
   hL _ ⟨i+1,out++[v],c',by omega,by simp;omega,WF hod h2,h1,by
    rw[hna,hnb,Xu,hol,dx];exact aSN hov h3,rfl⟩ (by simp only[ag];omega)
  have hgo2:=hgo (if da<db+c then 1 else 0) ((da+2^64-db-c)%2^64) (by split<;>omega) (bv _ (by decide)) (by split<;>omega);have hF:=XT da db c hc hxa hxb;have hP:=XU (da:Int) (db:Int) c hc;rcases aq i b.length with hib|hib
  ·simp(disch:=omega) only[Cq,Cc,Cr,Cd,BI,Cs,B8,B7,Cl,Ck,Cj,Ci,Cg,Cf,Cn,Cm,Ch,B2,A8,BX,Bi,Bv,B1,ag,bd,cond_true,cond_false,bg,bj,ct,bc,bw,ca,bp,cr,bh,bq,co,cv,AF,CD,hdb,hget,hF,hP,hlen,EQ,hset];exact hgo2
  ·have h0:=hzb hib;rw[h0]at hF hP;simp(disch:=omega) only[Cq,Cc,Cr,Cd,BI,Cs,B8,B7,Cl,Ck,Cj,Ci,Cg,Cf,Cn,Cm,Ch,B2,A8,BX,Bi,Bv,B1,ag,bd,cond_true,cond_false,bg,bj,ct,bc,bw,ca,bp,cr,bh,bq,co,cv,AF,CD,hget];have hF':AW.F ((da:Int),((0:Int),((c:Int),())))=_:=hF;have hP':AW.pre ((da:Int),((0:Int),((c:Int),())))=true:=hP;rw[h0]at hgo2;simp(disch:=omega) only[Cq,Cc,Cr,Cd,BI,Cs,B8,B7,Cl,Ck,Cj,Ci,Cg,Cf,Cn,Cm,Ch,B2,A8,BX,Bi,Bv,B1,ag,bd,cond_true,cond_false,bg,bj,ct,bc,bw,ca,bp,cr,bh,bq,co,cv,hF',hP',hlen,EQ,hset];exact hgo2
 ·have e:i=a.length:=by omega
  subst e;rw[du,cj hba]at hov;have hlt:=DN (B:=2^64) (by decide) out hod;rw[hol]at hlt;have hc0:(2^64)^a.length*c=0:=by
   rcases(show c=0∨c=1 by omega)with h|h
   ·rw[h,fi]
   ·rw[h,gr]at hov;omega
  have ho:=rC (B:=2^64) (v:=nv (2^64) a-nv (2^64) b) (by decide) hod hol (by omega);rw[jh,cz];simp(disch:=omega) only[Cq,Cc,Cr,Cd,BI,Cs,B8,B7,Cl,Ck,Cj,Ci,Cg,Cf,Cn,Cm,Ch,B2,A8,BX,Bi,Bv,B1,ag,bd,cond_true,cond_false,bg,bj,ct,bc,bw,ca,bp,cr,bh,bq,co,cv,AF];rw[←ho]
theorem xI(l:List Nat)(hl:Ws l):Q1 (Wd l,())=some (Dw (nv (2^64) l),()):=by
 show eH Ah.pre Ah.F (Wd l)=_;unfold eH;have p0:=DG l hl.2;have hle:=(DD l).1;have h2:=hl.2;have e3:decide ((((Aj l).length:Nat):Int)*8<=140737488355328)=true:=decide_eq_true (by omega);simp(disch:=omega) only[Cq,Cc,Cr,Cd,BI,Cs,B8,B7,Cl,Ck,Cj,Ci,Cg,Cf,Cn,Cm,Ch,B2,A8,BX,Bi,Bv,B1,ag,bd,cond_true,cond_false,bg,bj,ct,bc,bw,ca,bp,cr,bh,bq,co,cv,CU p0,CT p0,AF,e3,fc,kf,gk];rw[cj (by rw[AF];exact bf _),kd,cz,Gp (by decide) l hl.1];rfl
theorem aNd{x y:Nat}(hx:x<(2^64)^5000)(h:y<=x):Vc (Dw x,Dw y,())=some (Dw (x-y),0,()):=by
 show eY Pu.pre Pu.F CX.pre CX.F Bq.pre Bq.F Ct.pre Ct.F Ah.pre Ah.F Sk.pre Sk.F (Dw x) (Dw y)=_;unfold eY;have hy:y<(2^64)^5000:=ax h hx;have p0:=j9 hx hy;have p1:=xI (dg (2^64) x) (Dd hx);rw[CA]at p1;have p1:Q1 (Dw x,())=some (Dw x,()):=p1;have p2:=Ss hy;have z1:decide ((if x=y then(0:Int)else if x<y then -1 else 1)<0)=false:=by
  by_cases he:x=y
  ·rw[if_pos he];rfl
  ·rw[if_neg he,if_neg (by omega)];rfl
 have hX:=Dd hx;have hY:=Dd hy;have hlx:=hX.2;have p3:U2 (Dw x,Dw y,())=some (Dw (x-y),()):=by
  show eK BG.pre BG.F AW.pre AW.F Ah.pre Ah.F V5 (Dw x) (Dw y)=_;unfold eK;have hw:=aNP (dg (2^64) x) (dg (2^64) y) hX.1 hY.1 hlx (aEE (by decide) h) (by rw[CA,CA];exact h);rw[CA,CA]at hw;have q1:=xL (pd (2^64) (dg (2^64) x).length (x-y)) (by rw[FD];exact hlx);have hlt:=WN (B:=2^64) (by decide) x;rw[Gp (by decide) _ (T6 (by decide) _ _),T7 (by decide) _ _ (by omega)]at q1;rw[show(Dw x).length=(dg (2^64) x).length from AF _];rw[show V5 ((((dg (2^64) x).length:Int),(Dw y,((0:Int),((0:Int),((),()))))),(Dw x,()))=_ from hw];show(bif BG.pre (Wd (pd (2^64) (dg (2^64) x).length (x-y)),())then some (BG.F (Wd (pd (2^64) (dg (2^64) x).length (x-y)),()))else none)=_;simp only[aG5 q1,aFr q1,cond_true];rfl
 simp only[rH p0,pF p0,cond_true,z1,cond_false,rF p1,pD p1,CU p2,CT p2,aTQ p3,aRr p3]
def od(s:Bool)(n:Nat)(e:Int):Bool×Nat×Int:=if n=0 then(false,0,0)else(s,n/2^tz n,e+tz n)
def Tg(t:Bool×Nat×Int):tI:=dy t.1 t.2.1 t.2.2
theorem RR(s:Bool)(n:Nat)(e:Int):(od s n e=(false,0,0)/\n=0)∨((od s n e).1=s/\(od s n e).2.1%2=1/\n≠0/\n=2^tz n*(od s n e).2.1/\(od s n e).2.2=e+tz n):=by
 unfold od;by_cases h:n=0
 ·rw[if_pos h];exact .inl ⟨rfl,h⟩
 ·right;rw[if_neg h];obtain⟨k,hk⟩:=iQ h;have hd:n/2^tz n=2*k+1:=by
   have:=gg (2*k+1) (aj (tz n));rw[←hk]at this;exact this
  dsimp only;rw[hd];exact⟨rfl,by omega,h,hk,rfl⟩
theorem tA{n k:Nat}(h:n<2^k)(h0:n≠0):tz n<k:=by
 obtain⟨j,hj⟩:=iQ h0;have h1:2^tz n*1<=2^tz n*(2*j+1):=cm _ (by omega);exact(cd (a:=2) (by decide)).1 (by omega)
theorem aQi{n k:Nat}(h:n<2^k)(hk:k<=64*2000):n<(2^64)^2000:=by
 rw[C6];exact al h (ak (by decide) hk)
theorem j8{x y:Nat}(hx:x<(2^64)^5000)(hy:y<(2^64)^5000):Q3 (Dw x,Dw y,())=some (Dw (x+y),()):=by
 have h1:(dg (2^64) x).length<=5000:=DH (by decide) _ _ hx;have h2:(dg (2^64) y).length<=5000:=DH (by decide) _ _ hy;have:=xQ (dg (2^64) x) (dg (2^64) y) (Dd hx) (Dd hy) (by rw[Ql (by decide)];omega) (by rw[Ql (by decide)];omega);rw[CA,CA]at this;exact this
end VL
namespace VL
open Go Vx
theorem Yt{x:Nat}(h0:x≠0)(h:x<2^64):Dw x=(x:Int)::[]:=by
 unfold Dw;rw[Fw (by decide) (by omega),be h,cq h,DI];rfl
theorem zF{f:Int}{a:Nat}(h:Ak f a=0)(hfin:eF f a≠C2 f):VH (f,(a:Int),())=some (Tg (od (sF f a) (Aw f a) (Au f a)),0,()):=by
 obtain⟨hf,h0⟩:=Hl h;have ha:=T5 h;show gL Ao.pre Ao.F C9.pre C9.F Bk.pre Bk.F BW.pre BW.F f a=_;unfold gL;have h1:=Fx hf;have h2:=Gk hf;have h3:=Fy hf;have h4:=RC hf;have h5:=LC hf;have h6:=Tj hf;have hE:=cA hf a;have hM:=cU f a;have hPp:2^(fP f-1)<=2^52:=ak (by decide) (by omega);have hpp:=aj (fP f-1);have p0:=IQ f a ha;have p1:=Zy (fW f-fP f) (by omega);have p2:=kF hf a ha;have hr1:decide (0<=f)=true:=decide_eq_true hf.1;have hr2:decide (f<((4:Nat):Int))=true:=decide_eq_true hf.2;have r1:(BT f).1=(fW f:Int):=rfl;have r2:(BT f).2.1=(fP f:Int):=rfl;have r3:(BT f).2.2.1=1-(fX f:Int):=rfl;have e1:aa .i64 ((fW f:Int)-(fP f:Int))=((fW f-fP f:Nat):Int):=Cd _ _ (by omega);have e2:aa .i64 ((fP f:Int)-1)=((fP f-1:Nat):Int):=BI _ (by omega);have e3:A4 .u64 1 ((fP f-1:Nat):Int)=((2^(fP f-1):Nat):Int):=XN (by omega);have e4:An .u64 (mF f a:Int) ((2^(fP f-1):Nat):Int)=((mF f a+2^(fP f-1):Nat):Int):=by
  have:=LQ (a:=mF f a) (b:=1) (k:=fP f-1) hM (by omega);rwa [fu]at this
 have hfl:(((eF f a:Nat):Int)==((2^(fW f-fP f)-1:Nat):Int))=false:=by
  rw[RO];exact beq_eq_false_iff_ne.2 hfin
 have ew:∀z:Int,-1000000<=z/\z<=1000000->aa .i64 z=z:=fun z hz=>Ax (by omega);simp only[sB hf,r1,r2,r3,hr1,hr2,Hy p0,Hq p0,rO p2,pM p2,h,cond_true,bne_self_eq_false,cond_false,e1,e2,e3,e4,dL p1,cO p1,hfl,A8];by_cases hz:eF f a=0
 ·have hg:(((eF f a:Nat):Int)==0)=true:=BX _ hz;have hm:Aw f a=mF f a:=by unfold Aw;rw[if_pos hz]
  have hx:Au f a=1-(fX f:Int)-(fP f:Int)+1:=by unfold Au;rw[if_pos hz,mg]
  rw[hg,cond_true,hm,hx];by_cases hm0:mF f a=0
  ·rw[BX _ hm0,cond_true];unfold od Tg;rw[if_pos hm0,aQX]
  ·obtain⟨k,hk⟩:=iQ hm0;have htl:=tA (n:=mF f a) (k:=53) (by omega) hm0;have p3:=kG (t:=tz (mF f a)) (k:=k) (by omega);rw[←hk]at p3;have hq:mF f a/2^tz (mF f a)≠0:=by
    have:=gg (2*k+1) (aj (tz (mF f a)));rw[←hk]at this;omega
   have hql:=fa (mF f a) (2^tz (mF f a));rw[Bi _ hm0,cond_false];simp only[rP p3,pN p3,cond_true,A8,DP (mF f a) (tz (mF f a)) (by omega)];rw[←Yt hq (by omega)];unfold od Tg dy;rw[if_neg hm0];rw[ew 1 (by omega),ew (1-1) (by omega),ew (1-1+_) (by omega),ew (1-1+_-_) (by omega),ew (1-1+_-_+1) (by omega),ew _ (by omega)];rw[show(1:Int)-1+(1-(fX f:Int))-(fP f:Int)+1+(tz (mF f a):Int)=1-(fX f:Int)-(fP f:Int)+1+(tz (mF f a):Int) by omega]
 ·have hg:(((eF f a:Nat):Int)==0)=false:=Bi _ hz;have hm:Aw f a=mF f a+2^(fP f-1):=by unfold Aw;rw[if_neg hz]
  have hx:Au f a=1-(fX f:Int)-(fP f:Int)+1+((eF f a:Int)-1):=by unfold Au;rw[if_neg hz]
  rw[hg,cond_false,hm,hx];have hm0:mF f a+2^(fP f-1)≠0:=by omega
  have hml:mF f a+2^(fP f-1)<2^54:=by omega
  generalize mF f a+2^(fP f-1)=n at *
  obtain⟨k,hk⟩:=iQ hm0;have htl:=tA hml hm0;have p3:=kG (t:=tz n) (k:=k) (by rw[←hk];omega);rw[←hk]at p3;have hq:n/2^tz n≠0:=by
   have:=gg (2*k+1) (aj (tz n));rw[←hk]at this;omega
  have hql:=fa n (2^tz n);rw[Bi _ hm0,cond_false];simp only[rP p3,pN p3,cond_true,A8,DP n (tz n) (by omega)];rw[←Yt hq (by omega)];unfold od Tg dy;rw[if_neg hm0];rw[ew (eF f a:Int) (by omega),ew ((eF f a:Int)-1) (by omega),ew ((eF f a:Int)-1+_) (by omega),ew ((eF f a:Int)-1+_-_) (by omega),ew ((eF f a:Int)-1+_-_+1) (by omega),ew _ (by omega)];rw[show(eF f a:Int)-1+(1-(fX f:Int))-(fP f:Int)+1+(tz n:Int)=1-(fX f:Int)-(fP f:Int)+1+((eF f a:Int)-1)+(tz n:Int) by omega]
theorem aGL(s:Bool){n:Nat}(e:Int)(hn:n<2^53)(he:-2000<=e/\e<=2000):(od s n e).2.1<2^53/\-2500<=(od s n e).2.2/\(od s n e).2.2<=2500:=by
 rcases RR s n e with⟨h,_⟩|⟨_,h2,h3,h4,h5⟩
 ·rw[h];exact⟨aj _,by dsimp only;omega,by dsimp only;omega⟩
 ·have hle:(od s n e).2.1<=n:=by
   have:=ku (od s n e).2.1 (aj (tz n));omega
  have:=tA hn h3;refine⟨by omega,by omega,by omega⟩
end VL
namespace VL
open Go Vx
theorem aHt{f:Int}(hf:Fm f):qm f<=0:=by
 have:=Tj hf;have:=Fx hf;unfold qm;omega
end VL
namespace VL
open Go Vx
def Bd(f:Int)(n:Nat)(e:Int):Prop:=qm f<=e/\e<=6000/\n*2^(e-qm f).toNat<2^5000
theorem Bd.lt{f:Int}{n:Nat}{e:Int}(h:Bd f n e):n<2^5000:=by
 have:=fe n (aj (e-qm f).toNat);exact ax this h.2.2
theorem Bd.od{f:Int}(hf:Fm f){n:Nat}{e:Int}(s:Bool)(h:Bd f n e):Bd f (VL.od s n e).2.1 (VL.od s n e).2.2:=by
 rcases RR s n e with⟨hz,_⟩|⟨_,h2,h3,h4,h5⟩
 ·rw[hz];exact⟨aHt hf,by dsimp only;omega,by dsimp only;rw[fk];exact aj _⟩
 ·have hle:2^(tz n+(e-qm f).toNat)<=n*2^(e-qm f).toNat:=by
   rw[bb];refine au _ ?_;have:=fe (2^tz n) (show 0<(VL.od s n e).2.1 by omega);omega
  have hlt:=(cd (a:=2) (by decide)).1 (ax hle h.2.2);have hq:=aHt hf;have h1:=h.1;refine⟨by omega,by omega,?_⟩;have e1:(VL.od s n e).2.1*2^((VL.od s n e).2.2-qm f).toNat=n*2^(e-qm f).toNat:=by
   rw[h5,show(e+(tz n:Int)-qm f).toNat=tz n+(e-qm f).toNat by omega,bb,←aw,ar _ (2^tz n),←h4]
  rw[e1];exact h.2.2
end VL
namespace VL
open Go Vx
structure Hid (p:Prop):Prop where
 out:p
end VL
namespace VL
open Go Vx
theorem XM{l:List Nat}{j v:Nat}(hj:j<l.length)(h:l.getD j 0=v):l.set j v=l:=by
 rw[ai,av hj,Option.getD_some]at h;subst h;exact List.set_getElem_self hj
end VL
namespace VL
open Go Vx
theorem Hi{n k:Nat}(h:n<2^k)(hk:k<=64*5000):n<(2^64)^5000:=by
 rw[C6];exact al h (ak (by decide) hk)
theorem aJR(n:Nat):((((Dw n).length:Nat):Int)==0)=decide (n=0):=by
 by_cases h:n=0
 ·subst h;rw[Ew];rfl
 ·rw[decide_eq_false h];exact Bi _ (by have:=Ys h;omega)
end VL
namespace VL
open Go Vx
def aEv(far n:Int):Int:=if(if far<n then far else n)>-far then(if far<n then far else n)else -far
def aYq(f m:Int)(a:Nat)(n:Int):DenS J2:=if ¬Fm f then(0,0,2,())else if m<0∨m>5 then(0,0,3,())else if Ak f a≠0 then(0,0,Ak f a,())else bif nan f a then((Cp f:Int),(bif Bu f a then 1 else 0),0,())else if eF f a=C2 f∨Lr f a=0 then((a:Int),0,0,())else(((Ba f m (sF f a) (Aw f a) (Au f a+aEv 5000 n) false).1:Int),((Ba f m (sF f a) (Aw f a) (Au f a+aEv 5000 n) false).2:Int),0,())
end VL
namespace VL
open Go Vx
theorem Wx{x:Nat}(h:x<2^64):Bs .u64 (x:Int) 4294967295=((x%2^32:Nat):Int):=WD (n:=32) h (by decide)
theorem RY(x:Nat):AJ .u64 (x:Int) 32=((x/2^32:Nat):Int):=by
 have h:=aHY (a:=(x:Int)) 32 (by decide);rw[show((32:Nat):Int)=32 from rfl]at h;rw[h];norm_cast
theorem aSQ{x0 x1 y0 y1:Nat}(h0:x0<2^32)(h1:x1<2^32)(k0:y0<2^32)(k1:y1<2^32):
  ((x1*y1%2^64+(x1*y0%2^64+x0*y0%2^64/2^32)%2^64/2^32)%2^64+((x1*y0%2^64+x0*y0%2^64/2^32)%2^64%2^32+x0*y1%2^64)%2^64/2^32)%2^64=(x0+2^32*x1)*(y0+2^32*y1)/2^64:=by
 have b00:x0*y0<=(2^32-1)*(2^32-1):=iq (by omega) (by omega);have b01:x0*y1<=(2^32-1)*(2^32-1):=iq (by omega) (by omega);have b10:x1*y0<=(2^32-1)*(2^32-1):=iq (by omega) (by omega);have b11:x1*y1<=(2^32-1)*(2^32-1):=iq (by omega) (by omega);have e1:x0*(2^32*y1)=2^32*(x0*y1):=gz _ _ _;have e2:2^32*x1*y0=2^32*(x1*y0):=aw _ _ _;have e3:2^32*x1*(2^32*y1)=2^64*(x1*y1):=by
  rw[aw,gz x1,←aw]
 rw[cg,bt,bt,e1,e2,e3];generalize x0*y0=a at *
 generalize x0*y1=b at *
 generalize x1*y0=c at *
 generalize x1*y1=d at *
 have ha:a%2^64=a:=be (by omega);have hb:b%2^64=b:=be (by omega);have hc:c%2^64=c:=be (by omega);have hd:d%2^64=d:=be (by omega);rw[ha,hb,hc,hd];have ht:(c+a/2^32)%2^64=c+a/2^32:=be (by omega);rw[ht];generalize hT:c+a/2^32=t;have hw:(t%2^32+b)%2^64=t%2^32+b:=be (by omega);rw[hw];have hq:(d+t/2^32)%2^64=d+t/2^32:=be (by omega);rw[hq];omega
theorem kC{x y:Nat}(hx:x<2^64)(hy:y<2^64):Vn ((x:Int),(y:Int),())=some (((x*y/2^64:Nat):Int),((x*y%2^64:Nat):Int),()):=by
 show fU (x:Int) (y:Int)=_;unfold fU;dsimp only;rw[Wx hx,Wx hy,RY x,RY y];have hm:∀z:Nat,z%2^64<2^64:=fun z=>bv _ (by decide);have am:∀z:Nat,Bs .u64 ((z%2^64:Nat):Int) 4294967295=((z%2^64%2^32:Nat):Int):=fun z=>Wx (hm z);have wm:∀a b:Nat,aa .u64 ((a:Int)*(b:Int))=((a*b%2^64:Nat):Int):=fun a b=>by rw[←ko];exact iT _
 have wa:∀a b:Nat,aa .u64 ((a:Int)+(b:Int))=(((a+b)%2^64:Nat):Int):=fun a b=>by rw[←my];exact iT _
 simp only[wm,wa,RY,am];have e:=aSQ (x0:=x%2^32) (x1:=x/2^32) (y0:=y%2^32) (y1:=y/2^32) (by omega) (by omega) (by omega) (by omega);rw[kt,kt]at e;rw[e]
theorem aNo{x y:Nat}(hx:x<2^64)(hy:y<2^64):Vo ((x:Int),(y:Int),())=some (Wi (x*y),()):=by
 show fV AN.pre AN.F (x:Int) (y:Int)=_;unfold fV;have p:=kC hx hy;simp only[rM p,pK p,cond_true];rfl
def BJ(f:Int)(a:Nat):Bool:=eF f a==0&&mF f a==0
theorem aEw{f:Int}(hf:Fm f)(a:Nat):(BN f a==5||BN f a==6)=BJ f a:=by
 have hp:=aRo hf;have hne:(eF f a==C2 f&&eF f a==0)=false:=by
  cases h:eF f a==C2 f
  ·rfl
  ·have:=beq_iff_eq.1 h;rw[bj,this];exact beq_eq_false_iff_ne.2 (by omega)
 unfold BN BJ;cases h1:eF f a==C2 f<;>cases h2:eF f a==0<;>rw[h1,h2]at hne<;>cases mF f a==0<;>cases sF f a<;>cases mF f a/2^(fP f-2)!=0<;>first|rfl|cases hne
theorem aZc{f:Int}(hf:Fm f){a:Nat}(h:eF f a=0):
  aa .i64 (aa .i64 (aa .i64 (aa .i64 (aa .i64 (1:Int)-1)+(1-(fX f:Int)))-(fP f:Int))+1)=Au f a:=by
 have h3:=LC hf;have h4:=RC hf;unfold Au;rw[if_pos h,show aa .i64 (1:Int)=1 from rfl,Ax (n:=(1:Int)-1) (by omega),Ax (n:=(1:Int)-1+(1-(fX f:Int))) (by omega),Ax (n:=(1:Int)-1+(1-(fX f:Int))-(fP f:Int)) (by omega),Ax (by omega)];omega
theorem aZb{f:Int}(hf:Fm f){a:Nat}(h:eF f a≠0):
  aa .i64 (aa .i64 (aa .i64 (aa .i64 (aa .i64 (eF f a:Int)-1)+(1-(fX f:Int)))-(fP f:Int))+1)=Au f a:=by
 have h3:=LC hf;have h4:=RC hf;have hE:=cA hf a;unfold Au;rw[if_neg h,Ax (n:=(eF f a:Int)) (by omega),Ax (n:=(eF f a:Int)-1) (by omega),Ax (n:=(eF f a:Int)-1+(1-(fX f:Int))) (by omega),Ax (n:=(eF f a:Int)-1+(1-(fX f:Int))-(fP f:Int)) (by omega),Ax (by omega)];omega
theorem aSM{f:Int}(hf:Fm f)(a:Nat):An .u64 (mF f a:Int) (A4 .u64 1 (aa .i64 ((fP f:Int)-1)))=((mF f a+2^(fP f-1):Nat):Int):=by
 have h1:=Fx hf;have h3:=LC hf;have hM:=cU f a;have hPp:2^(fP f-1)<=2^52:=ak (by decide) (by omega);have e0:aa .i64 ((fP f:Int)-1)=((fP f-1:Nat):Int):=BI _ (by omega);have e3:A4 .u64 1 ((fP f-1:Nat):Int)=((2^(fP f-1):Nat):Int):=XN (by omega);rw[e0,e3];have:=LQ (a:=mF f a) (b:=1) (k:=fP f-1) hM (by omega);rwa [fu]at this
theorem yJ{f:Int}{a:Nat}(h:Ak f a=0):Sw (f,BT f,(a:Int),())=some ((BN f a,sF f a,(Aw f a:Int),Au f a,()),0,()):=by
 obtain⟨hf,h0⟩:=Hl h;have ha:=T5 h;show Ui AS.pre AS.F BM.pre BM.F f (BT f) a=_;unfold Ui;have p1:=Zw ha h;have p2:=kI h;have h1:=Fx hf;have h3:=LC hf;have r1:(BT f).2.1=(fP f:Int):=rfl;have r2:(BT f).2.2.1=1-(fX f:Int):=rfl;have e0:decide (0<=aa .i64 ((fP f:Int)-1))=true:=by
  rw[BI _ (by omega)];exact A8 _
 simp only[QF p1,Qw p1,rR p2,pP p2,cond_true,bne_self_eq_false,cond_false,r1,r2,e0];by_cases hz:eF f a=0
 ·rw[BX _ hz,cond_true,aZc hf hz];have hm:Aw f a=mF f a:=by unfold Aw;rw[if_pos hz]
  rw[hm]
 ·rw[Bi _ hz,cond_false,aZb hf hz,aSM hf];have hm:Aw f a=mF f a+2^(fP f-1):=by unfold Aw;rw[if_neg hz]
  rw[hm]
theorem yI{f:Int}{a:Nat}(ha:a<2^64)(h:Ak f a≠0):Sw (f,BT f,(a:Int),())=some ((0,false,0,0,()),Ak f a,()):=by
 show Ui AS.pre AS.F BM.pre BM.F f (BT f) a=_;unfold Ui;have p1:=kE ha h;have e:(Ak f a !=0)=true:=bne_iff_ne.2 h;simp only[QF p1,Qw p1,cond_true,e]
def qL(f m:Int)(a b:Nat):Int×Int×Int×Unit:=bif nan f a||nan f b then((Cp f:Int),(bif Bu f a||Bu f b then 1 else 0),0,())else bif(AD f a&&BJ f b)||(BJ f a&&AD f b)then((Cp f:Int),1,0,())else bif AD f a||AD f b then((DL f (!(sF f a==sF f b)):Int),0,0,())else bif BJ f a||BJ f b then((Ca f (!(sF f a==sF f b)):Int),0,0,())else(((Ba f m (!(sF f a==sF f b)) (Aw f a*Aw f b) (Au f a+Au f b) false).1:Int),((Ba f m (!(sF f a==sF f b)) (Aw f a*Aw f b) (Au f a+Au f b) false).2:Int),0,())
def TT(f m:Int)(a b:Nat):Int×Int×Int×Unit:=if ¬Fm f then(0,0,2,())else if m<0∨m>5 then(0,0,3,())else if Ak f a≠0 then(0,0,Ak f a,())else if Ak f b≠0 then(0,0,Ak f b,())else qL f m a b
theorem iW{f:Int}{a:Nat}(h:BJ f a=false):Aw f a≠0:=by
 unfold BJ at h;unfold Aw;by_cases hz:eF f a=0
 ·rw[if_pos hz];intro hm;rw[hz,hm]at h;cases h
 ·rw[if_neg hz];have:=aj (fP f-1);omega
theorem aNu(f m:Int){a b:Nat}(ha:a<2^64)(hb:b<2^64):VA (f,m,(a:Int),(b:Int),())=some (TT f m a b):=by
 show gD Al.pre Al.F Py.pre Py.F Pz.pre Pz.F AO.pre AO.F PA.pre PA.F Cv.pre Cv.F PD.pre PD.F Bp.pre Bp.F DF.pre DF.F BH.pre BH.F f m a b=_;unfold gD TT;dsimp only;by_cases hf:¬Fm f
 ·have p0:=KT hf;rw[if_pos hf];simp only[C7 p0,C3 p0,cond_true];rfl
 have hf:=ib.1 hf;have p0:=IR hf;rw[if_neg (show ¬¬Fm f from fun h=>h hf)];simp only[C7 p0,C3 p0,cond_true,bne_self_eq_false,cond_false];by_cases hm:m<0∨m>5
 ·rw[if_pos hm];have:(decide (m<0)||decide (m>5))=true:=by rcases hm with h|h<;>simp[h]
  rw[this,cond_true]
 rw[if_neg hm];have hm':0<=m/\m<=5:=by omega
 have:(decide (m<0)||decide (m>5))=false:=by simp;omega
 rw[this,cond_false];by_cases hca:Ak f a≠0
 ·have p1:=yI ha hca;have e:(Ak f a !=0)=true:=bne_iff_ne.2 hca;rw[if_pos hca];simp only[dF p1,cG p1,cond_true,e]
 have hca:=ib.1 hca;have p1:=yJ hca;rw[if_neg (show ¬Ak f a≠0 from fun h=>h hca)];simp only[dF p1,cG p1,cond_true,bne_self_eq_false,cond_false];by_cases hcb:Ak f b≠0
 ·have p2:=yI hb hcb;have e:(Ak f b !=0)=true:=bne_iff_ne.2 hcb;rw[if_pos hcb];simp only[dF p2,cG p2,cond_true,e]
 have hcb:=ib.1 hcb;have p2:=yJ hcb;rw[if_neg (show ¬Ak f b≠0 from fun h=>h hcb)];have n351:∀(c:Int) (s:Bool) (n e:Int),Vw ((c,s,n,e,()),())=some ((c==1||c==0),()):=fun _ _ _ _=>rfl;have n352:∀(c:Int) (s:Bool) (n e:Int),Vy ((c,s,n,e,()),())=some ((c==2||c==9),()):=fun _ _ _ _=>rfl;have n353:∀(c:Int) (s:Bool) (n e:Int),Vz ((c,s,n,e,()),())=some ((c==5||c==6),()):=fun _ _ _ _=>rfl;have q1:=n351 (BN f a) (sF f a) (Aw f a:Int) (Au f a);have q2:=n351 (BN f b) (sF f b) (Aw f b:Int) (Au f b);have q3:=n352 (BN f a) (sF f a) (Aw f a:Int) (Au f a);have q4:=n352 (BN f b) (sF f b) (Aw f b:Int) (Au f b);have q5:=n353 (BN f a) (sF f a) (Aw f a:Int) (Au f a);have q6:=n353 (BN f b) (sF f b) (Aw f b:Int) (Au f b);rw[bL]at q1 q2;rw[oH]at q3 q4;rw[aEw hf]at q5 q6;have s:=!(sF f a==sF f b);have p3:=Zx hf;have p4:=kH hf (!(sF f a==sF f b));have p5:=U4 hf (!(sF f a==sF f b));have ma:=TR hf a;have mb:=TR hf b;have xa:=Up hf a;have xb:=Up hf b;have hprod:Aw f a*Aw f b<2^128:=al (Nat.mul_lt_mul'' ma mb) (by decide);have p6:=aNo (x:=Aw f a) (y:=Aw f b) (jc ma (by decide)) (jc mb (by decide));have p7:=U7 hf hm' (!(sF f a==sF f b)) (Aw f a*Aw f b) hprod (Au f a+Au f b) (by omega) false (fun h=>by cases h);have ew:aa .i64 (Au f a+Au f b)=Au f a+Au f b:=Ax (by omega);simp only[dF p2,cG p2,cond_true,bne_self_eq_false,cond_false,aHd q1,aFz q1,aHd q2,aFz q2,aHe q3,aFA q3,aHe q4,aFA q4,aHf q5,aFB q5,aHf q6,aFB q6,dK p3,cN p3,rQ p4,pO p4,Xy p5,W0 p5,aT2 p6,aRD p6,ew,Xz p7,W1 p7,bh,bM];unfold qL;cases h1:nan f a||nan f b
 ·simp only[cond_false];cases h2:AD f a&&BJ f b||BJ f a&&AD f b
  ·simp only[cond_false];cases h3:AD f a||AD f b
   ·simp only[cond_false];cases h4:BJ f a||BJ f b
    ·simp only[cond_false];simp only[li]at h4;rw[if_neg (Nat.mul_ne_zero (iW h4.1) (iW h4.2))]
    ·simp only[cond_true]
   ·simp only[cond_true]
  ·simp only[cond_true]
 ·simp only[cond_true];cases Bu f a||Bu f b<;>rfl
end VL
namespace VL
open Go Vx
theorem aQ5(n:Nat):∃r,r*r<=n/\n<(r+1)*(r+1):=by
 induction n with
 |zero=>exact⟨0,by decide,by decide⟩
 |succ n ih=>
  obtain⟨r,h1,h2⟩:=ih;by_cases h:n+1<(r+1)*(r+1)
  ·exact⟨r,by omega,h⟩
  ·refine⟨r+1,by omega,?_⟩;have:(r+1+1)*(r+1+1)=(r+1)*(r+1)+2*(r+1)+1:=by
    rw[bt (r+1+1),cg (r+1) 1 (r+1)];omega
   omega
def cT(n:Nat):Nat:=Classical.choose (aQ5 n)
def aHG(f m:Int)(X:Nat)(E:Int):Nat×Nat:=if cT X*cT X=X then Ba f m false (cT X) E false else Ba f m false (2*cT X+1) (E-1) false
end VL
namespace VL
open Go Vx
def LP(f:Int)(l:List Nat):Bool:=l.all fun a=>Ak f a==0
theorem oE{f:Int}(hf:Fm f)(a:Nat):Ak f a=0∨Ak f a=4:=by
 unfold Ak;rw[if_pos hf];split<;>simp
def Eo(f m:Int)(l:List Nat):Int:=if ¬Fm f then 2 else if m<0∨m>5 then 3 else bif LP f l then 0 else 4
def aHH(f m:Int)(n:Nat)(e:Int):Nat×Nat:=if e%2=1 then aHG f m (n*2*2^200) ((e-1)/2-100)else aHG f m (n*2^200) (e/2-100)
def aYA(f m:Int)(a:Nat):Int×Int×Int×Unit:=if Eo f m [a]≠0 then(0,0,Eo f m [a],())else bif nan f a then((Cp f:Int),(bif Bu f a then 1 else 0),0,())else bif sF f a&&!BJ f a then((Cp f:Int),1,0,())else bif BJ f a||AD f a then((a:Int),0,0,())else(((aHH f m (Aw f a) (Au f a)).1:Int),((aHH f m (Aw f a) (Au f a)).2:Int),0,())
end VL
namespace VL
open Go Vx
theorem aEJ{q r yn1 yn0 u u1:Nat}(hq:q*yn1+r=u):(2^32*r+u1<q*yn0)↔u*2^32+u1<q*(yn1*2^32+yn0):=by
 rw[bt,←aw,←hq,cg];omega
theorem aEG{q r yn1 yn0 u u1:Nat}(hq:q*yn1+r=u)(hr:r<2^32)(h0:yn0<2^32)(hu1:u1<2^32)(hlt:u<yn1*2^32+yn0):
  (decide ((q:Int)>=4294967296)||decide (aa .u64 ((q:Int)*(yn0:Int))>aa .u64 (aa .u64 ((4294967296:Int)*(r:Int))+(u1:Int))))=decide (u*2^32+u1<q*(yn1*2^32+yn0)):=by
 rcases aq q (2^32)with h|h
 ·have hm:q*yn0<=(2^32-1)*(2^32-1):=iq (by omega) (by omega);have e1:aa .u64 ((q:Int)*(yn0:Int))=((q*yn0:Nat):Int):=tF _ _ (by omega);have e2:aa .u64 ((4294967296:Int)*(r:Int))=((2^32*r:Nat):Int):=tF (2^32) r (by omega);have e3:aa .u64 (((2^32*r:Nat):Int)+(u1:Int))=((2^32*r+u1:Nat):Int):=iU _ _ (by omega);have e4:decide ((q:Int)>=4294967296)=false:=decide_eq_false (by omega);rw[e1,e2,e3,e4,co,ej,decide_eq_true_eq,decide_eq_true_eq,←aEJ hq];omega
 ·have e4:decide ((q:Int)>=4294967296)=true:=decide_eq_true (by omega);have hm:2^32*(yn1*2^32+yn0)<=q*(yn1*2^32+yn0):=au _ h;rw[e4,bh,decide_eq_true (by omega)]
theorem aEI{yn1 yn0 u u1:Nat}(hy:0<yn1)(hu1:u1<2^32):u*2^32+u1<(u/yn1+1)*(yn1*2^32+yn0):=by
 have h1:u<(u/yn1+1)*yn1:=by
  have:=Nat.lt_div_mul_add hy (a:=u);rw[cg,fu];exact this
 rw[bt,←aw];omega
theorem aEH{q r yn1 yn0 u u1:Nat}(hq:q*yn1+r=u)(h:u*2^32+u1<q*(yn1*2^32+yn0)):1<=q/\(q-1)*yn1+(r+yn1)=u:=by
 have h1:1<=q:=by
  rcases ba q with h0|h0
  ·rw[h0,fk]at h;omega
  ·exact h0
 refine⟨h1,?_⟩;obtain⟨p,rfl⟩:∃p,q=p+1:=⟨q-1,by omega⟩
 rw[cg,fu]at hq;rw[show p+1-1=p by omega];omega
theorem aEF{q r yn1 yn0 u u1:Nat}(hq:q*yn1+r=u)(hr:2^32<=r)(h0:yn0<2^32)(hlt:u<yn1*2^32+yn0):q*(yn1*2^32+yn0)<=u*2^32+u1:=by
 have h1:q*yn1<2^32*yn1:=by omega
 have h2:q<2^32:=Nat.lt_of_mul_lt_mul_right h1;have h3:q*yn0<=2^32*(2^32-1):=iq (by omega) (by omega);have h4:¬2^32*r+u1<q*yn0:=by omega
 rw[aEJ hq]at h4;omega
theorem bT{a b q:Nat}(h1:q*b<=a)(h2:a<(q+1)*b):a/b=q:=Nat.div_eq_of_lt_le h1 h2
theorem aNY{u u1 yn0 yn1:Nat}(h0:yn0<2^32)(h1:yn1<2^32)(hy:0<yn1)(hu1:u1<2^32)(hlt:u<yn1*2^32+yn0)(u0 y s:Int):
  ZH ((((u%yn1:Nat):Int),((u:Int),((u1:Int),((yn0:Int),((yn1:Int),(((u/yn1:Nat):Int),(u0,(y,(s,()))))))))),()) =
   some (.inl (((u:Int),((u1:Int),((yn0:Int),((yn1:Int),((((u*2^32+u1)/(yn1*2^32+yn0):Nat):Int),(u0,(y,(s,())))))))),())):=by
 have key:=Er (aGm Br.pre Br.F) (fun x=>x.1.2.2.2.2.2.1.toNat)
  (fun x=>∃q r:Nat,q*yn1+r=u/\r<2^32/\u*2^32+u1<(q+1)*(yn1*2^32+yn0)/\x=(((r:Int),((u:Int),((u1:Int),((yn0:Int),((yn1:Int),((q:Int),(u0,(y,(s,()))))))))),()))
  (fun _=>.inl (((u:Int),((u1:Int),((yn0:Int),((yn1:Int),((((u*2^32+u1)/(yn1*2^32+yn0):Nat):Int),(u0,(y,(s,())))))))),())) ?_ _
  ⟨u/yn1,u%yn1,by rw[ar];exact ci u yn1,jc (bv _ hy) h1,aEI hy hu1,rfl⟩
 ·exact key
 intro L x hx hL;obtain⟨q,r,hq,hr,hup,rfl⟩:=hx;unfold TC;have hqu:q<=u:=by
  have:=fe q hy;omega
 dsimp only;rw[aEG hq hr h0 hu1 hlt];by_cases hc:u*2^32+u1<q*(yn1*2^32+yn0)
 ·obtain⟨d1,d2⟩:=aEH hq hc;have e1:aa .u64 ((q:Int)-1)=((q-1:Nat):Int):=by rw[Ev (by omega)];omega
  have e2:aa .u64 ((r:Int)+(yn1:Int))=((r+yn1:Nat):Int):=iU _ _ (by omega);rw[decide_eq_true hc,cond_true,e1,e2];by_cases hb:2^32<=r+yn1
  ·have e3:decide (((r+yn1:Nat):Int)>=4294967296)=true:=decide_eq_true (by omega);rw[e3,cond_true];have:=aEF (u1:=u1) d2 hb h0 hlt;rw[bT this (by rw[show q-1+1=q by omega];exact hc)]
  ·have e3:decide (((r+yn1:Nat):Int)>=4294967296)=false:=decide_eq_false (by omega);rw[e3,cond_false];exact hL _ ⟨q-1,r+yn1,d2,by omega,by rw[show q-1+1=q by omega];exact hc,rfl⟩ (by simp only[ag];omega)
 ·rw[decide_eq_false hc,cond_false,bT (by omega) hup]
theorem aNZ{u u1 yn0 yn1:Nat}(h0:yn0<2^32)(h1:yn1<2^32)(hy:0<yn1)(hu1:u1<2^32)(hlt:u<yn1*2^32+yn0)(q1 y s:Int):
  ZI (((yn0:Int),(((u%yn1:Nat):Int),((yn1:Int),(q1,((u:Int),((u1:Int),(((u/yn1:Nat):Int),(y,(s,()))))))))),()) =
   some (.inl ((q1,((u:Int),((u1:Int),((((u*2^32+u1)/(yn1*2^32+yn0):Nat):Int),(y,(s,())))))),())):=by
 have key:=Er (aGn Br.pre Br.F) (fun x=>x.1.2.2.2.2.2.2.1.toNat)
  (fun x=>∃q r:Nat,q*yn1+r=u/\r<2^32/\u*2^32+u1<(q+1)*(yn1*2^32+yn0)/\x=(((yn0:Int),((r:Int),((yn1:Int),(q1,((u:Int),((u1:Int),((q:Int),(y,(s,()))))))))),()))
  (fun _=>.inl ((q1,((u:Int),((u1:Int),((((u*2^32+u1)/(yn1*2^32+yn0):Nat):Int),(y,(s,())))))),())) ?_ _
  ⟨u/yn1,u%yn1,by rw[ar];exact ci u yn1,jc (bv _ hy) h1,aEI hy hu1,rfl⟩
 ·exact key
 intro L x hx hL;obtain⟨q,r,hq,hr,hup,rfl⟩:=hx;unfold TD;have hqu:q<=u:=by
  have:=fe q hy;omega
 dsimp only;rw[aEG hq hr h0 hu1 hlt];by_cases hc:u*2^32+u1<q*(yn1*2^32+yn0)
 ·obtain⟨d1,d2⟩:=aEH hq hc;have e1:aa .u64 ((q:Int)-1)=((q-1:Nat):Int):=by rw[Ev (by omega)];omega
  have e2:aa .u64 ((r:Int)+(yn1:Int))=((r+yn1:Nat):Int):=iU _ _ (by omega);rw[decide_eq_true hc,cond_true,e1,e2];by_cases hb:2^32<=r+yn1
  ·have e3:decide (((r+yn1:Nat):Int)>=4294967296)=true:=decide_eq_true (by omega);rw[e3,cond_true];have:=aEF (u1:=u1) d2 hb h0 hlt;rw[bT this (by rw[show q-1+1=q by omega];exact hc)]
  ·have e3:decide (((r+yn1:Nat):Int)>=4294967296)=false:=decide_eq_false (by omega);rw[e3,cond_false];exact hL _ ⟨q-1,r+yn1,d2,by omega,by rw[show q-1+1=q by omega];exact hc,rfl⟩ (by simp only[ag];omega)
 ·rw[decide_eq_false hc,cond_false,bT (by omega) hup]
theorem aQP{A y u32 u1 u0 q1 r1 q0 r0:Nat}(hA:A=(u32*2^32+u1)*2^32+u0)(h1:u32*2^32+u1=q1*y+r1)(h2:r1*2^32+u0=q0*y+r0)(hr:r0<y):
  A/y=q1*2^32+q0/\A%y=r0:=by
 have e:A=(q1*2^32+q0)*y+r0:=by
  rw[hA,h1,cg,cg,io];omega
 have hy:0<y:=by omega
 rw[e,ar _ y];exact⟨by rw[Nat.mul_add_div hy,cq hr,dc],by rw[Nat.mul_add_mod,be hr]⟩
theorem aYy(U X:Nat):U*2^64+X=(U*2^32+X/2^32)*2^32+X%2^32:=by omega
theorem orL{a b k:Nat}(ha:a<2^k)(h:b*2^k+a<2^64):An .u64 ((b*2^k:Nat):Int) (a:Int)=((b*2^k+a:Nat):Int):=by
 rw[Xw (by omega) (by omega)];congr 1;have:=lr ha b;rw[ar b,←this]
theorem yF{n:Nat}(hn:n<2^64):Vp ((n:Int),())=some (((64-Am n:Nat):Int),()):=by
 show fY B4.pre B4.F (n:Int)=_;unfold fY;have p0:=xX n hn;have hb:=Qf hn;have e:aa .i64 ((64:Int)-(Am n:Int))=((64-Am n:Nat):Int):=by rw[Ax (by omega)];omega
 simp only[aHa p0,aFw p0,cond_true,e]
theorem yG{hi lo y:Nat}(hlo:lo<2^64)(hy:y<2^64)(hlt:hi<y):
  Vq ((hi:Int),(lo:Int),(y:Int),())=some ((((hi*2^64+lo)/y:Nat):Int),(((hi*2^64+lo)%y:Nat):Int),()):=by
 have hy0:0<y:=by omega
 show fZ Br.pre Br.F ZH ZI (hi:Int) (lo:Int) (y:Int)=_;unfold fZ;have hbl:=Qf hy;have hbl1:=aD8 (n:=y) (by omega);have p0:=yF hy;generalize hs:64-Am y=s at *
 have e9:aa .u64 (s:Int)=(s:Int):=tE _ (by omega);have e10:aa .u64 ((64:Int)-(s:Int))=((64-s:Nat):Int):=by rw[Ev (by omega)];omega
 have g0:((y:Int)==0)=false:=Bi _ (by omega);have g1:decide ((y:Int)<=(hi:Int))=false:=decide_eq_false (by omega);have g2:((y:Int)!=0)=true:=Bv _ (by omega);dsimp only;simp only[g0,g1,g2,cond_false,cond_true,aHb p0,aFx p0,e9,e10];by_cases hh:hi=0
 ·subst hh;have e1:(((0:Nat):Int)==0)=true:=rfl;rw[e1,cond_true,rY _ _ hlo hy0,fk,dj];rfl
 have e1:((hi:Int)==0)=false:=Bi _ hh;rw[e1,cond_false];have hp:=aj s;have hyl:=Rw (n:=y) (by omega);have hyu:=Qg y;have hY1:y*2^s<2^64:=by
  have:y*2^s<2^Am y*2^s:=cw hyu hp;rw[←bb,show Am y+s=64 by omega]at this;exact this
 have hY2:2^63<=y*2^s:=by
  have:2^(Am y-1)*2^s<=y*2^s:=au _ hyl;rw[←bb,show Am y-1+s=63 by omega]at this;exact this
 have hH:hi*2^s<y*2^s:=cw hlt hp;have hlos:lo/2^(64-s)<2^s:=by
  rw[bm (aj _),←bb,show s+(64-s)=64 by omega];exact hlo
 have e264:2^64=2^s*2^(64-s):=by rw[←bb];congr 1;omega
 have hU:hi*2^s+lo/2^(64-s)<y*2^s:=by
  have h1:(hi+1)*2^s<=y*2^s:=au _ hlt;rw[cg,fu]at h1;omega
 have hsc:(hi*2^64+lo)*2^s=(hi*2^s+lo/2^(64-s))*2^64+lo*2^s%2^64:=by
  have h1:lo*2^s=lo*2^s/2^64*2^64+lo*2^s%2^64:=by
   have:=ci (lo*2^s) (2^64);omega
  have h2:lo*2^s/2^64=lo/2^(64-s):=by
   rw[e264,ar lo,Nat.mul_div_mul_left _ _ hp]
  rw[h2]at h1;rw[cg,cg,io];omega
 have s1:=HC hi s (by omega);have s2:=DP lo (64-s) (by omega);have s3:=HC y s (by omega);have s4:=HC lo s (by omega);rw[be (by omega)]at s1 s3;have hY32:y*2^s/2^32*2^32+y*2^s%2^32=y*2^s:=by omega
 have hdiv:(hi*2^64+lo)*2^s/(y*2^s)=(hi*2^64+lo)/y:=Nat.mul_div_mul_right _ _ hp;have hmod:(hi*2^64+lo)*2^s%(y*2^s)=(hi*2^64+lo)%y*2^s:=dw _ _ _;have hX:lo*2^s%2^64<2^64:=bv _ (by decide);have s5:=orL (b:=hi) hlos (by omega);rw[s1,s2,s3,s4,s5];have hq64:(hi*2^64+lo)/y<2^64:=by
  rw[bm hy0];have:(hi+1)*2^64<=y*2^64:=au _ hlt;omega
 rw[hsc]at hdiv hmod;generalize hi*2^s+lo/2^(64-s)=U at *
 generalize lo*2^s%2^64=X at *
 generalize hYd:y*2^s=Y at *
 rw[RY Y,RY X,Wx hY1,Wx hX];have hYY1:Y/2^32<2^32:=by omega
 have hYY0:Y%2^32<2^32:=by omega
 have hYp:0<Y/2^32:=by omega
 have g3:(((Y/2^32:Nat):Int)!=0)=true:=Bv _ (by omega);have hrem:∀V:Nat,V<2^64->aa .u64 ((V:Int)-aa .u64 (((V/(Y/2^32):Nat):Int)*((Y/2^32:Nat):Int)))=((V%(Y/2^32):Nat):Int):=fun V hV=>by
  have hdm:=ci V (Y/2^32);rw[ar]at hdm;rw[tF _ _ (by omega)];generalize V/(Y/2^32)*(Y/2^32)=z at *
  generalize V%(Y/2^32)=w at *
  rw[Ev (by omega)];omega
 rw[g3,cond_true,rY _ _ (by omega) hYp,hrem U (by omega)];have w1:=aNY hYY0 hYY1 hYp (show X/2^32<2^32 by omega) (u:=U) (by omega) ((X%2^32:Nat):Int) (Y:Int) (s:Int);rw[w1,hY32];show(bif(((Y/2^32:Nat):Int)!=0)then _ else _)=_;rw[g3,cond_true];dsimp only;have hd1:=ci (U*2^32+X/2^32) Y;have hr1:=bv (U*2^32+X/2^32) (show 0<Y by omega);have hq1:(U*2^32+X/2^32)/Y<2^32:=by
  rw[bm (by omega)];have:(U+1)*2^32<=Y*2^32:=au _ hU;omega
 have hrem2:∀a b c q r:Nat,a*2^32+b=Y*q+r->r<Y->aa .u64 (aa .u64 (aa .u64 ((a:Int)*4294967296)+(b:Int))-aa .u64 ((q:Int)*(Y:Int)))=(r:Int):=fun a b _ q r h1 h2=>by
  have e:(q:Int)*(Y:Int)=((Y*q:Nat):Int):=by rw[ko,Int.mul_comm]
  rw[e];generalize Y*q=z at *
  show((((a:Int)*4294967296)%18446744073709551616+(b:Int))%18446744073709551616-((z:Int)%18446744073709551616))%18446744073709551616=(r:Int)
  omega
 rw[hrem2 U (X/2^32) 0 _ _ hd1.symm hr1];clear w1;obtain⟨q1,hQ1⟩:∃q,q=(U*2^32+X/2^32)/Y:=⟨_,rfl⟩
 obtain⟨r1,hR1⟩:∃q,q=(U*2^32+X/2^32)%Y:=⟨_,rfl⟩
 rw[←hQ1]at hd1 hq1;rw[←hR1]at hd1 hr1;rw[←hQ1,←hR1];rw[rY _ _ (by omega) hYp,hrem r1 (by omega)];have w2:=aNZ hYY0 hYY1 hYp (show X%2^32<2^32 by omega) (u:=r1) (by omega) (q1:Int) (Y:Int) (s:Int);rw[w2,hY32];show some (_,(_,()))=_;dsimp only;have hd2:=ci (r1*2^32+X%2^32) Y;have hr2:=bv (r1*2^32+X%2^32) (show 0<Y by omega);have hq2:(r1*2^32+X%2^32)/Y<2^32:=by
  rw[bm (by omega)];have:(r1+1)*2^32<=Y*2^32:=au _ hr1;omega
 rw[hrem2 r1 (X%2^32) 0 _ _ hd2.symm hr2];obtain⟨q0,hQ0⟩:∃q,q=(r1*2^32+X%2^32)/Y:=⟨_,rfl⟩
 obtain⟨r0,hR0⟩:∃q,q=(r1*2^32+X%2^32)%Y:=⟨_,rfl⟩
 rw[←hQ0]at hd2 hq2;rw[←hR0]at hd2 hr2;rw[←hQ0,←hR0];obtain⟨f1,f2⟩:=aQP (A:=U*2^64+X) (y:=Y) (u32:=U) (u1:=X/2^32) (u0:=X%2^32) (aYy U X) (by rw[ar q1];exact hd1.symm) (by rw[ar q0];exact hd2.symm) hr2;rw[hdiv]at f1;rw[hmod]at f2;have e5:aa .u64 (aa .u64 ((q1:Int)*4294967296)+(q0:Int))=(((hi*2^64+lo)/y:Nat):Int):=by
  rw[f1];show((((q1:Int)*4294967296)%18446744073709551616)+(q0:Int))%18446744073709551616=_;omega
 have e6:AJ .u64 (r0:Int) (s:Int)=(((hi*2^64+lo)%y:Nat):Int):=by
  rw[DP _ _ (by omega),←f2,jl _ hp]
 rw[e5,e6]
end VL
namespace VL
open Go Vx
theorem RM{D Y:Type}{Φ:{R:Type}->(D->Option R)->(Y->Option R)->D->Option R}(hp:Bf Φ)(μ:D->Nat)(I:D->Prop)(Q:Y->Prop)
  (h:∀(L:D->Option Y) x,I x->(∀x',I x'->μ x'<μ x->∃y,L x'=some y/\Q y)->∃y,Φ L some x=some y/\Q y):∀x,I x->∃y,A6 (fun L=>Φ L some) x=some y/\Q y:=by
 have key:∀m x,I x->μ x<m->∃y,Cz (fun L=>Φ L some) m x=some y/\Q y:=by
  intro m;induction m with
  |zero=>intro x _ h;omega
  |succ m ih=>
   intro x hx hm;simp only[Cz];exact h _ x hx fun x' hx' hlt=>ih x' hx' (by omega)
 intro x hx;obtain⟨y,hy,hQ⟩:=key (μ x+1) x hx (by omega);exact⟨y,aF4 hp hy,hQ⟩
theorem Jn(i:Nat):(2^64)^(i+1)=(2^64)^i*2^64:=dx ..
theorem R1{A us C:List Nat}{i:Nat}(h:i<us.length):(Wd (A++us++C)).getD (A.length+i) 0=((us.getD i 0:Nat):Int):=by
 rw[CD];congr 1;rw[ai,ai,dt,bi (by omega),je,List.getElem?_append_left h]
theorem iR{A us C:List Nat}{i v:Nat}(h:i<us.length):(Wd (A++us++C)).set (A.length+i) (v:Int)=Wd (A++us.set i v++C):=by
 rw[EQ];congr 1;rw[dt,fm _ _ (by omega),je,List.set_append_left _ _ h,←dt]
theorem bS{out us:List Nat}{i:Nat}(hol:out.length=i)(hi:i<us.length):(out++us.drop i).getD i 0=us.getD i 0:=by
 rw[ai,ai,bi (by omega),hol,gk,df,dc]
theorem aSS{x y c:Nat}(hx:x<2^64)(hy:y<2^64)(hc:c<2^64):
  x*y+c=2^64*(x*y/2^64+(x*y%2^64+c)/2^64)+(x*y%2^64+c)%2^64/\x*y/2^64+(x*y%2^64+c)/2^64<2^64:=by
 have:x*y<=(2^64-1)*(2^64-1):=iq (by omega) (by omega);generalize x*y=z at *
 omega
theorem aH3{d l b:Nat}(hd:d<2^64)(hl:l<2^64)(hb:b<=1):
  (d+2^64-l-b)%2^64+l+b=d+2^64*(if d<l+b then 1 else 0)/\(d+2^64-l-b)%2^64<2^64/\(if d<l+b then 1 else 0)<=1:=by
 split<;>omega
theorem aYW{P U V O x y c b d o l c' b':Nat}(h:O+x*V=U+P*(c+b))(h1:x*y+c=2^64*c'+l)(h2:o+l+b=d+2^64*b'):
  O+P*o+x*(V+P*y)=U+P*d+P*2^64*(c'+b'):=by
 have h3:P*(c+b+o+x*y)=P*(d+2^64*(c'+b')):=by
  congr 1;omega
 rw[bt P,bt P,bt P d,←aw P (2^64)]at h3;rw[bt x,gz x P y];omega
theorem aNp(A us C v:List Nat)(hlen:us.length=v.length+1)(hu:∀x∈us,x<2^64)(hv:∀x∈v,x<2^64)(hn:v.length<=1000000){x:Nat}(hx:x<2^64):
  ∃out:List Nat,out.length=us.length/\(∀z∈out,z<2^64)/\nv (2^64) out+x*nv (2^64) v=nv (2^64) us+(if nv (2^64) us<x*nv (2^64) v then(2^64)^us.length else 0) /\
   Vr ((Wd (A++us++C),(A.length,us.length)),(Wd v,((x:Int),())))=some (Wd (A++out++C),decide (nv (2^64) us<x*nv (2^64) v),()):=by
 show ∃out:List Nat,_/\_/\_/\f0 AN.pre AN.F Ar.pre Ar.F AW.pre AW.F ZJ (Wd (A++us++C),(A.length,us.length)) (Wd v) (x:Int)=_;have key:=RM (aGo AN.pre AN.F Ar.pre Ar.F AW.pre AW.F) (fun s=>v.length-s.1.2.2.2.1.toNat)
  (fun s=>∃(i:Nat) (out:List Nat) (c b:Nat),i<=v.length/\out.length=i/\(∀z∈out,z<2^64)/\c<2^64/\b<=1/\nv (2^64) out+x*nv (2^64) (v.take i)=nv (2^64) (us.take i)+(2^64)^i*(c+b) /\
   s=(((v.length:Int),(Wd v,((x:Int),((i:Int),(Wd v,((A.length,us.length),((c:Int),((b:Int),())))))))),(Wd (A++(out++us.drop i)++C),())))
  (fun y=>∃(out:List Nat) (c b:Nat),out.length=v.length/\(∀z∈out,z<2^64)/\c<2^64/\b<=1/\nv (2^64) out+x*nv (2^64) v=nv (2^64) (us.take v.length)+(2^64)^v.length*(c+b) /\
   y=.inl ((Wd v,((A.length,us.length),((c:Int),((b:Int),())))),(Wd (A++(out++us.drop v.length)++C),()))) ?_
  (((v.length:Int),(Wd v,((x:Int),((0:Int),(Wd v,((A.length,us.length),((0:Int),((0:Int),())))))))),(Wd (A++us++C),()))
  ⟨0,[],0,0,ee _,rfl,(fun z hz=>by simp at hz),by decide,by decide,by simp[nv],rfl⟩
 ·obtain⟨y,hy,out,c,b,k1,k2,k3,k4,k5,rfl⟩:=key;have hy:ZJ (((v.length:Int),(Wd v,((x:Int),((0:Int),(Wd v,((A.length,us.length),((0:Int),((0:Int),())))))))),(Wd (A++us++C),()))=_:=hy;have hlt:v.length<us.length:=by omega
  have hwl:(out++us.drop v.length).length=us.length:=by simp[k1];omega
  have hdg:=bS (us:=us) k1 hlt;have hg:=R1 (A:=A) (C:=C) (us:=out++us.drop v.length) (i:=v.length) (by omega);rw[hdg]at hg;have hst:=fun z=>iR (A:=A) (C:=C) (us:=out++us.drop v.length) (i:=v.length) (v:=z) (by omega);have hsd:=fun z=>XL (a:=us) (v:=z) k1 hlt;have hd:=CH (by decide) hu v.length;obtain⟨w1,w2,w3⟩:=aH3 (d:=us.getD v.length 0) (l:=c) (b:=b) hd k3 k4;have q1:=XT (us.getD v.length 0) c b k4 hd k3;have q2:=XU ((us.getD v.length 0:Nat):Int) (c:Int) b k4;have hnx:=Et (2^64) us v.length;rw[cj (show us.length<=v.length+1 by omega)]at hnx;have hnil:us.drop (v.length+1)=[]:=List.drop_of_length_le (by omega);unfold f0;dsimp only;rw[AF,hy];have e0:decide ((0:Int)<=(v.length:Int))=true:=decide_eq_true (by omega);have e1:decide ((v.length:Int)<(us.length:Int))=true:=decide_eq_true (by omega);dsimp only[A3,A1];simp only[e0,e1,bg,cond_true,AF,ag,hg,q2,q1,hst,hsd,hnil,cz];generalize us.getD v.length 0=d at *
  generalize(d+2^64-c-b)%2^64=o at *
  have hO:nv (2^64) (out++[o])+x*nv (2^64) v=nv (2^64) us+(2^64)^us.length*(if d<c+b then 1 else 0):=by
   rw[Xu,k1,hnx,hlen,Jn];have h3:(2^64)^v.length*(o+c+b)=(2^64)^v.length*(d+2^64*(if d<c+b then 1 else 0)):=by rw[w1]
   rw[bt,bt,bt _ d,←aw _ (2^64)]at h3;rw[bt]at k5;omega
  have hod:=WF k2 w2;have hOl:=DN (B:=2^64) (by decide) (out++[o]) hod;have hol:(out++[o]).length=us.length:=by simp[k1];omega
  rw[hol]at hOl;by_cases hb:d<c+b
  ·rw[if_pos hb,gr]at hO;have hlt2:nv (2^64) us<x*nv (2^64) v:=by omega
   refine⟨out++[o],hol,hod,by rw[if_pos hlt2];exact hO,?_⟩;rw[if_pos hb,decide_eq_true hlt2];rfl
  ·rw[if_neg hb,fi,dc]at hO;have hlt2:¬nv (2^64) us<x*nv (2^64) v:=by omega
   refine⟨out++[o],hol,hod,by rw[if_neg hlt2,dc];exact hO,?_⟩;rw[if_neg hb,decide_eq_false hlt2];rfl
 intro L s hs hL;obtain⟨i,out,c,b,hi,hol,hod,hc,hb,hinv,rfl⟩:=hs;unfold TE;rcases aq i v.length with hlt|hge
 ·have hy:=CH (by decide) hv i;have hd:=CH (by decide) hu i;have hnv:=Et (2^64) v i;have hnu:=Et (2^64) us i;have hwl:(out++us.drop i).length=us.length:=by simp[hol];omega
  have hdg:=bS (us:=us) hol (by omega);have hg:=R1 (A:=A) (C:=C) (us:=out++us.drop i) (i:=i) (by omega);rw[hdg]at hg;have hst:=fun z=>iR (A:=A) (C:=C) (us:=out++us.drop i) (i:=i) (v:=z) (by omega);have hsd:=fun z=>XL (a:=us) (v:=z) hol (by omega);have hgv:(Wd v).getD i 0=((v.getD i 0:Nat):Int):=CD v i;generalize v.getD i 0=y at *
  generalize us.getD i 0=d at *
  have p0:=kC hx hy;obtain⟨m1,m2⟩:=aSS hx hy hc;have q1:=S5 (x*y%2^64) c 0;have q2:=S6 ((x*y%2^64:Nat):Int) (c:Int) 0 (by decide);rw[dc]at q1;have hl:(x*y%2^64+c)%2^64<2^64:=bv _ (by decide);have e5:=iU (x*y/2^64) ((x*y%2^64+c)/2^64) m2;generalize x*y/2^64+(x*y%2^64+c)/2^64=c' at *
  generalize hlq:(x*y%2^64+c)%2^64=l at *
  obtain⟨w1,w2,w3⟩:=aH3 (d:=d) (l:=l) (b:=b) hd hl hb;have r1:=XT d l b hb hd hl;have r2:=XU (d:Int) (l:Int) b hb;generalize(d+2^64-l-b)%2^64=o at *
  generalize(if d<l+b then 1 else 0)=b' at *
  have hstep:=aYW (P:=(2^64)^i) hinv m1 w1;have e0:decide ((i:Int)<(v.length:Int))=true:=decide_eq_true (by omega);have e1:decide ((0:Int)<=(i:Int))=true:=decide_eq_true (by omega);have e2:decide ((i:Int)<((us.length:Nat):Int))=true:=decide_eq_true (by omega);have e3:aa .i64 ((i:Int)+1)=((i+1:Nat):Int):=by rw[Ax (by omega)];omega
  have z0:((0:Nat):Int)=0:=rfl;rw[z0]at q1 q2;dsimp only;simp only[e0,e1,e2,e3,cond_true,bg,AF,ag,hgv,hg,rM p0,pK p0,q1,q2,r1,r2,e5,hst,hsd];refine hL _ ⟨i+1,out++[o],c',b',by omega,by simp[hol],WF hod w2,m2,w3,?_,rfl⟩ (by simp only[ag];omega);rw[Xu,hol,hnv,hnu,Jn];exact hstep
 ·have e:i=v.length:=by omega
  subst e;have e0:decide ((v.length:Int)<(v.length:Int))=false:=decide_eq_false (by omega);simp only[e0,cond_false];rw[du]at hinv;exact⟨_,rfl,out,c,b,hol,hod,hc,hb,hinv,rfl⟩
end VL
end
