/- Part 7 of the proof. What is proved: symbolic execution of the functions, proved sound; what each function of the program computes, and that every run ends with it; what these functions compute, in plain numbers. Conditions: each theorem bears its own. -/
import Derived.Test.YthajbkcpnbiobaaGreatDoorVxG6
set_option linter.all false
set_option exponentiation.threshold 1000000
noncomputable section
open BitVec renaming ofInt->ce
open Bool renaming and_comm->oo,and_eq_true->af,and_false->bm,and_self->bc,and_true->cm,eq_iff_iff->ee,false_and->ba,false_or->bt,not_false->bh,not_true->bq,or_comm->jn,or_eq_false_iff->fh,or_eq_true->dz,or_false->ca,or_self->br,or_true->bg,true_and->bi,true_or->bb
open Classical renaming choose_spec->kd,not_not->gv
open Go.IntKind renaming wrap->aa
open Int renaming eq_ofNat_of_zero_le->cy,natCast_mul->lh,neg_neg->qf,ofNat_inj->qn,sub_self->nw,toNat->ai,toNat_natCast->ae,toNat_zero->bf
open List renaming all_append->qg,all_cons->kj,all_eq_false->oz,append_assoc->fc,append_nil->df,drop_eq_getElem_cons->dv,drop_length->jt,drop_of_length_le->ir,drop_replicate->kz,drop_zero->kv,getD_eq_getElem?_getD->al,getElem?_append_left->cd,getElem?_append_right->bv,getElem?_drop->di,getElem_mem->iw,length_replicate->fj,length_set->jj,mem_append->cv,mem_cons->cn,mem_of_mem_drop->kt,mem_of_mem_take->fa,mem_replicate->oq,mem_singleton->gg,replicate->ar,set_append_left->me,set_append_right->fy,take_append_drop->kf,take_length->dk,take_of_length_le->cw,take_succ_eq_append_getElem->gu
open Nat renaming add_comm->io,add_mul->bw,add_sub_cancel_left->jq,add_zero->dc,div_add_mod->ci,div_div_eq_div_mul->dl,div_eq_of_lt->co,div_le_self->dq,div_lt_iff_lt_mul->bo,div_mul_le_self->jr,div_one->qd,eq_zero_or_pos->bd,le_div_iff_mul_le->jc,le_mul_of_pos_left->ju,le_mul_of_pos_right->fm,le_of_lt_succ->pe,le_of_mul_le_mul_right->mn,le_refl->bj,le_trans->fw,lt_div_mul_add->mq,lt_of_le_of_lt->ao,lt_of_lt_of_le->ak,lt_of_mul_lt_mul_right->iv,lt_or_ge->aq,lt_trans->je,lt_trichotomy->gk,mod_add_div->lj,mod_eq_of_lt->be,mod_lt->bp,mod_mul->mj,mul_add->bl,mul_add_div->kg,mul_add_mod->kh,mul_assoc->av,mul_comm->ap,mul_div_cancel->jf,mul_div_cancel_left->gd,mul_div_mul_right->ki,mul_le_mul->gx,mul_le_mul_left->cq,mul_le_mul_right->aw,mul_left_comm->gf,mul_lt_mul''->ni,mul_lt_mul_of_pos_right->cr,mul_mod_mul_right->dw,mul_ne_zero->iq,mul_one->gl,mul_pos->ii,mul_right_comm->jd,mul_zero->ej,ne_of_gt->kb,one_mul->fb,pos_of_ne_zero->mr,pow_add->az,pow_le_pow_right->ag,pow_lt_pow_iff_right->cp,pow_mul->ky,pow_one->qh,pow_pos->ij,pow_succ->dr,pow_zero->jm,sub_mul->qe,sub_self->gq,two_pow_pos->aj,zero_le->dt,zero_mul->fd
namespace VL
open Go Vx
theorem aUV{A W:Nat}(hW:W<=64):A*2^(64-W)%2^64/2^(64-W)=A%2^W:=by
 have e:2^64=2^W*2^(64-W):=by rw[←az];congr 1;omega
 rw[e,dw,jf _ (aj _)]
theorem jO{f:Int}(hf:Fm f)(A:Nat):Af f (A%2^fW f)=0:=vK hf (bp _ (aj _))
def Bo(f m:Int)(a b:Nat):Nat×Nat:=bif AI f a||AI f b then(BD f,1)else bif nan f a||nan f b then(BD f,0)else bif(Ap f a&&Ap f b)&&!(sF f a==sF f b)then(BD f,1)else bif Ap f a then(a,0)else bif Ap f b then(b,0)else En f m (sF f a) (Am f a) (Al f a) (sF f b) (Am f b) (Al f b)
theorem ZE(f m:Int)(a b:Nat):Tv f m a b=(((Bo f m a b).1:Int),((Bo f m a b).2:Int),0,()):=by
 unfold Tv Bo;cases AI f a||AI f b<;>cases nan f a||nan f b<;>cases(Ap f a&&Ap f b)&&!(sF f a==sF f b)<;>cases Ap f a<;>cases Ap f b<;>rfl
theorem j3{f:Int}(hf:Fm f)(a:Nat):eF f (AP f a)=eF f a:=by rw[TD hf,TD hf,aU]
theorem xL{f:Int}(hf:Fm f)(a:Nat):mF f (AP f a)=mF f a:=by rw[Np hf,Np hf,aU]
theorem Wo{f:Int}(hf:Fm f)(a:Nat):Ap f (AP f a)=Ap f a:=by unfold Ap;rw[j3 hf,xL hf]
theorem Wt{f:Int}(hf:Fm f)(a:Nat):Am f (AP f a)=Am f a:=by unfold Am;rw[j3 hf,xL hf]
theorem W8{f:Int}(hf:Fm f)(a:Nat):Al f (AP f a)=Al f a:=by unfold Al;rw[j3 hf]
theorem aMr{f m:Int}(hf:Fm f)(hm:0<=m/\m<=5)(nx:Bool)(X:Nat)(ex:Int)(ny:Bool)(Y:Nat)(ey:Int):
  ∃s x g,En f m nx X ex ny Y ey=(Cy f s x,g)/\x<=CO f:=by
 obtain⟨s,_,x,g,h,_,h2,_⟩:=aMp hf hm nx X ex ny Y ey;exact⟨s,x,g,h,h2⟩
theorem uS{f m:Int}(hf:Fm f)(hm:0<=m/\m<=5){a b:Nat}(ha:Af f a=0)(hb:Af f b=0):Af f (Bo f m a b).1=0:=by
 have hn:=(Hi hf).2;unfold Bo;cases AI f a||AI f b
 ·cases nan f a||nan f b
  ·cases(Ap f a&&Ap f b)&&!(sF f a==sF f b)
   ·cases Ap f a
    ·cases Ap f b
     ·obtain⟨s,x,g,h,hx⟩:=aMr hf hm (sF f a) (Am f a) (Al f a) (sF f b) (Am f b) (Al f b);simp only[cond_false];rw[h];exact kY hf _ (ao hx (aL hf))
     ·exact hb
    ·exact ha
   ·exact hn
  ·exact hn
 ·exact hn
theorem aHw{f m:Int}(hf:Fm f){a b:Nat}(ha:Af f a=0)(hb:Af f b=0):Bo f m a b=Bo f m b a:=by
 have h:=aUh (m:=m) hf ha hb;rw[ZE,ZE]at h;have h1:(Bo f m a b).1=(Bo f m b a).1:=by have:=congrArg (fun t:Int×Int×Int×Unit=>t.1) h;exact qn.1 this
 have h2:(Bo f m a b).2=(Bo f m b a).2:=by have:=congrArg (fun t:Int×Int×Int×Unit=>t.2.1) h;exact qn.1 this
 exact Prod.ext h1 h2
theorem aUf{f m:Int}(hf:Fm f)(hm:0<=m/\m<=5)(a b:Nat):
  (Bo f (Hh m) (AP f a) (AP f b)).2=(Bo f m a b).2/\nan f (Bo f (Hh m) (AP f a) (AP f b)).1=nan f (Bo f m a b).1 /\
  (nan f (Bo f m a b).1=false->AY f (Bo f m a b).1=-AY f (Bo f (Hh m) (AP f a) (AP f b)).1):=by
 have hn:=(Hi hf).1;unfold Bo;rw[Ue hf,Ue hf,Hj hf,Hj hf,Wo hf,Wo hf,Wt hf,Wt hf,W8 hf,W8 hf,TW,TW,
  show(!(!sF f a)==!sF f b)=!(sF f a==sF f b) by cases sF f a<;>cases sF f b<;>rfl]
 cases AI f a||AI f b
 ·cases hnn:nan f a||nan f b
  ·cases(Ap f a&&Ap f b)&&!(sF f a==sF f b)
   ·cases Ap f a
    ·cases Ap f b
     ·obtain⟨s,s',x,g,h1,h2,hx,hs⟩:=aMp hf hm (sF f a) (Am f a) (Al f a) (sF f b) (Am f b) (Al f b);have hxl:=ao hx (aL hf);simp only[cond_false];rw[h1,h2];refine⟨rfl,?_,fun _=>?_⟩
      ·rw[kZ hf _ hx,kZ hf _ hx]
      ·rw[aKD _ hxl,aKD _ hxl];rcases hs with rfl|rfl
       ·cases s<;>simp
       ·cases s<;>cases s'<;>rfl
     ·refine⟨rfl,Hj hf b,fun _=>?_⟩;show AY f b=-AY f (AP f b);rw[xQ,qf]
    ·refine⟨rfl,Hj hf a,fun _=>?_⟩;show AY f a=-AY f (AP f a);rw[xQ,qf]
   ·exact⟨rfl,rfl,fun h=>by have h':nan f (BD f)=false:=h;rw[hn]at h';cases h'⟩
  ·exact⟨rfl,rfl,fun h=>by have h':nan f (BD f)=false:=h;rw[hn]at h';cases h'⟩
 ·exact⟨rfl,rfl,fun h=>by have h':nan f (BD f)=false:=h;rw[hn]at h';cases h'⟩
theorem bD8{f:Int}(hf:Fm f)(z:Bool):Af f (Cy f z 0)=0/\eF f (Cy f z 0)=0/\Am f (Cy f z 0)=0/\sF f (Cy f z 0)=z:=by
 have hlt:0<2^(fW f-1):=aj _;have h0:=(bD7 hf (Cy f z 0)).1 (Wu z hlt);refine⟨kY hf z hlt,h0.1,?_,aT z hlt⟩;unfold Am;rw[if_pos h0.1];exact h0.2
theorem aUg{f m:Int}(hf:Fm f){a:Nat}(h:Af f a=0)(hfin:eF f a≠A4 f)(h0:Am f a≠0)(z:Bool):Bo f m a (Cy f z 0)=(a,0):=by
 obtain⟨v1,v2,v3⟩:=x9 hfin;obtain⟨_,z2,z3,z4⟩:=bD8 hf z;obtain⟨w1,w2,w3⟩:=x9 (f:=f) (a:=Cy f z 0) (by rw[z2];have:=kE hf;omega);unfold Bo;rw[v1,v2,v3,w1,w2,w3,z3];simp only[br,ba,cond_false];rw[Ug hf,if_neg h0];exact aLU hf h hfin h0
end VL
namespace VL
open Go Vx
def vI(f:Int)(neg:Bool)(X:Nat)(e:Int):Int:=bif neg then -((X*2^(e-qm f).toNat:Nat):Int)else((X*2^(e-qm f).toNat:Nat):Int)
end VL
namespace VL
open Go Vx
def sl(V:Nat->Int)(i:Nat):List Int:=[if 0<i then V 0 else 0,if 1<i then V 1 else 0,if 2<i then V 2 else 0,if 3<i then V 3 else 0,if 4<i then V 4 else 0,if 5<i then V 5 else 0]
end VL
namespace VL
open Go Vx
def vA(f:Int)(a:Nat):Int:=vI f (sF f a) (Am f a) (Al f a)
end VL
namespace VL
open Go Vx
def tz(n:Nat):Nat:=if n=0 then 0 else if n%2=1 then 0 else tz (n/2)+1
termination_by n
decreasing_by omega
theorem aN4:∀(t k:Nat),tz (2^t*(2*k+1))=t
 |0,k=>by
  rw[tz,jm,fb,if_neg (by omega),if_pos (by omega)]
 |t+1,k=>by
  have e:2^(t+1)*(2*k+1)=2*(2^t*(2*k+1)):=by rw[dr,ap (2^t) 2,av]
  have hp:0<2^t*(2*k+1):=ii (aj t) (by omega)
  have ih:=aN4 t k
  rw[e]
  generalize 2^t*(2*k+1)=n at *
  rw[tz,if_neg (by omega),if_neg (by omega),show 2*n/2=n by omega,ih]
theorem qB{n:Nat}(h:n≠0):∃k,n=2^tz n*(2*k+1):=by
 obtain⟨t,k,e⟩:=aN2 (x:=n) (by omega);refine⟨k,?_⟩;have:=aN4 t k;rw[←e]at this;rw[this];exact e
abbrev Dya:=Ab (.pair (.bool) (.pair (.slice (.int .u64)) (.pair (.int .i64) (.unit))))
def dy(s:Bool)(n:Nat)(e:Int):Dya:=(s,Dw n,e,())
theorem aVi:dy false 0 0=(false,[],0,()):=by unfold dy;rw[DZ]
end VL
namespace VL
open Go Vx
theorem aSm(a b:List Nat)(ha:∀x∈a,x<2^64)(hb:∀x∈b,x<2^64)(hla:a.length<=1000000)(hab:a.length=b.length):
  gK ((Wd a,(Wd b,((a.length:Int)-1,()))),())=some (if nv (2^64) a=nv (2^64) b then .inl ((),())else .inr (((if nv (2^64) a<nv (2^64) b then(-1:Int)else 1),()),())):=by
 have key:=DU (aKa Ag.pre Ag.F) (fun x=>(x.1.2.2.1+1).toNat)
  (fun x=>∃j:Nat,j<=a.length/\nv (2^64) (a.drop j)=nv (2^64) (b.drop j)/\x=((Wd a,(Wd b,((j:Int)-1,()))),()))
  (fun _=>if nv (2^64) a=nv (2^64) b then .inl ((),())else .inr (((if nv (2^64) a<nv (2^64) b then(-1:Int)else 1),()),())) ?_ ((Wd a,(Wd b,((a.length:Int)-1,()))),())
  ⟨a.length,bj _,by rw[jt,hab,jt],rfl⟩
 ·exact key
 intro L x hx hL;obtain⟨j,hj,hd,rfl⟩:=hx;unfold VX;rcases j with _|i
 ·have e1:decide ((((0:Nat):Int)-1)>=0)=false:=rfl;rw[kv,kv]at hd;simp only[e1,cond_false,if_pos hd]
 ·have e0:(((i+1:Nat):Int)-1)=(i:Int):=by omega
  have e2:aa .i64 ((i:Int)-1)=(i:Int)-1:=Au (by omega);have e3:decide ((i:Int)>=0)=true:=decide_eq_true (by omega);simp(disch:=omega) only[e0,e2,e3,Cm,Cb,Cn,BZ,Bt,Co,Ca,B9,Ci,Ch,Cg,B8,Ce,Cd,Ck,Cj,Cf,B6,A6,BW,Bg,BB,B5,ae,bf,cond_true,cond_false,bc,bi,cm,ba,bm,bq,bh,br,bb,bg,bt,ca,AC,Cw];rcases gk (a.getD i 0) (b.getD i 0)with h|h|h
  ·have hr:=SH (by decide) ha (by omega) (by omega) hd h;simp(disch:=omega) only[Cm,Cb,Cn,BZ,Bt,Co,Ca,B9,Ci,Ch,Cg,B8,Ce,Cd,Ck,Cj,Cf,B6,A6,BW,Bg,BB,B5,ae,bf,cond_true,cond_false,bc,bi,cm,ba,bm,bq,bh,br,bb,bg,bt,ca];rw[if_neg (by omega),if_pos hr]
  ·simp(disch:=omega) only[Cm,Cb,Cn,BZ,Bt,Co,Ca,B9,Ci,Ch,Cg,B8,Ce,Cd,Ck,Cj,Cf,B6,A6,BW,Bg,BB,B5,ae,bf,cond_true,cond_false,bc,bi,cm,ba,bm,bq,bh,br,bb,bg,bt,ca];refine hL _ ⟨i,by omega,?_,rfl⟩ (by simp only[ae];omega);rw[aW _ a i (by omega),aW _ b i (by omega),hd,h]
  ·have hr:=SH (by decide) hb (by omega) (by omega) hd.symm h;simp(disch:=omega) only[Cm,Cb,Cn,BZ,Bt,Co,Ca,B9,Ci,Ch,Cg,B8,Ce,Cd,Ck,Cj,Cf,B6,A6,BW,Bg,BB,B5,ae,bf,cond_true,cond_false,bc,bi,cm,ba,bm,bq,bh,br,bb,bg,bt,ca];rw[if_neg (by omega),if_neg (by omega)]
theorem Mu{x:Nat}(hx:x<(2^64)^5000):Td (Dw x,())=some (Dw x,()):=by
 have:=D7 (dg (2^64) x) (CY hx).2;rw[Sa (by decide)]at this;exact this
theorem UI{x y:Nat}(hx:x<(2^64)^5000)(hy:y<(2^64)^5000):XW (Dw x,Dw y,())=some (if x=y then 0 else if x<y then -1 else 1,()):=by
 show nA Ag.pre Ag.F gK (Dw x) (Dw y)=_;unfold nA;have p0:=Mu hx;have p1:=Mu hy;have hX:=CY hx;have hY:=CY hy;have hlx:=hX.2;simp only[CU p0,CT p0,CU p1,CT p1,cond_true];clear p0 p1;rcases gk (dg (2^64) x).length (dg (2^64) y).length with h|h|h
 ·have hr:=vQ (by decide) h;unfold Dw;simp(disch:=omega) only[Cm,Cb,Cn,BZ,Bt,Co,Ca,B9,Ci,Ch,Cg,B8,Ce,Cd,Ck,Cj,Cf,B6,A6,BW,Bg,BB,B5,ae,bf,cond_true,cond_false,bc,bi,cm,ba,bm,bq,bh,br,bb,bg,bt,ca,AC];rw[if_neg (by omega),if_pos hr]
 ·have hw:=aSm _ _ hX.1 hY.1 hlx h;rw[BQ,BQ]at hw;have e2:aa .i64 (((dg (2^64) x).length:Int)-1)=((dg (2^64) x).length:Int)-1:=Au (by omega);unfold Dw;simp(disch:=omega) only[Cm,Cb,Cn,BZ,Bt,Co,Ca,B9,Ci,Ch,Cg,B8,Ce,Cd,Ck,Cj,Cf,B6,A6,BW,Bg,BB,B5,ae,bf,cond_true,cond_false,bc,bi,cm,ba,bm,bq,bh,br,bb,bg,bt,ca,AC,e2,hw];by_cases he:x=y
  ·rw[if_pos he,if_pos he];first|rfl|skip
  ·rw[if_neg he,if_neg he];first|rfl|skip
 ·have hr:=vQ (by decide) h;unfold Dw;simp(disch:=omega) only[Cm,Cb,Cn,BZ,Bt,Co,Ca,B9,Ci,Ch,Cg,B8,Ce,Cd,Ck,Cj,Cf,B6,A6,BW,Bg,BB,B5,ae,bf,cond_true,cond_false,bc,bi,cm,ba,bm,bq,bh,br,bb,bg,bt,ca,AC];rw[if_neg (by omega),if_neg (by omega)]
theorem bO{out a:List Nat}{i v:Nat}(hol:out.length=i)(h:i<a.length):(out++a.drop i).set i v=(out++[v])++a.drop (i+1):=by
 rw[fy _ _ (by omega),hol,gq,dv h,List.set_cons_zero,fc];rfl
theorem aWn{out a:List Nat}{i:Nat}(hol:out.length=i):(out++a.drop i).getD i 0=a.getD i 0:=by
 rw[al,bv (by omega),hol,gq,di,dc,←al]
theorem aSi(a b:List Nat)(ha:∀x∈a,x<2^64)(hb:∀x∈b,x<2^64)(hla:a.length<=1000000)(hba:b.length<=a.length)(hv:nv (2^64) b<=nv (2^64) a):
  Y2 (((a.length:Int),(Wd b,((0:Int),((0:Int),((),()))))),(Wd a,()))=some (.inl (((),()),(Wd (pd (2^64) a.length (nv (2^64) a-nv (2^64) b)),()))):=by
 have key:=DU (aJ6 B7.pre B7.F A9.pre A9.F Ag.pre Ag.F) (fun x=>a.length-x.1.2.2.2.1.toNat)
  (fun x=>∃(i:Nat) (out:List Nat) (c:Nat),i<=a.length/\out.length=i/\(∀x∈out,x<2^64)/\c<=1/\nv (2^64) (a.take i)+(2^64)^i*c=nv (2^64) (b.take i)+nv (2^64) out /\
   x=(((a.length:Int),(Wd b,((c:Int),((i:Int),((),()))))),(Wd (out++a.drop i),())))
  (fun _=>.inl (((),()),(Wd (pd (2^64) a.length (nv (2^64) a-nv (2^64) b)),()))) ?_ (((a.length:Int),(Wd b,((0:Int),((0:Int),((),()))))),(Wd a,()))
  ⟨0,[],0,dt _,rfl,(fun x hx=>by simp at hx),by decide,by simp[nv],rfl⟩
 ·exact key
 intro L x hx hL;obtain⟨i,out,c,hi,hol,hod,hc,hov,rfl⟩:=hx;unfold VS;rcases aq i a.length with hlt|hge
 ·have hxa:=CG (by decide) ha i;have hxb:=CG (by decide) hb i;have hna:=Ec (2^64) a i;have hnb:=Ec (2^64) b i;have hzb:b.length<=i->b.getD i 0=0:=fun h=>by rw[al,List.getElem?_eq_none h];rfl
  have hset:=fun v=>bO (v:=v) hol hlt;have hlen:(out++a.drop i).length=a.length:=by simp;omega
  have hget:=aWn (a:=a) hol;generalize hda:a.getD i 0=da at *
  generalize hdb:b.getD i 0=db at *
  have hgo:∀c' v:Nat,c'<=1->v<2^64->da+2^64*c'=db+c+v->L (((a.length:Int),(Wd b,((c':Int),(((i+1:Nat):Int),((),()))))),(Wd (out++[v]++a.drop (i+1)),()))=_:=fun c' v h1 h2 h3=>
   hL _ ⟨i+1,out++[v],c',by omega,by simp;omega,ZK hod h2,h1,by
    rw[hna,hnb,aY,hol,dr];exact aW2 hov h3,rfl⟩ (by simp only[ae];omega)
  have hgo2:=hgo (if da<db+c then 1 else 0) ((da+2^64-db-c)%2^64) (by split<;>omega) (bp _ (by decide)) (by split<;>omega);have hF:=bY da db c hc hxa hxb;have hP:=bZ (da:Int) (db:Int) c hc;rcases aq i b.length with hib|hib
  ·simp(disch:=omega) only[Cm,Cb,Cn,BZ,Bt,Co,Ca,B9,Ci,Ch,Cg,B8,Ce,Cd,Ck,Cj,Cf,B6,A6,BW,Bg,BB,B5,ae,bf,cond_true,cond_false,bc,bi,cm,ba,bm,bq,bh,br,bb,bg,bt,ca,AC,Cw,hdb,hget,hF,hP,hlen,EJ,hset];exact hgo2
  ·have h0:=hzb hib;rw[h0]at hF hP;simp(disch:=omega) only[Cm,Cb,Cn,BZ,Bt,Co,Ca,B9,Ci,Ch,Cg,B8,Ce,Cd,Ck,Cj,Cf,B6,A6,BW,Bg,BB,B5,ae,bf,cond_true,cond_false,bc,bi,cm,ba,bm,bq,bh,br,bb,bg,bt,ca,AC,Cw,hget];have hF':A9.F ((da:Int),((0:Int),((c:Int),())))=_:=hF;have hP':A9.pre ((da:Int),((0:Int),((c:Int),())))=true:=hP;rw[h0]at hgo2;simp(disch:=omega) only[Cm,Cb,Cn,BZ,Bt,Co,Ca,B9,Ci,Ch,Cg,B8,Ce,Cd,Ck,Cj,Cf,B6,A6,BW,Bg,BB,B5,ae,bf,cond_true,cond_false,bc,bi,cm,ba,bm,bq,bh,br,bb,bg,bt,ca,hF',hP',hlen,EJ,hset];exact hgo2
 ·have e:i=a.length:=by omega
  subst e;rw[dk,cw hba]at hov;have hlt:=Eb (B:=2^64) (by decide) out hod;rw[hol]at hlt;have hc0:(2^64)^a.length*c=0:=by
   rcases(show c=0∨c=1 by omega)with h|h
   ·rw[h,ej]
   ·rw[h,gl]at hov;omega
  have ho:=lG (B:=2^64) (v:=nv (2^64) a-nv (2^64) b) (by decide) hod hol (by omega);rw[jt,df];simp(disch:=omega) only[Cm,Cb,Cn,BZ,Bt,Co,Ca,B9,Ci,Ch,Cg,B8,Ce,Cd,Ck,Cj,Cf,B6,A6,BW,Bg,BB,B5,ae,bf,cond_true,cond_false,bc,bi,cm,ba,bm,bq,bh,br,bb,bg,bt,ca,AC];rw[←ho]
theorem aCb(l:List Nat)(hl:Ws l):S8 (Wd l,())=some (Dw (nv (2^64) l),()):=by
 show mN Ag.pre Ag.F (Wd l)=_;unfold mN;have p0:=D7 l hl.2;have hle:=(Dx l).1;have h2:=hl.2;have e3:decide ((((Ak l).length:Nat):Int)*8<=140737488355328)=true:=decide_eq_true (by omega);simp(disch:=omega) only[Cm,Cb,Cn,BZ,Bt,Co,Ca,B9,Ci,Ch,Cg,B8,Ce,Cd,Ck,Cj,Cf,B6,A6,BW,Bg,BB,B5,ae,bf,cond_true,cond_false,bc,bi,cm,ba,bm,bq,bh,br,bb,bg,bt,ca,CU p0,CT p0,AC,e3,fj,kz,gq];rw[cw (by rw[AC];exact bj _),List.replicate_zero,df,Gv (by decide) l hl.1];rfl
theorem aRw{x y:Nat}(hx:x<(2^64)^5000)(h:y<=x):XX (Dw x,Dw y,())=some (Dw (x-y),0,()):=by
 show nB Rc.pre Rc.F Dk.pre Dk.F AU.pre AU.F CQ.pre CQ.F Ag.pre Ag.F UB.pre UB.F (Dw x) (Dw y)=_;unfold nB;have hy:y<(2^64)^5000:=ao h hx;have p0:=UI hx hy;have p1:=aCb (dg (2^64) x) (CY hx);rw[BQ]at p1;have p1:S8 (Dw x,())=some (Dw x,()):=p1;have p2:=Mu hy;have z1:decide ((if x=y then(0:Int)else if x<y then -1 else 1)<0)=false:=by
  by_cases he:x=y
  ·rw[if_pos he];rfl
  ·rw[if_neg he,if_neg (by omega)];rfl
 have hX:=CY hx;have hY:=CY hy;have hlx:=hX.2;have p3:XN (Dw x,Dw y,())=some (Dw (x-y),()):=by
  show mQ B7.pre B7.F A9.pre A9.F Ag.pre Ag.F Y2 (Dw x) (Dw y)=_;unfold mQ;have hw:=aSi (dg (2^64) x) (dg (2^64) y) hX.1 hY.1 hlx (aIk (by decide) h) (by rw[BQ,BQ];exact h);rw[BQ,BQ]at hw;have q1:=aCe (pd (2^64) (dg (2^64) x).length (x-y)) (by rw[FG];exact hlx);have hlt:=ZT (B:=2^64) (by decide) x;rw[Gv (by decide) _ (T4 (by decide) _ _),T5 (by decide) _ _ (by omega)]at q1;rw[show(Dw x).length=(dg (2^64) x).length from AC _];rw[show Y2 ((((dg (2^64) x).length:Int),(Dw y,((0:Int),((0:Int),((),()))))),(Dw x,()))=_ from hw];show(bif B7.pre (Wd (pd (2^64) (dg (2^64) x).length (x-y)),())then some (B7.F (Wd (pd (2^64) (dg (2^64) x).length (x-y)),()))else none)=_;simp only[aLb q1,aI5 q1,cond_true];rfl
 simp only[WE p0,VI p0,cond_true,z1,cond_false,yC p1,wI p1,CU p2,CT p2,aYf p3,aVK p3]
def od(s:Bool)(n:Nat)(e:Int):Bool×Nat×Int:=if n=0 then(false,0,0)else(s,n/2^tz n,e+tz n)
def Vz(t:Bool×Nat×Int):Dya:=dy t.1 t.2.1 t.2.2
theorem TY(s:Bool)(n:Nat)(e:Int):(od s n e=(false,0,0)/\n=0)∨((od s n e).1=s/\(od s n e).2.1%2=1/\n≠0/\n=2^tz n*(od s n e).2.1/\(od s n e).2.2=e+tz n):=by
 unfold od;by_cases h:n=0
 ·rw[if_pos h];exact .inl ⟨rfl,h⟩
 ·right;rw[if_neg h];obtain⟨k,hk⟩:=qB h;have hd:n/2^tz n=2*k+1:=by
   have:=gd (2*k+1) (aj (tz n));rw[←hk]at this;exact this
  dsimp only;rw[hd];exact⟨rfl,by omega,h,hk,rfl⟩
theorem aAc{n k:Nat}(h:n<2^k)(h0:n≠0):tz n<k:=by
 obtain⟨j,hj⟩:=qB h0;have h1:2^tz n*1<=2^tz n*(2*j+1):=cq _ (by omega);exact(cp (a:=2) (by decide)).1 (by omega)
theorem aUx{n k:Nat}(h:n<2^k)(hk:k<=64*2000):n<(2^64)^2000:=by
 rw[Du];exact ak h (ag (by decide) hk)
theorem XV{x y:Nat}(hx:x<(2^64)^5000)(hy:y<(2^64)^5000):RR (Dw x,Dw y,())=some (Dw (x+y),()):=by
 have h1:(dg (2^64) x).length<=5000:=C8 (by decide) _ _ hx;have h2:(dg (2^64) y).length<=5000:=C8 (by decide) _ _ hy;have:=aCk (dg (2^64) x) (dg (2^64) y) (CY hx) (CY hy) (by rw[Sa (by decide)];omega) (by rw[Sa (by decide)];omega);rw[BQ,BQ]at this;exact this
end VL
namespace VL
open Go Vx
theorem Uq{x:Nat}(h0:x≠0)(h:x<2^64):Dw x=(x:Int)::[]:=by
 unfold Dw;rw[EP (by decide) (by omega),be h,co h,DP];rfl
theorem aC1{f:Int}{a:Nat}(h:Af f a=0)(hfin:eF f a≠A4 f):Yw (f,(a:Int),())=some (Vz (od (sF f a) (Am f a) (Al f a)),0,()):=by
 obtain⟨hf,h0⟩:=E4 h;have ha:=T3 h;show oO Ar.pre Ar.F DD.pre DD.F Br.pre Br.F Cv.pre Cv.F f a=_;unfold oO;have h1:=C0 hf;have h2:=Eh hf;have h3:=Ea hf;have h4:=Ix hf;have h5:=ER hf;have h6:=Ku hf;have hE:=VA hf a;have hM:=TT f a;have hPp:2^(fP f-1)<=2^52:=ag (by decide) (by omega);have hpp:=aj (fP f-1);have p0:=Ih f a ha;have p1:=U3 (fW f-fP f) (by omega);have p2:=sD hf a ha;have hr1:decide (0<=f)=true:=decide_eq_true hf.1;have hr2:decide (f<((4:Nat):Int))=true:=decide_eq_true hf.2;have r1:(BH f).1=(fW f:Int):=rfl;have r2:(BH f).2.1=(fP f:Int):=rfl;have r3:(BH f).2.2.1=1-(fX f:Int):=rfl;have e1:aa .i64 ((fW f:Int)-(fP f:Int))=((fW f-fP f:Nat):Int):=BZ _ _ (by omega);have e2:aa .i64 ((fP f:Int)-1)=((fP f-1:Nat):Int):=Bt _ (by omega);have e3:AQ .u64 1 ((fP f-1:Nat):Int)=((2^(fP f-1):Nat):Int):=SL (by omega);have e4:Aq .u64 (mF f a:Int) ((2^(fP f-1):Nat):Int)=((mF f a+2^(fP f-1):Nat):Int):=by
  have:=IJ (a:=mF f a) (b:=1) (k:=fP f-1) hM (by omega);rwa [fb]at this
 have hfl:(((eF f a:Nat):Int)==((2^(fW f-fP f)-1:Nat):Int))=false:=by
  rw[IG];exact beq_eq_false_iff_ne.2 hfin
 have ew:∀z:Int,-1000000<=z/\z<=1000000->aa .i64 z=z:=fun z hz=>Au (by omega);simp only[zD hf,r1,r2,r3,hr1,hr2,Hl p0,Hf p0,yM p2,wS p2,h,cond_true,bne_self_eq_false,cond_false,e1,e2,e3,e4,WJ p1,VO p1,hfl,A6];by_cases hz:eF f a=0
 ·have hg:(((eF f a:Nat):Int)==0)=true:=BW _ hz;have hm:Am f a=mF f a:=by unfold Am;rw[if_pos hz]
  have hx:Al f a=1-(fX f:Int)-(fP f:Int)+1:=by unfold Al;rw[if_pos hz,Int.add_zero]
  rw[hg,cond_true,hm,hx];by_cases hm0:mF f a=0
  ·rw[BW _ hm0,cond_true];unfold od Vz;rw[if_pos hm0,aVi]
  ·obtain⟨k,hk⟩:=qB hm0;have htl:=aAc (n:=mF f a) (k:=53) (by omega) hm0;have p3:=sE (t:=tz (mF f a)) (k:=k) (by omega);rw[←hk]at p3;have hq:mF f a/2^tz (mF f a)≠0:=by
    have:=gd (2*k+1) (aj (tz (mF f a)));rw[←hk]at this;omega
   have hql:=dq (mF f a) (2^tz (mF f a));rw[Bg _ hm0,cond_false];simp only[yN p3,wT p3,cond_true,A6,Dv (mF f a) (tz (mF f a)) (by omega)];rw[←Uq hq (by omega)];unfold od Vz dy;rw[if_neg hm0];rw[ew 1 (by omega),ew (1-1) (by omega),ew (1-1+_) (by omega),ew (1-1+_-_) (by omega),ew (1-1+_-_+1) (by omega),ew _ (by omega)];rw[show(1:Int)-1+(1-(fX f:Int))-(fP f:Int)+1+(tz (mF f a):Int)=1-(fX f:Int)-(fP f:Int)+1+(tz (mF f a):Int) by omega]
 ·have hg:(((eF f a:Nat):Int)==0)=false:=Bg _ hz;have hm:Am f a=mF f a+2^(fP f-1):=by unfold Am;rw[if_neg hz]
  have hx:Al f a=1-(fX f:Int)-(fP f:Int)+1+((eF f a:Int)-1):=by unfold Al;rw[if_neg hz]
  rw[hg,cond_false,hm,hx];have hm0:mF f a+2^(fP f-1)≠0:=by omega
  have hml:mF f a+2^(fP f-1)<2^54:=by omega
  generalize mF f a+2^(fP f-1)=n at *
  obtain⟨k,hk⟩:=qB hm0;have htl:=aAc hml hm0;have p3:=sE (t:=tz n) (k:=k) (by rw[←hk];omega);rw[←hk]at p3;have hq:n/2^tz n≠0:=by
   have:=gd (2*k+1) (aj (tz n));rw[←hk]at this;omega
  have hql:=dq n (2^tz n);rw[Bg _ hm0,cond_false];simp only[yN p3,wT p3,cond_true,A6,Dv n (tz n) (by omega)];rw[←Uq hq (by omega)];unfold od Vz dy;rw[if_neg hm0];rw[ew (eF f a:Int) (by omega),ew ((eF f a:Int)-1) (by omega),ew ((eF f a:Int)-1+_) (by omega),ew ((eF f a:Int)-1+_-_) (by omega),ew ((eF f a:Int)-1+_-_+1) (by omega),ew _ (by omega)];rw[show(eF f a:Int)-1+(1-(fX f:Int))-(fP f:Int)+1+(tz n:Int)=1-(fX f:Int)-(fP f:Int)+1+((eF f a:Int)-1)+(tz n:Int) by omega]
theorem aKP(s:Bool){n:Nat}(e:Int)(hn:n<2^53)(he:-2000<=e/\e<=2000):(od s n e).2.1<2^53/\-2500<=(od s n e).2.2/\(od s n e).2.2<=2500:=by
 rcases TY s n e with⟨h,_⟩|⟨_,h2,h3,h4,h5⟩
 ·rw[h];exact⟨aj _,by dsimp only;omega,by dsimp only;omega⟩
 ·have hle:(od s n e).2.1<=n:=by
   have:=ju (od s n e).2.1 (aj (tz n));omega
  have:=aAc hn h3;refine⟨by omega,by omega,by omega⟩
end VL
namespace VL
open Go Vx
theorem aLJ{f:Int}(hf:Fm f):qm f<=0:=by
 have:=Ku hf;have:=C0 hf;unfold qm;omega
end VL
namespace VL
open Go Vx
def Bd(f:Int)(n:Nat)(e:Int):Prop:=qm f<=e/\e<=6000/\n*2^(e-qm f).toNat<2^5000
theorem Bd.lt{f:Int}{n:Nat}{e:Int}(h:Bd f n e):n<2^5000:=by
 have:=fm n (aj (e-qm f).toNat);exact ao this h.2.2
theorem Bd.od{f:Int}(hf:Fm f){n:Nat}{e:Int}(s:Bool)(h:Bd f n e):Bd f (VL.od s n e).2.1 (VL.od s n e).2.2:=by
 rcases TY s n e with⟨hz,_⟩|⟨_,h2,h3,h4,h5⟩
 ·rw[hz];exact⟨aLJ hf,by dsimp only;omega,by dsimp only;rw[fd];exact aj _⟩
 ·have hle:2^(tz n+(e-qm f).toNat)<=n*2^(e-qm f).toNat:=by
   rw[az];refine aw _ ?_;have:=fm (2^tz n) (show 0<(VL.od s n e).2.1 by omega);omega
  have hlt:=(cp (a:=2) (by decide)).1 (ao hle h.2.2);have hq:=aLJ hf;have h1:=h.1;refine⟨by omega,by omega,?_⟩;have e1:(VL.od s n e).2.1*2^((VL.od s n e).2.2-qm f).toNat=n*2^(e-qm f).toNat:=by
   rw[h5,show(e+(tz n:Int)-qm f).toNat=tz n+(e-qm f).toNat by omega,az,←av,ap _ (2^tz n),←h4]
  rw[e1];exact h.2.2
end VL
namespace VL
open Go Vx
structure Hid (p:Prop):Prop where
 out:p
end VL
namespace VL
open Go Vx
theorem bP{l:List Nat}{j v:Nat}(hj:j<l.length)(h:l.getD j 0=v):l.set j v=l:=by
 rw[al,List.getElem?_eq_getElem hj,Option.getD_some]at h;subst h;exact List.set_getElem_self hj
end VL
namespace VL
open Go Vx
theorem Iq{n k:Nat}(h:n<2^k)(hk:k<=64*5000):n<(2^64)^5000:=by
 rw[Du];exact ak h (ag (by decide) hk)
theorem aAj(n:Nat):((((Dw n).length:Nat):Int)==0)=decide (n=0):=by
 by_cases h:n=0
 ·subst h;rw[DZ];rfl
 ·rw[decide_eq_false h];exact Bg _ (by have:=dQ h;omega)
end VL
namespace VL
open Go Vx
def aIb(far n:Int):Int:=if(if far<n then far else n)>-far then(if far<n then far else n)else -far
def bDb(f m:Int)(a:Nat)(n:Int):DenS Lv:=if ¬Fm f then(0,0,2,())else if m<0∨m>5 then(0,0,3,())else if Af f a≠0 then(0,0,Af f a,())else bif nan f a then((BD f:Int),(bif AI f a then 1 else 0),0,())else if eF f a=A4 f∨Bj f a=0 then((a:Int),0,0,())else(((AT f m (sF f a) (Am f a) (Al f a+aIb 5000 n) false).1:Int),((AT f m (sF f a) (Am f a) (Al f a+aIb 5000 n) false).2:Int),0,())
end VL
namespace VL
open Go Vx
theorem ZB{x:Nat}(h:x<2^64):Bs .u64 (x:Int) 4294967295=((x%2^32:Nat):Int):=R4 (n:=32) h (by decide)
theorem Uc(x:Nat):AE .u64 (x:Int) 32=((x/2^32:Nat):Int):=by
 have h:=aMg (a:=(x:Int)) 32 (by decide);rw[show((32:Nat):Int)=32 from rfl]at h;rw[h];norm_cast
theorem aXa{x0 x1 y0 y1:Nat}(h0:x0<2^32)(h1:x1<2^32)(k0:y0<2^32)(k1:y1<2^32):
  ((x1*y1%2^64+(x1*y0%2^64+x0*y0%2^64/2^32)%2^64/2^32)%2^64+((x1*y0%2^64+x0*y0%2^64/2^32)%2^64%2^32+x0*y1%2^64)%2^64/2^32)%2^64=(x0+2^32*x1)*(y0+2^32*y1)/2^64:=by
 have b00:x0*y0<=(2^32-1)*(2^32-1):=gx (by omega) (by omega);have b01:x0*y1<=(2^32-1)*(2^32-1):=gx (by omega) (by omega);have b10:x1*y0<=(2^32-1)*(2^32-1):=gx (by omega) (by omega);have b11:x1*y1<=(2^32-1)*(2^32-1):=gx (by omega) (by omega);have e1:x0*(2^32*y1)=2^32*(x0*y1):=gf _ _ _;have e2:2^32*x1*y0=2^32*(x1*y0):=av _ _ _;have e3:2^32*x1*(2^32*y1)=2^64*(x1*y1):=by
  rw[av,gf x1,←av]
 rw[bw,bl,bl,e1,e2,e3];generalize x0*y0=a at *
 generalize x0*y1=b at *
 generalize x1*y0=c at *
 generalize x1*y1=d at *
 have ha:a%2^64=a:=be (by omega);have hb:b%2^64=b:=be (by omega);have hc:c%2^64=c:=be (by omega);have hd:d%2^64=d:=be (by omega);rw[ha,hb,hc,hd];have ht:(c+a/2^32)%2^64=c+a/2^32:=be (by omega);rw[ht];generalize hT:c+a/2^32=t;have hw:(t%2^32+b)%2^64=t%2^32+b:=be (by omega);rw[hw];have hq:(d+t/2^32)%2^64=d+t/2^32:=be (by omega);rw[hq];omega
theorem gC{x y:Nat}(hx:x<2^64)(hy:y<2^64):Ya ((x:Int),(y:Int),())=some (((x*y/2^64:Nat):Int),((x*y%2^64:Nat):Int),()):=by
 show nX (x:Int) (y:Int)=_;unfold nX;dsimp only;rw[ZB hx,ZB hy,Uc x,Uc y];have hm:∀z:Nat,z%2^64<2^64:=fun z=>bp _ (by decide);have am:∀z:Nat,Bs .u64 ((z%2^64:Nat):Int) 4294967295=((z%2^64%2^32:Nat):Int):=fun z=>ZB (hm z);have wm:∀a b:Nat,aa .u64 ((a:Int)*(b:Int))=((a*b%2^64:Nat):Int):=fun a b=>by rw[←lh];exact qE _
 have wa:∀a b:Nat,aa .u64 ((a:Int)+(b:Int))=(((a+b)%2^64:Nat):Int):=fun a b=>by rw[←Int.natCast_add];exact qE _
 simp only[wm,wa,Uc,am];have e:=aXa (x0:=x%2^32) (x1:=x/2^32) (y0:=y%2^32) (y1:=y/2^32) (by omega) (by omega) (by omega) (by omega);rw[lj,lj]at e;rw[e]
theorem aRL{x y:Nat}(hx:x<2^64)(hy:y<2^64):Yb ((x:Int),(y:Int),())=some (Wi (x*y),()):=by
 show nY AN.pre AN.F (x:Int) (y:Int)=_;unfold nY;have p:=gC hx hy;simp only[lK p,kH p,cond_true];rfl
def AB(f:Int)(a:Nat):Bool:=eF f a==0&&mF f a==0
theorem aIc{f:Int}(hf:Fm f)(a:Nat):(BT f a==5||BT f a==6)=AB f a:=by
 have hp:=kE hf;have hne:(eF f a==A4 f&&eF f a==0)=false:=by
  cases h:eF f a==A4 f
  ·rfl
  ·have:=beq_iff_eq.1 h;rw[bi,this];exact beq_eq_false_iff_ne.2 (by omega)
 unfold BT AB;cases h1:eF f a==A4 f<;>cases h2:eF f a==0<;>rw[h1,h2]at hne<;>cases mF f a==0<;>cases sF f a<;>cases mF f a/2^(fP f-2)!=0<;>first|rfl|cases hne
theorem bD2{f:Int}(hf:Fm f){a:Nat}(h:eF f a=0):
  aa .i64 (aa .i64 (aa .i64 (aa .i64 (aa .i64 (1:Int)-1)+(1-(fX f:Int)))-(fP f:Int))+1)=Al f a:=by
 have h3:=ER hf;have h4:=Ix hf;unfold Al;rw[if_pos h,show aa .i64 (1:Int)=1 from rfl,Au (n:=(1:Int)-1) (by omega),Au (n:=(1:Int)-1+(1-(fX f:Int))) (by omega),Au (n:=(1:Int)-1+(1-(fX f:Int))-(fP f:Int)) (by omega),Au (by omega)];omega
theorem bD1{f:Int}(hf:Fm f){a:Nat}(h:eF f a≠0):
  aa .i64 (aa .i64 (aa .i64 (aa .i64 (aa .i64 (eF f a:Int)-1)+(1-(fX f:Int)))-(fP f:Int))+1)=Al f a:=by
 have h3:=ER hf;have h4:=Ix hf;have hE:=VA hf a;unfold Al;rw[if_neg h,Au (n:=(eF f a:Int)) (by omega),Au (n:=(eF f a:Int)-1) (by omega),Au (n:=(eF f a:Int)-1+(1-(fX f:Int))) (by omega),Au (n:=(eF f a:Int)-1+(1-(fX f:Int))-(fP f:Int)) (by omega),Au (by omega)];omega
theorem aW1{f:Int}(hf:Fm f)(a:Nat):Aq .u64 (mF f a:Int) (AQ .u64 1 (aa .i64 ((fP f:Int)-1)))=((mF f a+2^(fP f-1):Nat):Int):=by
 have h1:=C0 hf;have h3:=ER hf;have hM:=TT f a;have hPp:2^(fP f-1)<=2^52:=ag (by decide) (by omega);have e0:aa .i64 ((fP f:Int)-1)=((fP f-1:Nat):Int):=Bt _ (by omega);have e3:AQ .u64 1 ((fP f-1:Nat):Int)=((2^(fP f-1):Nat):Int):=SL (by omega);rw[e0,e3];have:=IJ (a:=mF f a) (b:=1) (k:=fP f-1) hM (by omega);rwa [fb]at this
theorem aCF{f:Int}{a:Nat}(h:Af f a=0):UT (f,BH f,(a:Int),())=some ((BT f a,sF f a,(Am f a:Int),Al f a,()),0,()):=by
 obtain⟨hf,h0⟩:=E4 h;have ha:=T3 h;show WY AW.pre AW.F B1.pre B1.F f (BH f) a=_;unfold WY;have p1:=UY ha h;have p2:=gG h;have h1:=C0 hf;have h3:=ER hf;have r1:(BH f).2.1=(fP f:Int):=rfl;have r2:(BH f).2.2.1=1-(fX f:Int):=rfl;have e0:decide (0<=aa .i64 ((fP f:Int)-1))=true:=by
  rw[Bt _ (by omega)];exact A6 _
 simp only[KJ p1,KA p1,lS p2,kQ p2,cond_true,bne_self_eq_false,cond_false,r1,r2,e0];by_cases hz:eF f a=0
 ·rw[BW _ hz,cond_true,bD2 hf hz];have hm:Am f a=mF f a:=by unfold Am;rw[if_pos hz]
  rw[hm]
 ·rw[Bg _ hz,cond_false,bD1 hf hz,aW1 hf];have hm:Am f a=mF f a+2^(fP f-1):=by unfold Am;rw[if_neg hz]
  rw[hm]
theorem aCE{f:Int}{a:Nat}(ha:a<2^64)(h:Af f a≠0):UT (f,BH f,(a:Int),())=some ((0,false,0,0,()),Af f a,()):=by
 show WY AW.pre AW.F B1.pre B1.F f (BH f) a=_;unfold WY;have p1:=sA ha h;have e:(Af f a !=0)=true:=bne_iff_ne.2 h;simp only[KJ p1,KA p1,cond_true,e]
def E5(f m:Int)(a b:Nat):Int×Int×Int×Unit:=bif nan f a||nan f b then((BD f:Int),(bif AI f a||AI f b then 1 else 0),0,())else bif(Ap f a&&AB f b)||(AB f a&&Ap f b)then((BD f:Int),1,0,())else bif Ap f a||Ap f b then((C3 f (!(sF f a==sF f b)):Int),0,0,())else bif AB f a||AB f b then((Bp f (!(sF f a==sF f b)):Int),0,0,())else(((AT f m (!(sF f a==sF f b)) (Am f a*Am f b) (Al f a+Al f b) false).1:Int),((AT f m (!(sF f a==sF f b)) (Am f a*Am f b) (Al f a+Al f b) false).2:Int),0,())
def Su(f m:Int)(a b:Nat):Int×Int×Int×Unit:=if ¬Fm f then(0,0,2,())else if m<0∨m>5 then(0,0,3,())else if Af f a≠0 then(0,0,Af f a,())else if Af f b≠0 then(0,0,Af f b,())else E5 f m a b
theorem NE{f:Int}{a:Nat}(h:AB f a=false):Am f a≠0:=by
 unfold AB at h;unfold Am;by_cases hz:eF f a=0
 ·rw[if_pos hz];intro hm;rw[hz,hm]at h;cases h
 ·rw[if_neg hz];have:=aj (fP f-1);omega
theorem aRY(f m:Int){a b:Nat}(ha:a<2^64)(hb:b<2^64):Yp (f,m,(a:Int),(b:Int),())=some (Su f m a b):=by
 show oG Ao.pre Ao.F Rl.pre Rl.F Rm.pre Rm.F AS.pre AS.F Rn.pre Rn.F Cq.pre Cq.F Ro.pre Ro.F Bu.pre Bu.F Eg.pre Eg.F Bv.pre Bv.F f m a b=_;unfold oG Su;dsimp only;by_cases hf:¬Fm f
 ·have p0:=Ii hf;rw[if_pos hf];simp only[CJ p0,CF p0,cond_true];rfl
 have hf:=gv.1 hf;have p0:=Ge hf;rw[if_neg (show ¬¬Fm f from fun h=>h hf)];simp only[CJ p0,CF p0,cond_true,bne_self_eq_false,cond_false];by_cases hm:m<0∨m>5
 ·rw[if_pos hm];have:(decide (m<0)||decide (m>5))=true:=by rcases hm with h|h<;>simp[h]
  rw[this,cond_true]
 rw[if_neg hm];have hm':0<=m/\m<=5:=by omega
 have:(decide (m<0)||decide (m>5))=false:=by simp;omega
 rw[this,cond_false];by_cases hca:Af f a≠0
 ·have p1:=aCE ha hca;have e:(Af f a !=0)=true:=bne_iff_ne.2 hca;rw[if_pos hca];simp only[lL p1,kI p1,cond_true,e]
 have hca:=gv.1 hca;have p1:=aCF hca;rw[if_neg (show ¬Af f a≠0 from fun h=>h hca)];simp only[lL p1,kI p1,cond_true,bne_self_eq_false,cond_false];by_cases hcb:Af f b≠0
 ·have p2:=aCE hb hcb;have e:(Af f b !=0)=true:=bne_iff_ne.2 hcb;rw[if_pos hcb];simp only[lL p2,kI p2,cond_true,e]
 have hcb:=gv.1 hcb;have p2:=aCF hcb;rw[if_neg (show ¬Af f b≠0 from fun h=>h hcb)];have n351:∀(c:Int) (s:Bool) (n e:Int),Ym ((c,s,n,e,()),())=some ((c==1||c==0),()):=fun _ _ _ _=>rfl;have n352:∀(c:Int) (s:Bool) (n e:Int),Yn ((c,s,n,e,()),())=some ((c==2||c==9),()):=fun _ _ _ _=>rfl;have n353:∀(c:Int) (s:Bool) (n e:Int),Yo ((c,s,n,e,()),())=some ((c==5||c==6),()):=fun _ _ _ _=>rfl;have q1:=n351 (BT f a) (sF f a) (Am f a:Int) (Al f a);have q2:=n351 (BT f b) (sF f b) (Am f b:Int) (Al f b);have q3:=n352 (BT f a) (sF f a) (Am f a:Int) (Al f a);have q4:=n352 (BT f b) (sF f b) (Am f b:Int) (Al f b);have q5:=n353 (BT f a) (sF f a) (Am f a:Int) (Al f a);have q6:=n353 (BT f b) (sF f b) (Am f b:Int) (Al f b);rw[Vw]at q1 q2;rw[jP]at q3 q4;rw[aIc hf]at q5 q6;have s:=!(sF f a==sF f b);have p3:=YT hf;have p4:=Y0 hf (!(sF f a==sF f b));have p5:=S9 hf (!(sF f a==sF f b));have ma:=Sr hf a;have mb:=Sr hf b;have xa:=W7 hf a;have xb:=W7 hf b;have hprod:Am f a*Am f b<2^128:=ak (ni ma mb) (by decide);have p6:=aRL (x:=Am f a) (y:=Am f b) (je ma (by decide)) (je mb (by decide));have p7:=Tb hf hm' (!(sF f a==sF f b)) (Am f a*Am f b) hprod (Al f a+Al f b) (by omega) false (fun h=>by cases h);have ew:aa .i64 (Al f a+Al f b)=Al f a+Al f b:=Au (by omega);simp only[lL p2,kI p2,cond_true,bne_self_eq_false,cond_false,aLo q1,aJi q1,aLo q2,aJi q2,aLp q3,aJj q3,aLp q4,aJj q4,aLq q5,aJk q5,aLq q6,aJk q6,lQ p3,kO p3,lR p4,kP p4,WD p5,VH p5,aYt p6,aVY p6,ew,T6 p7,TL p7,bb,Tz];unfold E5;cases h1:nan f a||nan f b
 ·simp only[cond_false];cases h2:Ap f a&&AB f b||AB f a&&Ap f b
  ·simp only[cond_false];cases h3:Ap f a||Ap f b
   ·simp only[cond_false];cases h4:AB f a||AB f b
    ·simp only[cond_false];simp only[fh]at h4;rw[if_neg (iq (NE h4.1) (NE h4.2))]
    ·simp only[cond_true]
   ·simp only[cond_true]
  ·simp only[cond_true]
 ·simp only[cond_true];cases AI f a||AI f b<;>rfl
end VL
namespace VL
open Go Vx
theorem vX(n:Nat):∃r,r*r<=n/\n<(r+1)*(r+1):=by
 induction n with
 |zero=>exact⟨0,by decide,by decide⟩
 |succ n ih=>
  obtain⟨r,h1,h2⟩:=ih;by_cases h:n+1<(r+1)*(r+1)
  ·exact⟨r,by omega,h⟩
  ·refine⟨r+1,by omega,?_⟩;have:(r+1+1)*(r+1+1)=(r+1)*(r+1)+2*(r+1)+1:=by
    rw[bl (r+1+1),bw (r+1) 1 (r+1)];omega
   omega
def AG(n:Nat):Nat:=Classical.choose (vX n)
theorem TP(n:Nat):AG n*AG n<=n:=(kd (vX n)).1
theorem xD(n:Nat):n<(AG n+1)*(AG n+1):=(kd (vX n)).2
theorem zO{a b:Nat}(h:a<=b):a*a<=b*b:=gx h h
theorem mE{a b:Nat}(h:a*a<b*b):a<b:=by
 rcases aq a b with h1|h1
 ·exact h1
 ·exact absurd (zO h1) (by omega)
theorem xE{n r:Nat}(h1:r*r<=n)(h2:n<(r+1)*(r+1)):AG n=r:=by
 have h3:=TP n;have h4:=xD n;have:=mE (show r*r<(AG n+1)*(AG n+1) by omega);have:=mE (show AG n*AG n<(r+1)*(r+1) by omega);omega
theorem kX{n r:Nat}(h:r*r<=n):r<=AG n:=by
 have:=mE (show r*r<(AG n+1)*(AG n+1)from ao h (xD n));omega
theorem xF(r:Nat):AG (r*r)=r:=xE (bj _) (by rw[bl,bw];omega)
theorem aJT{n:Nat}(h:n≠0):1<=AG n:=kX (by omega)
theorem Wv(a b:Nat):(a*b)*(a*b)=a*a*(b*b):=by
 rw[av,gf b a b,av]
theorem aWB(n K:Nat)(hK:0<K):AG (n*(K*K))/K=AG n:=by
 symm;have h1:=TP (n*(K*K));have h2:=xD (n*(K*K));generalize AG (n*(K*K))=R at *
 have hKK:=ii hK hK;apply xE
 ·have h3:=zO (jr R K);rw[Wv]at h3;exact mn (fw h3 h1) hKK
 ·have h3:R+1<=(R/K+1)*K:=by
   have:=mq hK (a:=R);rw[bw,fb];omega
  have h4:=zO h3;rw[Wv]at h4;exact iv (ak h2 h4)
theorem aMj:∀(k R n:Nat),R*R=n*(2^k*2^k)->∃q,R=q*2^k/\q*q=n
 |0,R,n,h=>⟨R,by omega,by omega⟩
 |k+1,R,n,h=>by
  have e:n*(2^(k+1)*2^(k+1))=4*(n*(2^k*2^k)):=by
   rw[dr,Wv,←av n,ap]
  rw[e]at h
  have hev:R%2=0:=by
   rcases Nat.mod_two_eq_zero_or_one R with h1|h1
   ·exact h1
   ·have h2:R=2*(R/2)+1:=by omega
    have h3:R*R%2=1:=by rw[Nat.mul_mod,h1]
    omega
  obtain⟨S,rfl⟩:∃S,R=2*S:=⟨R/2,by omega⟩
  rw[Wv]at h
  obtain⟨q,h1,h2⟩:=aMj k S n (by omega)
  exact⟨q,by rw[h1,dr,ap (2^k) 2,gf],h2⟩
theorem aJS(n k:Nat):AG (n*(2^k*2^k))*AG (n*(2^k*2^k))=n*(2^k*2^k)↔AG n*AG n=n:=by
 constructor
 ·intro h;obtain⟨q,h1,h2⟩:=aMj k _ n h;rw[←h2,xF]
 ·intro h;have e:n*(2^k*2^k)=(AG n*2^k)*(AG n*2^k):=by rw[Wv,h]
  rw[e,xF]
theorem aWA{n k:Nat}(h:AG n*AG n=n):AG (n*(2^k*2^k))=AG n*2^k:=by
 have e:n*(2^k*2^k)=(AG n*2^k)*(AG n*2^k):=by rw[Wv,h]
 rw[e,xF]
theorem aLT{f m:Int}{neg:Bool}{N:Nat}{E:Int}(hf:Fm f)(hb:fP f+2<=An N):AT f m neg N E true=AT f m neg (2*N+1) (E-1) false:=by
 have hP:=C0 hf;have e1:(2*N+1)/2^1=N:=by omega
 have e2:(2*N+1)%2^1≠0:=by omega
 have h0:N≠0:=fun h=>by
  rw[h]at hb;have:An 0=0:=rfl;omega
 have:=WP (f:=f) (m:=m) (neg:=neg) (N:=2*N+1) (k:=1) (E:=E-1) hf (by rw[e1];exact h0) (fun _=>by rw[e1];exact hb);rw[e1,decide_eq_true e2,show E-1+((1:Nat):Int)=E by omega]at this;exact this
theorem aLR{f m:Int}{neg:Bool}{N k:Nat}{E:Int}(hf:Fm f)(hb:fP f+2<=An (N/2^k)):AT f m neg (N/2^k) E true=AT f m neg (2*N+1) (E-k-1) false:=by
 have hP:=C0 hf;have e1:(2*N+1)/2^(k+1)=N/2^k:=by
  rw[dr,ap (2^k),←dl,show(2*N+1)/2=N by omega]
 have e2:(2*N+1)%2^(k+1)≠0:=by
  rw[dr,ap (2^k),mj];omega
 have h0:N/2^k≠0:=fun h=>by
  rw[h]at hb;have:An 0=0:=rfl;omega
 have:=WP (f:=f) (m:=m) (neg:=neg) (N:=2*N+1) (k:=k+1) (E:=E-k-1) hf (by rw[e1];exact h0) (fun _=>by rw[e1];exact hb);rw[e1,decide_eq_true e2,show E-k-1+((k+1:Nat):Int)=E by omega]at this;exact this
def Nv(f m:Int)(X:Nat)(E:Int):Nat×Nat:=if AG X*AG X=X then AT f m false (AG X) E false else AT f m false (2*AG X+1) (E-1) false
theorem bCn{f m:Int}(hf:Fm f){X k:Nat}{E:Int}(h0:X≠0)(hb:fP f+2<=An (AG X)):Nv f m (X*(2^k*2^k)) (E-k)=Nv f m X E:=by
 have hpos:=aJT h0;have hsc:=aWB X (2^k) (aj k);unfold Nv;by_cases h:AG X*AG X=X
 ·rw[if_pos h,if_pos ((aJS X k).2 h),aWA h,WO hf (by omega),show E-(k:Int)+(k:Int)=E by omega]
 ·rw[if_neg h,if_neg (fun h2=>h ((aJS X k).1 h2)),←aLT hf hb];have:=aLR (f:=f) (m:=m) (neg:=false) (N:=AG (X*(2^k*2^k))) (k:=k) (E:=E) hf (by rw[hsc];exact hb);rw[hsc]at this;exact this.symm
theorem aWy{X k:Nat}(h:2^(2*k)<=X):k+1<=An (AG X):=by
 apply Vs;apply kX;rw[←az,show k+k=2*k by omega];exact h
theorem aWz{X k:Nat}(h:X<2^(2*k)):AG X<2^k:=by
 apply mE;rw[←az,show k+k=2*k by omega];exact ao (TP X) h
end VL
namespace VL
open Go Vx
theorem aCv{f:Int}{a:Nat}(h:Af f a=0):X9 (f,BH f,(a:Int),())=some ((Am f a:Int),Al f a,()):=by
 obtain⟨hf,h0⟩:=E4 h;show nW B1.pre B1.F f (BH f) a=_;unfold nW;have h1:=C0 hf;have h2:=Eh hf;have h3:=Ea hf;have h4:=Ix hf;have h5:=ER hf;have h6:=Ku hf;have hE:=VA hf a;have hM:=TT f a;have hPp:2^(fP f-1)<=2^52:=ag (by decide) (by omega);have p98:=gG h;have r2:(BH f).2.1=(fP f:Int):=rfl;have r3:(BH f).2.2.1=1-(fX f:Int):=rfl;have e2:aa .i64 ((fP f:Int)-1)=((fP f-1:Nat):Int):=Bt _ (by omega);have e3:AQ .u64 1 ((fP f-1:Nat):Int)=((2^(fP f-1):Nat):Int):=SL (by omega);have e4:Aq .u64 (mF f a:Int) ((2^(fP f-1):Nat):Int)=((mF f a+2^(fP f-1):Nat):Int):=by
  have:=IJ (a:=mF f a) (b:=1) (k:=fP f-1) hM (by omega);rwa [fb]at this
 have hE2:eF f a<65536:=by
  have:=vU (f:=f) a;have e:A4 f=2*fX f+1:=by unfold A4;rw[←TG hf]
  omega
 have e5:∀k:Nat,k<65536->aa .i64 (aa .i64 (aa .i64 (aa .i64 (aa .i64 (k:Int)-1)+(1-(fX f:Int)))-(fP f:Int))+1)=(k:Int)-1+(1-(fX f:Int))-(fP f:Int)+1:=fun k hk=>by
  rw[Au (n:=(k:Int)) (by omega),Au (n:=(k:Int)-1) (by omega),Au (n:=(k:Int)-1+_) (by omega),Au (n:=(k:Int)-1+_-_) (by omega),Au (by omega)]
 have e6:=e5 1 (by decide);rw[show((1:Nat):Int)=1 from rfl]at e6;dsimp only;simp only[r2,r3,e2,A6,cond_true,lS p98,kQ p98,e3,e4,e6,e5 _ hE2,FD];unfold Am Al;by_cases hz:eF f a=0
 ·rw[hz,if_pos rfl,if_pos rfl];show some ((mF f a:Int),((1:Int)-1+(1-(fX f:Int))-(fP f:Int)+1,()))=_;rw[show(1:Int)-1+(1-(fX f:Int))-(fP f:Int)+1=1-(fX f:Int)-(fP f:Int)+1+0 by omega]
 ·have:(eF f a==0)=false:=by simpa using hz
  rw[this,cond_false,if_neg hz,if_neg hz];rw[show(eF f a:Int)-1+(1-(fX f:Int))-(fP f:Int)+1=1-(fX f:Int)-(fP f:Int)+1+((eF f a:Int)-1) by omega]
def DJ(f:Int)(l:List Nat):Bool:=l.all fun a=>Af f a==0
theorem jM{f:Int}(hf:Fm f)(a:Nat):Af f a=0∨Af f a=4:=by
 unfold Af;rw[if_pos hf];split<;>simp
theorem aSt{f:Int}(hf:Fm f)(l:List Nat)(hl:∀a∈l,a<2^64)(hlen:l.length<1000)(z r:Ab (.pair (.int .i64) (.pair (.int .i64) (.pair (.int .i64) (.pair (.int .i64) (.unit)))))):
  Y5 ((((l.length:Int),(Wd l,(f,((0:Int),((),((),())))))),(z,(r,()))):Pat.D GT)=some (bif DJ f l then .inl (((),((),())),(z,(r,())))else .inr (((),((4:Int),())),(r,()))):=by
 have key:=DU (aKh Ao.pre Ao.F Ar.pre Ar.F) (fun x=>l.length-x.1.2.2.2.1.toNat)
  (fun x=>∃i:Nat,i<=l.length/\DJ f (l.take i)=true/\x=(((l.length:Int),(Wd l,(f,((i:Int),((),((),())))))),(z,(r,()))))
  (fun _=>bif DJ f l then .inl (((),((),())),(z,(r,())))else .inr (((),((4:Int),())),(r,()))) ?_ _ ⟨0,dt _,rfl,rfl⟩
 ·exact key
 intro L x hx hL;obtain⟨i,hi,hok,rfl⟩:=hx;unfold V4;rcases aq i l.length with hlt|hge
 ·have hg:l.getD i 0=l[i]:=by simp[al,hlt]
  have hmem:l[i]∈l:=iw hlt;have ha:=hl _ hmem;have p0:=Ih f l[i] ha;have e0:decide ((i:Int)<(l.length:Int))=true:=decide_eq_true (by omega);have e1:(decide ((0:Int)<=(i:Int))&&decide ((i:Int)<((Wd l).length:Int)))=true:=by rw[AC,decide_eq_true (by omega),decide_eq_true (by omega)];rfl
  have e2:(Wd l).getD (ai (i:Int)) 0=((l[i]:Nat):Int):=by rw[ae,Cw,hg]
  have e3:aa .i64 ((i:Int)+1)=((i+1:Nat):Int):=by rw[Au (by omega)];omega
  have htk:l.take (i+1)=l.take i++[l[i]]:=by rw[gu hlt]
  dsimp only;simp only[e0,e1,e2,e3,cond_true,Hl p0,Hf p0];by_cases hc:Af f l[i]=0
  ·rw[hc,bne_self_eq_false,cond_false];refine hL _ ⟨i+1,by omega,?_,rfl⟩ (by simp only[ae];omega);unfold DJ at hok⊢;rw[htk,qg,hok,kj,hc];rfl
  ·have h4:Af f l[i]=4:=(jM hf _).resolve_left hc;have hno:DJ f l=false:=by
    unfold DJ;rw[oz];exact⟨l[i],hmem,by rw[h4];decide⟩
   rw[h4,hno];rfl
 ·have e:i=l.length:=by omega
  subst e;rw[dk]at hok;have e0:decide ((l.length:Int)<(l.length:Int))=false:=decide_eq_false (by omega);simp only[e0,cond_false];rw[hok];rfl
def CD(f m:Int)(l:List Nat):Int:=if ¬Fm f then 2 else if m<0∨m>5 then 3 else bif DJ f l then 0 else 4
theorem aRK{f m:Int}(hf:Fm f)(l:List Nat)(hl:∀a∈l,a<2^64)(hlen:l.length<1000):UO (f,m,Wd l,())=some (BH f,CD f m l,()):=by
 show WX Ao.pre Ao.F Ar.pre Ar.F Y5 f m (Wd l)=_;unfold WX CD;have p0:=Ge hf;rw[if_neg (show ¬¬Fm f from fun h=>h hf)];simp only[CJ p0,CF p0,cond_true,bne_self_eq_false,cond_false];by_cases hm:m<0∨m>5
 ·have:(decide (m<0)||decide (m>5))=true:=by rw[dz,decide_eq_true_eq,decide_eq_true_eq];exact hm
  rw[this,if_pos hm];rfl
 ·have:(decide (m<0)||decide (m>5))=false:=by rw[fh,decide_eq_false_iff_not,decide_eq_false_iff_not];omega
  rw[this,if_neg hm,cond_false,AC,aSt hf l hl hlen];cases DJ f l<;>rfl
theorem aRJ{f m:Int}(hf:¬Fm f)(l:List Nat):UO (f,m,Wd l,())=some ((0,0,0,0,()),2,()):=by
 show WX Ao.pre Ao.F Ar.pre Ar.F Y5 f m (Wd l)=_;unfold WX;have p0:=Ii hf;simp only[CJ p0,CF p0,cond_true];rfl
def aLX(f m:Int)(n:Nat)(e:Int):Nat×Nat:=if e%2=1 then Nv f m (n*2*2^200) ((e-1)/2-100)else Nv f m (n*2^200) (e/2-100)
def bDl(f m:Int)(a:Nat):Int×Int×Int×Unit:=if CD f m [a]≠0 then(0,0,CD f m [a],())else bif nan f a then((BD f:Int),(bif AI f a then 1 else 0),0,())else bif sF f a&&!AB f a then((BD f:Int),1,0,())else bif AB f a||Ap f a then((a:Int),0,0,())else(((aLX f m (Am f a) (Al f a)).1:Int),((aLX f m (Am f a) (Al f a)).2:Int),0,())
theorem aUJ{f m:Int}{l:List Nat}(h:CD f m l=0):Fm f/\(0<=m/\m<=5)/\∀a∈l,Af f a=0:=by
 unfold CD at h;by_cases hf:Fm f
 ·rw[if_neg (show ¬¬Fm f from fun h=>h hf)]at h;by_cases hm:m<0∨m>5
  ·rw[if_pos hm]at h;cases h
  ·rw[if_neg hm]at h;refine⟨hf,by omega,?_⟩;cases hk:DJ f l
   ·rw[hk]at h;cases h
   ·unfold DJ at hk;rw[List.all_eq_true]at hk;exact fun a ha=>by simpa using hk a ha
 ·rw[if_pos hf]at h;cases h
end VL
namespace VL
open Go Vx
theorem aJU(n:Nat):AG n<=n:=by
 have:=TP n;rcases bd (AG n)with h|h
 ·omega
 ·have:=ju (AG n) h;omega
end VL
namespace VL
open Go Vx
theorem aIp{q r yn1 yn0 u u1:Nat}(hq:q*yn1+r=u):(2^32*r+u1<q*yn0)↔u*2^32+u1<q*(yn1*2^32+yn0):=by
 rw[bl,←av,←hq,bw];omega
theorem aIm{q r yn1 yn0 u u1:Nat}(hq:q*yn1+r=u)(hr:r<2^32)(h0:yn0<2^32)(hu1:u1<2^32)(hlt:u<yn1*2^32+yn0):
  (decide ((q:Int)>=4294967296)||decide (aa .u64 ((q:Int)*(yn0:Int))>aa .u64 (aa .u64 ((4294967296:Int)*(r:Int))+(u1:Int))))=decide (u*2^32+u1<q*(yn1*2^32+yn0)):=by
 rcases aq q (2^32)with h|h
 ·have hm:q*yn0<=(2^32-1)*(2^32-1):=gx (by omega) (by omega);have e1:aa .u64 ((q:Int)*(yn0:Int))=((q*yn0:Nat):Int):=aAg _ _ (by omega);have e2:aa .u64 ((4294967296:Int)*(r:Int))=((2^32*r:Nat):Int):=aAg (2^32) r (by omega);have e3:aa .u64 (((2^32*r:Nat):Int)+(u1:Int))=((2^32*r+u1:Nat):Int):=Uj _ _ (by omega);have e4:decide ((q:Int)>=4294967296)=false:=decide_eq_false (by omega);rw[e1,e2,e3,e4,bt,ee,decide_eq_true_eq,decide_eq_true_eq,←aIp hq];omega
 ·have e4:decide ((q:Int)>=4294967296)=true:=decide_eq_true (by omega);have hm:2^32*(yn1*2^32+yn0)<=q*(yn1*2^32+yn0):=aw _ h;rw[e4,bb,decide_eq_true (by omega)]
theorem aIo{yn1 yn0 u u1:Nat}(hy:0<yn1)(hu1:u1<2^32):u*2^32+u1<(u/yn1+1)*(yn1*2^32+yn0):=by
 have h1:u<(u/yn1+1)*yn1:=by
  have:=mq hy (a:=u);rw[bw,fb];exact this
 rw[bl,←av];omega
theorem aIn{q r yn1 yn0 u u1:Nat}(hq:q*yn1+r=u)(h:u*2^32+u1<q*(yn1*2^32+yn0)):1<=q/\(q-1)*yn1+(r+yn1)=u:=by
 have h1:1<=q:=by
  rcases bd q with h0|h0
  ·rw[h0,fd]at h;omega
  ·exact h0
 refine⟨h1,?_⟩;obtain⟨p,rfl⟩:∃p,q=p+1:=⟨q-1,by omega⟩
 rw[bw,fb]at hq;rw[show p+1-1=p by omega];omega
theorem aIl{q r yn1 yn0 u u1:Nat}(hq:q*yn1+r=u)(hr:2^32<=r)(h0:yn0<2^32)(hlt:u<yn1*2^32+yn0):q*(yn1*2^32+yn0)<=u*2^32+u1:=by
 have h1:q*yn1<2^32*yn1:=by omega
 have h2:q<2^32:=iv h1;have h3:q*yn0<=2^32*(2^32-1):=gx (by omega) (by omega);have h4:¬2^32*r+u1<q*yn0:=by omega
 rw[aIp hq]at h4;omega
theorem jV{a b q:Nat}(h1:q*b<=a)(h2:a<(q+1)*b):a/b=q:=Nat.div_eq_of_lt_le h1 h2
theorem aSw{u u1 yn0 yn1:Nat}(h0:yn0<2^32)(h1:yn1<2^32)(hy:0<yn1)(hu1:u1<2^32)(hlt:u<yn1*2^32+yn0)(u0 y s:Int):
  gR ((((u%yn1:Nat):Int),((u:Int),((u1:Int),((yn0:Int),((yn1:Int),(((u/yn1:Nat):Int),(u0,(y,(s,()))))))))),()) =
   some (.inl (((u:Int),((u1:Int),((yn0:Int),((yn1:Int),((((u*2^32+u1)/(yn1*2^32+yn0):Nat):Int),(u0,(y,(s,())))))))),())):=by
 have key:=DU (aKk BP.pre BP.F) (fun x=>x.1.2.2.2.2.2.1.toNat)
  (fun x=>∃q r:Nat,q*yn1+r=u/\r<2^32/\u*2^32+u1<(q+1)*(yn1*2^32+yn0)/\x=(((r:Int),((u:Int),((u1:Int),((yn0:Int),((yn1:Int),((q:Int),(u0,(y,(s,()))))))))),()))
  (fun _=>.inl (((u:Int),((u1:Int),((yn0:Int),((yn1:Int),((((u*2^32+u1)/(yn1*2^32+yn0):Nat):Int),(u0,(y,(s,())))))))),())) ?_ _
  ⟨u/yn1,u%yn1,by rw[ap];exact ci u yn1,je (bp _ hy) h1,aIo hy hu1,rfl⟩
 ·exact key
 intro L x hx hL;obtain⟨q,r,hq,hr,hup,rfl⟩:=hx;unfold V7;have hqu:q<=u:=by
  have:=fm q hy;omega
 dsimp only;rw[aIm hq hr h0 hu1 hlt];by_cases hc:u*2^32+u1<q*(yn1*2^32+yn0)
 ·obtain⟨d1,d2⟩:=aIn hq hc;have e1:aa .u64 ((q:Int)-1)=((q-1:Nat):Int):=by rw[DL (by omega)];omega
  have e2:aa .u64 ((r:Int)+(yn1:Int))=((r+yn1:Nat):Int):=Uj _ _ (by omega);rw[decide_eq_true hc,cond_true,e1,e2];by_cases hb:2^32<=r+yn1
  ·have e3:decide (((r+yn1:Nat):Int)>=4294967296)=true:=decide_eq_true (by omega);rw[e3,cond_true];have:=aIl (u1:=u1) d2 hb h0 hlt;rw[jV this (by rw[show q-1+1=q by omega];exact hc)]
  ·have e3:decide (((r+yn1:Nat):Int)>=4294967296)=false:=decide_eq_false (by omega);rw[e3,cond_false];exact hL _ ⟨q-1,r+yn1,d2,by omega,by rw[show q-1+1=q by omega];exact hc,rfl⟩ (by simp only[ae];omega)
 ·rw[decide_eq_false hc,cond_false,jV (by omega) hup]
theorem aSx{u u1 yn0 yn1:Nat}(h0:yn0<2^32)(h1:yn1<2^32)(hy:0<yn1)(hu1:u1<2^32)(hlt:u<yn1*2^32+yn0)(q1 y s:Int):
  gS (((yn0:Int),(((u%yn1:Nat):Int),((yn1:Int),(q1,((u:Int),((u1:Int),(((u/yn1:Nat):Int),(y,(s,()))))))))),()) =
   some (.inl ((q1,((u:Int),((u1:Int),((((u*2^32+u1)/(yn1*2^32+yn0):Nat):Int),(y,(s,())))))),())):=by
 have key:=DU (aKl BP.pre BP.F) (fun x=>x.1.2.2.2.2.2.2.1.toNat)
  (fun x=>∃q r:Nat,q*yn1+r=u/\r<2^32/\u*2^32+u1<(q+1)*(yn1*2^32+yn0)/\x=(((yn0:Int),((r:Int),((yn1:Int),(q1,((u:Int),((u1:Int),((q:Int),(y,(s,()))))))))),()))
  (fun _=>.inl ((q1,((u:Int),((u1:Int),((((u*2^32+u1)/(yn1*2^32+yn0):Nat):Int),(y,(s,())))))),())) ?_ _
  ⟨u/yn1,u%yn1,by rw[ap];exact ci u yn1,je (bp _ hy) h1,aIo hy hu1,rfl⟩
 ·exact key
 intro L x hx hL;obtain⟨q,r,hq,hr,hup,rfl⟩:=hx;unfold V8;have hqu:q<=u:=by
  have:=fm q hy;omega
 dsimp only;rw[aIm hq hr h0 hu1 hlt];by_cases hc:u*2^32+u1<q*(yn1*2^32+yn0)
 ·obtain⟨d1,d2⟩:=aIn hq hc;have e1:aa .u64 ((q:Int)-1)=((q-1:Nat):Int):=by rw[DL (by omega)];omega
  have e2:aa .u64 ((r:Int)+(yn1:Int))=((r+yn1:Nat):Int):=Uj _ _ (by omega);rw[decide_eq_true hc,cond_true,e1,e2];by_cases hb:2^32<=r+yn1
  ·have e3:decide (((r+yn1:Nat):Int)>=4294967296)=true:=decide_eq_true (by omega);rw[e3,cond_true];have:=aIl (u1:=u1) d2 hb h0 hlt;rw[jV this (by rw[show q-1+1=q by omega];exact hc)]
  ·have e3:decide (((r+yn1:Nat):Int)>=4294967296)=false:=decide_eq_false (by omega);rw[e3,cond_false];exact hL _ ⟨q-1,r+yn1,d2,by omega,by rw[show q-1+1=q by omega];exact hc,rfl⟩ (by simp only[ae];omega)
 ·rw[decide_eq_false hc,cond_false,jV (by omega) hup]
theorem aVa{A y u32 u1 u0 q1 r1 q0 r0:Nat}(hA:A=(u32*2^32+u1)*2^32+u0)(h1:u32*2^32+u1=q1*y+r1)(h2:r1*2^32+u0=q0*y+r0)(hr:r0<y):
  A/y=q1*2^32+q0/\A%y=r0:=by
 have e:A=(q1*2^32+q0)*y+r0:=by
  rw[hA,h1,bw,bw,jd];omega
 have hy:0<y:=by omega
 rw[e,ap _ y];exact⟨by rw[kg hy,co hr,dc],by rw[kh,be hr]⟩
theorem bDj(U X:Nat):U*2^64+X=(U*2^32+X/2^32)*2^32+X%2^32:=by omega
theorem orL{a b k:Nat}(ha:a<2^k)(h:b*2^k+a<2^64):Aq .u64 ((b*2^k:Nat):Int) (a:Int)=((b*2^k+a:Nat):Int):=by
 rw[bB (by omega) (by omega)];congr 1;have:=Nat.two_pow_add_eq_or_of_lt ha b;rw[ap b,←this]
theorem aCA{n:Nat}(hn:n<2^64):Yf ((n:Int),())=some (((64-An n:Nat):Int),()):=by
 show n5 CE.pre CE.F (n:Int)=_;unfold n5;have p0:=aCp n hn;have hb:=Fx hn;have e:aa .i64 ((64:Int)-(An n:Int))=((64-An n:Nat):Int):=by rw[Au (by omega)];omega
 simp only[aLg p0,aJa p0,cond_true,e]
theorem aCB{hi lo y:Nat}(hlo:lo<2^64)(hy:y<2^64)(hlt:hi<y):
  Yg ((hi:Int),(lo:Int),(y:Int),())=some ((((hi*2^64+lo)/y:Nat):Int),(((hi*2^64+lo)%y:Nat):Int),()):=by
 have hy0:0<y:=by omega
 show n6 BP.pre BP.F gR gS (hi:Int) (lo:Int) (y:Int)=_;unfold n6;have hbl:=Fx hy;have hbl1:=aHQ (n:=y) (by omega);have p0:=aCA hy;generalize hs:64-An y=s at *
 have e9:aa .u64 (s:Int)=(s:Int):=W6 _ (by omega);have e10:aa .u64 ((64:Int)-(s:Int))=((64-s:Nat):Int):=by rw[DL (by omega)];omega
 have g0:((y:Int)==0)=false:=Bg _ (by omega);have g1:decide ((y:Int)<=(hi:Int))=false:=decide_eq_false (by omega);have g2:((y:Int)!=0)=true:=BB _ (by omega);dsimp only;simp only[g0,g1,g2,cond_false,cond_true,aLk p0,aJe p0,e9,e10];by_cases hh:hi=0
 ·subst hh;have e1:(((0:Nat):Int)==0)=true:=rfl;rw[e1,cond_true,yV _ _ hlo hy0,fd,Nat.zero_add];rfl
 have e1:((hi:Int)==0)=false:=Bg _ hh;rw[e1,cond_false];have hp:=aj s;have hyl:=R7 (n:=y) (by omega);have hyu:=Ir y;have hY1:y*2^s<2^64:=by
  have:y*2^s<2^An y*2^s:=cr hyu hp;rw[←az,show An y+s=64 by omega]at this;exact this
 have hY2:2^63<=y*2^s:=by
  have:2^(An y-1)*2^s<=y*2^s:=aw _ hyl;rw[←az,show An y-1+s=63 by omega]at this;exact this
 have hH:hi*2^s<y*2^s:=cr hlt hp;have hlos:lo/2^(64-s)<2^s:=by
  rw[bo (aj _),←az,show s+(64-s)=64 by omega];exact hlo
 have e264:2^64=2^s*2^(64-s):=by rw[←az];congr 1;omega
 have hU:hi*2^s+lo/2^(64-s)<y*2^s:=by
  have h1:(hi+1)*2^s<=y*2^s:=aw _ hlt;rw[bw,fb]at h1;omega
 have hsc:(hi*2^64+lo)*2^s=(hi*2^s+lo/2^(64-s))*2^64+lo*2^s%2^64:=by
  have h1:lo*2^s=lo*2^s/2^64*2^64+lo*2^s%2^64:=by
   have:=ci (lo*2^s) (2^64);omega
  have h2:lo*2^s/2^64=lo/2^(64-s):=by
   rw[e264,ap lo,Nat.mul_div_mul_left _ _ hp]
  rw[h2]at h1;rw[bw,bw,jd];omega
 have s1:=Gu hi s (by omega);have s2:=Dv lo (64-s) (by omega);have s3:=Gu y s (by omega);have s4:=Gu lo s (by omega);rw[be (by omega)]at s1 s3;have hY32:y*2^s/2^32*2^32+y*2^s%2^32=y*2^s:=by omega
 have hdiv:(hi*2^64+lo)*2^s/(y*2^s)=(hi*2^64+lo)/y:=ki _ _ hp;have hmod:(hi*2^64+lo)*2^s%(y*2^s)=(hi*2^64+lo)%y*2^s:=dw _ _ _;have hX:lo*2^s%2^64<2^64:=bp _ (by decide);have s5:=orL (b:=hi) hlos (by omega);rw[s1,s2,s3,s4,s5];have hq64:(hi*2^64+lo)/y<2^64:=by
  rw[bo hy0];have:(hi+1)*2^64<=y*2^64:=aw _ hlt;omega
 rw[hsc]at hdiv hmod;generalize hi*2^s+lo/2^(64-s)=U at *
 generalize lo*2^s%2^64=X at *
 generalize hYd:y*2^s=Y at *
 rw[Uc Y,Uc X,ZB hY1,ZB hX];have hYY1:Y/2^32<2^32:=by omega
 have hYY0:Y%2^32<2^32:=by omega
 have hYp:0<Y/2^32:=by omega
 have g3:(((Y/2^32:Nat):Int)!=0)=true:=BB _ (by omega);have hrem:∀V:Nat,V<2^64->aa .u64 ((V:Int)-aa .u64 (((V/(Y/2^32):Nat):Int)*((Y/2^32:Nat):Int)))=((V%(Y/2^32):Nat):Int):=fun V hV=>by
  have hdm:=ci V (Y/2^32);rw[ap]at hdm;rw[aAg _ _ (by omega)];generalize V/(Y/2^32)*(Y/2^32)=z at *
  generalize V%(Y/2^32)=w at *
  rw[DL (by omega)];omega
 rw[g3,cond_true,yV _ _ (by omega) hYp,hrem U (by omega)];have w1:=aSw hYY0 hYY1 hYp (show X/2^32<2^32 by omega) (u:=U) (by omega) ((X%2^32:Nat):Int) (Y:Int) (s:Int);rw[w1,hY32];show(bif(((Y/2^32:Nat):Int)!=0)then _ else _)=_;rw[g3,cond_true];dsimp only;have hd1:=ci (U*2^32+X/2^32) Y;have hr1:=bp (U*2^32+X/2^32) (show 0<Y by omega);have hq1:(U*2^32+X/2^32)/Y<2^32:=by
  rw[bo (by omega)];have:(U+1)*2^32<=Y*2^32:=aw _ hU;omega
 have hrem2:∀a b c q r:Nat,a*2^32+b=Y*q+r->r<Y->aa .u64 (aa .u64 (aa .u64 ((a:Int)*4294967296)+(b:Int))-aa .u64 ((q:Int)*(Y:Int)))=(r:Int):=fun a b _ q r h1 h2=>by
  have e:(q:Int)*(Y:Int)=((Y*q:Nat):Int):=by rw[lh,Int.mul_comm]
  rw[e];generalize Y*q=z at *
  show((((a:Int)*4294967296)%18446744073709551616+(b:Int))%18446744073709551616-((z:Int)%18446744073709551616))%18446744073709551616=(r:Int)
  omega
 rw[hrem2 U (X/2^32) 0 _ _ hd1.symm hr1];clear w1;obtain⟨q1,hQ1⟩:∃q,q=(U*2^32+X/2^32)/Y:=⟨_,rfl⟩
 obtain⟨r1,hR1⟩:∃q,q=(U*2^32+X/2^32)%Y:=⟨_,rfl⟩
 rw[←hQ1]at hd1 hq1;rw[←hR1]at hd1 hr1;rw[←hQ1,←hR1];rw[yV _ _ (by omega) hYp,hrem r1 (by omega)];have w2:=aSx hYY0 hYY1 hYp (show X%2^32<2^32 by omega) (u:=r1) (by omega) (q1:Int) (Y:Int) (s:Int);rw[w2,hY32];show some (_,(_,()))=_;dsimp only;have hd2:=ci (r1*2^32+X%2^32) Y;have hr2:=bp (r1*2^32+X%2^32) (show 0<Y by omega);have hq2:(r1*2^32+X%2^32)/Y<2^32:=by
  rw[bo (by omega)];have:(r1+1)*2^32<=Y*2^32:=aw _ hr1;omega
 rw[hrem2 r1 (X%2^32) 0 _ _ hd2.symm hr2];obtain⟨q0,hQ0⟩:∃q,q=(r1*2^32+X%2^32)/Y:=⟨_,rfl⟩
 obtain⟨r0,hR0⟩:∃q,q=(r1*2^32+X%2^32)%Y:=⟨_,rfl⟩
 rw[←hQ0]at hd2 hq2;rw[←hR0]at hd2 hr2;rw[←hQ0,←hR0];obtain⟨f1,f2⟩:=aVa (A:=U*2^64+X) (y:=Y) (u32:=U) (u1:=X/2^32) (u0:=X%2^32) (bDj U X) (by rw[ap q1];exact hd1.symm) (by rw[ap q0];exact hd2.symm) hr2;rw[hdiv]at f1;rw[hmod]at f2;have e5:aa .u64 (aa .u64 ((q1:Int)*4294967296)+(q0:Int))=(((hi*2^64+lo)/y:Nat):Int):=by
  rw[f1];show((((q1:Int)*4294967296)%18446744073709551616)+(q0:Int))%18446744073709551616=_;omega
 have e6:AE .u64 (r0:Int) (s:Int)=(((hi*2^64+lo)%y:Nat):Int):=by
  rw[Dv _ _ (by omega),←f2,jf _ hp]
 rw[e5,e6]
end VL
namespace VL
open Go Vx
theorem No{D Y:Type}{Φ:{R:Type}->(D->Option R)->(Y->Option R)->D->Option R}(hp:Bq Φ)(μ:D->Nat)(I:D->Prop)(Q:Y->Prop)
  (h:∀(L:D->Option Y) x,I x->(∀x',I x'->μ x'<μ x->∃y,L x'=some y/\Q y)->∃y,Φ L some x=some y/\Q y):∀x,I x->∃y,Bf (fun L=>Φ L some) x=some y/\Q y:=by
 have key:∀m x,I x->μ x<m->∃y,CW (fun L=>Φ L some) m x=some y/\Q y:=by
  intro m;induction m with
  |zero=>intro x _ h;omega
  |succ m ih=>
   intro x hx hm;simp only[CW];exact h _ x hx fun x' hx' hlt=>ih x' hx' (by omega)
 intro x hx;obtain⟨y,hy,hQ⟩:=key (μ x+1) x hx (by omega);exact⟨y,aJX hp hy,hQ⟩
theorem Hk(i:Nat):(2^64)^(i+1)=(2^64)^i*2^64:=dr ..
theorem Ui{A us C:List Nat}{i:Nat}(h:i<us.length):(Wd (A++us++C)).getD (A.length+i) 0=((us.getD i 0:Nat):Int):=by
 rw[Cw];congr 1;rw[al,al,fc,bv (by omega),jq,cd h]
theorem qC{A us C:List Nat}{i v:Nat}(h:i<us.length):(Wd (A++us++C)).set (A.length+i) (v:Int)=Wd (A++us.set i v++C):=by
 rw[EJ];congr 1;rw[fc,fy _ _ (by omega),jq,me _ _ h,←fc]
theorem jU{out us:List Nat}{i:Nat}(hol:out.length=i)(hi:i<us.length):(out++us.drop i).getD i 0=us.getD i 0:=by
 rw[al,al,bv (by omega),hol,gq,di,dc]
theorem aXc{x y c:Nat}(hx:x<2^64)(hy:y<2^64)(hc:c<2^64):
  x*y+c=2^64*(x*y/2^64+(x*y%2^64+c)/2^64)+(x*y%2^64+c)%2^64/\x*y/2^64+(x*y%2^64+c)/2^64<2^64:=by
 have:x*y<=(2^64-1)*(2^64-1):=gx (by omega) (by omega);generalize x*y=z at *
 omega
theorem aMo{d l b:Nat}(hd:d<2^64)(hl:l<2^64)(hb:b<=1):
  (d+2^64-l-b)%2^64+l+b=d+2^64*(if d<l+b then 1 else 0)/\(d+2^64-l-b)%2^64<2^64/\(if d<l+b then 1 else 0)<=1:=by
 split<;>omega
theorem bDK{P U V O x y c b d o l c' b':Nat}(h:O+x*V=U+P*(c+b))(h1:x*y+c=2^64*c'+l)(h2:o+l+b=d+2^64*b'):
  O+P*o+x*(V+P*y)=U+P*d+P*2^64*(c'+b'):=by
 have h3:P*(c+b+o+x*y)=P*(d+2^64*(c'+b')):=by
  congr 1;omega
 rw[bl P,bl P,bl P d,←av P (2^64)]at h3;rw[bl x,gf x P y];omega
theorem aRP(A us C v:List Nat)(hlen:us.length=v.length+1)(hu:∀x∈us,x<2^64)(hv:∀x∈v,x<2^64)(hn:v.length<=1000000){x:Nat}(hx:x<2^64):
  ∃out:List Nat,out.length=us.length/\(∀z∈out,z<2^64)/\nv (2^64) out+x*nv (2^64) v=nv (2^64) us+(if nv (2^64) us<x*nv (2^64) v then(2^64)^us.length else 0) /\
   Yh ((Wd (A++us++C),(A.length,us.length)),(Wd v,((x:Int),())))=some (Wd (A++out++C),decide (nv (2^64) us<x*nv (2^64) v),()):=by
 show ∃out:List Nat,_/\_/\_/\n7 AN.pre AN.F Az.pre Az.F A9.pre A9.F gT (Wd (A++us++C),(A.length,us.length)) (Wd v) (x:Int)=_;have key:=No (aKm AN.pre AN.F Az.pre Az.F A9.pre A9.F) (fun s=>v.length-s.1.2.2.2.1.toNat)
  (fun s=>∃(i:Nat) (out:List Nat) (c b:Nat),i<=v.length/\out.length=i/\(∀z∈out,z<2^64)/\c<2^64/\b<=1/\nv (2^64) out+x*nv (2^64) (v.take i)=nv (2^64) (us.take i)+(2^64)^i*(c+b) /\
   s=(((v.length:Int),(Wd v,((x:Int),((i:Int),(Wd v,((A.length,us.length),((c:Int),((b:Int),())))))))),(Wd (A++(out++us.drop i)++C),())))
  (fun y=>∃(out:List Nat) (c b:Nat),out.length=v.length/\(∀z∈out,z<2^64)/\c<2^64/\b<=1/\nv (2^64) out+x*nv (2^64) v=nv (2^64) (us.take v.length)+(2^64)^v.length*(c+b) /\
   y=.inl ((Wd v,((A.length,us.length),((c:Int),((b:Int),())))),(Wd (A++(out++us.drop v.length)++C),()))) ?_
  (((v.length:Int),(Wd v,((x:Int),((0:Int),(Wd v,((A.length,us.length),((0:Int),((0:Int),())))))))),(Wd (A++us++C),()))
  ⟨0,[],0,0,dt _,rfl,(fun z hz=>by simp at hz),by decide,by decide,by simp[nv],rfl⟩
 ·obtain⟨y,hy,out,c,b,k1,k2,k3,k4,k5,rfl⟩:=key;have hy:gT (((v.length:Int),(Wd v,((x:Int),((0:Int),(Wd v,((A.length,us.length),((0:Int),((0:Int),())))))))),(Wd (A++us++C),()))=_:=hy;have hlt:v.length<us.length:=by omega
  have hwl:(out++us.drop v.length).length=us.length:=by simp[k1];omega
  have hdg:=jU (us:=us) k1 hlt;have hg:=Ui (A:=A) (C:=C) (us:=out++us.drop v.length) (i:=v.length) (by omega);rw[hdg]at hg;have hst:=fun z=>qC (A:=A) (C:=C) (us:=out++us.drop v.length) (i:=v.length) (v:=z) (by omega);have hsd:=fun z=>bO (a:=us) (v:=z) k1 hlt;have hd:=CG (by decide) hu v.length;obtain⟨w1,w2,w3⟩:=aMo (d:=us.getD v.length 0) (l:=c) (b:=b) hd k3 k4;have q1:=bY (us.getD v.length 0) c b k4 hd k3;have q2:=bZ ((us.getD v.length 0:Nat):Int) (c:Int) b k4;have hnx:=Ec (2^64) us v.length;rw[cw (show us.length<=v.length+1 by omega)]at hnx;have hnil:us.drop (v.length+1)=[]:=ir (by omega);unfold n7;dsimp only;rw[AC,hy];have e0:decide ((0:Int)<=(v.length:Int))=true:=decide_eq_true (by omega);have e1:decide ((v.length:Int)<(us.length:Int))=true:=decide_eq_true (by omega);dsimp only[A3,A2];simp only[e0,e1,bc,cond_true,AC,ae,hg,q2,q1,hst,hsd,hnil,df];generalize us.getD v.length 0=d at *
  generalize(d+2^64-c-b)%2^64=o at *
  have hO:nv (2^64) (out++[o])+x*nv (2^64) v=nv (2^64) us+(2^64)^us.length*(if d<c+b then 1 else 0):=by
   rw[aY,k1,hnx,hlen,Hk];have h3:(2^64)^v.length*(o+c+b)=(2^64)^v.length*(d+2^64*(if d<c+b then 1 else 0)):=by rw[w1]
   rw[bl,bl,bl _ d,←av _ (2^64)]at h3;rw[bl]at k5;omega
  have hod:=ZK k2 w2;have hOl:=Eb (B:=2^64) (by decide) (out++[o]) hod;have hol:(out++[o]).length=us.length:=by simp[k1];omega
  rw[hol]at hOl;by_cases hb:d<c+b
  ·rw[if_pos hb,gl]at hO;have hlt2:nv (2^64) us<x*nv (2^64) v:=by omega
   refine⟨out++[o],hol,hod,by rw[if_pos hlt2];exact hO,?_⟩;rw[if_pos hb,decide_eq_true hlt2];rfl
  ·rw[if_neg hb,ej,dc]at hO;have hlt2:¬nv (2^64) us<x*nv (2^64) v:=by omega
   refine⟨out++[o],hol,hod,by rw[if_neg hlt2,dc];exact hO,?_⟩;rw[if_neg hb,decide_eq_false hlt2];rfl
 intro L s hs hL;obtain⟨i,out,c,b,hi,hol,hod,hc,hb,hinv,rfl⟩:=hs;unfold V9;rcases aq i v.length with hlt|hge
 ·have hy:=CG (by decide) hv i;have hd:=CG (by decide) hu i;have hnv:=Ec (2^64) v i;have hnu:=Ec (2^64) us i;have hwl:(out++us.drop i).length=us.length:=by simp[hol];omega
  have hdg:=jU (us:=us) hol (by omega);have hg:=Ui (A:=A) (C:=C) (us:=out++us.drop i) (i:=i) (by omega);rw[hdg]at hg;have hst:=fun z=>qC (A:=A) (C:=C) (us:=out++us.drop i) (i:=i) (v:=z) (by omega);have hsd:=fun z=>bO (a:=us) (v:=z) hol (by omega);have hgv:(Wd v).getD i 0=((v.getD i 0:Nat):Int):=Cw v i;generalize v.getD i 0=y at *
  generalize us.getD i 0=d at *
  have p0:=gC hx hy;obtain⟨m1,m2⟩:=aXc hx hy hc;have q1:=R2 (x*y%2^64) c 0;have q2:=R3 ((x*y%2^64:Nat):Int) (c:Int) 0 (by decide);rw[dc]at q1;have hl:(x*y%2^64+c)%2^64<2^64:=bp _ (by decide);have e5:=Uj (x*y/2^64) ((x*y%2^64+c)/2^64) m2;generalize x*y/2^64+(x*y%2^64+c)/2^64=c' at *
  generalize hlq:(x*y%2^64+c)%2^64=l at *
  obtain⟨w1,w2,w3⟩:=aMo (d:=d) (l:=l) (b:=b) hd hl hb;have r1:=bY d l b hb hd hl;have r2:=bZ (d:Int) (l:Int) b hb;generalize(d+2^64-l-b)%2^64=o at *
  generalize(if d<l+b then 1 else 0)=b' at *
  have hstep:=bDK (P:=(2^64)^i) hinv m1 w1;have e0:decide ((i:Int)<(v.length:Int))=true:=decide_eq_true (by omega);have e1:decide ((0:Int)<=(i:Int))=true:=decide_eq_true (by omega);have e2:decide ((i:Int)<((us.length:Nat):Int))=true:=decide_eq_true (by omega);have e3:aa .i64 ((i:Int)+1)=((i+1:Nat):Int):=by rw[Au (by omega)];omega
  have z0:((0:Nat):Int)=0:=rfl;rw[z0]at q1 q2;dsimp only;simp only[e0,e1,e2,e3,cond_true,bc,AC,ae,hgv,hg,lK p0,kH p0,q1,q2,r1,r2,e5,hst,hsd];refine hL _ ⟨i+1,out++[o],c',b',by omega,by simp[hol],ZK hod w2,m2,w3,?_,rfl⟩ (by simp only[ae];omega);rw[aY,hol,hnv,hnu,Hk];exact hstep
 ·have e:i=v.length:=by omega
  subst e;have e0:decide ((v.length:Int)<(v.length:Int))=false:=decide_eq_false (by omega);simp only[e0,cond_false];rw[dk]at hinv;exact⟨_,rfl,out,c,b,hol,hod,hc,hb,hinv,rfl⟩
end VL
namespace VL
open Go Vx
theorem aHM{P U V O y c d:Nat}(h:O+P*c=U+V):O+P*((d+y+c)%2^64)+P*2^64*((d+y+c)/2^64)=U+P*d+(V+P*y):=by
 have h1:P*((d+y+c)%2^64+2^64*((d+y+c)/2^64))=P*(d+y+c):=by rw[lj]
 rw[bl,bl P (d+y),bl,←av P (2^64)]at h1;omega
theorem aRQ(A us C v:List Nat)(hlen:us.length=v.length+1)(hu:∀x∈us,x<2^64)(hv:∀x∈v,x<2^64)(hn:v.length<=1000000):
  ∃out:List Nat,out.length=us.length/\(∀z∈out,z<2^64)/\nv (2^64) out+(if(2^64)^us.length<=nv (2^64) us+nv (2^64) v then(2^64)^us.length else 0)=nv (2^64) us+nv (2^64) v /\
   Yi ((Wd (A++us++C),(A.length,us.length)),(Wd v,()))=some (Wd (A++out++C),decide ((2^64)^us.length<=nv (2^64) us+nv (2^64) v),()):=by
 show ∃out:List Nat,_/\_/\_/\n8 Az.pre Az.F gU (Wd (A++us++C),(A.length,us.length)) (Wd v)=_;have key:=No (aKn Az.pre Az.F) (fun s=>v.length-s.1.2.2.1.toNat)
  (fun s=>∃(i:Nat) (out:List Nat) (c:Nat),i<=v.length/\out.length=i/\(∀z∈out,z<2^64)/\c<=1/\nv (2^64) out+(2^64)^i*c=nv (2^64) (us.take i)+nv (2^64) (v.take i) /\
   s=(((v.length:Int),(Wd v,((i:Int),(Wd v,((A.length,us.length),((c:Int),())))))),(Wd (A++(out++us.drop i)++C),())))
  (fun y=>∃(out:List Nat) (c:Nat),out.length=v.length/\(∀z∈out,z<2^64)/\c<=1/\nv (2^64) out+(2^64)^v.length*c=nv (2^64) (us.take v.length)+nv (2^64) v /\
   y=.inl ((Wd v,((A.length,us.length),((c:Int),()))),(Wd (A++(out++us.drop v.length)++C),()))) ?_
  (((v.length:Int),(Wd v,((0:Int),(Wd v,((A.length,us.length),((0:Int),())))))),(Wd (A++us++C),()))
  ⟨0,[],0,dt _,rfl,(fun z hz=>by simp at hz),by decide,by simp[nv],rfl⟩
 ·obtain⟨y,hy,out,c,k1,k2,k3,k5,rfl⟩:=key;have hy:gU (((v.length:Int),(Wd v,((0:Int),(Wd v,((A.length,us.length),((0:Int),())))))),(Wd (A++us++C),()))=_:=hy;have hlt:v.length<us.length:=by omega
  have hwl:(out++us.drop v.length).length=us.length:=by simp[k1];omega
  have hdg:=jU (us:=us) k1 hlt;have hg:=Ui (A:=A) (C:=C) (us:=out++us.drop v.length) (i:=v.length) (by omega);rw[hdg]at hg;have hst:=fun z=>qC (A:=A) (C:=C) (us:=out++us.drop v.length) (i:=v.length) (v:=z) (by omega);have hsd:=fun z=>bO (a:=us) (v:=z) k1 hlt;have hd:=CG (by decide) hu v.length;have q1:=R2 (us.getD v.length 0) 0 c;have q2:=R3 ((us.getD v.length 0:Nat):Int) ((0:Nat):Int) c k3;have z0:((0:Nat):Int)=0:=rfl;rw[z0]at q1 q2;have hnx:=Ec (2^64) us v.length;rw[cw (show us.length<=v.length+1 by omega)]at hnx;have hnil:us.drop (v.length+1)=[]:=ir (by omega);unfold n8;dsimp only;rw[AC,hy];have e0:decide ((0:Int)<=(v.length:Int))=true:=decide_eq_true (by omega);have e1:decide ((v.length:Int)<(us.length:Int))=true:=decide_eq_true (by omega);dsimp only[A3,A2];simp only[e0,e1,bc,cond_true,AC,ae,hg,q2,q1,hst,hsd,hnil,df];have hstep:=aHM (P:=(2^64)^v.length) (y:=0) (d:=us.getD v.length 0) k5;generalize us.getD v.length 0=d at *
  have ho:(d+0+c)%2^64<2^64:=bp _ (by decide);have hO:nv (2^64) (out++[(d+0+c)%2^64])+(2^64)^us.length*((d+0+c)/2^64)=nv (2^64) us+nv (2^64) v:=by
   rw[aY,k1,hnx,hlen,Hk];rw[ej]at hstep;omega
  have hod:=ZK k2 ho;have hOl:=Eb (B:=2^64) (by decide) (out++[(d+0+c)%2^64]) hod;have hol:(out++[(d+0+c)%2^64]).length=us.length:=by simp[k1];omega
  rw[hol]at hOl;by_cases hb:(d+0+c)/2^64=1
  ·rw[hb,gl]at hO;have hlt2:(2^64)^us.length<=nv (2^64) us+nv (2^64) v:=by omega
   refine⟨out++[(d+0+c)%2^64],hol,hod,by rw[if_pos hlt2];exact hO,?_⟩;rw[hb,decide_eq_true hlt2];rfl
  ·have hb0:(d+0+c)/2^64=0:=by omega
   rw[hb0,ej,dc]at hO;have hlt2:¬(2^64)^us.length<=nv (2^64) us+nv (2^64) v:=by omega
   refine⟨out++[(d+0+c)%2^64],hol,hod,by rw[if_neg hlt2,dc];exact hO,?_⟩;rw[hb0,decide_eq_false hlt2];rfl
 intro L s hs hL;obtain⟨i,out,c,hi,hol,hod,hc,hinv,rfl⟩:=hs;unfold Wa;rcases aq i v.length with hlt|hge
 ·have hy:=CG (by decide) hv i;have hd:=CG (by decide) hu i;have hnv:=Ec (2^64) v i;have hnu:=Ec (2^64) us i;have hwl:(out++us.drop i).length=us.length:=by simp[hol];omega
  have hdg:=jU (us:=us) hol (by omega);have hg:=Ui (A:=A) (C:=C) (us:=out++us.drop i) (i:=i) (by omega);rw[hdg]at hg;have hst:=fun z=>qC (A:=A) (C:=C) (us:=out++us.drop i) (i:=i) (v:=z) (by omega);have hsd:=fun z=>bO (a:=us) (v:=z) hol (by omega);have hgv:(Wd v).getD i 0=((v.getD i 0:Nat):Int):=Cw v i;generalize v.getD i 0=y at *
  generalize us.getD i 0=d at *
  have q1:=R2 d y c;have q2:=R3 (d:Int) (y:Int) c hc;have ho:(d+y+c)%2^64<2^64:=bp _ (by decide);have hc':(d+y+c)/2^64<=1:=by omega
  have hstep:=aHM (P:=(2^64)^i) (y:=y) (d:=d) hinv;have e0:decide ((i:Int)<(v.length:Int))=true:=decide_eq_true (by omega);have e1:decide ((0:Int)<=(i:Int))=true:=decide_eq_true (by omega);have e2:decide ((i:Int)<((us.length:Nat):Int))=true:=decide_eq_true (by omega);have e3:aa .i64 ((i:Int)+1)=((i+1:Nat):Int):=by rw[Au (by omega)];omega
  dsimp only;simp only[e0,e1,e2,e3,cond_true,bc,AC,ae,hgv,hg,q1,q2,hst,hsd];refine hL _ ⟨i+1,out++[(d+y+c)%2^64],(d+y+c)/2^64,by omega,by simp[hol],ZK hod ho,hc',?_,rfl⟩ (by simp only[ae];omega);rw[aY,hol,hnv,hnu,Hk];exact hstep
 ·have e:i=v.length:=by omega
  subst e;have e0:decide ((v.length:Int)<(v.length:Int))=false:=decide_eq_false (by omega);simp only[e0,cond_false];rw[dk]at hinv;exact⟨_,rfl,out,c,hol,hod,hc,hinv,rfl⟩
theorem aSz(A C v:List Nat){k U:Nat}(hk:k=v.length+1)(hv:∀x∈v,x<2^64)(hn:v.length<=1000000)(us:List Nat)(g:Nat)(hlen:us.length=k)(hu:∀x∈us,x<2^64)(hg:g<2^64)
  (hinv:nv (2^64) us+g*nv (2^64) v=U+(2^64)^k) :
  ∃out:List Nat,out.length=k/\(∀z∈out,z<2^64)/\nv (2^64) out=U%nv (2^64) v /\
   Y7 ((((g:Int),((A.length,k),(Wd v,()))),(Wd (A++us++C),())):FY.D)=some (.inl ((((U/nv (2^64) v:Nat):Int),()),(Wd (A++out++C),()))):=by
 have key:=No (aKo AV.pre AV.F AN.pre AN.F Az.pre Az.F Cu.pre Cu.F CZ.pre CZ.F) (fun s=>s.1.1.toNat)
  (fun s=>∃(us:List Nat) (g:Nat),us.length=k/\(∀x∈us,x<2^64)/\g<2^64/\nv (2^64) us+g*nv (2^64) v=U+(2^64)^k /\
   s=(((g:Int),((A.length,k),(Wd v,()))),(Wd (A++us++C),())))
  (fun y=>∃out:List Nat,out.length=k/\(∀z∈out,z<2^64)/\nv (2^64) out=U%nv (2^64) v/\y=.inl ((((U/nv (2^64) v:Nat):Int),()),(Wd (A++out++C),()))) ?_
  (((g:Int),((A.length,k),(Wd v,()))),(Wd (A++us++C),())) ⟨us,g,hlen,hu,hg,hinv,rfl⟩
 ·obtain⟨y,hy,out,k1,k2,k3,rfl⟩:=key;exact⟨out,k1,k2,k3,hy⟩
 clear hinv hg hu hlen us g;intro L s hs hL;obtain⟨us,g,hlen,hu,hg,hinv,rfl⟩:=hs;unfold Wb;obtain⟨out,o1,o2,o3,o4⟩:=aRQ A us C v (by omega) hu hv hn;rw[hlen]at o1 o3 o4;have hul:=Eb (B:=2^64) (by decide) us hu;rw[hlen]at hul;have hg1:1<=g:=by
  rcases bd g with h|h
  ·rw[h,fd]at hinv;omega
  ·exact h
 obtain⟨p,rfl⟩:∃p,g=p+1:=⟨g-1,by omega⟩
 rw[bw,fb]at hinv;have e1:aa .u64 (((p+1:Nat):Int)-1)=(p:Int):=by rw[DL (by omega)];omega
 dsimp only;rw[aYw o4,aV1 o4,cond_true,e1];dsimp only;by_cases hc:(2^64)^k<=nv (2^64) us+nv (2^64) v
 ·rw[if_pos hc]at o3;rw[decide_eq_true hc,cond_true];have hV:nv (2^64) out<nv (2^64) v:=by omega
  have hd:U=nv (2^64) v*p+nv (2^64) out:=by rw[ap];omega
  have hpos:0<nv (2^64) v:=by omega
  refine⟨_,rfl,out,o1,o2,?_,?_⟩
  ·rw[hd,kh,be hV]
  ·rw[hd,kg hpos,co hV,dc]
 ·rw[if_neg hc]at o3;rw[decide_eq_false hc,cond_false];exact hL _ ⟨out,p,o1,o2,by omega,by omega,rfl⟩ (by simp only[ae];omega)
theorem aWO{h l r w:Nat}(hl:l<2^64)(hw:w<2^64):(decide ((h:Int)<(r:Int))||(((h:Int)==(r:Int))&&decide ((l:Int)<=(w:Int))))=decide (h*2^64+l<=r*2^64+w):=by
 rw[ee,dz,af,decide_eq_true_eq,decide_eq_true_eq,decide_eq_true_eq,beq_iff_eq];omega
theorem aVm{U V P v1 v2 u2 u0 g rest:Nat}(hP:0<P)(hV:(v1*2^64+v2)*P<=V)(hU:U<(u2*2^64+u0+1)*P)(hg:g*v1+rest=u2)(h:¬g*v2<=rest*2^64+u0):U/V<g:=by
 rcases aq (U/V) g with h1|h1
 ·exact h1
 ·exfalso;have h2:g*V<=U:=fw (aw V h1) (jr U V);have h3:g*((v1*2^64+v2)*P)<=g*V:=cq g hV;rw[←av]at h3;have h4:=iv (ao (fw h3 h2) hU);rw[bl,←av]at h4;rw[←hg,bw]at h4;omega
theorem aVn{U V P v1 v2 u2 u0:Nat}(hP:0<P)(h1:0<v1)(hV:(v1*2^64+v2)*P<=V)(hU:U<(u2*2^64+u0+1)*P)(hu0:u0<2^64):U/V<=u2/v1:=by
 rw[jc h1];have h2:U/V*V<=U:=jr U V;have h3:U/V*((v1*2^64+v2)*P)<=U/V*V:=cq _ hV;rw[←av]at h3;have h4:=iv (ao (fw h3 h2) hU);rw[bl,←av]at h4;omega
theorem aN3{v:List Nat}{n:Nat}(hn:v.length=n+2):(v.getD (n+1) 0*2^64+v.getD n 0)*(2^64)^n<=nv (2^64) v:=by
 have h1:=Ec (2^64) v n;have h2:=Ec (2^64) v (n+1);rw[cw (by omega)]at h2;rw[h2,h1,Hk,bw,ap _ ((2^64)^n),ap (v.getD n 0),av,ap (2^64) (v.getD (n+1) 0)];omega
theorem aNV{u:List Nat}{n:Nat}(hu:∀x∈u,x<2^64)(hn:u.length=n+3):nv (2^64) u<((u.getD (n+2) 0*2^64+u.getD (n+1) 0)*2^64+u.getD n 0+1)*(2^64)^n:=by
 have h0:=aZ hu n;have h1:=Ec (2^64) u n;have h2:=Ec (2^64) u (n+1);have h3:=Ec (2^64) u (n+2);rw[cw (show u.length<=n+2+1 by omega)]at h3;rw[h3,h2,h1];rw[show(2^64)^(n+2)=(2^64)^n*2^64*2^64 by rw[show n+2=n+1+1 by omega,Hk,Hk],Hk];generalize(2^64)^n=P at *
 generalize u.getD (n+2) 0=a;generalize u.getD (n+1) 0=b;generalize u.getD n 0=c;rw[ap (_+1) P,bl,bl,bw,bl,gl];have e1:P*(a*2^64*2^64)=P*2^64*2^64*a:=by rw[av P,av P,av a,ap a]
 have e2:P*(b*2^64)=P*2^64*b:=by rw[av P,ap b]
 rw[e1,e2];omega
end VL
namespace VL
open Go Vx
theorem aSy(A us C v:List Nat){n:Nat}(hvl:v.length=n+2)(hlen:us.length=n+3)(hu:∀x∈us,x<2^64)(hv:∀x∈v,x<2^64)(hn:v.length<=1000000)
  (hV0:0<v.getD (n+1) 0) (g rest:Nat) (hg:g<2^64) (hr:rest<2^64) (hinv:g*v.getD (n+1) 0+rest=us.getD (n+2) 0*2^64+us.getD (n+1) 0) (hq:nv (2^64) us/nv (2^64) v<=g) :
  ∃g':Nat,g'<2^64/\nv (2^64) us/nv (2^64) v<=g' /\
   gV ((((g:Int),((rest:Int),((v.length:Int),((A.length,us.length),(Wd v,()))))),(Wd (A++us++C),())):FZ.D)=some (.inl (((A.length,us.length),(Wd v,((g':Int),()))),(Wd (A++us++C),()))):=by
 have key:=No (aKp AV.pre AV.F AN.pre AN.F Az.pre Az.F Cu.pre Cu.F CZ.pre CZ.F) (fun s=>s.1.1.toNat)
  (fun s=>∃(g rest:Nat),g<2^64/\rest<2^64/\g*v.getD (n+1) 0+rest=us.getD (n+2) 0*2^64+us.getD (n+1) 0/\nv (2^64) us/nv (2^64) v<=g /\
   s=(((g:Int),((rest:Int),((v.length:Int),((A.length,us.length),(Wd v,()))))),(Wd (A++us++C),())))
  (fun y=>∃g':Nat,g'<2^64/\nv (2^64) us/nv (2^64) v<=g'/\y=.inl (((A.length,us.length),(Wd v,((g':Int),()))),(Wd (A++us++C),()))) ?_
  (((g:Int),((rest:Int),((v.length:Int),((A.length,us.length),(Wd v,()))))),(Wd (A++us++C),())) ⟨g,rest,hg,hr,hinv,hq,rfl⟩
 ·obtain⟨y,hy,g',k1,k2,rfl⟩:=key;exact⟨g',k1,k2,hy⟩
 clear hinv hg hr hq g rest;intro L s hs hL;obtain⟨g,rest,hg,hr,hinv,hq,rfl⟩:=hs;unfold Wc;have hv1:=CG (by decide) hv (n+1);have hv2:=CG (by decide) hv n;have hu0:=CG (by decide) hu n;have g1:(Wd v).getD (n+1) 0=((v.getD (n+1) 0:Nat):Int):=Cw v _;have g2:(Wd v).getD n 0=((v.getD n 0:Nat):Int):=Cw v _;have g3:=Ui (A:=A) (C:=C) (us:=us) (i:=n) (by omega);have e11:aa .i64 ((v.length:Int)-2)=(n:Int):=by rw[Au (by omega)];omega
 have e12:aa .i64 ((v.length:Int)-1)=((n+1:Nat):Int):=by rw[Au (by omega)];omega
 have p0:=gC hg hv2;have e0:decide ((0:Int)<=(n:Int))=true:=decide_eq_true (by omega);have e1:decide ((n:Int)<(v.length:Int))=true:=decide_eq_true (by omega);have e2:decide ((n:Int)<(us.length:Int))=true:=decide_eq_true (by omega);have e3:decide ((0:Int)<=((n+1:Nat):Int))=true:=decide_eq_true (by omega);have e4:decide (((n+1:Nat):Int)<(v.length:Int))=true:=decide_eq_true (by omega);have hlo:g*v.getD n 0%2^64<2^64:=bp _ (by decide);have hlex:=aWO (h:=g*v.getD n 0/2^64) (r:=rest) hlo hu0;rw[show g*v.getD n 0/2^64*2^64+g*v.getD n 0%2^64=g*v.getD n 0 by omega]at hlex;dsimp only;simp only[e11,e12,e0,e1,e2,e3,e4,bc,bb,cond_true,AC,ae,g1,g2,g3,lK p0,kH p0,hlex];by_cases hc:g*v.getD n 0<=rest*2^64+us.getD n 0
 ·rw[decide_eq_true hc,cond_true];exact⟨_,rfl,g,hg,hq,rfl⟩
 ·rw[decide_eq_false hc,cond_false];have hdn:=aVm (ij (by decide)) (aN3 hvl) (aNV hu hlen) hinv hc;have hg1:1<=g:=ao (dt _) hdn;obtain⟨p,rfl⟩:∃p,g=p+1:=⟨g-1,by omega⟩
  have e5:aa .u64 (((p+1:Nat):Int)-1)=(p:Int):=by rw[DL (by omega)];omega
  have q1:=R2 rest (v.getD (n+1) 0) 0;have q2:=R3 (rest:Int) ((v.getD (n+1) 0:Nat):Int) 0 (by decide);have z0:((0:Nat):Int)=0:=rfl;rw[z0]at q1 q2;simp only[q1,q2,cond_true,e5];by_cases hb:(rest+v.getD (n+1) 0+0)/2^64=0
  ·have e6:((((rest+v.getD (n+1) 0+0)/2^64:Nat):Int)!=0)=false:=by rw[hb];rfl
   rw[e6,cond_false];have hs:(rest+v.getD (n+1) 0+0)%2^64=rest+v.getD (n+1) 0:=by omega
   rw[hs];refine hL _ ⟨p,rest+v.getD (n+1) 0,by omega,by omega,?_,pe hdn,rfl⟩ (by simp only[ae];omega);rw[bw,fb]at hinv;omega
  ·have e6:((((rest+v.getD (n+1) 0+0)/2^64:Nat):Int)!=0)=true:=BB _ hb;rw[e6,cond_true];exact⟨_,rfl,p,by omega,pe hdn,rfl⟩
theorem aRR(A us C v:List Nat){n:Nat}(hvl:v.length=n+2)(hlen:us.length=n+3)(hu:∀x∈us,x<2^64)(hv:∀x∈v,x<2^64)(hn:v.length<=1000000)
  (hlt:nv (2^64) us<nv (2^64) v*2^64) :
  ∃out:List Nat,out.length=us.length/\(∀z∈out,z<2^64)/\nv (2^64) out=nv (2^64) us%nv (2^64) v /\
   Yj ((Wd (A++us++C),(A.length,us.length)),(Wd v,()))=some (Wd (A++out++C),((nv (2^64) us/nv (2^64) v:Nat):Int),()):=by
 show ∃out:List Nat,_/\_/\_/\n9 AV.pre AV.F AN.pre AN.F Az.pre Az.F Cu.pre Cu.F CZ.pre CZ.F gV Y7 (Wd (A++us++C),(A.length,us.length)) (Wd v)=_;have hVp:0<nv (2^64) v:=by omega
 have hq64:nv (2^64) us/nv (2^64) v<2^64:=by rw[bo hVp,ap];exact hlt
 have hv1:=CG (by decide) hv (n+1);have hu2:=CG (by decide) hu (n+2);have hu1:=CG (by decide) hu (n+1);have hu0:=CG (by decide) hu n;have CN:∀g:Nat,g<2^64->nv (2^64) us/nv (2^64) v<=g ->
   ∃out:List Nat,out.length=us.length/\(∀z∈out,z<2^64)/\nv (2^64) out=nv (2^64) us%nv (2^64) v /\
    (bif Cu.pre ((Wd (A++us++C),(A.length,us.length)),(Wd v,((g:Int),())))then
     (bif(Cu.F ((Wd (A++us++C),(A.length,us.length)),(Wd v,((g:Int),())))).2.1 then
      (Vx.A3 (Y7 (((g:Int),((A.length,us.length),(Wd v,()))),((Cu.F ((Wd (A++us++C),(A.length,us.length)),(Wd v,((g:Int),())))).1,()))) fun y5=>
      Vx.A2 y5 (fun y6=>some (y6.2.1,y6.1)) (fun _=>none))
     else some ((Cu.F ((Wd (A++us++C),(A.length,us.length)),(Wd v,((g:Int),())))).1,((g:Int),())))
    else none)=(some (Wd (A++out++C),(((nv (2^64) us/nv (2^64) v:Nat):Int),())):Option (LK.B Fc×DenS Js)):=by
  intro g hg hq;obtain⟨out,o1,o2,o3,o4⟩:=aRP A us C v (by omega) hu hv hn hg;have hpr:Cu.pre ((Wd (A++us++C),(A.length,us.length)),(Wd v,((g:Int),())))=true:=aYv o4;have hfr:Cu.F ((Wd (A++us++C),(A.length,us.length)),(Wd v,((g:Int),())))=(Wd (A++out++C),decide (nv (2^64) us<g*nv (2^64) v),()):=aV0 o4;rw[hpr,hfr];rw[cond_true];by_cases hb:nv (2^64) us<g*nv (2^64) v
  ·rw[if_pos hb]at o3;obtain⟨out2,u1,u2,u3,u4⟩:=aSz A C v (k:=us.length) (U:=nv (2^64) us) (by omega) hv hn out g o1 o2 hg o3;refine⟨out2,u1,u2,u3,?_⟩;dsimp only;rw[decide_eq_true hb,cond_true,u4]
  ·rw[if_neg hb,dc]at o3;have h1:nv (2^64) us/nv (2^64) v=g:=by
    have:g<=nv (2^64) us/nv (2^64) v:=by rw[jc hVp];omega
    exact Nat.le_antisymm hq this
   have h2:nv (2^64) out=nv (2^64) us%nv (2^64) v:=by
    have:=ci (nv (2^64) us) (nv (2^64) v);rw[h1,ap]at this;omega
   refine⟨out,o1,o2,h2,?_⟩;dsimp only;rw[decide_eq_false hb,cond_false,h1]
 have g1:(Wd v).getD (n+1) 0=((v.getD (n+1) 0:Nat):Int):=Cw v _;have g2:=Ui (A:=A) (C:=C) (us:=us) (i:=n+2) (by omega);have g3:=Ui (A:=A) (C:=C) (us:=us) (i:=n+1) (by omega);have e10:aa .i64 ((v.length:Int)-1)=((n+1:Nat):Int):=by rw[Au (by omega)];omega
 have e0:decide ((0:Int)<=(v.length:Int))=true:=decide_eq_true (by omega);have e1:decide ((v.length:Int)<(us.length:Int))=true:=decide_eq_true (by omega);have e2:decide ((0:Int)<=((n+1:Nat):Int))=true:=decide_eq_true (by omega);have e3:decide (((n+1:Nat):Int)<(v.length:Int))=true:=decide_eq_true (by omega);have e4:decide (((n+1:Nat):Int)<(us.length:Int))=true:=decide_eq_true (by omega);have evl:v.length=n+2:=hvl;have g2':(Wd (A++us++C)).getD (A.length+v.length) 0=((us.getD (n+2) 0:Nat):Int):=by rw[evl];exact g2
 unfold n9;dsimp only;simp only[AC,ae,e10,g1,g2',g3,e0,e1,e2,e3,e4,bc,cond_true];by_cases hc:us.getD (n+2) 0<v.getD (n+1) 0
 ·have e5:decide (((us.getD (n+2) 0:Nat):Int)<((v.getD (n+1) 0:Nat):Int))=true:=decide_eq_true (by omega);have p0:=aCB hu1 hv1 hc;simp only[e5,cond_true,aLl p0,aJf p0];have hgl:(us.getD (n+2) 0*2^64+us.getD (n+1) 0)/v.getD (n+1) 0<2^64:=by
   rw[bo (by omega)];have:(us.getD (n+2) 0+1)*2^64<=v.getD (n+1) 0*2^64:=aw _ hc;rw[bw,fb]at this;rw[ap (2^64)];omega
  have hrl:(us.getD (n+2) 0*2^64+us.getD (n+1) 0)%v.getD (n+1) 0<2^64:=je (bp _ (by omega)) hv1;have hst:=aVn (ij (n:=n) (show 0<2^64 by decide)) (show 0<v.getD (n+1) 0 by omega) (aN3 hvl) (aNV hu hlen) hu0;obtain⟨g',k1,k2,k3⟩:=aSy A us C v hvl hlen hu hv hn (by omega) _ _ hgl hrl (by rw[ap];exact ci _ _) hst;rw[k3];obtain⟨out,o1,o2,o3,o4⟩:=CN g' k1 k2;exact⟨out,o1,o2,o3,o4⟩
 ·have e5:decide (((us.getD (n+2) 0:Nat):Int)<((v.getD (n+1) 0:Nat):Int))=false:=decide_eq_false (by omega);simp only[e5,cond_false];obtain⟨out,o1,o2,o3,o4⟩:=CN (2^64-1) (by decide) (Nat.le_pred_of_lt hq64);exact⟨out,o1,o2,o3,o4⟩
end VL
namespace VL
open Go Vx
theorem aUE{X Q d r a B:Nat}(hX:X=Q*d+r):X*B+a=(Q*B+(r*B+a)/d)*d+(r*B+a)%d:=by
 have h1:=ci (r*B+a) d;rw[hX,bw,bw,jd,ap ((r*B+a)/d) d];omega
theorem aSk(l:List Nat)(hl:∀x∈l,x<2^64)(hn:l.length<=1000000){d:Nat}(hd:0<d)(hd2:d<2^64):
  ∃qs:List Nat,qs.length=l.length/\(∀x∈qs,x<2^64)/\nv (2^64) qs=nv (2^64) l/d /\
   Y3 ((((d:Int),(((l.length:Int)-1),((),((0:Int),())))),(Wd l,())):FX.D)=some (.inl (((),(((nv (2^64) l%d:Nat):Int),())),(Wd qs,()))):=by
 have key:=No (aJ8 AV.pre AV.F Ag.pre Ag.F) (fun s=>(s.1.2.1+1).toNat)
  (fun s=>∃(k:Nat) (qs:List Nat) (r:Nat),k<=l.length/\qs.length+k=l.length/\(∀x∈qs,x<2^64)/\r<d/\nv (2^64) (l.drop k)=nv (2^64) qs*d+r /\
   s=(((d:Int),(((k:Int)-1),((),((r:Int),())))),(Wd (l.take k++qs),())))
  (fun y=>∃qs:List Nat,qs.length=l.length/\(∀x∈qs,x<2^64)/\nv (2^64) qs=nv (2^64) l/d/\y=.inl (((),(((nv (2^64) l%d:Nat):Int),())),(Wd qs,()))) ?_
  (((d:Int),(((l.length:Int)-1),((),((0:Int),())))),(Wd l,()))
  ⟨l.length,[],0,bj _,by simp,(fun z hz=>by simp at hz),hd,by simp[nv],by simp⟩
 ·obtain⟨y,hy,qs,k1,k2,k3,rfl⟩:=key;exact⟨qs,k1,k2,k3,hy⟩
 intro L s hs hL;obtain⟨k,qs,r,hk,hql,hqd,hr,hinv,rfl⟩:=hs;unfold VU;rcases k with _|i
 ·have e0:decide ((((0:Nat):Int)-1)>=0)=false:=rfl;dsimp only;rw[e0,cond_false];rw[kv]at hinv;have hdv:nv (2^64) l/d=nv (2^64) qs:=by rw[hinv,ap,kg hd,co hr,dc]
  have hmd:nv (2^64) l%d=r:=by rw[hinv,ap,kh,be hr]
  exact⟨_,rfl,qs,by omega,hqd,hdv.symm,by rw[hmd,List.take_zero,List.nil_append]⟩
 ·have ei:(((i+1:Nat):Int)-1)=(i:Int):=by omega
  have ha:=CG (by decide) hl i;have hg:(Wd (l.take (i+1)++qs)).getD i 0=((l.getD i 0:Nat):Int):=by
   rw[Cw];congr 1;rw[al,al,cd (by simp;omega),List.getElem?_take_of_lt (by omega)]
  have hdn:=aW (2^64) l i (by omega);have hset:∀z:Nat,(Wd (l.take (i+1)++qs)).set i (z:Int)=Wd (l.take i++(z::qs)):=fun z=>by
   rw[EJ,me _ _ (by simp;omega),gu (show i<l.length by omega),fy _ _ (by simp;omega)];have:i-(l.take i).length=0:=by simp;omega
   rw[this];simp
  have hlen:(Wd (l.take (i+1)++qs)).length=l.length:=by rw[AC];simp;omega
  generalize l.getD i 0=a at *
  have p0:=aCB (hi:=r) ha hd2 hr;have e0:decide ((i:Int)>=0)=true:=decide_eq_true (by omega);have e1:decide ((0:Int)<=(i:Int))=true:=decide_eq_true (by omega);have e2:decide ((i:Int)<(l.length:Int))=true:=decide_eq_true (by omega);have e3:aa .i64 ((i:Int)-1)=(i:Int)-1:=Au (by omega);dsimp only;simp only[ei,e0,e1,e2,e3,hlen,bc,cond_true,ae,hg,aLl p0,aJf p0,hset];have hq:(r*2^64+a)/d<2^64:=by
   rw[bo hd];have:(r+1)*2^64<=d*2^64:=aw _ hr;rw[ap (2^64)];omega
  refine hL _ ⟨i,(r*2^64+a)/d::qs,(r*2^64+a)%d,by omega,by simp;omega,?_,bp _ hd,?_,rfl⟩ (by dsimp only;omega)
  ·intro x hx;rcases cn.1 hx with rfl|hx
   ·exact hq
   ·exact hqd x hx
  ·have:=aUE (B:=2^64) (a:=a) hinv;rw[hdn];show a+2^64*_=((r*2^64+a)/d+2^64*nv (2^64) qs)*d+_;rw[ap (2^64) (nv (2^64) qs),io ((r*2^64+a)/d),←this];omega
theorem pX{l:List Nat}(h:∀x∈l,x<2^64):Wd (Ak l)=Dw (nv (2^64) l):=by
 unfold Dw;rw[Gv (by decide) l h]
theorem aRv{a:Nat}(ha:a<(2^64)^5000){d:Nat}(hd:0<d)(hd2:d<2^64):XT (Dw a,(d:Int),())=some (Dw (a/d),((a%d:Nat):Int),()):=by
 show mY AV.pre AV.F Ag.pre Ag.F Y3 (Dw a) (d:Int)=_;unfold mY;have hw:=CY ha;obtain⟨qs,k1,k2,k3,k4⟩:=aSk (dg (2^64) a) hw.1 hw.2 hd hd2;rw[BQ]at k3 k4;have hl:(dg (2^64) a).length<=1000000:=hw.2;have e0:aa .i64 (((Dw a).length:Int)-1)=(((dg (2^64) a).length:Int)-1):=by
  unfold Dw;rw[AC,Au (by omega)]
 have p0:=D7 qs (by omega);rw[e0];have k4:Y3 ((((d:Int),((((dg (2^64) a).length:Int)-1),((),((0:Int),())))),(Dw a,())):FX.D)=_:=k4;rw[k4];show(bif Ag.pre (Wd qs,())then some ((Ag.F (Wd qs,())).1,(((a%d:Nat):Int),()))else none)=_;simp only[CU p0,CT p0,cond_true,pX k2,k3]
theorem aSA(v:List Nat){n:Nat}(hvl:v.length=n+2)(hv:∀x∈v,x<2^64)(hn:v.length<=900000){X:Nat}(Q:Nat)(hQ:Q<=50000)(s:Int)(us:List Nat)(hus:us.length=Q+n+2)
  (hud:∀x∈us,x<2^64) (hX:nv (2^64) us=X) (hlt:X<nv (2^64) v*(2^64)^Q) :
  ∃qs us':List Nat,qs.length=Q/\(∀x∈qs,x<2^64)/\nv (2^64) qs=X/nv (2^64) v/\us'.length=Q+n+2/\(∀x∈us',x<2^64)/\nv (2^64) us'=X%nv (2^64) v /\
   Y8 (((Wd v,(((Q:Int)-1),((),((),((v.length:Int),(s,())))))),(Wd us,(Wd (ar Q 0),()))):F0.D)=some (.inl (((),((),((v.length:Int),(s,())))),(Wd us',(Wd qs,())))):=by
 have hV0:0<nv (2^64) v:=by
  rcases bd (nv (2^64) v)with h|h
  ·rw[h,fd]at hlt;omega
  ·exact h
 have hVl:=Eb (B:=2^64) (by decide) v hv;have key:=No (aKq Dk.pre Dk.F EE.pre EE.F AU.pre AU.F CQ.pre CQ.F Ft.pre Ft.F BP.pre BP.F B0.pre B0.F EF.pre EF.F Ag.pre Ag.F BI.pre BI.F) (fun s=>(s.1.2.1+1).toNat)
  (fun x=>∃(k:Nat) (qs us:List Nat),k<=Q/\qs.length+k=Q/\(∀x∈qs,x<2^64)/\us.length=Q+n+2/\(∀x∈us,x<2^64)/\nv (2^64) us<nv (2^64) v*(2^64)^k /\
   X=nv (2^64) qs*(2^64)^k*nv (2^64) v+nv (2^64) us /\
   x=((Wd v,(((k:Int)-1),((),((),((v.length:Int),(s,())))))),(Wd us,(Wd (ar k 0++qs),()))))
  (fun y=>∃qs us':List Nat,qs.length=Q/\(∀x∈qs,x<2^64)/\nv (2^64) qs=X/nv (2^64) v/\us'.length=Q+n+2/\(∀x∈us',x<2^64)/\nv (2^64) us'=X%nv (2^64) v /\
   y=.inl (((),((),((v.length:Int),(s,())))),(Wd us',(Wd qs,())))) ?_
  ((Wd v,(((Q:Int)-1),((),((),((v.length:Int),(s,())))))),(Wd us,(Wd (ar Q 0),())))
  ⟨Q,[],us,bj _,by simp,(fun z hz=>by simp at hz),hus,hud,by rw[hX];exact hlt,by simp[nv,hX],by simp⟩
 ·obtain⟨y,hy,qs,us',k1,k2,k3,k4,k5,k6,rfl⟩:=key;exact⟨qs,us',k1,k2,k3,k4,k5,k6,hy⟩
 clear hlt hX hud hus us;intro L x hx hL;obtain⟨k,qs,us,hk,hql,hqd,hus,hud,hlt,hinv,rfl⟩:=hx;unfold We;rcases k with _|j
 ·have e0:decide ((((0:Nat):Int)-1)>=0)=false:=rfl;dsimp only;rw[e0,cond_false];rw[jm,gl]at hlt hinv;have hdv:X/nv (2^64) v=nv (2^64) qs:=by rw[hinv,ap,kg hV0,co hlt,dc]
  have hmd:X%nv (2^64) v=nv (2^64) us:=by rw[hinv,ap,kh,be hlt]
  exact⟨_,rfl,qs,us,by omega,hqd,hdv.symm,hus,hud,hmd.symm,by simp⟩
 ·have ei:(((j+1:Nat):Int)-1)=(j:Int):=by omega
  have hjl:j+(n+3)<=us.length:=by omega
  have hsplit:us=us.take j++(us.drop j).take (n+3)++us.drop (j+(n+3)):=by
   rw[fc,←List.drop_drop,kf,kf]
  have hAl:(us.take j).length=j:=by simp;omega
  have hwl:((us.drop j).take (n+3)).length=n+3:=by simp;omega
  have hAd:∀x∈us.take j,x<2^64:=fun x hx=>hud x (fa hx);have hwd:∀x∈(us.drop j).take (n+3),x<2^64:=fun x hx=>hud x (kt (fa hx));have hCd:∀x∈us.drop (j+(n+3)),x<2^64:=fun x hx=>hud x (kt hx);have hCl:(us.drop (j+(n+3))).length+j+(n+3)=us.length:=by simp;omega
  generalize us.take j=A at *
  generalize(us.drop j).take (n+3)=w at *
  generalize us.drop (j+(n+3))=C at *
  subst hsplit;have hAlt:=Eb (B:=2^64) (by decide) A hAd;have hval:∀w:List Nat,w.length=n+3->nv (2^64) (A++w++C)=nv (2^64) A+(2^64)^j*nv (2^64) w+(2^64)^(j+(n+3))*nv (2^64) C:=fun w hw=>by
   rw[Sv,Sv,hAl,show(A++w).length=j+(n+3) by simp[hAl,hw]]
  have hPj:=ij (n:=j) (show 0<2^64 by decide);have hv1:=hval w hwl;rw[hAl]at hAlt;have hC0:nv (2^64) C=0:=by
   rcases bd (nv (2^64) C)with h|h
   ·exact h
   ·exfalso;have h1:(2^64)^(j+(n+3))*1<=(2^64)^(j+(n+3))*nv (2^64) C:=cq _ h;have h2:nv (2^64) v*(2^64)^(j+1)<=(2^64)^(n+2)*(2^64)^(j+1):=aw _ (by rw[hvl]at hVl;omega);rw[←az,show n+2+(j+1)=j+(n+3) by omega]at h2;omega
  rw[hC0,ej,dc]at hv1;have hwlt:nv (2^64) w<nv (2^64) v*2^64:=by
   have h1:(2^64)^j*nv (2^64) w<(2^64)^j*(nv (2^64) v*2^64):=by
    rw[Hk,←av]at hlt;rw[gf,←av];omega
   exact Nat.lt_of_mul_lt_mul_left h1
  obtain⟨out,o1,o2,o3,o4⟩:=aRR A w C v hvl hwl hwd hv (by omega) hwlt;rw[hAl,hwl]at o4;have hout:out.length=n+3:=by omega
  have hv2:=hval out hout;rw[hC0,ej,dc,o3]at hv2;have hdm:=ci (nv (2^64) w) (nv (2^64) v);have hml:=bp (nv (2^64) w) hV0;have hq64:nv (2^64) w/nv (2^64) v<2^64:=by rw[bo hV0,ap];exact hwlt
  have e0:decide ((j:Int)>=0)=true:=decide_eq_true (by omega);have e1:decide ((0:Int)<=(j:Int))=true:=decide_eq_true (by omega);have e3:aa .i64 (aa .i64 ((j:Int)+(v.length:Int))+1)=((j+(n+3):Nat):Int):=by
   rw[Au (n:=(j:Int)+_) (by omega),Au (by omega)];omega
  have e4:decide ((j:Int)<=((j+(n+3):Nat):Int))=true:=decide_eq_true (by omega);have e5:decide ((((j+(n+3):Nat):Int))<=((Wd (A++w++C)).length:Int))=true:=decide_eq_true (by rw[AC];simp;omega);have e6:decide ((j:Int)<((Wd (ar (j+1) 0++qs)).length:Int))=true:=decide_eq_true (by rw[AC];simp;omega);have e7:aa .i64 ((j:Int)-1)=(j:Int)-1:=Au (by omega);have hset:∀z:Nat,(Wd (ar (j+1) 0++qs)).set j (z:Int)=Wd (ar j 0++(z::qs)):=fun z=>by
   rw[EJ,me _ _ (by simp),List.replicate_succ',fy _ _ (by simp)];simp
  have e8:j+(n+3)-j=n+3:=by omega
  dsimp only;simp only[ei,e0,e1,e3,e4,e5,e6,e7,bc,cond_true,ae,e8];rw[aYx o4,aV2 o4,cond_true];dsimp only;rw[hset];refine hL _ ⟨j,nv (2^64) w/nv (2^64) v::qs,A++out++C,by omega,by simp;omega,?_,by simp;omega,?_,?_,?_,rfl⟩ (by dsimp only;omega)
  ·intro x hx;rcases cn.1 hx with rfl|hx
   ·exact hq64
   ·exact hqd x hx
  ·intro x hx;rcases cv.1 hx with hx|hx
   ·rcases cv.1 hx with hx|hx
    ·exact hAd x hx
    ·exact o2 x hx
   ·exact hCd x hx
  ·rw[hv2];have:(2^64)^j*(nv (2^64) w%nv (2^64) v+1)<=(2^64)^j*nv (2^64) v:=cq _ hml;rw[bl,gl]at this;rw[ap (nv (2^64) v)];omega
  ·rw[hv2,hinv,hv1];show _=(nv (2^64) w/nv (2^64) v+2^64*nv (2^64) qs)*(2^64)^j*nv (2^64) v+_;have h1:(2^64)^j*nv (2^64) w=(2^64)^j*(nv (2^64) v*(nv (2^64) w/nv (2^64) v))+(2^64)^j*(nv (2^64) w%nv (2^64) v):=by rw[←bl,hdm]
   rw[h1,Hk,bw,bw];generalize nv (2^64) w/nv (2^64) v=q;generalize nv (2^64) v=V;generalize(2^64)^j=P;have h2:nv (2^64) qs*(P*2^64)*V=2^64*nv (2^64) qs*P*V:=by rw[ap P,←av,ap (nv (2^64) qs)]
   have h3:P*(V*q)=q*P*V:=by rw[ap V,←av,ap P]
   rw[h2,h3];omega
end VL
namespace VL
open Go Vx
theorem aU0{x k:Nat}(h:(2^64)^k<=x):k<(dg (2^64) x).length:=by
 have:=ZT (B:=2^64) (by decide) x;exact(cp (a:=2^64) (by decide)).1 (ao h this)
theorem aU1{x:Nat}(h0:x≠0):∃t,(dg (2^64) x).getD ((dg (2^64) x).length-1) 0=t/\t≠0/\t<2^64/\An x=64*((dg (2^64) x).length-1)+An t/\0<(dg (2^64) x).length:=by
 have hl:0<(dg (2^64) x).length:=by rw[EP (by decide) (by omega)];simp
 have ht:=Sa (B:=2^64) (by decide) x;have h1:=W4 (dg (2^64) x) (by rw[ht];exact hl);have h2:=aHR (Ks (B:=2^64) (by decide) x) (by rw[ht];exact hl);rw[ht]at h1 h2;rw[BQ]at h2;exact⟨_,rfl,h1,CG (by decide) (Ks (by decide) x) _,h2,hl⟩
theorem FH(k:Nat):(2^64)^k=2^(64*k):=(ky ..).symm
theorem aCD{a b:Nat}(ha:a<(2^64)^4000)(hb:b<(2^64)^4000)(h0:b≠0):Yk (Dw a,Dw b,())=some (Dw (a/b),Dw (a%b),()):=by
 have up:∀{x:Nat},x<(2^64)^4000->x<(2^64)^5000:=fun h=>ak h (ag (by decide) (by decide));show oA Dk.pre Dk.F EE.pre EE.F AU.pre AU.F CQ.pre CQ.F Ft.pre Ft.F BP.pre BP.F B0.pre B0.F EF.pre EF.F Ag.pre Ag.F BI.pre BI.F Y8 (Dw a) (Dw b)=_;unfold oA;have pa:=Mu (up ha);have pb:=Mu (up hb);have pc:=UI (up ha) (up hb);have wa:=CY (up ha);have wb:=CY (up hb);have hla:(dg (2^64) a).length<=4000:=C8 (by decide) _ _ ha;have hlb:(dg (2^64) b).length<=4000:=C8 (by decide) _ _ hb;have pcopy:=aCb (dg (2^64) a) wa;rw[BQ]at pcopy;have pcopy:S8 (Dw a,())=some (Dw a,()):=pcopy;obtain⟨t,ht,ht0,ht64,hbt,hlp⟩:=aU1 h0;have hLen:∀x:Nat,(Dw x).length=(dg (2^64) x).length:=fun x=>AC _;have hGet:∀(x i:Nat),(Dw x).getD i 0=(((dg (2^64) x).getD i 0:Nat):Int):=fun x i=>Cw _ _;dsimp only;simp only[CU pa,CT pa,CU pb,CT pb,WE pc,VI pc,cond_true];by_cases hlt:a<b
 ·have e0:decide ((if a=b then(0:Int)else if a<b then -1 else 1)<0)=true:=by rw[if_neg (by omega),if_pos hlt];rfl
  simp only[e0,cond_true,yC pcopy,wI pcopy];rw[co hlt,be hlt,DZ]
 have e0:decide ((if a=b then(0:Int)else if a<b then -1 else 1)<0)=false:=by
  rw[if_neg hlt];split<;>rfl
 simp only[e0,cond_false];by_cases h1:(dg (2^64) b).length=1
 ·have e1:(((Dw b).length:Int)==1)=true:=by rw[hLen,h1];rfl
  have hb64:b<2^64:=by
   have:=ZT (B:=2^64) (by decide) b;rw[h1,qh]at this;exact this
  have e2:decide ((0:Int)<((Dw b).length:Int))=true:=by rw[hLen,h1];rfl
  have e3:(Dw b).getD (ai 0) 0=(b:Int):=by rw[bf,SR,be hb64]
  have p0:=aRv (up ha) (mr h0) hb64;have hr:a%b<b:=bp _ (mr h0);have p1:=D7 [a%b] (by simp);rw[pX (by intro x hx;rw[gg]at hx;omega),show nv (2^64) [a%b]=a%b by simp[nv]]at p1;have p1:Td ((((a%b:Nat):Int)::[]),())=_:=p1;simp only[e1,e2,e3,cond_true,yC pcopy,wI pcopy,aYj p0,aVO p0,CU p1,CT p1]
 have e1:(((Dw b).length:Int)==1)=false:=by
  rw[hLen];exact Wn _ _ (by omega)
 simp only[e1,cond_false];obtain⟨n,hn⟩:∃n,(dg (2^64) b).length=n+2:=⟨(dg (2^64) b).length-2,by omega⟩
 have hab:(dg (2^64) b).length<=(dg (2^64) a).length:=aIk (by decide) (by omega);obtain⟨Q,hQ⟩:∃Q,(dg (2^64) a).length+1=Q+n+2:=⟨(dg (2^64) a).length+1-(n+2),by omega⟩
 rw[show(dg (2^64) b).length-1=n+1 by omega]at ht hbt;have hbl:=Fx ht64;have hbl1:=aHQ ht0;generalize hs:64-An t=s at *
 have p327:=aCA ht64;rw[hs]at p327;have hub:=Ir b;have hlob:=R7 h0;have hp:=aj s;have hV1:b*2^s<2^(64*(n+2)):=by
  have h2:b*2^s<2^An b*2^s:=cr hub hp;rw[←az,show An b+s=64*(n+2) by omega]at h2;exact h2
 have hV2:2^(64*(n+2)-1)<=b*2^s:=by
  have h2:2^(An b-1)*2^s<=b*2^s:=aw _ hlob;rw[←az,show An b-1+s=64*(n+2)-1 by omega]at h2;exact h2
 have hvlen:(dg (2^64) (b*2^s)).length=n+2:=by
  have h2:(dg (2^64) (b*2^s)).length<=n+2:=C8 (by decide) _ _ (by rw[FH];exact hV1);have h3:=aU0 (x:=b*2^s) (k:=n+1) (by
   rw[FH];exact fw (ag (by decide) (by omega)) hV2)
  omega
 have hA:a*2^s<2^(64*(dg (2^64) a).length+s):=by
  have h2:=ZT (B:=2^64) (by decide) a;rw[FH]at h2;rw[az];exact cr h2 hp
 have hulen:(dg (2^64) (a*2^s)).length<=Q+n+2:=C8 (by decide) _ _ (by
  rw[FH];exact ak hA (ag (by decide) (by omega)))
 have hstart:a*2^s<b*2^s*(2^64)^Q:=by
  have h2:2^(64*(n+2)-1)*2^(64*Q)<=b*2^s*2^(64*Q):=aw _ hV2;rw[←az]at h2;rw[FH];exact ak (ak hA (ag (by decide) (by omega))) h2
 have pv:=gB (dg (2^64) b) wb s (by rw[Sa (by decide)];omega);have pu:=gB (dg (2^64) a) wa s (by rw[Sa (by decide)];omega);rw[BQ]at pv pu;have pv:RS (Dw b,(s:Int),())=some (Dw (b*2^s),()):=pv;have pu:RS (Dw a,(s:Int),())=some (Dw (a*2^s),()):=pu;have e17:aa .i64 (((Dw b).length:Int)-1)=((n+1:Nat):Int):=by rw[hLen,Au (by omega)];omega
 have e18:aa .i64 (((Dw a).length:Int)+1)=((Q+n+2:Nat):Int):=by rw[hLen,Au (by omega)];omega
 have eg:(Dw b).getD (ai ((n+1:Nat):Int)) 0=(t:Int):=by rw[ae,hGet,ht]
 have e2:(decide ((0:Int)<=((n+1:Nat):Int))&&decide (((n+1:Nat):Int)<((Dw b).length:Int)))=true:=by
  rw[hLen,decide_eq_true (by omega),decide_eq_true (by omega)];rfl
 have e3:(decide ((0:Int)<=((Q+n+2:Nat):Int))&&decide (((Q+n+2:Nat):Int)*8<=140737488355328))=true:=by
  rw[decide_eq_true (by omega),decide_eq_true (by omega)];rfl
 generalize hud:dg (2^64) (a*2^s)++ar (Q+n+2-(dg (2^64) (a*2^s)).length) 0=us;have husl:us.length=Q+n+2:=by rw[←hud,List.length_append,fj];omega
 have hus:∀x∈us,x<2^64:=by
  rw[←hud];intro x hx;rcases cv.1 hx with hx|hx
  ·exact Ks (by decide) _ x hx
  ·have:=(oq.1 hx).2;omega
 have husv:nv (2^64) us=a*2^s:=by rw[←hud,Sv,aKO,ej,dc,BQ]
 have hrow:(Dw (a*2^s)).take (ar (ai ((Q+n+2:Nat):Int)) (0:Int)).length++(ar (ai ((Q+n+2:Nat):Int)) (0:Int)).drop (Dw (a*2^s)).length=Wd us:=by
  rw[ae,fj,U4,hLen,aSG,kz];unfold Dw;rw[Za,cw hulen,←hud];unfold Wd;rw[List.map_append]
 have e11:aa .i64 (((Wd us).length:Int)-((Dw (b*2^s)).length:Int))=(Q:Int):=by
  rw[AC,husl,hLen,hvlen,Au (by omega)];omega
 have e4:(decide ((0:Int)<=(Q:Int))&&decide ((Q:Int)*8<=140737488355328))=true:=by
  rw[decide_eq_true (by omega),decide_eq_true (by omega)];rfl
 have e5:aa .i64 (((ar (ai (Q:Int)) (0:Int)).length:Int)-1)=(Q:Int)-1:=by
  rw[ae,fj,Au (by omega)]
 obtain⟨qs,us',k1,k2,k3,k4,k5,k6,k7⟩:=aSA (dg (2^64) (b*2^s)) hvlen (Ks (by decide) _) (by omega) (X:=a*2^s) Q (by omega) (s:Int) us husl hus husv (by rw[BQ];exact hstart);rw[BQ]at k3 k6;rw[ki _ _ hp]at k3;rw[dw]at k6;have k7:Y8 (((Dw (b*2^s),(((Q:Int)-1),((),((),(((Dw (b*2^s)).length:Int),((s:Int),())))))),(Wd us,((ar (ai (Q:Int)) (0:Int)),()))):F0.D)=some (.inl (((),((),(((n+2:Nat):Int),((s:Int),())))),(Wd us',(Wd qs,())))):=by
  rw[ae,U4,hLen];rw[hvlen]at k7⊢;exact k7
 simp only[e17,eg,aLk p327,aJe p327,lJ pv,kG pv,lJ pu,kG pu,e18,e2,e3,cond_true,hrow,e11,e4,e5];rw[k7];dsimp only[A3,A2];have pq:=D7 qs (by omega);rw[pX k2,k3]at pq;have hnl:nv (2^64) (us'.take (n+2))=a%b*2^s:=by
  have h2:=Sw (2^64) us' (n+2) (by omega);have h3:nv (2^64) (us'.drop (n+2))=0:=by
   rcases bd (nv (2^64) (us'.drop (n+2)))with h|h
   ·exact h
   ·exfalso;have h4:(2^64)^(n+2)*1<=(2^64)^(n+2)*nv (2^64) (us'.drop (n+2)):=cq _ h;have h5:a%b*2^s<b*2^s:=cr (bp _ (mr h0)) hp;rw[FH]at h4 h2;omega
  rw[h3,ej,dc]at h2;rw[←h2,k6]
 have pr:=rX (us'.take (n+2)) ⟨fun x hx=>k5 x (fa hx),by simp;omega⟩ s (by omega);rw[hnl,jf _ hp]at pr;have pr:Tc (Wd (us'.take (n+2)),(s:Int),())=some (Dw (a%b),()):=pr;have e6:(decide ((0:Int)<=((n+2:Nat):Int))&&decide (((n+2:Nat):Int)<=((Wd us').length:Int)))=true:=by
  rw[AC,k4,decide_eq_true (by omega),decide_eq_true (by omega)];rfl
 have e7:((Wd us').take (ai ((n+2:Nat):Int))).drop (ai 0)=Wd (us'.take (n+2)):=by
  rw[ae,bf,Za,kv]
 simp only[CU pq,CT pq,e6,e7,yF pr,wL pr,cond_true]
theorem kT{l:List (List Nat)}(hl:∀x∈l,x.length<=1024)(hn:l.length<=1000000):Ig (l.map Wd,())=some (false,()):=by
 have:=aCq l (fun x hx=>by have:=hl x hx;omega) hn;rw[this,decide_eq_true (fun x hx=>fw (Dx x).1 (hl x hx))];rfl
theorem aRV{a b:Nat}(ha:a<(2^64)^1024)(hb:b<(2^64)^1024)(h0:b≠0):Yl (Dw a,Dw b,())=some (Dw (a/b),Dw (a%b),0,()):=by
 have up:∀{x:Nat},x<(2^64)^1024->x<(2^64)^4000:=fun h=>ak h (ag (by decide) (by decide));have up5:∀{x:Nat},x<(2^64)^1024->x<(2^64)^5000:=fun h=>ak h (ag (by decide) (by decide));show oE Cp.pre Cp.F Ag.pre Ag.F Dm.pre Dm.F (Dw a) (Dw b)=_;unfold oE;have p0:=kT (l:=[dg (2^64) a,dg (2^64) b]) (by
  intro x hx;rcases cn.1 hx with rfl|hx
  ·exact C8 (by decide) _ _ ha
  ·rw[gg]at hx;rw[hx];exact C8 (by decide) _ _ hb) (by simp)
 have p0:Ig ((Dw a::Dw b::[]),())=some (false,()):=p0;have p1:=Mu (up5 hb);have p2:=aCD (up ha) (up hb) h0;have e0:(((Dw b).length:Int)==0)=false:=by rw[aAj,decide_eq_false h0]
 simp only[WG p0,VK p0,CU p1,CT p1,aLm p2,aJg p2,cond_true,cond_false,e0]
end VL
namespace VL
open Go Vx
theorem aXd{x y p c:Nat}(hx:x<2^64)(hy:y<2^64)(hp:p<2^64)(hc:c<2^64):
  x*y+p+c=2^64*(x*y/2^64+(x*y%2^64+p)/2^64+((x*y%2^64+p)%2^64+c)/2^64)+((x*y%2^64+p)%2^64+c)%2^64 /\
   x*y/2^64+(x*y%2^64+p)/2^64+((x*y%2^64+p)%2^64+c)/2^64<2^64:=by
 have:x*y<=(2^64-1)*(2^64-1):=gx (by omega) (by omega);generalize x*y=z at *
 omega
theorem aJA(l:List Nat)(i j v:Nat):(l.set i v).getD j 0=if i=j/\i<l.length then v else l.getD j 0:=by
 rw[al,al,List.getElem?_set];by_cases h:i=j
 ·subst h;by_cases h2:i<l.length
  ·simp[h2]
  ·simp[h2]
 ·simp[h]
theorem aKA{l:List Nat}{i v B:Nat}(h:∀x∈l,x<B)(hv:v<B):∀x∈l.set i v,x<B:=fun x hx=>by
 rcases List.mem_or_eq_of_mem_set hx with h1|h1
 ·exact h x h1
 ·omega
theorem aSv(a b p:List Nat)(hb:∀x∈b,x<2^64)(hn:b.length<=100000){x i:Nat}(hx:x<2^64)(hi:i<=100000)(hpl:i+b.length<p.length)(hpn:p.length<=300000)(hpd:∀z∈p,z<2^64)
  (hz:∀k,i+b.length<=k->p.getD k 0=0) (la:Int) :
  ∃(p':List Nat) (c:Nat),p'.length=p.length/\(∀z∈p',z<2^64)/\c<2^64/\nv (2^64) p'+(2^64)^(i+b.length)*c=nv (2^64) p+(2^64)^i*(x*nv (2^64) b)/\(∀k,i+b.length<=k->p'.getD k 0=0) /\
   RV (((b.length:Int),(Wd b,((x:Int),((0:Int),((i:Int),((0:Int),((i:Int),(la,(Wd a,(Wd b,((),()))))))))))),(Wd p,()))=some (.inl (((i:Int),((c:Int),((i:Int),(la,(Wd a,(Wd b,((),()))))))),(Wd p',()))):=by
 have key:=No (aKj AN.pre AN.F Az.pre Az.F Ag.pre Ag.F) (fun s=>b.length-s.1.2.2.2.1.toNat)
  (fun s=>∃(j:Nat) (p':List Nat) (c:Nat),j<=b.length/\p'.length=p.length/\(∀z∈p',z<2^64)/\c<2^64/\nv (2^64) p'+(2^64)^(i+j)*c=nv (2^64) p+(2^64)^i*(x*nv (2^64) (b.take j))/\(∀k,i+b.length<=k->p'.getD k 0=0) /\
   s=(((b.length:Int),(Wd b,((x:Int),((j:Int),((i:Int),((c:Int),((i:Int),(la,(Wd a,(Wd b,((),()))))))))))),(Wd p',())))
  (fun y=>∃(p':List Nat) (c:Nat),p'.length=p.length/\(∀z∈p',z<2^64)/\c<2^64/\nv (2^64) p'+(2^64)^(i+b.length)*c=nv (2^64) p+(2^64)^i*(x*nv (2^64) b)/\(∀k,i+b.length<=k->p'.getD k 0=0) /\
   y=.inl (((i:Int),((c:Int),((i:Int),(la,(Wd a,(Wd b,((),()))))))),(Wd p',()))) ?_
  (((b.length:Int),(Wd b,((x:Int),((0:Int),((i:Int),((0:Int),((i:Int),(la,(Wd a,(Wd b,((),()))))))))))),(Wd p,()))
  ⟨0,p,0,dt _,rfl,hpd,by decide,by simp[nv],hz,rfl⟩
 ·obtain⟨y,hy,p',c,k1,k2,k3,k4,k5,rfl⟩:=key;exact⟨p',c,k1,k2,k3,k4,k5,hy⟩
 intro L s hs hL;obtain⟨j,q,c,hj,hql,hqd,hc,hinv,hqz,rfl⟩:=hs;unfold V6;rcases aq j b.length with hlt|hge
 ·have hy:=CG (by decide) hb j;have hp:=CG (by decide) hqd (i+j);have hnb:=Ec (2^64) b j;have hgb:(Wd b).getD j 0=((b.getD j 0:Nat):Int):=Cw b j;have hgq:(Wd q).getD (i+j) 0=((q.getD (i+j) 0:Nat):Int):=Cw q _;have hst:=fun z=>aX (2^64) q (i+j) z (by omega);have hgs:=fun z k=>aJA q (i+j) k z;generalize b.getD j 0=y at *
  generalize q.getD (i+j) 0=d at *
  have p0:=gC hx hy;obtain⟨m1,m2⟩:=aXd hx hy hp hc;have q1:=R2 (x*y%2^64) d 0;have q2:=R3 ((x*y%2^64:Nat):Int) (d:Int) 0 (by decide);have r1:=R2 ((x*y%2^64+d)%2^64) c 0;have r2:=R3 (((x*y%2^64+d)%2^64:Nat):Int) (c:Int) 0 (by decide);rw[dc]at q1 r1;have z0:((0:Nat):Int)=0:=rfl;rw[z0]at q1 q2 r1 r2;have hl:((x*y%2^64+d)%2^64+c)%2^64<2^64:=bp _ (by decide);have e5:=Uj (x*y/2^64) ((x*y%2^64+d)/2^64) (by omega);have e6:=Uj (x*y/2^64+(x*y%2^64+d)/2^64) (((x*y%2^64+d)%2^64+c)/2^64) m2;have e0:decide ((j:Int)<(b.length:Int))=true:=decide_eq_true (by omega);have e1:decide ((0:Int)<=(j:Int))=true:=decide_eq_true (by omega);have e2:aa .i64 ((i:Int)+(j:Int))=((i+j:Nat):Int):=by rw[Au (by omega)];omega
  have e3:aa .i64 ((j:Int)+1)=((j+1:Nat):Int):=by rw[Au (by omega)];omega
  have e4:decide ((0:Int)<=((i+j:Nat):Int))=true:=decide_eq_true (by omega);have e7:decide (((i+j:Nat):Int)<(q.length:Int))=true:=decide_eq_true (by omega);dsimp only;simp only[e0,e1,e2,e3,e4,e7,cond_true,bc,AC,ae,hgb,hgq,lK p0,kH p0,q1,q2,r1,r2,e5,e6,EJ];refine hL _ ⟨j+1,q.set (i+j) (((x*y%2^64+d)%2^64+c)%2^64),x*y/2^64+(x*y%2^64+d)/2^64+((x*y%2^64+d)%2^64+c)/2^64,by omega,by rw[jj];exact hql,aKA hqd hl,m2,?_,?_,rfl⟩ (by simp only[ae];omega)
  ·have h1:=hst (((x*y%2^64+d)%2^64+c)%2^64);rw[hnb,show i+(j+1)=i+j+1 by omega,Hk,bl x,bl ((2^64)^i),gf x,←av ((2^64)^i) ((2^64)^j),←az];generalize((x*y%2^64+d)%2^64+c)%2^64=o at *
   generalize x*y/2^64+(x*y%2^64+d)/2^64+((x*y%2^64+d)%2^64+c)/2^64=c' at *
   generalize x*y=z at *
   have h2:(2^64)^(i+j)*(z+d+c)=(2^64)^(i+j)*(2^64*c'+o):=by rw[m1]
   rw[bl,bl,bl,←av ((2^64)^(i+j)) (2^64)]at h2;omega
  ·intro k hk;rw[hgs,if_neg (by omega)];exact hqz k hk
 ·have e:j=b.length:=by omega
  subst e;have e0:decide ((b.length:Int)<(b.length:Int))=false:=decide_eq_false (by omega);dsimp only;simp only[e0,cond_false];rw[dk]at hinv;exact⟨_,rfl,q,c,hql,hqd,hc,hinv,hqz,rfl⟩
theorem aSu(a b:List Nat)(ha:∀x∈a,x<2^64)(hb:∀x∈b,x<2^64)(hna:a.length<=100000)(hnb:b.length<=100000):
  ∃p:List Nat,p.length=a.length+b.length/\(∀z∈p,z<2^64)/\nv (2^64) p=nv (2^64) a*nv (2^64) b /\
   Y6 ((((a.length:Int),(Wd a,(Wd b,((0:Int),((),()))))),(Wd (ar (a.length+b.length) 0),())):Fl.D)=some (.inl (((),()),(Wd p,()))):=by
 have key:=No (aKi AN.pre AN.F Az.pre Az.F Ag.pre Ag.F RV) (fun s=>a.length-s.1.2.2.2.1.toNat)
  (fun s=>∃(i:Nat) (p:List Nat),i<=a.length/\p.length=a.length+b.length/\(∀z∈p,z<2^64)/\nv (2^64) p=nv (2^64) (a.take i)*nv (2^64) b/\(∀k,i+b.length<=k->p.getD k 0=0) /\
   s=(((a.length:Int),(Wd a,(Wd b,((i:Int),((),()))))),(Wd p,())))
  (fun y=>∃p:List Nat,p.length=a.length+b.length/\(∀z∈p,z<2^64)/\nv (2^64) p=nv (2^64) a*nv (2^64) b/\y=.inl (((),()),(Wd p,()))) ?_
  (((a.length:Int),(Wd a,(Wd b,((0:Int),((),()))))),(Wd (ar (a.length+b.length) 0),()))
  ⟨0,ar (a.length+b.length) 0,dt _,by simp,(fun z hz=>by have:=(oq.1 hz).2;omega),by rw[aKO];simp[nv],(fun k _=>by
   rw[al,List.getElem?_replicate];split<;>rfl),rfl⟩
 ·obtain⟨y,hy,p,k1,k2,k3,rfl⟩:=key;exact⟨p,k1,k2,k3,hy⟩
 intro L s hs hL;obtain⟨i,p,hi,hpl,hpd,hinv,hz,rfl⟩:=hs;unfold V5;rcases aq i a.length with hlt|hge
 ·have hx:=CG (by decide) ha i;have hna':=Ec (2^64) a i;have hga:(Wd a).getD i 0=((a.getD i 0:Nat):Int):=Cw a i;obtain⟨p',c,k1,k2,k3,k4,k5,k6⟩:=aSv a b p hb hnb hx (i:=i) (by omega) (by omega) (by omega) hpd hz (a.length:Int);have e0:decide ((i:Int)<(a.length:Int))=true:=decide_eq_true (by omega);have e1:decide ((0:Int)<=(i:Int))=true:=decide_eq_true (by omega);have e2:aa .i64 ((i:Int)+(b.length:Int))=((i+b.length:Nat):Int):=by rw[Au (by omega)];omega
  have e3:aa .i64 ((i:Int)+1)=((i+1:Nat):Int):=by rw[Au (by omega)];omega
  have e4:decide ((0:Int)<=((i+b.length:Nat):Int))=true:=decide_eq_true (by omega);have e5:decide (((i+b.length:Nat):Int)<(p'.length:Int))=true:=decide_eq_true (by omega);dsimp only;simp only[e0,e1,cond_true,bc,AC,ae,hga];rw[k6];dsimp only[A3,A2];simp only[e2,e3,e4,e5,cond_true,bc,AC,ae,EJ];refine hL _ ⟨i+1,p'.set (i+b.length) c,by omega,by rw[jj];omega,aKA k2 k3,?_,?_,rfl⟩ (by simp only[ae];omega)
  ·have h1:=aX (2^64) p' (i+b.length) c (by omega);rw[k5 _ (bj _),ej,dc]at h1;rw[h1,k4,hinv,hna',bw,av]
  ·intro k hk;rw[aJA,if_neg (by omega)];exact k5 k (by omega)
 ·have e:i=a.length:=by omega
  subst e;have e0:decide ((a.length:Int)<(a.length:Int))=false:=decide_eq_false (by omega);simp only[e0,cond_false];rw[dk]at hinv;exact⟨_,rfl,p,hpl,hpd,hinv,rfl⟩
theorem aCz{a b:Nat}(ha:a<(2^64)^5000)(hb:b<(2^64)^5000):Yd (Dw a,Dw b,())=some (Dw (a*b),()):=by
 show n0 AN.pre AN.F Az.pre Az.F Ag.pre Ag.F Y6 RV (Dw a) (Dw b)=_;unfold n0;have pa:=Mu ha;have pb:=Mu hb;have hla:(dg (2^64) a).length<=5000:=C8 (by decide) _ _ ha;have hlb:(dg (2^64) b).length<=5000:=C8 (by decide) _ _ hb;obtain⟨p,k1,k2,k3,k4⟩:=aSu (dg (2^64) a) (dg (2^64) b) (Ks (by decide) _) (Ks (by decide) _) (by omega) (by omega);rw[BQ,BQ]at k3;have hLen:∀x:Nat,(Dw x).length=(dg (2^64) x).length:=fun x=>AC _;have e0:aa .i64 (((Dw a).length:Int)+((Dw b).length:Int))=(((dg (2^64) a).length+(dg (2^64) b).length:Nat):Int):=by rw[hLen,hLen,Au (by omega)];omega
 have e1:(decide ((0:Int)<=(((dg (2^64) a).length+(dg (2^64) b).length:Nat):Int))&&decide ((((dg (2^64) a).length+(dg (2^64) b).length:Nat):Int)*8<=140737488355328))=true:=by
  rw[decide_eq_true (by omega),decide_eq_true (by omega)];rfl
 have k4:Y6 (((((Dw a).length:Int),(Dw a,(Dw b,((0:Int),((),()))))),((ar (ai (((dg (2^64) a).length+(dg (2^64) b).length:Nat):Int)) (0:Int)),())):Fl.D)=some (.inl (((),()),(Wd p,()))):=by
  rw[ae,U4,hLen];exact k4
 have p0:=D7 p (by omega);rw[pX k2,k3]at p0;dsimp only;simp only[CU pa,CT pa,CU pb,CT pb,cond_true,e0,e1];rw[k4];dsimp only[A3,A2];simp only[CU p0,CT p0,cond_true]
theorem aRM{a b:Nat}(ha:a<(2^64)^1024)(hb:b<(2^64)^1024)(hab:a*b<(2^64)^1024):Ye (Dw a,Dw b,())=some (Dw (a*b),0,()):=by
 have up5:∀{x:Nat},x<(2^64)^1024->x<(2^64)^5000:=fun h=>ak h (ag (by decide) (by decide));show n4 Dl.pre Dl.F Cp.pre Cp.F (Dw a) (Dw b)=_;unfold n4;have p0:=kT (l:=[dg (2^64) a,dg (2^64) b]) (by
  intro x hx;rcases cn.1 hx with rfl|hx
  ·exact C8 (by decide) _ _ ha
  ·rw[gg]at hx;rw[hx];exact C8 (by decide) _ _ hb) (by simp)
 have p0:Ig ((Dw a::Dw b::[]),())=some (false,()):=p0;have p2:=kT (l:=[dg (2^64) (a*b)]) (by
  intro x hx;rw[gg]at hx;rw[hx];exact C8 (by decide) _ _ hab) (by simp)
 have p2:Ig ((Dw (a*b)::[]),())=some (false,()):=p2;have p1:=aCz (up5 ha) (up5 hb);simp only[WG p0,VK p0,aLj p1,aJd p1,WG p2,VK p2,cond_true,cond_false]
theorem aRN{n k:Nat}(hn:n<2^64)(hk:k<=10000):JZ ((n:Int),(k:Int),())=some (Dw (n*n*2^(2*k)),()):=by
 show cD F5.pre F5.F BS.pre BS.F (n:Int) (k:Int)=_;unfold cD;dsimp only;rcases bd n with rfl|hn0
 ·have e0:0*0*2^(2*k)=0:=by simp
  rw[e0,DZ];rfl
 have hnn:n*n<(2^64)^2:=by
  rw[show(2^64)^2=2^64*2^64 by decide];exact ni hn hn
 have h1:n<(2^64)^1024:=ak (show n<(2^64)^1 by rw[qh];exact hn) (ag (by decide) (by decide));have h2:n*n<(2^64)^1024:=ak hnn (ag (by decide) (by decide));have p0:=aRM h1 h1 h2;rw[Uq (by omega) hn]at p0;have e1:((n:Int)==0)=false:=Bg _ (by omega);have e2:aa .i64 (2*(k:Int))=((2*k:Nat):Int):=by rw[Au (by omega)];omega
 have h3:n*n*2^(2*k)<(2^64)^1024:=by
  rw[FH]at hnn⊢;have h4:n*n*2^(2*k)<2^(64*2)*2^(2*k):=cr hnn (aj _);rw[←az]at h4;exact ak h4 (ag (by decide) (by omega))
 have p1:=X4 (dg (2^64) (n*n)) (CY (ak h2 (ag (by decide) (by decide)))) (2*k) (by omega) (by rw[BQ];exact h3);rw[BQ]at p1;have p1:JY (Dw (n*n),((2*k:Nat):Int),())=_:=p1;simp only[e1,cond_false,aYu p0,aVZ p0,cond_true,e2,KH p1,Ky p1]
theorem aXm{A x:Nat}(hx:0<x):AG A<=(x+A/x)/2:=by
 have h1:=TP A;generalize AG A=r at *
 have h3:A<(A/x+1)*x:=by
  have:=mq hx (a:=A);rw[bw,fb];exact this
 generalize A/x=q at *
 rcases aq ((x+q)/2) r with h|h
 ·exfalso;have h2:q+1<=2*r-x:=by omega
  have h4:(q+1)*x<=(2*r-x)*x:=aw _ h2;have h5:(2*r-x)*x<=r*r:=by
   rcases Nat.le_total x r with h6|h6
   ·obtain⟨d,rfl⟩:∃d,r=x+d:=⟨r-x,by omega⟩
    rw[show 2*(x+d)-x=x+2*d by omega,bw,bl,bw,bw,ap x d,av 2];omega
   ·obtain⟨d,rfl⟩:∃d,x=r+d:=⟨x-r,by omega⟩
    have:2*r-(r+d)=r-d:=by omega
    rw[this,bl,qe,qe];have h7:d*r<=r*r:=aw _ (by omega);rw[ap r d];omega
  omega
 ·exact h
theorem xR{A x:Nat}(hx:AG A<=x)(h:x<=(x+A/x)/2)(h0:0<x):x=AG A:=by
 have h1:x<=A/x:=by
  generalize A/x=q at *
  omega
 have h2:x*x<=A:=(jc h0).1 h1;have:=kX h2;omega
theorem aDY(l:List Nat):(Wd l).map ai=l:=by
 unfold Wd;rw[List.map_map];have:(ai ∘ fun n:Nat=>(n:Int))=id:=by funext n;rfl
 rw[this,List.map_id]
theorem aSB{A x0:Nat}(hA0:A≠0)(hA:A<(2^64)^1030)(hx0:AG A<=x0)(hxb:x0<(2^64)^1030):
  gW (((Dw x0,(Dw A,())),()):GW.D)=some (.inl ((Dw (AG A),(Dw A,())),())):=by
 have up:∀{x:Nat},x<(2^64)^1030->x<(2^64)^4000:=fun h=>ak h (ag (by decide) (by decide));have up5:∀{x:Nat},x<(2^64)^1030->x<(2^64)^5000:=fun h=>ak h (ag (by decide) (by decide));have hpos:=aJT hA0;have key:=DU (aKr Cp.pre Cp.F Ag.pre Ag.F A8.pre A8.F B0.pre B0.F Dm.pre Dm.F BE.pre BE.F BI.pre BI.F Dl.pre Dl.F AU.pre AU.F) (fun s=>nv (2^64) (s.1.1.map ai))
  (fun s=>∃x:Nat,AG A<=x/\x<(2^64)^1030/\s=((Dw x,(Dw A,())),()))
  (fun _=>.inl ((Dw (AG A),(Dw A,())),())) ?_ ((Dw x0,(Dw A,())),()) ⟨x0,hx0,hxb,rfl⟩
 ·exact key
 intro L s hs hL;obtain⟨x,hx,hxb,rfl⟩:=hs;unfold Wf;have hx1:0<x:=by omega
 have p0:=aCD (up hA) (up hxb) (by omega);have hd:A/x<=A:=dq _ _;have hdb:A/x<(2^64)^1030:=ao hd hA;have p1:=XV (up5 hxb) (up5 hdb);have hsum:x+A/x<(2^64)^1031:=by
  rw[show(2^64)^1031=(2^64)^1030*2^64 from Hk 1030];have:0<(2^64)^1030:=ij (by decide);generalize(2^64)^1030=P at *
  omega
 have p2:=rX (dg (2^64) (x+A/x)) (CY (ak hsum (ag (by decide) (by decide)))) 1 (by decide);rw[BQ,qh]at p2;have p2:Tc (Dw (x+A/x),(1:Int),())=some (Dw ((x+A/x)/2),()):=p2;have hyb:(x+A/x)/2<(2^64)^1030:=by omega
 have p3:=UI (up5 hyb) (up5 hxb);have hge:=aXm (A:=A) hx1;dsimp only;simp only[aLm p0,aJg p0,Gt p1,Gr p1,yF p2,wL p2,WE p3,VI p3,cond_true];by_cases hc:x<=(x+A/x)/2
 ·have e0:decide ((if(x+A/x)/2=x then(0:Int)else if(x+A/x)/2<x then -1 else 1)>=0)=true:=by
   rw[decide_eq_true_eq];split
   ·omega
   ·rw[if_neg (by omega)];omega
  rw[e0,cond_true,xR hx hc hx1,xR (kX (TP A)) (by rw[←xR hx hc hx1];exact hc) hpos]
 ·have e0:decide ((if(x+A/x)/2=x then(0:Int)else if(x+A/x)/2<x then -1 else 1)>=0)=false:=by
   rw[decide_eq_false_iff_not];rw[if_neg (by omega),if_pos (by omega)];omega
  rw[e0,cond_false];refine hL _ ⟨_,hge,hyb,rfl⟩ ?_;show nv (2^64) ((Wd (dg (2^64) ((x+A/x)/2))).map ai)<nv (2^64) ((Wd (dg (2^64) x)).map ai);rw[aDY,aDY,BQ,BQ];omega
theorem aRS{A:Nat}(hA:A<(2^64)^1024):UP (Dw A,())=some (Dw (AG A),decide (AG A*AG A=A),0,()):=by
 have up5:∀{x:Nat},x<(2^64)^1024->x<(2^64)^5000:=fun h=>ak h (ag (by decide) (by decide));show oB Cp.pre Cp.F Ag.pre Ag.F A8.pre A8.F B0.pre B0.F Dm.pre Dm.F BE.pre BE.F BI.pre BI.F Dl.pre Dl.F AU.pre AU.F gW (Dw A)=_;unfold oB;have p0:=kT (l:=[dg (2^64) A]) (by
  intro x hx;rw[gg]at hx;rw[hx];exact C8 (by decide) _ _ hA) (by simp)
 have p0:Ig ((Dw A::[]),())=some (false,()):=p0;have p1:=Mu (up5 hA);dsimp only;simp only[WG p0,VK p0,CU p1,CT p1,cond_true,cond_false,aAj];by_cases h0:A=0
 ·subst h0;have:AG 0=0:=xE (by decide) (by decide);rw[this,DZ];rfl
 rw[decide_eq_false h0,cond_false];have p2:=Mt (up5 hA);have hA':=hA;rw[FH]at hA';have hbl:=Fx hA';have e1:aa .i64 ((An A:Int)+1)=((An A+1:Nat):Int):=by rw[Au (by omega)];omega
 have e2:BK .i64 ((An A+1:Nat):Int) 2=(((An A+1)/2:Nat):Int):=aYU _ (by omega);have p3:=gB [1] ⟨by simp,by simp⟩ ((An A+1)/2) (by simp[Ak];omega);rw[show nv (2^64) [1]=1 by simp[nv],fb]at p3;have p3:RS (((1:Int)::[]),(((An A+1)/2:Nat):Int),())=_:=p3;have hge:AG A<=2^((An A+1)/2):=by
  have h1:=aWz (X:=A) (k:=(An A+1)/2) (ak (Ir A) (ag (by decide) (by omega)));omega
 have hw:=aSB h0 (ak hA (ag (by decide) (by decide))) hge (by
  rw[FH];exact Nat.pow_lt_pow_right (by decide) (by omega))
 have hs:=aJU A;have hsA:AG A<(2^64)^1024:=ao hs hA;have p4:=aCz (up5 hsA) (up5 hsA);have hle:=TP A;have p5:=UI (up5 (ao hle hA)) (up5 hA);simp only[Nu p2,Nj p2,e1,e2,lJ p3,kG p3,cond_true];rw[hw];dsimp only[A3,A2];simp only[aLj p4,aJd p4,WE p5,VI p5,cond_true];congr 3;rw[ee,beq_iff_eq,decide_eq_true_eq];constructor
 ·intro h;split at h
  ·assumption
  ·split at h<;>cases h
 ·intro h;rw[if_pos h]
end VL
namespace VL
open Go Vx
def SF(f m:Int)(R:Nat)(E:Int)(more:Bool):Nat×Nat:=if more=true then AT f m false (2*R+1) (E-1) false else AT f m false R E false
theorem bCh{f m:Int}(hf:Fm f){R:Nat}{E:Int}{more:Bool}(hb:more=true->fP f+2<=An R):AT f m false R E more=SF f m R E more:=by
 unfold SF;cases more
 ·rw[if_neg (by decide)]
 ·rw[if_pos rfl,aLT hf (hb rfl)]
theorem bCg{f m:Int}(hf:Fm f){R k:Nat}{E:Int}{more:Bool}(hb:fP f+2<=An (R/2^k)):AT f m false (R/2^k) (E+k) (more||decide (R%2^k≠0))=SF f m R E more:=by
 have hP:=C0 hf;have h0:R/2^k≠0:=fun h=>by
  rw[h]at hb;have:An 0=0:=rfl;omega
 unfold SF;cases more
 ·rw[if_neg (by decide),bt];exact WP hf h0 fun _=>hb
 ·rw[if_pos rfl,bb];have:=aLR (f:=f) (m:=m) (neg:=false) (N:=R) (k:=k) (E:=E+k) hf hb;rw[this,show E+(k:Int)-(k:Int)-1=E-1 by omega]
theorem bCm(f m:Int)(X:Nat)(E:Int):SF f m (AG X) E (!decide (AG X*AG X=X))=Nv f m X E:=by
 unfold SF Nv;by_cases h:AG X*AG X=X
 ·rw[decide_eq_true h,if_pos h];rfl
 ·rw[decide_eq_false h,if_neg h];rfl
theorem aN1{R:Nat}(hR:R<2^128):
  ((((0:Int)::((0:Int)::[])).take (0:Nat)++(Dw R).take ((0:Int)::((0:Int)::[])).length)++(((0:Int)::((0:Int)::[])).drop ((0:Nat)+(min (Dw R).length ((0:Int)::((0:Int)::[])).length))))=((R%2^64:Nat):Int)::((R/2^64:Nat):Int)::[]:=by
 rcases bd R with rfl|h0
 ·rw[DZ];rfl
 rcases aq R (2^64)with h|h
 ·rw[Uq (by omega) h,be h,co h];rfl
 ·have hd:Dw R=((R%2^64:Nat):Int)::((R/2^64:Nat):Int)::[]:=by
   unfold Dw;rw[EP (by decide) (by omega),EP (n:=R/2^64) (by decide) (by omega),be (a:=R/2^64) (by omega),co (a:=R/2^64) (by omega),DP];rfl
  rw[hd];rfl
theorem aRT{f m:Int}(hf:Fm f)(hm:0<=m/\m<=5){R:Nat}(h0:R≠0)(hR:R<2^20000)(E:Int)(hE:-10000<=E/\E<=10000)(more:Bool)(hmore:more=true->fP f+2<=An R):
  UQ (f,m,Dw R,E,more,())=some (((SF f m R E more).1:Int),((SF f m R E more).2:Int),0,()):=by
 show oC A8.pre A8.F DB.pre DB.F BS.pre BS.F AU.pre AU.F Bv.pre Bv.F f m (Dw R) E more=_;unfold oC;have hPl:=ER hf;have hR5:R<(2^64)^5000:=by
  rw[FH];exact ak hR (ag (by decide) (by decide))
 have hbl:=Fx hR;have p0:=Mt hR5;have e12:aa .i64 ((An R:Int)-128)=(An R:Int)-128:=Au (by omega);dsimp only;simp only[Nu p0,Nj p0,cond_true,e12];by_cases hc:128<An R
 ·obtain⟨k,hk⟩:∃k:Nat,An R=128+k:=⟨An R-128,by omega⟩
  have ek:(An R:Int)-128=(k:Int):=by omega
  have e0:decide ((k:Int)>0)=true:=decide_eq_true (by omega);have hle:=R7 h0;have hlt:=Ir R;have hk2:2^k<=R:=fw (ag (by decide) (by omega)) hle;have hb2:=jG hk2;have htop:R/2^k<2^128:=by
   rw[bo (aj k),←az];exact ak hlt (ag (by decide) (by omega))
  have p1:=aCi (dg (2^64) R) (CY hR5) k (by omega);rw[BQ]at p1;have p1:Ms (Dw R,(k:Int),())=some (Dw (R/2^k),0,()):=p1;have hw:R/2^k*2^k<=R:=jr _ _;have ht5:R/2^k<(2^64)^5000:=ao (dq _ _) hR5;have p2:=X4 (dg (2^64) (R/2^k)) (CY ht5) k (by omega) (by
   rw[BQ,FH];exact ao hw (ak hR (ag (by decide) (by decide))))
  rw[BQ]at p2;have p2:JY (Dw (R/2^k),(k:Int),())=some (Dw (R/2^k*2^k),0,()):=p2;have p3:=UI (ao hw hR5) hR5;have hne:((if R/2^k*2^k=R then(0:Int)else if R/2^k*2^k<R then -1 else 1)!=0)=decide (R%2^k≠0):=by
   have hdm:=ci R (2^k);rw[ap]at hdm;rw[ee,bne_iff_ne,decide_eq_true_eq];split
   ·omega
   ·split<;>omega
  have p4:=Tb hf hm false (R/2^k) htop (E+k) (by omega) (more||decide (R%2^k≠0)) (fun _=>by omega);have hq0:R/2^k≠0:=fun h=>by
   rw[h]at hb2;have:An 0=0:=rfl;omega
  rw[if_neg hq0,bCg hf (by omega)]at p4;have e5:aa .i64 (E+(k:Int))=E+(k:Int):=Au (by omega);have tw:=aN1 htop;simp only[ek,e0,cond_true,Nt p1,Ni p1,KH p2,Ky p2,WE p3,VI p3,bb,hne,e5,tw];show(bif Bv.pre (f,(m,(false,(Wi (R/2^k),(E+(k:Int),((more||decide (R%2^k≠0)),()))))))then some (Bv.F (f,(m,(false,(Wi (R/2^k),(E+(k:Int),((more||decide (R%2^k≠0)),())))))))else none)=_;simp only[T6 p4,TL p4,cond_true];rfl
 ·have e0:decide ((An R:Int)-128>0)=false:=decide_eq_false (by omega);have hR128:R<2^128:=ak (Ir R) (ag (by decide) (by omega));have p4:=Tb hf hm false R hR128 E (by omega) more hmore;rw[if_neg h0,bCh hf hmore]at p4;have tw:=aN1 hR128;simp only[e0,cond_false,tw];show(bif Bv.pre (f,(m,(false,(Wi R,(E,(more,()))))))then some (Bv.F (f,(m,(false,(Wi R,(E,(more,())))))))else none)=_;simp only[T6 p4,TL p4,cond_true];rfl
end VL
namespace VL
open Go Vx
theorem aRO(z:Int):JZ ((0:Int),z,())=some (Dw 0,()):=by
 rw[DZ];show cD F5.pre F5.F BS.pre BS.F (0:Int) z=_;rfl
def Bi(n:Nat)(x:Int)(k:Nat)(y l:Int):Nat:=n*n*2^(2*(x-l).toNat)+k*k*2^(2*(y-l).toNat)
def Wm(f m:Int)(n:Nat)(x:Int)(k:Nat)(y:Int):Nat×Nat:=Nv f m (Bi n x k y (min x y)*2^200) (min x y-100)
theorem aWr{f m:Int}(hf:Fm f){n k:Nat}{x y low:Int}(hS:Bi n x k y low≠0)(d:Nat)(hd:low=min x y+d)(he:Bi n x k y (min x y)=Bi n x k y low*2^(2*d)):
  Nv f m (Bi n x k y low*2^128) (low-64)=Wm f m n x k y/\65<=An (AG (Bi n x k y low*2^128)):=by
 have hPl:=ER hf;have hX:2^(2*64)<=Bi n x k y low*2^128:=by
  have:=aw (2^128) (show 1<=Bi n x k y low by omega);rw[fb]at this;exact this
 have hb:=aWy hX;have h0:Bi n x k y low*2^128≠0:=fun h=>by
  rw[h]at hX;exact absurd hX (by decide)
 refine⟨?_,hb⟩;have:=bCn (f:=f) (m:=m) (k:=36+d) (E:=low-64) hf h0 (by omega);unfold Wm;rw[he,←this];have e1:Bi n x k y low*2^(2*d)*2^200=Bi n x k y low*2^128*(2^(36+d)*2^(36+d)):=by
  rw[av,av,←az,←az,←az];congr 2;omega
 rw[e1,show min x y-100=low-64-((36+d:Nat):Int) by omega]
theorem mD{n:Nat}{j:Nat}(hn:n<2^53)(hj:j<=2200):n*n*2^(2*j)<2^4506:=by
 have h1:n*n<2^53*2^53:=ni hn hn;have h2:n*n*2^(2*j)<2^53*2^53*2^(2*j):=cr h1 (aj _);rw[←az,←az]at h2;exact ak h2 (ag (by decide) (by omega))
theorem bDm{n k:Nat}{x y l:Int}(hn:n<2^53)(hk:k<2^53)(hx:x-l<=2200)(hy:y-l<=2200):Bi n x k y l<2^4507:=by
 have h1:=mD (j:=(x-l).toNat) hn (by omega);have h2:=mD (j:=(y-l).toNat) hk (by omega);unfold Bi;rw[dr];omega
def kV(f m:Int)(a b:Nat):Int×Int×Int×Unit:=if CD f m [a,b]≠0 then(0,0,CD f m [a,b],())else bif AI f a||AI f b then((BD f:Int),1,0,())else bif Ap f a||Ap f b then((C3 f false:Int),0,0,())else bif nan f a||nan f b then((BD f:Int),0,0,())else bif AB f a&&AB f b then((Bp f false:Int),0,0,())else(((Wm f m (Am f a) (Al f a) (Am f b) (Al f b)).1:Int),((Wm f m (Am f a) (Al f a) (Am f b) (Al f b)).2:Int),0,())
theorem aOa{f:Int}(hf:Fm f)(a:Nat):-1100<=Al f a/\Al f a<=1100:=by
 have h1:=vU (f:=f) a;have e:A4 f=2*fX f+1:=by unfold A4;rw[←TG hf]
 have h2:=Ix hf;have h3:=ER hf;have h4:=C0 hf;unfold Al;split<;>omega
theorem qG(f:Int)(a:Nat):((Am f a:Int)==0)=AB f a:=by
 cases hz:AB f a
 ·exact Bg _ (NE hz)
 ·unfold AB at hz;rw[af,beq_iff_eq,beq_iff_eq]at hz;unfold Am;rw[if_pos hz.1,hz.2];rfl
theorem wZ{f m:Int}(hf:Fm f)(hm:0<=m/\m<=5){n k:Nat}{x y low:Int}(hn:n<2^53)(hk:k<2^53)(hx:-1100<=x/\x<=1100)(hy:-1100<=y/\y<=1100)(hl:-1100<=low/\low<=1100)
  (hS:Bi n x k y low≠0) (d:Nat) (hd:low=min x y+d) (he:Bi n x k y (min x y)=Bi n x k y low*2^(2*d))
  (h1:JZ ((n:Int),x-low,())=some (Dw (n*n*2^(2*(x-low).toNat)),())) (h2:JZ ((k:Int),y-low,())=some (Dw (k*k*2^(2*(y-low).toNat)),())) :
  RR (Dw (n*n*2^(2*(x-low).toNat)),Dw (k*k*2^(2*(y-low).toNat)),())=some (Dw (Bi n x k y low),()) /\
  JY (Dw (Bi n x k y low),(128:Int),())=some (Dw (Bi n x k y low*2^128),0,()) /\
  UP (Dw (Bi n x k y low*2^128),())=some (Dw (AG (Bi n x k y low*2^128)),decide (AG (Bi n x k y low*2^128)*AG (Bi n x k y low*2^128)=Bi n x k y low*2^128),0,()) /\
  UQ (f,m,Dw (AG (Bi n x k y low*2^128)),low-64,!decide (AG (Bi n x k y low*2^128)*AG (Bi n x k y low*2^128)=Bi n x k y low*2^128),())=some (((Wm f m n x k y).1:Int),((Wm f m n x k y).2:Int),0,()) /\
  aa .i64 (low-64)=low-64/\aa .i64 (x-low)=x-low/\aa .i64 (y-low)=y-low:=by
 have hPl:=ER hf;have up5:∀{z j:Nat},z<2^j->j<=65536->z<(2^64)^5000:=fun h hj=>by
  rw[FH];exact ak h (ag (by decide) (by omega))
 have b1:=mD (j:=(x-low).toNat) hn (by omega);have b2:=mD (j:=(y-low).toNat) hk (by omega);have bs:=bDm (x:=x) (y:=y) (l:=low) hn hk (by omega) (by omega);have bs2:Bi n x k y low*2^128<2^4635:=by
  have:Bi n x k y low*2^128<2^4507*2^128:=cr bs (aj _);rw[←az]at this;exact this
 obtain⟨r1,r2⟩:=aWr (m:=m) hf hS d hd he;have p1:=XV (up5 (j:=4506) b1 (by decide)) (up5 (j:=4506) b2 (by decide));have p2:=X4 (dg (2^64) (Bi n x k y low)) (CY (up5 (j:=4507) bs (by decide))) 128 (by decide) (by
  rw[BQ,FH];exact ak bs2 (ag (by decide) (by decide)))
 rw[BQ]at p2;have p3:=aRS (A:=Bi n x k y low*2^128) (by
  rw[FH];exact ak bs2 (ag (by decide) (by decide)))
 have hi:=aJU (Bi n x k y low*2^128);have hi0:AG (Bi n x k y low*2^128)≠0:=fun h=>by
  rw[h]at r2;have:An 0=0:=rfl;omega
 have p4:=aRT hf hm hi0 (ao hi (ak bs2 (ag (by decide) (by decide)))) (low-64) (by omega) (!decide (AG (Bi n x k y low*2^128)*AG (Bi n x k y low*2^128)=Bi n x k y low*2^128)) (fun _=>by omega);rw[bCm,r1]at p4;exact⟨p1,p2,p3,p4,Au (by omega),Au (by omega),Au (by omega)⟩
theorem zP{n k:Nat}{x y:Int}(h:n≠0∨k≠0):Bi n x k y (min x y)≠0:=by
 unfold Bi;rcases h with h|h
 ·have:n*n*2^(2*(x-min x y).toNat)≠0:=iq (iq h h) (kb (aj _));omega
 ·have:k*k*2^(2*(y-min x y).toNat)≠0:=iq (iq h h) (kb (aj _));omega
theorem aRU(f m:Int){a b:Nat}(ha:a<2^64)(hb:b<2^64):UR (f,m,(a:Int),(b:Int),())=some (kV f m a b):=by
 show oD Ie.pre Ie.F AW.pre AW.F Rg.pre Rg.F Cq.pre Cq.F AS.pre AS.F If.pre If.F Bu.pre Bu.F Rh.pre Rh.F BE.pre BE.F BS.pre BS.F Ri.pre Ri.F Rj.pre Rj.F f m a b=_;unfold oD kV;rw[show((a:Int)::(b:Int)::[])=Wd [a,b]from rfl];by_cases hf:Fm f;case neg=>
  have p0:=aRJ (m:=m) hf [a,b];have e0:CD f m [a,b]=2:=by unfold CD;rw[if_pos hf]
  rw[e0];simp only[yH p0,wN p0,cond_true];rfl
 have p0:=aRK (m:=m) hf [a,b] (fun c hc=>by
  rcases cn.1 hc with rfl|hc
  ·exact ha
  ·rw[gg]at hc;omega) (show(2:Nat)<1000 by decide)
 by_cases hk:CD f m [a,b]≠0
 ·rw[if_pos hk];have:(CD f m [a,b]!=0)=true:=bne_iff_ne.2 hk;simp only[yH p0,wN p0,cond_true,this]
 have hk:CD f m [a,b]=0:=gv.1 hk;obtain⟨_,hm,hc⟩:=aUJ hk;have h:=hc a (by simp);have h':=hc b (by simp);rw[if_neg (show ¬CD f m [a,b]≠0 from fun h=>h hk)];rw[hk]at p0;have p1:=UY ha h;have p2:=UY hb h';have cC:∀c:Int,Yc (c,())=some ((c==2||c==9),()):=fun c=>rfl;have p3:=cC (BT f a);have p4:=cC (BT f b);rw[jP]at p3 p4;simp only[yH p0,wN p0,cond_true,bne_self_eq_false,cond_false,KJ p1,KA p1,KJ p2,KA p2,Tz,aLi p3,aJc p3,aLi p4,aJc p4,bb,lQ (YT hf),kO (YT hf),lR (Y0 hf _),kP (Y0 hf _),WD (S9 hf _),VH (S9 hf _)];cases hs:AI f a||AI f b;case true=>rfl
 simp only[cond_false];cases hi:Ap f a||Ap f b;case true=>rfl
 simp only[cond_false];rw[fh]at hs;have n1:(BT f a==1)=nan f a:=by
  have:=Vw f a;rw[Tz,hs.1,ca]at this;exact this
 have n2:(BT f b==1)=nan f b:=by
  have:=Vw f b;rw[Tz,hs.2,ca]at this;exact this
 rw[n1,n2];cases hn:nan f a||nan f b;case true=>rfl
 simp only[cond_false];have q1:=aCv h;have q2:=aCv h';simp only[aLh q1,aJb q1,aLh q2,aJb q2,cond_true,qG];cases hz:AB f a&&AB f b;case true=>rfl
 simp only[cond_false];have hn53:=Sr hf a;have hk53:=Sr hf b;have hx:=aOa hf a;have hy:=aOa hf b;have sq:∀(n:Nat) (z:Int),n<2^53->0<=z/\z<=2200->JZ ((n:Int),z,())=some (Dw (n*n*2^(2*z.toNat)),()):=fun n z hn hz=>by
  obtain⟨j,rfl⟩:=cy hz.1;exact aRN (je hn (by decide)) (by omega)
 have sq0:∀(n:Nat) (z:Int),n=0->JZ ((n:Int),z,())=some (Dw (n*n*2^(2*z.toNat)),()):=fun n z hn=>by
  subst hn;have e0:0*0*2^(2*z.toNat)=0:=by simp
  rw[e0];exact aRO z
 have mz:∀c:Nat,AB f c=true->Am f c=0:=fun c hc=>by
  have:=qG f c;rw[hc,beq_iff_eq]at this;omega
 cases hza:AB f a
 ·have hna:=NE hza;cases hzb:AB f b
  ·have hkb:=NE hzb;simp only[cond_false];have em:(if Al f b<Al f a then Al f b else Al f a)=min (Al f a) (Al f b):=by
    rw[Int.min_def];split<;>split<;>omega
   have s1:=sq (Am f a) (Al f a-min (Al f a) (Al f b)) hn53 (by omega);have s2:=sq (Am f b) (Al f b-min (Al f a) (Al f b)) hk53 (by omega);obtain⟨r1,r2,r3,r4,r5,r6,r7⟩:=wZ hf hm hn53 hk53 (by omega) (by omega) (by omega) (zP (.inl hna)) 0 (by omega) (by rw[ej,jm,gl]) s1 s2;simp only[em,r5,r6,r7,WH s1,VM s1,WH s2,VM s2,Gt r1,Gr r1,KH r2,Ky r2,yI r3,wO r3,yJ r4,wP r4,cond_true]
  ·have hk0:=mz b hzb;simp only[cond_false,cond_true];have s1:=sq (Am f a) (Al f a-Al f a) hn53 (by omega);have s2:=sq0 (Am f b) (Al f b-Al f a) hk0;obtain⟨j,hj⟩:=cy (show 0<=Al f a-min (Al f a) (Al f b) by omega);have he:Bi (Am f a) (Al f a) (Am f b) (Al f b) (min (Al f a) (Al f b))=Bi (Am f a) (Al f a) (Am f b) (Al f b) (Al f a)*2^(2*j):=by
    unfold Bi;rw[hk0,hj,ae,nw];simp
   have hS:Bi (Am f a) (Al f a) (Am f b) (Al f b) (Al f a)≠0:=fun h=>by
    rw[h,fd]at he;exact zP (.inl hna) he
   obtain⟨r1,r2,r3,r4,r5,r6,r7⟩:=wZ hf hm hn53 hk53 (by omega) (by omega) (by omega) hS j (by omega) he s1 s2;simp only[r5,r6,r7,WH s1,VM s1,WH s2,VM s2,Gt r1,Gr r1,KH r2,Ky r2,yI r3,wO r3,yJ r4,wP r4,cond_true]
 ·have hn0:=mz a hza;rw[hza,bi]at hz;have hkb:=NE hz;simp only[cond_false,cond_true,hz];have s1:=sq0 (Am f a) (Al f a-Al f b) hn0;have s2:=sq (Am f b) (Al f b-Al f b) hk53 (by omega);obtain⟨j,hj⟩:=cy (show 0<=Al f b-min (Al f a) (Al f b) by omega);have he:Bi (Am f a) (Al f a) (Am f b) (Al f b) (min (Al f a) (Al f b))=Bi (Am f a) (Al f a) (Am f b) (Al f b) (Al f b)*2^(2*j):=by
   unfold Bi;rw[hn0,hj,ae,nw];simp
  have hS:Bi (Am f a) (Al f a) (Am f b) (Al f b) (Al f b)≠0:=fun h=>by
   rw[h,fd]at he;exact zP (.inr hkb) he
  obtain⟨r1,r2,r3,r4,r5,r6,r7⟩:=wZ hf hm hn53 hk53 (by omega) (by omega) (by omega) hS j (by omega) he s1 s2;simp only[r5,r6,r7,WH s1,VM s1,WH s2,VM s2,Gt r1,Gr r1,KH r2,Ky r2,yI r3,wO r3,yJ r4,wP r4,cond_true]
end VL
namespace VL
open Go Vx
def pv(f:Int)(x:Nat):Nat:=Am f x*2^(Al f x-qm f).toNat
end VL
namespace VL
open Go Vx
def VV(f:Int)(x:Nat):Nat:=Am f x*2^(Al f x+2600).toNat
end VL
namespace VL
open Go Vx
theorem aLV{f m:Int}{neg:Bool}{N k:Nat}{E:Int}(hf:Fm f)(hn:N/2^k≠0)(hm:N%2^k≠0->fP f+1<=An (N/2^k)):AT f m neg (N/2^k) (E+k) (decide (N%2^k≠0))=AT f m neg N E false:=by
 have ht:=aNX (E:=E) hn;have htd:AL (N/2^k) (E+k)=E+k+(An (N/2^k):Int)-1:=rfl;have hq1:N%2^k≠0->E+k<Dc f (AL N E):=fun h=>by
  have:=hm h;unfold Dc;split<;>omega
 have hq2:N%2^k≠0->E+k<AL N E-fP f+1:=fun h=>by
  have:=hm h;omega
 have hti:Ek f m neg (N/2^k) (E+k) (decide (N%2^k≠0))=Ek f m neg N E false:=by
  unfold Ek;rw[ht,jT hq2]
 unfold AT;simp only[ht,jT hq1,(vP hq1).2,hti]
theorem aLS{f m:Int}{neg:Bool}{N k:Nat}{E:Int}(hf:Fm f)(hb:fP f+1<=An (N/2^k)):AT f m neg (N/2^k) E true=AT f m neg (2*N+1) (E-k-1) false:=by
 have hP:=C0 hf;have e1:(2*N+1)/2^(k+1)=N/2^k:=by
  rw[dr,ap (2^k),←dl,show(2*N+1)/2=N by omega]
 have e2:(2*N+1)%2^(k+1)≠0:=by
  rw[dr,ap (2^k),mj];omega
 have h0:N/2^k≠0:=fun h=>by
  rw[h]at hb;have:An 0=0:=rfl;omega
 have:=aLV (f:=f) (m:=m) (neg:=neg) (N:=2*N+1) (k:=k+1) (E:=E-k-1) hf (by rw[e1];exact h0) (fun _=>by rw[e1];exact hb);rw[e1,decide_eq_true e2,show E-k-1+((k+1:Nat):Int)=E by omega]at this;exact this
def FI(f m:Int)(neg:Bool)(R:Nat)(E:Int)(more:Bool):Nat×Nat:=if more=true then AT f m neg (2*R+1) (E-1) false else AT f m neg R E false
theorem aLQ{f m:Int}{neg:Bool}(hf:Fm f){R:Nat}{E:Int}{more:Bool}(hb:more=true->fP f+1<=An R):AT f m neg R E more=FI f m neg R E more:=by
 unfold FI;cases more
 ·rw[if_neg (by decide)]
 ·have:=aLS (f:=f) (m:=m) (neg:=neg) (N:=R) (k:=0) (E:=E) hf (by rw[jm,qd];exact hb rfl);rw[jm,qd]at this;rw[if_pos rfl,this];congr 1;omega
theorem bCj{f m:Int}{neg:Bool}(hf:Fm f){R k:Nat}{E:Int}{more:Bool}(hb:fP f+1<=An (R/2^k)):FI f m neg (R/2^k) (E+k) (more||decide (R%2^k≠0))=FI f m neg R E more:=by
 have h0:R/2^k≠0:=fun h=>by
  rw[h]at hb;have:An 0=0:=rfl;omega
 rw[←aLQ hf (fun _=>hb)];unfold FI;cases more
 ·rw[if_neg (by decide),bt];exact aLV hf h0 fun _=>hb
 ·rw[if_pos rfl,bb];have:=aLS (f:=f) (m:=m) (neg:=neg) (N:=R) (k:=k) (E:=E+k) hf hb;rw[this,show E+(k:Int)-(k:Int)-1=E-1 by omega]
def DQ(f m:Int)(neg:Bool)(n k:Nat)(e:Int):Nat×Nat:=FI f m neg (n*2^300/k) (e-300) (decide (n*2^300%k≠0))
theorem aYZ{n k:Nat}(hk:0<k)(t:Nat):(n*2^t/k)/2^t=n/k/\(n%k≠0↔(n*2^t%k≠0∨(n*2^t/k)%2^t≠0)):=by
 have hpp:=aj t;have h1:(n*2^t/k)/2^t=n/k:=by
  rw[dl,ap k,←dl,jf _ hpp]
 refine⟨h1,?_⟩;have a1:=ci (n*2^t) k;have a2:=ci (n*2^t/k) (2^t);have a3:=ci n k;rw[h1]at a2;generalize n*2^t%k=r at *
 generalize hQ:n*2^t/k=Q at *
 generalize Q%2^t=u at *
 generalize n%k=w at *
 generalize n/k=q at *
 have e:k*u+r=w*2^t:=by
  have h2:(k*q+w)*2^t=k*(2^t*q+u)+r:=by rw[a3,a2,a1]
  rw[bw,bl,jd,av k,←av k]at h2;omega
 constructor
 ·intro hw;rcases bd r with hr|hr
  ·right;intro hu;rw[hu,hr,ej]at e;have:=ii (show 0<w by omega) hpp;omega
  ·left;omega
 ·intro h hw;rw[hw,fd]at e;rcases h with h|h
  ·omega
  ·have:=ii hk (show 0<u by omega);omega
theorem vR{f m:Int}{neg:Bool}(hf:Fm f){n k:Nat}(hn:n≠0)(hk:0<k)(e:Int){s:Nat}(hs:s<=300)(h:n*2^s%k≠0->fP f+1<=An (n*2^s/k)):
  FI f m neg (n*2^s/k) (e-s) (decide (n*2^s%k≠0))=DQ f m neg n k e:=by
 obtain⟨t,ht⟩:∃t,s+t=300:=⟨300-s,by omega⟩
 have e300:n*2^300=n*2^s*2^t:=by rw[av,←az,ht]
 obtain⟨q1,q2⟩:=aYZ (n:=n*2^s) hk t;unfold DQ;rw[e300];by_cases hex:n*2^s%k=0
 ·have hq:n*2^s=k*(n*2^s/k):=by have:=ci (n*2^s) k;omega
  have hq0:n*2^s/k≠0:=fun h0=>by
   rw[h0,ej]at hq;exact iq hn (kb (aj s)) hq
  have h1:n*2^s*2^t/k=(n*2^s/k)*2^t:=by
   rw[hq,av k,gd _ hk,gd _ hk]
  have h2:n*2^s*2^t%k=0:=by
   rw[hq,av k,Nat.mul_mod_right]
  rw[h1,h2,hex];unfold FI;rw[if_neg (by decide),if_neg (by decide),WO hf hq0];congr 1;omega
 ·have hb:=h hex;have:=bCj (f:=f) (m:=m) (neg:=neg) hf (R:=n*2^s*2^t/k) (k:=t) (E:=e-300) (more:=decide (n*2^s*2^t%k≠0)) (by rw[q1];exact hb);rw[←this,q1,show e-300+(t:Int)=e-s by omega];congr 1;rw[ee,dz,decide_eq_true_eq,decide_eq_true_eq,decide_eq_true_eq];exact q2
def Iv(f m:Int)(a b:Nat):Int×Int×Int×Unit:=bif nan f a||nan f b then((BD f:Int),(bif AI f a||AI f b then 1 else 0),0,())else bif(Ap f a&&Ap f b)||(AB f a&&AB f b)then((BD f:Int),1,0,())else bif Ap f a then((C3 f (!(sF f a==sF f b)):Int),0,0,())else bif AB f b then((C3 f (!(sF f a==sF f b)):Int),2,0,())else bif Ap f b||AB f a then((Bp f (!(sF f a==sF f b)):Int),0,0,())else(((DQ f m (!(sF f a==sF f b)) (Am f a) (Am f b) (Al f a-Al f b)).1:Int),((DQ f m (!(sF f a==sF f b)) (Am f a) (Am f b) (Al f a-Al f b)).2:Int),0,())
def Sb(f m:Int)(a b:Nat):Int×Int×Int×Unit:=if ¬Fm f then(0,0,2,())else if m<0∨m>5 then(0,0,3,())else if Af f a≠0 then(0,0,Af f a,())else if Af f b≠0 then(0,0,Af f b,())else Iv f m a b
end VL
namespace VL
open Go Vx
theorem aOb{f:Int}(hf:Fm f)(a:Nat):(Bj f a=0)=(AB f a=true):=by
 unfold AB;rw[TD hf,Np hf];have hp:=aj (fP f-1);apply propext;rw[af,beq_iff_eq,beq_iff_eq];constructor
 ·intro h;rw[h];exact⟨Nat.zero_div _,Nat.zero_mod _⟩
 ·rintro ⟨h1,h2⟩;have:=ci (Bj f a) (2^(fP f-1));rw[h1,h2,ej]at this;omega
def KG(f:Int)(k:Nat):Nat:=2^(fP f-1)*(k+1)
theorem aRX{f:Int}(hf:Fm f){k:Nat}(hk:k<2*fX f):US (f,false,((k+1:Nat):Int),(0:Int),())=some ((KG f k:Int),0,()):=by
 have p0:=Ge hf;have hP:=C0 hf;have hPl:=ER hf;have hPW:=Eh hf;have hWl:=Ea hf;have hX:=TG hf;have p1:=U3 (fW f-fP f) (by omega);have p2:=U3 (fP f-1) (by omega);have hinf:CO f=2^(fP f-1)*A4 f:=rfl;have hfull:A4 f=2*fX f+1:=by unfold A4;rw[←TG hf]
 have hroom:=aJM hf;have hle:2^(fP f-1)*(k+1)<=2^(fP f-1)*A4 f:=cq _ (by omega);have h64:2^(fW f-1)<=2^63:=ag (by decide) (by omega);show oF Ao.pre Ao.F Br.pre Br.F DA.pre DA.F f false ((k+1:Nat):Int) (0:Int)=_;unfold oF;dsimp only;have r0:(BH f).1=(fW f:Int):=rfl;have r1:(BH f).2.1=(fP f:Int):=rfl;have e1:aa .i64 ((fW f:Int)-(fP f:Int))=((fW f-fP f:Nat):Int):=BZ _ _ (by omega);have e2:aa .i64 ((fP f:Int)-1)=((fP f-1:Nat):Int):=Bt _ (by omega);have g1:decide (((k+1:Nat):Int)>((2^(fW f-fP f)-1:Nat):Int))=false:=B8 _ _ (by omega);have g2:decide ((0:Int)>((2^(fP f-1)-1:Nat):Int))=false:=decide_eq_false (by omega);have p3:XU (BH f,false,((k+1:Nat):Int),(0:Int),())=some ((KG f k:Int),()):=by
  show mZ (BH f) false ((k+1:Nat):Int) (0:Int)=_;unfold mZ;try dsimp only
  have e3:AQ .u64 ((k+1:Nat):Int) ((fP f-1:Nat):Int)=((KG f k:Nat):Int):=by
   rw[Gu _ _ (by omega),be (by rw[ap];omega)];unfold KG;rw[ap]
  have e4:Aq .u64 ((KG f k:Nat):Int) 0=((KG f k:Nat):Int):=by
   have:=IJ (a:=KG f k) (b:=0) (k:=64) (by unfold KG;omega) (by unfold KG;omega);rw[fd]at this;exact this
  rw[r1,e2,A6,cond_true,cond_false,e3,e4]
 simp only[CJ p0,CF p0,cond_true,bne_self_eq_false,cond_false,r0,r1,e1,e2,WJ p1,VO p1,WJ p2,VO p2,g1,g2,bb,br,aYk p3,aVP p3]
end VL
namespace VL
open Go Vx
def Bc(c:Int)(n:Nat)(e:Int):Prop:=c<=e/\e<=6000/\n*2^(e-c).toNat<2^5000
theorem Bc.lt{c:Int}{n:Nat}{e:Int}(h:Bc c n e):n<2^5000:=by
 have:=fm n (aj (e-c).toNat);exact ao this h.2.2
theorem Bc.od{c:Int}(hc:-4000<=c/\c<=0){n:Nat}{e:Int}(s:Bool)(h:Bc c n e):Bc c (VL.od s n e).2.1 (VL.od s n e).2.2:=by
 rcases TY s n e with⟨hz,_⟩|⟨_,h2,h3,h4,h5⟩
 ·rw[hz];exact⟨hc.2,by dsimp only;omega,by dsimp only;rw[fd];exact aj _⟩
 ·have hle:2^(tz n+(e-c).toNat)<=n*2^(e-c).toNat:=by
   rw[az];refine aw _ ?_;have:=fm (2^tz n) (show 0<(VL.od s n e).2.1 by omega);omega
  have hlt:=(cp (a:=2) (by decide)).1 (ao hle h.2.2);have hq:=hc.2;have h1:=h.1;refine⟨by omega,by omega,?_⟩;have e1:(VL.od s n e).2.1*2^((VL.od s n e).2.2-c).toNat=n*2^(e-c).toNat:=by
   rw[h5,show(e+(tz n:Int)-c).toNat=tz n+(e-c).toNat by omega,az,←av,ap _ (2^tz n),←h4]
  rw[e1];exact h.2.2
end VL
namespace VL
open Go Vx
structure Beside (f:Int) (R d:Nat) (more:Bool) (B:Nat) (inex:Bool) (r:Int->Nat×Nat):Prop where
 CN:B+1<CO f
 pos:B≠0
 low:pv f B*2^d<=R
 high:R<pv f (B+1)*2^d
 ex:inex=(more||decide (pv f B*2^d≠R))
 any:∀m,0<=m/\m<=5->((r m).1=B∨(inex=true/\(r m).1=B+1))/\(r m).2=(bif inex then 16 else 0)
 down:(r 4).1=B
 up:(r 3).1=B+(bif inex then 1 else 0)
end VL
namespace VL
open Go Vx
theorem aSC{f:Int}(hf:Fm f)(l:List Nat)(hl:∀a∈l,a<2^64)(hlen:l.length<1000):
  gX (((l.length:Int),(Wd l,(f,((0:Int),())))),())=some (bif DJ f l then .inl ((),())else .inr (((4:Int),()),())):=by
 have key:=DU (aKs Ao.pre Ao.F Ar.pre Ar.F) (fun x=>l.length-x.1.2.2.2.1.toNat)
  (fun x=>∃i:Nat,i<=l.length/\DJ f (l.take i)=true/\x=(((l.length:Int),(Wd l,(f,((i:Int),())))),()))
  (fun _=>bif DJ f l then .inl ((),())else .inr (((4:Int),()),())) ?_ _ ⟨0,dt _,rfl,rfl⟩
 ·exact key
 intro L x hx hL;obtain⟨i,hi,hok,rfl⟩:=hx;unfold Wg;rcases aq i l.length with hlt|hge
 ·have hg:l.getD i 0=l[i]:=by simp[al,hlt]
  have hmem:l[i]∈l:=iw hlt;have ha:=hl _ hmem;have p0:=Ih f l[i] ha;have e0:decide ((i:Int)<(l.length:Int))=true:=decide_eq_true (by omega);have e1:(decide ((0:Int)<=(i:Int))&&decide ((i:Int)<((Wd l).length:Int)))=true:=by rw[AC,decide_eq_true (by omega),decide_eq_true (by omega)];rfl
  have e2:(Wd l).getD (ai (i:Int)) 0=((l[i]:Nat):Int):=by rw[ae,Cw,hg]
  have e3:aa .i64 ((i:Int)+1)=((i+1:Nat):Int):=by rw[Au (by omega)];omega
  have htk:l.take (i+1)=l.take i++[l[i]]:=by rw[gu hlt]
  dsimp only;simp only[e0,e1,e2,e3,cond_true,Hl p0,Hf p0];by_cases hc:Af f l[i]=0
  ·rw[hc,bne_self_eq_false,cond_false];refine hL _ ⟨i+1,by omega,?_,rfl⟩ (by simp only[ae];omega);unfold DJ at hok⊢;rw[htk,qg,hok,kj,hc];rfl
  ·have h4:Af f l[i]=4:=(jM hf _).resolve_left hc;have hno:DJ f l=false:=by
    unfold DJ;rw[oz];exact⟨l[i],hmem,by rw[h4];decide⟩
   rw[h4,hno];rfl
 ·have e:i=l.length:=by omega
  subst e;rw[dk]at hok;have e0:decide ((l.length:Int)<(l.length:Int))=false:=decide_eq_false (by omega);simp only[e0,cond_false];rw[hok];rfl
theorem aRZ(f m:Int)(l:List Nat)(hl:∀a∈l,a<2^64)(hlen:l.length<1000):UU (f,m,Wd l,())=some (CD f m l,()):=by
 show oH Ao.pre Ao.F Ar.pre Ar.F gX f m (Wd l)=_;unfold oH CD;by_cases hf:Fm f
 ·have p0:=Ge hf;rw[if_neg (show ¬¬Fm f from fun h=>h hf)];simp only[CJ p0,CF p0,cond_true,bne_self_eq_false,cond_false];by_cases hm:m<0∨m>5
  ·rw[if_pos hm];have:(decide (m<0)||decide (m>5))=true:=by rcases hm with h|h<;>simp[h]
   rw[this,cond_true]
  ·rw[if_neg hm];have:(decide (m<0)||decide (m>5))=false:=by
    rw[decide_eq_false (by omega),decide_eq_false (by omega)];rfl
   rw[this,cond_false,AC,aSC hf l hl hlen];cases DJ f l<;>rfl
 ·have p0:=Ii hf;rw[if_pos hf];simp only[CJ p0,CF p0,cond_true];rfl
theorem aCH{f:Int}{a:Nat}(h:Af f a=0):Yq (f,(a:Int),())=some ((nan f a,AI f a,Ap f a,AB f a,sF f a,()),()):=by
 show oI AW.pre AW.F B1.pre B1.F f a=_;unfold oI;obtain⟨hf,_⟩:=E4 h;have p0:=UY (T3 h) h;have p1:=gG h;simp only[KJ p0,KA p0,lS p1,kQ p1,cond_true];rw[Vw,Tz,jn (BT f a==9),jP,jn (BT f a==6),aIc hf]
theorem aCI{f:Int}(hf:Fm f)(x:Int):Yr (f,x,())=some ((BD f:Int),x,0,()):=by
 show oJ AS.pre AS.F f x=_;unfold oJ;have p0:=YT hf;simp only[lQ p0,kO p0,cond_true]
theorem aUW(N:Nat){k:Nat}(hk:0<k):(k<=2*(N%k)->2*N/k=2*(N/k)+1/\2*N%k=2*(N%k)-k)/\(2*(N%k)<k->2*N/k=2*(N/k)/\2*N%k=2*(N%k)):=by
 have h1:=ci N k;have h2:=bp N hk;generalize N/k=q at *
 generalize N%k=r at *
 constructor
 ·intro h;have e:2*N=k*(2*q+1)+(2*r-k):=by
   rw[bl,gl,gf k 2 q];omega
  rw[e,kg hk,kh,co (by omega),be (by omega)];exact⟨rfl,rfl⟩
 ·intro h;have e:2*N=k*(2*q)+2*r:=by
   rw[gf k 2 q];omega
  rw[e,kg hk,kh,co (by omega),be (by omega)];exact⟨rfl,rfl⟩
theorem aYW{n k D s:Nat}(hk0:0<k)(hk:k<2^64)(hn0:n≠0)(h:An (n*2^s/k)<D):s<64+D/\n*2^s<2^(64+D):=by
 have h1:n*2^s/k<2^D:=ak (Ir _) (ag (by decide) (by omega));have h2:n*2^s<2^D*k:=(bo hk0).1 h1;have h3:2^D*k<=2^D*2^64:=cq _ (by omega);rw[←az]at h3;have h4:1*2^s<=n*2^s:=aw _ (by omega);rw[fb]at h4;have h5:2^s<2^(D+64):=by omega
 have h6:=(cp (a:=2) (by decide)).1 h5;rw[io 64 D];exact⟨h6,by omega⟩
theorem aSD{n k D s0:Nat}(hk0:0<k)(hk:k<2^64)(hn0:n≠0)(hn:n<2^64)(hD:D<=100)(hs0:s0<=64):
  ∃s:Nat,s<=64+D/\(n*2^s%k≠0->D<=An (n*2^s/k)) /\
   gY (((D:Int),(Dw k,(Dw (n*2^s0%k),((),((),()))))),((false,([],((0:Int),(false,())))),((false,(Dw (n*2^s0/k),(-(s0:Int),(false,())))),()))) =
    some (.inl ((Dw (n*2^s%k),((),((),()))),((false,([],((0:Int),(false,())))),((false,(Dw (n*2^s/k),(-(s:Int),(false,())))),())))):=by
 have key:=No (aKt BS.pre BS.F EG.pre EG.F A8.pre A8.F AU.pre AU.F DN.pre DN.F BE.pre BE.F) (fun x=>(300+x.2.2.1.2.2.1).toNat)
  (fun x=>∃s:Nat,s<=64+D/\x=(((D:Int),(Dw k,(Dw (n*2^s%k),((),((),()))))),((false,([],((0:Int),(false,())))),((false,(Dw (n*2^s/k),(-(s:Int),(false,())))),()))))
  (fun y=>∃s:Nat,s<=64+D/\(n*2^s%k≠0->D<=An (n*2^s/k))/\y=.inl ((Dw (n*2^s%k),((),((),()))),((false,([],((0:Int),(false,())))),((false,(Dw (n*2^s/k),(-(s:Int),(false,())))),())))) ?_
  _ ⟨s0,by omega,rfl⟩
 ·obtain⟨y,hy,s,k1,k2,rfl⟩:=key;exact⟨s,k1,k2,hy⟩
 intro L x hx hL;obtain⟨s,hs,rfl⟩:=hx;unfold Wh;have hr:=bp (n*2^s) hk0;have hN:n*2^s<2^(64+(64+D)):=by
  rw[az];exact ak (cr hn (aj s)) (cq _ (ag (by decide) hs))
 have hq:n*2^s/k<2^(64+(64+D)):=ao (dq _ _) hN;have hqb:=Iq hq (by omega);have hrb:=Iq (je hr hk) (by decide);have hkb:=Iq hk (by decide);have p0:=Mt hqb;have e2s:2*(n*2^s)=n*2^(s+1):=by rw[dr];ac_rfl
 obtain⟨d1,d2⟩:=aUW (n*2^s) hk0;rw[e2s]at d1 d2;have hstop:=aYW (n:=n) (k:=k) (D:=D) (s:=s) hk0 hk hn0;have gen:=hL;dsimp only at gen⊢;generalize hQ:n*2^s/k=q at *
 generalize hR:n*2^s%k=r at *
 simp only[Nu p0,Nj p0,cond_true];by_cases hgo:An q<D/\r≠0
 ·obtain⟨g1,g2⟩:=hgo;have hs1:=(hstop g1).1;rw[decide_eq_true (show(An q:Int)<(D:Int) by omega),NG g2];have p1:=XV hqb hqb;have p2:=XV hrb hrb;have h65:r+r<2^65:=by
   have:(2:Nat)^65=2*2^64:=by decide
   omega
  have hrr:=Iq h65 (by decide);have hqq:q+q<2^(65+(64+D)):=by
   have:(2:Nat)^(65+(64+D))=2*2^(64+(64+D)):=by rw[show 65+(64+D)=(64+(64+D))+1 by omega,dr,ap]
   omega
  have p3:=UI hrr hkb;have ew:aa .i64 (-(s:Int)-1)=-((s+1:Nat):Int):=by rw[Au (by omega)];omega
  simp only[bc,cond_true,Gt p1,Gr p1,Gt p2,Gr p2,WE p3,VI p3,ew];have hμ:(300 + -((s+1:Nat):Int)).toNat<(300 + -(s:Int)).toNat:=by omega
  by_cases hge:k<=2*r
  ·obtain⟨f1,f2⟩:=d1 hge;have p4:=aRw hrr (show k<=r+r by omega);have p5:=XV (Iq hqq (by omega)) (show 1<(2^64)^5000 from Iq (k:=1) (by decide) (by decide));rw[aOe]at p5;have eg:decide ((if r+r=k then(0:Int)else if r+r<k then -1 else 1)>=0)=true:=by
    by_cases h:r+r=k
    ·rw[if_pos h];rfl
    ·rw[if_neg h,if_neg (by omega)];rfl
   rw[eg];simp only[cond_true,aYl p4,aVQ p4,Gt p5,Gr p5];refine gen _ ⟨s+1,by omega,?_⟩ hμ;rw[f1,f2,show 2*q+1=q+q+1 by omega,show 2*r-k=r+r-k by omega]
  ·obtain⟨f1,f2⟩:=d2 (by omega);have eg:decide ((if r+r=k then(0:Int)else if r+r<k then -1 else 1)>=0)=false:=by
    rw[if_neg (by omega),if_pos (by omega)];rfl
   rw[eg];simp only[cond_false];refine gen _ ⟨s+1,by omega,?_⟩ hμ;rw[f1,f2,show 2*q=q+q by omega,show 2*r=r+r by omega]
 ·have e:(decide ((An q:Int)<(D:Int))&&decide (((Dw r).length:Int)>0))=false:=by
   by_cases g1:An q<D
   ·have g2:r=0:=gv.1 fun h=>hgo ⟨g1,h⟩;rw[g2,DZ];exact bm _
   ·rw[decide_eq_false (show ¬(An q:Int)<(D:Int) by omega),ba]
  rw[e,cond_false];refine⟨_,rfl,s,hs,?_,?_⟩
  ·intro h;rw[hR]at h;rw[hQ];by_cases g1:An q<D
   ·exact absurd ⟨g1,h⟩ hgo
   ·omega
  ·rw[hQ,hR]
theorem aR0{n k D:Nat}(hk0:k≠0)(hk:k<2^64)(hn0:n≠0)(hn:n<2^64)(hD:D<=100):
  ∃s:Nat,s<=64+D/\(n*2^s%k≠0->D<=An (n*2^s/k)) /\
   Ys (Dw n,Dw k,(D:Int),())=some ((false,Dw (n*2^s/k),(-(s:Int)),decide (n*2^s%k≠0),()),()):=by
 have bk:=Fx hk;have bn:=Fx hn;have p0:=Mt (Iq hk (by decide));have p1:=Mt (Iq hn (by decide));obtain⟨s0,hs0,hsl⟩:∃s0:Nat,(if(An k:Int)-(An n:Int)-1>0 then(An k:Int)-(An n:Int)-1 else 0)=(s0:Int)/\s0<=64:=by
  by_cases h:(An k:Int)-(An n:Int)-1>0
  ·exact⟨An k-An n-1,by rw[if_pos h];omega,by omega⟩
  ·exact⟨0,by rw[if_neg h];rfl,by omega⟩
 obtain⟨s,k1,k2,k3⟩:=aSD (D:=D) (s0:=s0) (by omega) hk hn0 hn hD hsl;refine⟨s,k1,k2,?_⟩;show oK BS.pre BS.F EG.pre EG.F A8.pre A8.F AU.pre AU.F DN.pre DN.F BE.pre BE.F gY (Dw n) (Dw k) D=_;unfold oK;have hN:n*2^s0<2^128:=by
  rw[show(128:Nat)=64+64 from rfl,az];exact ak (cr hn (aj s0)) (cq _ (ag (by decide) hsl))
 have hN':n*2^s0<(2^64)^1024:=ak hN (by rw[←ky];exact ag (by decide) (by decide));have hk':k<(2^64)^1024:=ak hk (by rw[←ky];exact ag (by decide) (by decide));have p2:=X4 (dg (2^64) n) (CY (Iq hn (by decide))) s0 (by omega) (by rw[BQ];exact hN');rw[BQ]at p2;have p2:JY (Dw n,(s0:Int),())=_:=p2;have p3:=aRV hN' hk' hk0;have w1:aa .i64 ((An k:Int)-(An n:Int))=(An k:Int)-(An n:Int):=Au (by omega);have w2:aa .i64 ((An k:Int)-(An n:Int)-1)=(An k:Int)-(An n:Int)-1:=Au (by omega);have w3:aa .i64 (0-(s0:Int))=-(s0:Int):=by rw[Au (by omega)];omega
 simp only[Nu p0,Nj p0,Nu p1,Nj p1,cond_true,w1,w2,hs0,KH p2,Ky p2,aYy p3,aV3 p3,w3,k3];show some _=_;congr 4;by_cases h:n*2^s%k=0
 ·rw[h,DZ];rfl
 ·rw[NG h,decide_eq_true h]
theorem aB3{n:Nat}(hn:n<(2^64)^5000):UF (Dw n,())=some (Dw n,()):=by
 have p0:=aB4 (dg (2^64) n) (CY hn);rw[BQ]at p0;exact p0
theorem aR1{f m:Int}(hf:Fm f)(hm:0<=m/\m<=5)(neg:Bool){n k:Nat}(hk0:k≠0)(hk:k<2^64)(hn0:n≠0)(hn:n<2^64){e:Int}(he:-40000<=e/\e<=40000):
  Yt (f,m,neg,Dw n,Dw k,e,())=some (((DQ f m neg n k e).1:Int),((DQ f m neg n k e).2:Int),0,()):=by
 show oL Fp.pre Fp.F Cc.pre Cc.F Ic.pre Ic.F Rs.pre Rs.F Fq.pre Fq.F f m neg (Dw n) (Dw k) e=_;unfold oL;have hP:=Eh hf;have hP2:=ER hf;have p0:=aB7 hf hm;have p1:=aB3 (Iq hk (by decide));have p2:=aB3 (Iq hn (by decide));obtain⟨s,k1,k2,p3⟩:=aR0 (D:=fP f+3) hk0 hk hn0 hn (by omega);have hN:n*2^s<2^(64+s):=by
  rw[az];exact cr hn (aj s)
 have hq:n*2^s/k<2^(64+s):=ao (dq _ _) hN;have p4:=aB9 neg (n*2^s/k) (e-s) (decide (n*2^s%k≠0)) f m hf (aUx hq (by omega)) (by omega);rw[aLQ hf (fun h=>by have:=k2 (of_decide_eq_true h);omega),vR hf hn0 (by omega) e (by omega) (fun h=>by have:=k2 h;omega)]at p4;have r1:(BH f).2.1=(fP f:Int):=rfl;have w1:aa .i64 ((fP f:Int)+3)=((fP f+3:Nat):Int):=by rw[Au (by omega)];omega
 have w2:aa .i64 (-(s:Int)+e)=e-s:=by rw[Au (by omega)];omega
 have l1:(Dw n).length=1:=by rw[Uq hn0 hn];rfl
 have l2:(Dw k).length=1:=by rw[Uq hk0 hk];rfl
 have w3:decide (aa .i64 (((1:Nat):Int)+((1:Nat):Int))>1024)=false:=by decide
 have w4:(decide (e<(-(40000:Int)))||decide (e>(40000:Int)))=false:=by rw[decide_eq_false (by omega),decide_eq_false (by omega)];rfl
 have w5:((((1:Nat):Int))==(0:Int))=false:=by decide
 simp only[aK9 p0,aI3 p0,bne_self_eq_false,cond_true,cond_false,yB p1,wH p1,yB p2,wH p2,l1,l2,w3,w4,w5,r1,w1,aYB p3,aV6 p3,w2,aLa p4,aI4 p4]
theorem aU6{f m:Int}{neg:Bool}(hf:Fm f){n k t u:Nat}(hn0:n≠0)(hk0:k≠0)(hn:n*2^t<2^53)(hk:k*2^u<2^53)(e:Int):
  DQ f m neg (n*2^t) (k*2^u) e=DQ f m neg n k (e+t-u):=by
 have hP:=ER hf;have ht:t<53:=by
  have:1*2^t<=n*2^t:=aw _ (by omega);exact(cp (a:=2) (by decide)).1 (by omega)
 have hu:u<53:=by
  have:1*2^u<=k*2^u:=aw _ (by omega);exact(cp (a:=2) (by decide)).1 (by omega)
 obtain⟨s,hs⟩:∃s,s+u=120+t:=⟨120+t-u,by omega⟩
 have hk1:0<k:=by omega
 have hup:=aj u;have e1:n*2^t*2^120=n*2^s*2^u:=by
  rw[av,av,←az,←az,hs,io]
 have hbig:fP f+1<=An (n*2^s/k):=by
  apply Vs;rw[jc hk1];have h1:2^fP f*(k*2^u)<=2^53*2^53:=gx (ag (by decide) hP) (by omega);have h2:1*2^(120+t)<=n*2^(120+t):=aw _ (by omega);have h3:(2:Nat)^53*2^53<=2^(120+t):=by rw[←az];exact ag (by decide) (by omega)
  have h4:2^fP f*k*2^u<=n*2^s*2^u:=by
   rw[av,av n,←az,hs];omega
  exact mn h4 hup
 have a1:=vR (f:=f) (m:=m) (neg:=neg) hf (n:=n*2^t) (k:=k*2^u) (iq hn0 (kb (aj t))) (ii hk1 hup) e (s:=120) (by decide)
  (by rw[e1,ki _ _ hup];exact fun _=>hbig)
 have a2:=vR (f:=f) (m:=m) (neg:=neg) hf hn0 hk1 (e+t-u) (s:=s) (by omega) (fun _=>hbig);rw[←a1,←a2,e1,ki _ _ hup,dw,show e-((120:Nat):Int)=e+(t:Int)-(u:Int)-(s:Int) by omega];congr 1;rw[ee,decide_eq_true_eq,decide_eq_true_eq];constructor
 ·intro h hc;rw[hc,fd]at h;exact h rfl
 ·intro h;exact iq h (by omega)
theorem aU5{f m:Int}{neg:Bool}(hf:Fm f)(s s':Bool){n k:Nat}(hn0:n≠0)(hk0:k≠0)(hn:n<2^53)(hk:k<2^53)(x y:Int):
  DQ f m neg (od s n x).2.1 (od s' k y).2.1 ((od s n x).2.2-(od s' k y).2.2)=DQ f m neg n k (x-y):=by
 rcases TY s n x with⟨_,h⟩|⟨_,h2,_,h4,h5⟩
 ·exact absurd h hn0
 rcases TY s' k y with⟨_,h⟩|⟨_,g2,_,g4,g5⟩
 ·exact absurd h hk0
 generalize(od s n x).2.1=n1 at *
 generalize(od s' k y).2.1=k1 at *
 rw[h5,g5];rw[ap]at h4 g4;have:=aU6 (f:=f) (m:=m) (neg:=neg) hf (n:=n1) (k:=k1) (t:=tz n) (u:=tz k) (by omega) (by omega) (by rw[←h4];exact hn) (by rw[←g4];exact hk) (x-y);rw[←h4,←g4]at this;rw[this];congr 1;omega
theorem aMi{f:Int}{a:Nat}(h:AI f a=true):nan f a=true:=by
 cases hn:nan f a
 ·rw[bS hn]at h;exact absurd h (by decide)
 ·rfl
theorem j8{f:Int}{a:Nat}(h1:nan f a=false)(h2:Ap f a=false):eF f a≠A4 f:=fun he=>by
 unfold nan at h1
 unfold Ap at h2
 rw[he]at h1 h2
 simp at h1 h2
 exact h2 h1
theorem aR2(f m:Int){a b:Nat}(ha:a<2^64)(hb:b<2^64):Yu (f,m,(a:Int),(b:Int),())=some (Sb f m a b):=by
 show oM Rp.pre Rp.F Rq.pre Rq.F Rr.pre Rr.F Cq.pre Cq.F Bu.pre Bu.F DC.pre DC.F Rt.pre Rt.F f m a b=_;unfold oM Sb;have p0:=aRZ f m [a,b] (fun c hc=>by
  rcases cn.1 hc with rfl|hc
  ·exact ha
  ·rw[gg]at hc;omega) (show(2:Nat)<1000 by decide)
 have p0:UU (f,m,((a:Int)::((b:Int)::[])),())=_:=p0;simp only[aYA p0,aV5 p0,cond_true];clear p0;unfold CD;by_cases hf:¬Fm f
 ·rw[if_pos hf,if_pos hf];rfl
 have hf:=gv.1 hf;rw[if_neg (show ¬¬Fm f from fun h=>h hf),if_neg (show ¬¬Fm f from fun h=>h hf)];by_cases hm:m<0∨m>5
 ·rw[if_pos hm,if_pos hm];rfl
 rw[if_neg hm,if_neg hm];have hm':0<=m/\m<=5:=by omega
 have ho:DJ f [a,b]=(Af f a==0&&(Af f b==0&&true)):=rfl;rw[ho];by_cases hca:Af f a≠0
 ·have h4:=(jM hf a).resolve_left hca;rw[if_pos hca,h4];rfl
 have hca:=gv.1 hca;rw[if_neg (fun h=>h hca),hca];by_cases hcb:Af f b≠0
 ·have h4:=(jM hf b).resolve_left hcb;rw[if_pos hcb,h4];rfl
 have hcb:=gv.1 hcb;rw[if_neg (fun h=>h hcb),hcb];have e0:((bif((0:Int)==0&&((0:Int)==0&&true))then(0:Int)else 4)!=0)=false:=rfl;rw[e0,cond_false];have p1:=aCH hca;have p2:=aCH hcb;have p3:=aCI hf 0;have p4:=aCI hf 1;have p5:=Y0 hf (!(sF f a==sF f b));have p6:=S9 hf (!(sF f a==sF f b));have ma:=Sr hf a;have mb:=Sr hf b;have xa:=W7 hf a;have xb:=W7 hf b;simp only[aLr p1,aJl p1,aLr p2,aJl p2,cond_true,aLs p3,aJm p3,aLs p4,aJm p4,lR p5,kP p5,WD p6,VH p6];unfold Iv;cases sa:AI f a
 ·cases sb:AI f b
  ·simp only[br,cond_false];cases na:nan f a
   ·cases nb:nan f b
    ·simp only[br,cond_false];cases hi:Ap f a&&Ap f b||AB f a&&AB f b
     ·simp only[cond_false];cases ia:Ap f a
      ·simp only[cond_false];cases zb:AB f b
       ·simp only[cond_false];cases iz:Ap f b||AB f a
        ·simp only[cond_false];rw[fh]at iz;have q1:=aC1 hca (j8 na ia);have q2:=aC1 hcb (j8 nb iz.1);have mza:=NE iz.2;have mzb:=NE zb;obtain⟨o1,o2,o3⟩:=aKP (sF f a) (n:=Am f a) (Al f a) ma xa;obtain⟨o4,o5,o6⟩:=aKP (sF f b) (n:=Am f b) (Al f b) mb xb;have n1:(od (sF f a) (Am f a) (Al f a)).2.1≠0:=by
          rcases TY (sF f a) (Am f a) (Al f a)with⟨_,h⟩|⟨_,h2,_,_,_⟩
          ·exact absurd h mza
          ·omega
         have n2:(od (sF f b) (Am f b) (Al f b)).2.1≠0:=by
          rcases TY (sF f b) (Am f b) (Al f b)with⟨_,h⟩|⟨_,h2,_,_,_⟩
          ·exact absurd h mzb
          ·omega
         have q3:=aR1 hf hm' (!(sF f a==sF f b)) (n:=(od (sF f a) (Am f a) (Al f a)).2.1) (k:=(od (sF f b) (Am f b) (Al f b)).2.1) n2 (by omega) n1 (by omega) (e:=(od (sF f a) (Am f a) (Al f a)).2.2-(od (sF f b) (Am f b) (Al f b)).2.2) (by omega);rw[aU5 hf _ _ mza mzb ma mb]at q3;have w1:aa .i64 ((od (sF f a) (Am f a) (Al f a)).2.2-(od (sF f b) (Am f b) (Al f b)).2.2)=(od (sF f a) (Am f a) (Al f a)).2.2-(od (sF f b) (Am f b) (Al f b)).2.2:=Au (by omega);have d1:∀t:Bool×Nat×Int,(Vz t).2.1=Dw t.2.1:=fun _=>rfl;have d2:∀t:Bool×Nat×Int,(Vz t).2.2.1=t.2.2:=fun _=>rfl;simp only[aLt q1,aJn q1,aLt q2,aJn q2,cond_true,d1,d2,w1,aYC q3,aV7 q3]
        ·rfl
       ·rfl
      ·rfl
     ·rfl
    ·rfl
   ·cases nb:nan f b<;>rfl
  ·have nb:=aMi sb;rw[nb,bg,bg];rfl
 ·have na:=aMi sa;rw[na];rfl
end VL
namespace VL
open Go Vx
theorem w7{w:Int}(hw:Fm w)(s:Bool):Af w (C3 w s)=0/\nan w (C3 w s)=false/\Ap w (C3 w s)=true/\AB w (C3 w s)=false/\sF w (C3 w s)=s:=by
 rcases Ct hw with rfl|rfl|rfl|rfl<;>cases s<;>decide +kernel
theorem Hw{w:Int}(hw:Fm w)(s:Bool):Af w (Bp w s)=0/\nan w (Bp w s)=false/\Ap w (Bp w s)=false/\AB w (Bp w s)=true/\sF w (Bp w s)=s/\Am w (Bp w s)=0:=by
 rcases Ct hw with rfl|rfl|rfl|rfl<;>cases s<;>decide +kernel
def same(f w:Int)(a x:Nat):Prop:=Af f a=0/\Af w x=0/\nan w x=nan f a/\Ap w x=Ap f a/\AB w x=AB f a/\(nan f a=false->sF w x=sF f a)/\(nan f a=false->Ap f a=false->VV w x=VV f a)
theorem bD9{f:Int}{a:Nat}(ha:Af f a=0)(h:AB f a=true):a=Bp f (sF f a):=by
 obtain⟨hf,_⟩:=E4 ha;have h1:=Sx ha;rw[(aOb hf a).symm]at h;rw[h]at h1;rw[WS];exact h1
end VL
namespace VL
open Go Vx
theorem zB{w:Int}(hw:Fm w)(m:Int)(s:Bool)(N:Nat)(E:Int):Af w (AT w m s N E false).1=0:=by
 rw[SG hw];have h1:=bL hw m s N E;have h2:=aL hw;exact kY hw s (by omega)
end VL
namespace VL
open Go Vx
def aWw(f m:Int)(a:Nat)(tell:Bool):Int×Int×Int×Unit:=if CD f m [a]≠0 then(0,0,CD f m [a],())else bif nan f a then((BD f:Int),(bif AI f a then 1 else 0),0,())else bif Ap f a||AB f a||decide (0<=Al f a)then((a:Int),0,0,())else((if Cx m (sF f a) (Am f a) (Al f a) 0 false=0 then(Bp f (sF f a):Int)else((AT f m (sF f a) (Cx m (sF f a) (Am f a) (Al f a) 0 false) 0 false).1:Int)),(bif decide (EO (Am f a) (Al f a) 0 false≠0)&&tell then 16 else 0),0,())
def k8(k:Int):Nat:=if k=0 then 2^31-1 else if k=1 then 2^63-1 else if k=2 then 2^32-1 else 2^64-1
def ZN(k:Int):Nat:=if k=0 then 2^31 else if k=1 then 2^63 else 0
def xP(x:Nat):Nat:=(2^64-x)%2^64
def aJP(k:Int)(neg:Bool)(u:Nat)(other:Bool):Int×Int×Int×Unit:=bif neg then(if u>ZN k then((xP (ZN k):Int),1,0,())else((xP u:Int),(bif other then 16 else 0),0,()))else(if u>k8 k then((k8 k:Int),1,0,())else((u:Int),(bif other then 16 else 0),0,()))
def bDO(f m k:Int)(a:Nat):Int×Int×Int×Unit:=if CD f m []≠0 then(0,0,CD f m [],())else if k<0∨k>3 then(0,0,9,())else if Af f a≠0 then(0,0,Af f a,())else bif nan f a||(Ap f a&&!sF f a)then((k8 k:Int),1,0,())else bif Ap f a then((xP (ZN k):Int),1,0,())else if Al f a<0 then aJP k (sF f a) (Cx m (sF f a) (Am f a) (Al f a) 0 false) (decide (EO (Am f a) (Al f a) 0 false≠0))else aJP k (sF f a) (Am f a*2^(Al f a).toNat) false
def aVC(f m k:Int)(x:Nat):Int×Int×Int×Unit:=
 if CD f m []≠0 then(0,0,CD f m [],())
 else if k<0∨k>3 then(0,0,9,())
 else
  let neg:=decide (0<ZN k)&&decide (2^63<=x)
  let n:=bif neg then 2^64-x else x
  if n>(bif neg then ZN k else k8 k)then(0,0,7,())
  else if n=0 then(0,0,0,())else(((AT f m neg n 0 false).1:Int),((AT f m neg n 0 false).2:Int),0,())
end VL
namespace VL
open Go Vx
def fv(f:Int)(a:Nat):Int:=bif nan f a||Ap f a then 0 else vA f a
def aWx(f:Int)(a b:Nat):Bool:=(Ap f a&&AB f b)||(Ap f b&&AB f a)
def pv2(f:Int)(a b:Nat):Int:=bif Ap f a||Ap f b then 0 else fv f a*fv f b
def bDB(f m c:Int)(s t:Bool)(S T:Int):Int×Int×Int×Unit:=if S+T=0 then((Bp f (bif(S==0&&T==0)&&(s==t)then s else m==4):Int),0,0,())else(((AT f m (decide (S+T<0)) (S+T).natAbs c false).1:Int),((AT f m (decide (S+T<0)) (S+T).natAbs c false).2:Int),0,())
def aVt(f m:Int)(a b c:Nat):Int×Int×Int×Unit:=bif(AI f a||AI f b||AI f c)||(!(nan f a||nan f b)&&aWx f a b)then((BD f:Int),1,0,())else bif nan f a||nan f b||nan f c then((BD f:Int),0,0,())else bif((Ap f a||Ap f b)&&Ap f c)&&!((!(sF f a==sF f b))==sF f c)then((BD f:Int),1,0,())else bif Ap f a||Ap f b then((C3 f (!(sF f a==sF f b)):Int),0,0,())else bif Ap f c then((C3 f (sF f c):Int),0,0,())else bDB f m (qm f+qm f) (!(sF f a==sF f b)) (sF f c) (pv2 f a b) (fv f c*(2^(qm f-(qm f+qm f)).toNat:Nat))
def aVs(f m:Int)(a b c:Nat):Int×Int×Int×Unit:=if CD f m [a,b,c]≠0 then(0,0,CD f m [a,b,c],())else aVt f m a b c
end VL
namespace VL
open Go Vx
def lY(f:Int)(a b:Nat):Int×Int×Bool×Int×Unit:=if CD f 0 [a,b]≠0 then(0,0,true,CD f 0 [a,b],())else bif AI f a||AI f b then((BD f:Int),1,true,0,())else bif nan f a||nan f b then((BD f:Int),0,true,0,())else bif Ap f a||AB f b then((BD f:Int),1,true,0,())else bif Ap f b||AB f a then((a:Int),0,true,0,())else(0,0,false,0,())
def wA(X:Nat)(ex ey:Int):Nat:=X*2^(ex-min ex ey).toNat
def wB(Y:Nat)(ex ey:Int):Nat:=Y*2^(ey-min ex ey).toNat
def bCb(A B:Nat)(near:Bool):Bool×Nat×Nat:=if(near&&(decide (2*(A%B)>B)||(decide (2*(A%B)=B)&&decide (A/B%2=1))))=true then(true,B-A%B,A/B+1)else(false,A%B,A/B)
def bCc(f:Int)(a b:Nat)(near:Bool):Int×Int×Int×Int×Unit:=let e:=min (Al f a) (Al f b);let t:=bCb (wA (Am f a) (Al f a) (Al f b)) (wB (Am f b) (Al f a) (Al f b)) near;((if t.2.1=0 then(Bp f (sF f a):Int)else((AT f 2 (bif t.1 then !sF f a else sF f a) t.2.1 e false).1:Int)),((t.2.2%8:Nat):Int),0,0,())
def lX(f:Int)(a b:Nat)(near:Bool):Int×Int×Int×Int×Unit:=bif(lY f a b).2.2.1 then((lY f a b).1,0,(lY f a b).2.1,(lY f a b).2.2.2.1,())else bCc f a b near
end VL
namespace VL
open Go Vx
def aId(f w m:Int)(a:Nat):Int:=if ¬(Fm f/\Fm w)then 2 else if m<0∨m>5 then 3 else Af f a
def aUR(f w m:Int)(a:Nat):Int×Int×Int×Unit:=if aId f w m a≠0 then(0,0,aId f w m a,())else bif nan f a then((BD w:Int),(bif AI f a then 1 else 0),0,())else bif Ap f a then((C3 w (sF f a):Int),0,0,())else bif AB f a then((Bp w (sF f a):Int),0,0,())else(((AT w m (sF f a) (Am f a) (Al f a) false).1:Int),((AT w m (sF f a) (Am f a) (Al f a) false).2:Int),0,())
def aIe(f:Int)(a b:Nat):Int×Int×Unit:=if Af f a≠0 then(0,Af f a,())else if Af f b≠0 then(0,Af f b,())else((Cy f (sF f b) (Bj f a):Int),0,())
end VL
namespace VL
open Go Vx
def aUN(f:Int)(a:Nat):Int×Int×Int×Unit:=if Af f a=0 then(aa .u64 (BT f a),0,0,())else(0,0,Af f a,())
def aXj(f:Int)(a:Nat):Int×Int×Int×Unit:=if Af f a=0 then((AP f a:Int),0,0,())else(0,0,Af f a,())
def aUe(f:Int)(a:Nat):Int×Int×Int×Unit:=((JQ.F (f,(a:Int),())).1,0,(JQ.F (f,(a:Int),())).2.1,())
def Ds(m op f:Int)(a b c:Nat):Int×Int×Int×Unit:=if op=1 then In f m a b else if op=2 then NA f m a b else if op=3 then Su f m a b else if op=4 then Sb f m a b else if op=5 then bDl f m a else if op=6 then aVs f m a b c else if op=7 then((lX f a b true).1,(lX f a b true).2.2)else if op=8 then((lX f a b false).1,(lX f a b false).2.2)else if op=9 then aWw f m a true else if op=10 then aUR f (aa .i64 (c:Int)) m a else if op=11 then bDO f m (aa .i64 (c:Int)) a else if op=12 then aVC f m (aa .i64 (c:Int)) a else if op=13 then aK6 f a b false else if op=14 then aK6 f a b true else if op=15 then(aa .u64 (jQ f a b false).1,(jQ f a b false).2)else if op=16 then(aa .u64 (jQ f a b true).1,(jQ f a b true).2)else if op=17 then bDt f a 1 else if op=18 then bDb f m a (aa .i64 (b:Int))else if op=19 then aUN f a else if op=20 then aXj f a else if op=21 then aUe f a else if op=22 then((aIe f a b).1,0,(aIe f a b).2)else(0,0,0,())
abbrev qI:=Ab (.pair (.int .i64) (.pair (.int .i64) (.pair (.int .u64) (.pair (.int .u64) (.pair (.int .u64) .unit)))))
def SQ(w:Option (Nat×List Nat))(k:qI)(y:DenS D1):Prop:=JO.pre w (k,())=true/\JO.F w (k,())=y
theorem jW{w:Option (Nat×List Nat)}{k:qI}{y:DenS D1}{p:Bool}{v:DenS D1}(h1:JO.pre w (k,())=p)(h2:JO.F w (k,())=v)(h3:p=true)(h4:v=y):SQ w k y:=⟨h1.trans h3,h2.trans h4⟩
theorem SI{op:Int}(h1:1<=op)(h2:op<=22){n:Int}{w:Option (Nat×List Nat)}(h:(F7.F ()).1.getD op.toNat ((0:Int),none,())=(n,w,())):Mv (op,())=some ((n,w,()),0,()):=by
 show WZ F7.pre F7.F op=_;unfold WZ;have hp:F7.pre ()=true:=by kernel_rfl
 have hl:(F7.F ()).1.length=23:=by kernel_rfl
 rw[hp,hl,h,decide_eq_false (show ¬op<1 by omega),decide_eq_false (show ¬op>=((23:Nat):Int) by omega),decide_eq_true (show(0:Int)<=op by omega),decide_eq_true (show op<((23:Nat):Int) by omega)];rfl
theorem bCo{op:Int}(h:op<1∨op>22):Mv (op,())=some (((0:Int),none,()),190,()):=by
 show WZ F7.pre F7.F op=_;unfold WZ;have hp:F7.pre ()=true:=by kernel_rfl
 have hl:(F7.F ()).1.length=23:=by kernel_rfl
 have:(decide (op<1)||decide (op>=((23:Nat):Int)))=true:=by rw[dz,decide_eq_true_eq,decide_eq_true_eq];omega
 rw[hp,hl,this];rfl
theorem qA{g:Nat}{k:qI}{p:Bool}{y:DenS Lx}(h1:Ra.pre (some (g,[])) (k.2.1,k.1,k.2.2.1,k.2.2.2.1,())=p)(h2:Ra.F (some (g,[])) (k.2.1,k.1,k.2.2.1,k.2.2.2.1,())=y)(h3:p=true):Yv (k,g,())=some y:=by
 show oN Ra.pre Ra.F k g=_;unfold oN;dsimp only;rw[h1,h2,h3];rfl
theorem bDW(m f:Int){a b:Nat}(ha:a<2^64)(hb:b<2^64)(c:Int):
  SQ (some (192,[158+2])) (m,f,(a:Int),(b:Int),c,()) (In f m a b)/\SQ (some (192,[159+2])) (m,f,(a:Int),(b:Int),c,()) (NA f m a b) /\
  SQ (some (192,[160+2])) (m,f,(a:Int),(b:Int),c,()) (Su f m a b)/\SQ (some (192,[161+2])) (m,f,(a:Int),(b:Int),c,()) (Sb f m a b):=by
 have p1:=rY f m ha hb;have p2:=aRI f m ha hb;have p3:=aRY f m ha hb;have p4:=aR2 f m ha hb;have q1:=qA (g:=158) (k:=(m,f,(a:Int),(b:Int),c,())) (p:=Fs.pre (f,m,(a:Int),(b:Int),())) (y:=Fs.F (f,m,(a:Int),(b:Int),())) (by kernel_rfl) (by kernel_rfl) (yG p1);have q2:=qA (g:=159) (k:=(m,f,(a:Int),(b:Int),c,())) (p:=Mo.pre (f,m,(a:Int),(b:Int),())) (y:=Mo.F (f,m,(a:Int),(b:Int),())) (by kernel_rfl) (by kernel_rfl) (aYs p2);have q3:=qA (g:=160) (k:=(m,f,(a:Int),(b:Int),c,())) (p:=Mp.pre (f,m,(a:Int),(b:Int),())) (y:=Mp.F (f,m,(a:Int),(b:Int),())) (by kernel_rfl) (by kernel_rfl) (aYz p3);have q4:=qA (g:=161) (k:=(m,f,(a:Int),(b:Int),c,())) (p:=Mq.pre (f,m,(a:Int),(b:Int),())) (y:=Mq.F (f,m,(a:Int),(b:Int),())) (by kernel_rfl) (by kernel_rfl) (aYD p4);rw[wM p1]at q1;rw[aVX p2]at q2;rw[aV4 p3]at q3;rw[aV8 p4]at q4;exact⟨jW (p:=Dd.pre ((m,f,(a:Int),(b:Int),c,()),158,())) (v:=Dd.F ((m,f,(a:Int),(b:Int),c,()),158,())) (by kernel_rfl) (by kernel_rfl) (lM q1) (kJ q1),
  jW (p:=Dd.pre ((m,f,(a:Int),(b:Int),c,()),159,())) (v:=Dd.F ((m,f,(a:Int),(b:Int),c,()),159,())) (by kernel_rfl) (by kernel_rfl) (lM q2) (kJ q2),
  jW (p:=Dd.pre ((m,f,(a:Int),(b:Int),c,()),160,())) (v:=Dd.F ((m,f,(a:Int),(b:Int),c,()),160,())) (by kernel_rfl) (by kernel_rfl) (lM q3) (kJ q3),
  jW (p:=Dd.pre ((m,f,(a:Int),(b:Int),c,()),161,())) (v:=Dd.F ((m,f,(a:Int),(b:Int),c,()),161,())) (by kernel_rfl) (by kernel_rfl) (lM q4) (kJ q4)⟩
end VL
namespace VL
open Go Vx
def C1(x:Int):Bool:=ZJ .i64 x 31==0
def KB(v:Int×Int×Int×Unit):Int:=if v.1<0∨v.1>5 then 3 else if(C1 v.2.1&&C1 v.2.2.1)=true then 0 else 7
theorem aDl(x:Int):UV (x,())=some (C1 x,()):=rfl
theorem aR3(v:Int×Int×Int×Unit):UW (v,())=some (KB v,()):=by
 show oP Rz.pre Rz.F v=_;unfold oP KB;have p:=aDl v.2.1;have q:UV v.2.2=some (C1 v.2.2.1,()):=aDl v.2.2.1;rw[aLu p,aJo p,aLu q,aJo q];by_cases h:v.1<0∨v.1>5
 ·have:(decide (v.1<0)||decide (v.1>5))=true:=by rw[dz,decide_eq_true_eq,decide_eq_true_eq];exact h
  rw[this,if_pos h];rfl
 ·have:(decide (v.1<0)||decide (v.1>5))=false:=by
   rw[decide_eq_false (show ¬v.1<0 by omega),decide_eq_false (show ¬v.1>5 by omega)];rfl
  rw[this,if_neg h];cases C1 v.2.1<;>cases C1 v.2.2.1<;>rfl
def Gm(f:Int):List Nat->Int
 | []=>0
 |a::l=>if Af f a≠0 then Af f a else Gm f l
abbrev R5:=Int×Int×Int×Int×Int×Unit
theorem aSE(R:R5)(op:Int)(l:List Nat)(hl:∀a∈l,a<2^64)(hlen:l.length<1000):
  gZ (((l.length:Int),Wd l,(0:Int),op,(),()),(),R,())=some (if Gm R.2.1 l=0 then .inl ((op,(),()),(),R,())else .inr ((Gm R.2.1 l,()),())):=by
 have key:=DU (aKu Ao.pre Ao.F Ar.pre Ar.F) (fun x=>l.length-x.1.2.2.1.toNat)
  (fun x=>∃i:Nat,i<=l.length/\Gm R.2.1 (l.drop i)=Gm R.2.1 l/\x=(((l.length:Int),Wd l,(i:Int),op,(),()),(),R,()))
  (fun _=>if Gm R.2.1 l=0 then .inl ((op,(),()),(),R,())else .inr ((Gm R.2.1 l,()),())) ?_ _ ⟨0,dt _,rfl,rfl⟩
 ·exact key
 intro L x hx hL;obtain⟨i,hi,hok,rfl⟩:=hx;unfold Wj;rcases aq i l.length with hlt|hge
 ·have hg:l.getD i 0=l[i]:=by simp[al,hlt]
  have ha:=hl _ (iw hlt);have p0:=Ih R.2.1 l[i] ha;have e0:decide ((i:Int)<(l.length:Int))=true:=decide_eq_true (by omega);have e1:(decide ((0:Int)<=(i:Int))&&decide ((i:Int)<((Wd l).length:Int)))=true:=by rw[AC,decide_eq_true (by omega),decide_eq_true (by omega)];rfl
  have e2:(Wd l).getD (ai (i:Int)) 0=((l[i]:Nat):Int):=by rw[ae,Cw,hg]
  have e3:aa .i64 ((i:Int)+1)=((i+1:Nat):Int):=by rw[Au (by omega)];omega
  rw[dv hlt,Gm]at hok;dsimp only;simp only[e0,e1,e2,e3,cond_true,Hl p0,Hf p0];by_cases hc:Af R.2.1 l[i]=0
  ·rw[if_neg (fun h=>h hc)]at hok;rw[hc,bne_self_eq_false,cond_false];exact hL _ ⟨i+1,by omega,hok,rfl⟩ (by simp only[ae];omega)
  ·rw[if_pos hc]at hok;have:(Af R.2.1 l[i]!=0)=true:=by rw[bne_iff_ne];exact hc
   rw[this,←hok,if_neg hc];rfl
 ·have e:i=l.length:=by omega
  subst e;rw[jt]at hok;have e0:decide ((l.length:Int)<(l.length:Int))=false:=decide_eq_false (by omega);simp only[e0,cond_false];rw[←hok];rfl
def u5(a c:Int):Bool:=(((aa .i64 c)==0)&&((aa .u64 (aa .i64 (aa .i32 a)))!=a))||(((aa .i64 c)==2)&&((AE .u64 a 32)!=0))
def M8(f op:Int)(n a b c:Nat):Int:=if ¬Fm f then 2 else if op=10/\c>3 then 2 else if(op=11∨op=12)/\c>3 then 9 else if Gm f ([a,b,c].take n)≠0 then Gm f ([a,b,c].take n)else if(op==12&&u5 a c)=true then 4 else 0
theorem aH8(op:Int)(c:Nat){d:Bool}(hd:d=decide ((c:Int)>3))(t:Int)(v:Option (Int×Unit))(hv:v=some (t,())):
  (bif op==10 then(bif d then some (2,())else v)else bif op==11 then(bif op==11 then(bif d then some (9,())else v)else v)else bif op==12 then(bif d then some (9,())else v)else v) =
  some (if op=10/\c>3 then 2 else if(op=11∨op=12)/\c>3 then 9 else t,()):=by
 rw[hd,hv];by_cases h:c>3
 ·rw[decide_eq_true (show(c:Int)>3 by omega)];by_cases h1:op=10
  ·subst h1;rw[if_pos ⟨rfl,h⟩];rfl
  ·rw[beq_false_of_ne h1,if_neg (fun x=>h1 x.1)];by_cases h2:op=11
   ·subst h2;rw[if_pos ⟨.inl rfl,h⟩];rfl
   ·by_cases h3:op=12
    ·subst h3;rw[if_pos ⟨.inr rfl,h⟩];rfl
    ·rw[beq_false_of_ne h2,beq_false_of_ne h3,if_neg (fun x=>x.1.elim h2 h3)];rfl
 ·rw[decide_eq_false (show ¬(c:Int)>3 by omega),if_neg (fun x=>h x.2),if_neg (fun x=>h x.2)];cases op==10<;>cases op==11<;>cases op==12<;>rfl
theorem aR4(m f op:Int)(w:Option (Nat×List Nat)){n a b c:Nat}(hn:n<=3)(ha:a<2^64)(hb:b<2^64)(hc:c<2^64):
  Yy (op,((n:Int),w,()),(m,f,(a:Int),(b:Int),(c:Int),()),())=some (M8 f op n a b c,()):=by
 show oQ Ao.pre Ao.F Ar.pre Ar.F gZ op ((n:Int),w,()) (m,f,(a:Int),(b:Int),(c:Int),())=_;have e3:((((a:Int)::((b:Int)::((c:Int)::[]))).take (ai (n:Int))).drop (ai (0:Int)))=Wd ([a,b,c].take n):=by
  have:n=0∨n=1∨n=2∨n=3:=by omega
  rcases this with rfl|rfl|rfl|rfl<;>rfl
 have e2:((decide ((0:Int)<=(n:Int)))&&(decide ((n:Int)<=((((a:Int)::((b:Int)::((c:Int)::[]))).length:Nat):Int))))=true:=by
  rw[decide_eq_true (show(0:Int)<=(n:Int) by omega),decide_eq_true (show((n:Int)<=((((a:Int)::((b:Int)::((c:Int)::[]))).length:Nat):Int))from by show(n:Int)<=3;omega)];rfl
 have hW:=aSE (m,f,(a:Int),(b:Int),(c:Int),()) op ([a,b,c].take n) (by intro x hx;have:=fa hx;simp at this;omega) (by rw[List.length_take];show min n 3<1000;omega);unfold oQ M8;dsimp only;by_cases hA:Gm f ([a,b,c].take n)=0
 ·rw[if_pos hA]at hW;rw[e3,e2,AC,hW];by_cases hf:Fm f
  ·have p0:=Ge hf;rw[CJ p0,CF p0,if_neg (show ¬¬Fm f from fun h=>h hf)];refine aH8 op c rfl _ (bif op==12 then(bif u5 a c then some (4,())else some (0,()))else some (0,())) ?_;rw[if_neg (fun h=>h hA)];cases op==12<;>cases u5 (a:Int) c<;>rfl
  ·have p0:=Ii hf;rw[CJ p0,CF p0,if_pos hf];rfl
 ·rw[if_neg hA]at hW;rw[e3,e2,AC,hW];by_cases hf:Fm f
  ·have p0:=Ge hf;rw[CJ p0,CF p0,if_neg (show ¬¬Fm f from fun h=>h hf)];refine aH8 op c rfl _ (some (Gm f ([a,b,c].take n),())) ?_;rw[if_pos hA]
  ·have p0:=Ii hf;rw[CJ p0,CF p0,if_pos hf];rfl
def T9(op:Int):Nat:=(Mr.F (op,())).1.1.toNat
def Ko(v:Int×Int×Int×Unit)(op f:Int)(a b c:Nat):Int:=if KB v≠0 then KB v else if op<1∨op>22 then 190 else if M8 f op (T9 op) a b c≠0 then M8 f op (T9 op) a b c else(Ds v.1 op f a b c).2.2.1
abbrev qY:=Int×Int×Int×(Int×Int×Int×Unit)×Unit
def bD4:qY:=(0,0,0,(0,0,0,()),())
def vB(v:Int×Int×Int×Unit)(y:Int×Int×Int×Unit):qY:=if Bs .i64 y.2.1 v.2.2.1≠0 then(0,y.2.1,Bs .i64 (Bs .i64 y.2.1 v.2.2.1) (aa .i64 (0-Bs .i64 y.2.1 v.2.2.1)),v,())else(y.1,y.2.1,0,(v.1,Aq .i64 v.2.1 y.2.1,v.2.2),())
def Ua(v:Int×Int×Int×Unit)(op f:Int)(a b c:Nat):qY×Int×Unit:=if Ko v op f a b c≠0 then(bD4,Ko v op f a b c,())else(vB v (Ds v.1 op f a b c),0,())
theorem aR6(v:Int×Int×Int×Unit)(op f:Int){a b c:Nat}(ha:a<2^64)(hb:b<2^64)(hc:c<2^64)
  (hw:1<=op->op<=22->∃n w,Mv (op,())=some ((n,w,()),0,())/\0<=n/\n<=3/\SQ w (v.1,f,(a:Int),(b:Int),(c:Int),()) (Ds v.1 op f a b c)) :
  RT (v,op,f,(a:Int),(b:Int),(c:Int),())=some (Ua v op f a b c):=by
 show oR RA.pre RA.F Mr.pre Mr.F RB.pre RB.F JO.pre JO.F v op f a b c=_;unfold oR Ua;dsimp only;have p0:UW ((v.1,v.2),())=some (KB v,()):=aR3 v;rw[aYE p0,aV9 p0,cond_true];by_cases hg:KB v=0
 ·have hz:((KB v:Int)!=0)=false:=by rw[hg];rfl
  rw[hz,cond_false];by_cases ho:op<1∨op>22
  ·have p1:=bCo ho;have he:Ko v op f a b c=190:=by unfold Ko;rw[if_neg (fun h=>h hg),if_pos ho]
   rw[aLv p1,kK p1,he];rfl
  ·obtain⟨n,w,p1,hn0,hn3,hd1,hd2⟩:=hw (by omega) (by omega);obtain⟨k,rfl⟩:=cy hn0;have hk:T9 op=k:=by unfold T9;rw[kK p1];rfl
   have p2:=aR4 v.1 f op w (n:=k) (Int.ofNat_le.1 hn3) ha hb hc;have he:Ko v op f a b c=if M8 f op k a b c≠0 then M8 f op k a b c else(Ds v.1 op f a b c).2.2.1:=by
    unfold Ko;rw[if_neg (fun h=>h hg),if_neg ho,hk]
   rw[he,aLv p1,kK p1,cond_true];dsimp only;rw[bne_self_eq_false,cond_false,aYG p2,aWb p2,cond_true];dsimp only;by_cases hc0:M8 f op k a b c=0
   ·rw[hc0,bne_self_eq_false,cond_false,hd1,hd2,cond_true,if_neg (show ¬((0:Int)≠0) by decide)];by_cases hr:(Ds v.1 op f a b c).2.2.1=0
    ·rw[hr,bne_self_eq_false,cond_false,if_neg (show ¬((0:Int)≠0) by decide)];unfold vB;by_cases ht:Bs .i64 (Ds v.1 op f a b c).2.1 v.2.2.1=0
     ·rw[ht,bne_self_eq_false,cond_false,if_neg (show ¬((0:Int)≠0) by decide)]
     ·rw[if_pos ht,bne_iff_ne.2 ht];rfl
    ·rw[if_pos hr,bne_iff_ne.2 hr];rfl
   ·rw[if_pos hc0,if_pos hc0,bne_iff_ne.2 hc0];rfl
 ·have he:Ko v op f a b c=KB v:=by unfold Ko;rw[if_pos hg]
  rw[he,if_pos hg,bne_iff_ne.2 hg];rfl
end VL
namespace VL
open Go Vx
theorem bDV(m f:Int){op:Int}(h:op=1∨op=2∨op=3∨op=4){a b c:Nat}(ha:a<2^64)(hb:b<2^64):
  ∃n w,Mv (op,())=some ((n,w,()),0,())/\0<=n/\n<=3/\SQ w (m,f,(a:Int),(b:Int),(c:Int),()) (Ds m op f a b c):=by
 obtain⟨w1,w2,w3,w4⟩:=bDW m f ha hb (c:Int);rcases h with rfl|rfl|rfl|rfl
 ·exact⟨2,some (192,[158+2]),SI (by decide) (by decide) (by kernel_rfl),by decide,by decide,w1⟩
 ·exact⟨2,some (192,[159+2]),SI (by decide) (by decide) (by kernel_rfl),by decide,by decide,w2⟩
 ·exact⟨2,some (192,[160+2]),SI (by decide) (by decide) (by kernel_rfl),by decide,by decide,w3⟩
 ·exact⟨2,some (192,[161+2]),SI (by decide) (by decide) (by kernel_rfl),by decide,by decide,w4⟩
theorem aR5(v:Int×Int×Int×Unit){op:Int}(h:op=1∨op=2∨op=3∨op=4)(f:Int){a b c:Nat}(ha:a<2^64)(hb:b<2^64)(hc:c<2^64):
  RT (v,op,f,(a:Int),(b:Int),(c:Int),())=some (Ua v op f a b c):=aR6 v op f ha hb hc (fun _ _=>bDV v.1 f h ha hb)
theorem lV{op n:Int}{w:Option (Nat×List Nat)}(p:Mv (op,())=some ((n,w,()),0,())):T9 op=n.toNat:=by
 unfold T9;rw[kK p]
theorem bCa{op:Int}(h:op=1∨op=2∨op=3∨op=4):T9 op=2:=by
 rcases h with rfl|rfl|rfl|rfl
 ·exact lV (n:=2) (w:=some (192,[158+2])) (SI (by decide) (by decide) (by kernel_rfl))
 ·exact lV (n:=2) (w:=some (192,[159+2])) (SI (by decide) (by decide) (by kernel_rfl))
 ·exact lV (n:=2) (w:=some (192,[160+2])) (SI (by decide) (by decide) (by kernel_rfl))
 ·exact lV (n:=2) (w:=some (192,[161+2])) (SI (by decide) (by decide) (by kernel_rfl))
end VL
namespace VL
open Go Vx
def LM(f:Int)(y:Int×Int×Int×Unit):Prop:=∃x:Nat,y.1=(x:Int)/\Af f x=0/\y.2.2.1=0
theorem LN{f:Int}{c:Bool}{x y:Int×Int×Int×Unit}(hx:LM f x)(hy:LM f y):LM f (bif c then x else y):=by
 cases c
 ·exact hy
 ·exact hx
theorem GS{f:Int}{x:Nat}{g:Int}(h:Af f x=0):LM f ((x:Int),g,0,()):=⟨x,rfl,h,rfl⟩
theorem aHB{f m:Int}(hf:Fm f)(hm:0<=m/\m<=5){a b:Nat}(ha:Af f a=0)(hb:Af f b=0):LM f (In f m a b):=by
 unfold In;rw[if_pos hf,if_pos hm,if_pos ⟨ha,hb⟩,ZE];exact GS (uS hf hm ha hb)
theorem bDx{f m:Int}(hf:Fm f)(hm:0<=m/\m<=5){a b:Nat}(ha:Af f a=0)(hb:Af f b=0):LM f (NA f m a b):=by
 unfold NA;rw[if_pos hb];exact aHB hf hm ha (IH hf b)
theorem aXb{f m:Int}(hf:Fm f)(hm:0<=m/\m<=5){a b:Nat}(ha:Af f a=0)(hb:Af f b=0):LM f (Su f m a b):=by
 unfold Su;rw[if_neg (show ¬¬Fm f from fun h=>h hf),if_neg (by omega),if_neg (fun h=>h ha),if_neg (fun h=>h hb)];unfold E5;exact LN (GS (Hi hf).2) (LN (GS (Hi hf).2) (LN (GS (w7 hf _).1) (LN (GS (Hw hf _).1) (GS (zB hf _ _ _ _)))))
theorem aVb{f m:Int}(hf:Fm f)(hm:0<=m/\m<=5){a b:Nat}(ha:Af f a=0)(hb:Af f b=0):LM f (Sb f m a b):=by
 unfold Sb;rw[if_neg (show ¬¬Fm f from fun h=>h hf),if_neg (by omega),if_neg (fun h=>h ha),if_neg (fun h=>h hb)];unfold Iv;refine LN (GS (Hi hf).2) (LN (GS (Hi hf).2) (LN (GS (w7 hf _).1) (LN (GS (w7 hf _).1) (LN (GS (Hw hf _).1) (GS ?_)))));unfold DQ FI;split
 ·exact zB hf _ _ _ _
 ·exact zB hf _ _ _ _
def Ur(op:Int):Prop:=op=1∨op=2∨op=3∨op=4
theorem aVy{f m:Int}(hf:Fm f)(hm:0<=m/\m<=5){op:Int}(h:Ur op){a b:Nat}(ha:Af f a=0)(hb:Af f b=0):LM f (Ds m op f a b 0):=by
 rcases h with rfl|rfl|rfl|rfl
 ·exact aHB hf hm ha hb
 ·exact bDx hf hm ha hb
 ·exact aXb hf hm ha hb
 ·exact aVb hf hm ha hb
theorem jN{f:Int}(hf:Fm f){a:Nat}(ha:Af f a=0):a<2^64:=by
 have h1:=(E4 ha).2;have h2:fW f<=64:=Ea hf;exact ak h1 (ag (by decide) h2)
def At(f m op:Int)(a b:Nat):Nat:=(Ds m op f a b 0).1.toNat
def Av(f m op:Int)(a b:Nat):Int:=(Ds m op f a b 0).2.1
theorem bU{f m:Int}(hf:Fm f)(hm:0<=m/\m<=5){op:Int}(h:Ur op){a b:Nat}(ha:Af f a=0)(hb:Af f b=0):
  Af f (At f m op a b)=0/\(Ds m op f a b 0).1=((At f m op a b:Nat):Int)/\(Ds m op f a b 0).2.2.1=0:=by
 obtain⟨x,h1,h2,h3⟩:=aVy hf hm h ha hb;have e:At f m op a b=x:=by unfold At;rw[h1];rfl
 rw[e];exact⟨h2,h1,h3⟩
theorem bCs{f m:Int}(hf:Fm f)(hm:0<=m/\m<=5){op:Int}(h:Ur op){a b:Nat}(ha:Af f a=0)(hb:Af f b=0):
  Ua (m,0,0,()) op f a b 0=((((At f m op a b:Nat):Int),Av f m op a b,0,(m,Aq .i64 0 (Av f m op a b),0,()),()),0,()):=by
 obtain⟨h1,h2,h3⟩:=bU hf hm h ha hb;have hc:M8 f op 2 a b 0=0:=by
  unfold M8;have hop:¬op=10/\¬op=11/\¬op=12:=by unfold Ur at h;omega
  have hA:Gm f ([a,b,0].take 2)=0:=by
   show(if Af f a≠0 then Af f a else if Af f b≠0 then Af f b else 0)=0;rw[if_neg (fun x=>x ha),if_neg (fun x=>x hb)]
  rw[if_neg (show ¬¬Fm f from fun h=>h hf),if_neg (fun x=>hop.1 x.1),if_neg (fun x=>x.1.elim hop.2.1 hop.2.2),if_neg (fun x=>x hA),beq_false_of_ne hop.2.2];rfl
 have hg:KB (m,0,0,())=0:=by
  unfold KB;rw[if_neg (by show ¬(m<0∨m>5);omega)];have h0:C1 0=true:=by decide +kernel
  show(if(C1 0&&C1 0)=true then(0:Int)else 7)=0;rw[h0];rfl
 have he:Ko (m,0,0,()) op f a b 0=0:=by
  unfold Ko;rw[if_neg (fun x=>x hg),if_neg (by unfold Ur at h;omega),bCa h,if_neg (fun x=>x hc)];exact h3
 unfold Ua;rw[if_neg (fun x=>x he)];unfold vB;have hz:Bs .i64 (Ds m op f a b 0).2.1 0=0:=by
  unfold Bs;have:ce 64 (0:Int)=0#64:=rfl;show aa .i64 ((ce 64 (Ds m op f a b 0).2.1 &&& ce 64 0).toNat:Int)=0;rw[this,BitVec.and_zero];rfl
 have hz':¬(Bs .i64 (Ds (m,(0:Int),(0:Int),()).1 op f a b 0).2.1 (m,(0:Int),(0:Int),()).2.2.1≠0):=fun x=>x hz;rw[if_neg hz'];dsimp only;rw[h2];rfl
abbrev St3:=Int×Int×Int×Unit
theorem gD{f m:Int}(hf:Fm f)(hm:0<=m/\m<=5)(g:Int){op:Int}(h:Ur op){a b:Nat}(ha:Af f a=0)(hb:Af f b=0):
  Yz ((f,m,g,()),op,(a:Int),(b:Int),())=some ((f,m,Aq .i64 g (Av f m op a b),()),((At f m op a b:Nat):Int),()):=by
 have p:RT ((m,0,0,()),op,f,(a:Int),(b:Int),((0:Nat):Int),())=_:=aR5 (m,0,0,()) h f (jN hf ha) (jN hf hb) (by decide);rw[bCs hf hm h ha hb]at p;have p':RT ((m,0,0,()),op,f,(a:Int),(b:Int),(0:Int),())=_:=p;show oS RC.pre RC.F (f,m,g,()) op (a:Int) (b:Int)=_;unfold oS;dsimp only;simp only[aYH p',aWc p',cond_true]
end VL
namespace VL
open Go Vx
abbrev Bl:=Nat×Nat
def cI(x:Bl):Int×Int×Unit:=((x.1:Int),(x.2:Int),())
def CI(f:Int)(x:Bl):Prop:=Af f x.1=0/\Af f x.2=0
section
variable {f m:Int}(hf:Fm f)(hm:0<=m/\m<=5)(g:Int)
include hf hm
theorem J0{a b:Nat}(ha:Af f a=0)(hb:Af f b=0):YA ((f,m,g,()),(a:Int),(b:Int),())=some ((f,m,Aq .i64 g (Av f m 3 a b),()),((At f m 3 a b:Nat):Int),()):=by
 have p:=gD hf hm g (op:=3) (.inr (.inr (.inl rfl))) ha hb;show oT C5.pre C5.F (f,m,g,()) (a:Int) (b:Int)=_;unfold oT;dsimp only;simp only[lN p,kL p,cond_true]
theorem aDs{a b:Nat}(ha:Af f a=0)(hb:Af f b=0):YB ((f,m,g,()),(a:Int),(b:Int),())=some ((f,m,Aq .i64 g (Av f m 2 a b),()),((At f m 2 a b:Nat):Int),()):=by
 have p:=gD hf hm g (op:=2) (.inr (.inl rfl)) ha hb;show oU C5.pre C5.F (f,m,g,()) (a:Int) (b:Int)=_;unfold oU;dsimp only;simp only[lN p,kL p,cond_true]
theorem YD{a b:Nat}(ha:Af f a=0)(hb:Af f b=0):YC ((f,m,g,()),(a:Int),(b:Int),())=some ((f,m,Aq .i64 g (Av f m 1 a b),()),((At f m 1 a b:Nat):Int),()):=by
 have p:=gD hf hm g (op:=1) (.inl rfl) ha hb;show oV C5.pre C5.F (f,m,g,()) (a:Int) (b:Int)=_;unfold oV;dsimp only;simp only[lN p,kL p,cond_true]
theorem aDu{a b:Nat}(ha:Af f a=0)(hb:Af f b=0):YG ((f,m,g,()),(a:Int),(b:Int),())=some ((f,m,Aq .i64 g (Av f m 4 a b),()),((At f m 4 a b:Nat):Int),()):=by
 have p:=gD hf hm g (op:=4) (.inr (.inr (.inr rfl))) ha hb;show oZ C5.pre C5.F (f,m,g,()) (a:Int) (b:Int)=_;unfold oZ;dsimp only;simp only[lN p,kL p,cond_true]
end
section
variable (f m:Int)
def Dt(g:Int):List (Int×Nat×Nat)->Int
 | []=>g
 |s::l=>Dt (Aq .i64 g (Av f m s.1 s.2.1 s.2.2)) l
def WW(x y:Bl):Bl:=(At f m 1 x.1 y.1,At f m 1 x.2 y.2)
def cA(x y:Bl):List (Int×Nat×Nat):=[(1,x.1,y.1),(1,x.2,y.2)]
def Dg(x y:Bl):Bl:=(At f m 2 (At f m 3 x.1 y.1) (At f m 3 x.2 y.2),At f m 1 (At f m 3 x.1 y.2) (At f m 3 x.2 y.1))
def Hm(x y:Bl):List (Int×Nat×Nat):=[(3,x.1,y.1),(3,x.2,y.2),(3,x.1,y.2),(3,x.2,y.1),(2,At f m 3 x.1 y.1,At f m 3 x.2 y.2),(1,At f m 3 x.1 y.2,At f m 3 x.2 y.1)]
def bI(y:Bl):Nat:=At f m 1 (At f m 3 y.1 y.1) (At f m 3 y.2 y.2)
def yT(x y:Bl):Nat:=At f m 1 (At f m 3 x.1 y.1) (At f m 3 x.2 y.2)
def yU(x y:Bl):Nat:=At f m 2 (At f m 3 x.2 y.1) (At f m 3 x.1 y.2)
def Hn(x y:Bl):Bl:=(At f m 4 (yT f m x y) (bI f m y),At f m 4 (yU f m x y) (bI f m y))
def WM(x y:Bl):List (Int×Nat×Nat):=[(3,y.1,y.1),(3,y.2,y.2),(1,At f m 3 y.1 y.1,At f m 3 y.2 y.2),(3,x.1,y.1),(3,x.2,y.2),(1,At f m 3 x.1 y.1,At f m 3 x.2 y.2),(3,x.2,y.1),(3,x.1,y.2),(2,At f m 3 x.2 y.1,At f m 3 x.1 y.2),(4,yT f m x y,bI f m y),(4,yU f m x y,bI f m y)]
end
theorem Nz{f m:Int}(hf:Fm f)(hm:0<=m/\m<=5){a b:Nat}(ha:Af f a=0)(hb:Af f b=0):Af f (At f m 1 a b)=0:=(bU hf hm (.inl rfl) ha hb).1
theorem mG{f m:Int}(hf:Fm f)(hm:0<=m/\m<=5){a b:Nat}(ha:Af f a=0)(hb:Af f b=0):Af f (At f m 2 a b)=0:=(bU hf hm (.inr (.inl rfl)) ha hb).1
theorem CL{f m:Int}(hf:Fm f)(hm:0<=m/\m<=5){a b:Nat}(ha:Af f a=0)(hb:Af f b=0):Af f (At f m 3 a b)=0:=(bU hf hm (.inr (.inr (.inl rfl))) ha hb).1
theorem bT{f m:Int}(hf:Fm f)(hm:0<=m/\m<=5){a b:Nat}(ha:Af f a=0)(hb:Af f b=0):Af f (At f m 4 a b)=0:=(bU hf hm (.inr (.inr (.inr rfl))) ha hb).1
theorem aSa{f m:Int}(hf:Fm f)(hm:0<=m/\m<=5)(g:Int){x y:Bl}(hx:CI f x)(hy:CI f y):
  YJ ((f,m,g,()),cI x,cI y,())=some ((f,m,Dt f m g (cA x y),()),cI (WW f m x y),())/\CI f (WW f m x y):=by
 refine⟨?_,Nz hf hm hx.1 hy.1,Nz hf hm hx.2 hy.2⟩;have p1:=YD hf hm g hx.1 hy.1;have p2:=YD hf hm (Aq .i64 g (Av f m 1 x.1 y.1)) hx.2 hy.2;show pC D4.pre D4.F (f,m,g,()) (cI x) (cI y)=_;unfold pC cI;dsimp only;simp only[bE p1,Z6 p1,bE p2,Z6 p2,cond_true];rfl
theorem aR8{f m:Int}(hf:Fm f)(hm:0<=m/\m<=5)(g:Int){x y:Bl}(hx:CI f x)(hy:CI f y):
  YE ((f,m,g,()),cI x,cI y,())=some ((f,m,Dt f m g (Hm f m x y),()),cI (Dg f m x y),())/\CI f (Dg f m x y):=by
 have q1:=CL hf hm hx.1 hy.1;have q2:=CL hf hm hx.2 hy.2;have q3:=CL hf hm hx.1 hy.2;have q4:=CL hf hm hx.2 hy.1;refine⟨?_,mG hf hm q1 q2,Nz hf hm q3 q4⟩;have p1:=J0 hf hm g hx.1 hy.1;have p2:=J0 hf hm (Aq .i64 g (Av f m 3 x.1 y.1)) hx.2 hy.2;have p3:=J0 hf hm (Aq .i64 (Aq .i64 g (Av f m 3 x.1 y.1)) (Av f m 3 x.2 y.2)) hx.1 hy.2;have p4:=J0 hf hm (Aq .i64 (Aq .i64 (Aq .i64 g (Av f m 3 x.1 y.1)) (Av f m 3 x.2 y.2)) (Av f m 3 x.1 y.2)) hx.2 hy.1;have p5:=aDs hf hm (Aq .i64 (Aq .i64 (Aq .i64 (Aq .i64 g (Av f m 3 x.1 y.1)) (Av f m 3 x.2 y.2)) (Av f m 3 x.1 y.2)) (Av f m 3 x.2 y.1)) q1 q2;have p6:=YD hf hm (Aq .i64 (Aq .i64 (Aq .i64 (Aq .i64 (Aq .i64 g (Av f m 3 x.1 y.1)) (Av f m 3 x.2 y.2)) (Av f m 3 x.1 y.2)) (Av f m 3 x.2 y.1)) (Av f m 2 (At f m 3 x.1 y.1) (At f m 3 x.2 y.2))) q3 q4;show oW F8.pre F8.F F9.pre F9.F D4.pre D4.F (f,m,g,()) (cI x) (cI y)=_;unfold oW cI;dsimp only;simp only[KI p1,Kz p1,KI p2,Kz p2,KI p3,Kz p3,KI p4,Kz p4,aLw p5,aJp p5,bE p6,Z6 p6,cond_true];rfl
end VL
namespace VL
open Go Vx
theorem aW8(x y:Bool):(!(x==y))=(!(y==x)):=by cases x<;>cases y<;>rfl
theorem aW5(f m:Int)(a b:Nat):E5 f m a b=E5 f m b a:=by
 unfold E5;rw[jn (nan f a),jn (AI f a),aW8 (sF f a),jn (Ap f a) (Ap f b),jn (AB f a) (AB f b),ap (Am f a),Int.add_comm (Al f a),oo (Ap f a) (AB f b),oo (AB f a) (Ap f b),jn (AB f b&&Ap f a)]
theorem SM{f m:Int}(hf:Fm f)(hm:0<=m/\m<=5){a b:Nat}(ha:Af f a=0)(hb:Af f b=0):Ds m 3 f a b 0=E5 f m a b:=by
 show Su f m a b=_;unfold Su;rw[if_neg (show ¬¬Fm f from fun h=>h hf),if_neg (by omega),if_neg (fun h=>h ha),if_neg (fun h=>h hb)]
theorem bV{f m:Int}(hf:Fm f)(hm:0<=m/\m<=5){a b:Nat}(ha:Af f a=0)(hb:Af f b=0):Ds m 4 f a b 0=Iv f m a b:=by
 show Sb f m a b=_;unfold Sb;rw[if_neg (show ¬¬Fm f from fun h=>h hf),if_neg (by omega),if_neg (fun h=>h ha),if_neg (fun h=>h hb)]
theorem Uf{f m:Int}(hf:Fm f)(hm:0<=m/\m<=5){a b:Nat}(ha:Af f a=0)(hb:Af f b=0):At f m 1 a b=(Bo f m a b).1/\Av f m 1 a b=((Bo f m a b).2:Int):=by
 have e:Ds m 1 f a b 0=In f m a b:=rfl;have e2:In f m a b=(((Bo f m a b).1:Int),((Bo f m a b).2:Int),0,()):=by
  unfold In;rw[if_pos hf,if_pos hm,if_pos ⟨ha,hb⟩,ZE]
 unfold At Av;rw[e,e2];exact⟨rfl,rfl⟩
theorem zS{f m:Int}(hf:Fm f)(hm:0<=m/\m<=5){a b:Nat}(ha:Af f a=0)(hb:Af f b=0):At f m 2 a b=(Bo f m a (AP f b)).1/\Av f m 2 a b=((Bo f m a (AP f b)).2:Int):=by
 have e:Ds m 2 f a b 0=NA f m a b:=rfl;have e2:NA f m a b=(((Bo f m a (AP f b)).1:Int),((Bo f m a (AP f b)).2:Int),0,()):=by
  unfold NA In;rw[if_pos hb,if_pos hf,if_pos hm,if_pos ⟨ha,IH hf b⟩,ZE]
 unfold At Av;rw[e,e2];exact⟨rfl,rfl⟩
theorem aW9{f m:Int}(hf:Fm f)(hm:0<=m/\m<=5){a b:Nat}(ha:Af f a=0)(hb:Af f b=0):Ds m 3 f a b 0=Ds m 3 f b a 0:=by
 rw[SM hf hm ha hb,SM hf hm hb ha,aW5]
theorem uT{f m:Int}(hf:Fm f)(hm:0<=m/\m<=5){a b:Nat}(ha:Af f a=0)(hb:Af f b=0):At f m 1 a b=At f m 1 b a/\Av f m 1 a b=Av f m 1 b a:=by
 rw[(Uf hf hm ha hb).1,(Uf hf hm ha hb).2,(Uf hf hm hb ha).1,(Uf hf hm hb ha).2,aHw hf ha hb];exact⟨rfl,rfl⟩
theorem cJ{f:Int}(hf:Fm f)(a:Nat):AB f (AP f a)=AB f a:=by unfold AB;rw[j3 hf,xL hf]
theorem aW7{f:Int}(hf:Fm f)(m:Int)(a b:Nat):E5 f m (AP f a) (AP f b)=E5 f m a b:=by
 unfold E5;rw[Ue hf,Ue hf,Hj hf,Hj hf,Wo hf,Wo hf,cJ hf,cJ hf,Wt hf,Wt hf,W8 hf,W8 hf,TW,TW,
  show((!sF f a)==(!sF f b))=(sF f a==sF f b) by cases sF f a<;>cases sF f b<;>rfl]
end VL
namespace VL
open Go Vx
def Ev(m:Int):Prop:=m≠3/\m≠4
theorem aKC{m:Int}(h:Ev m):Hh m=m:=by unfold Hh;rw[if_neg h.1,if_neg h.2]
def BX(f:Int)(a:Nat):Nat:=bif nan f a then a else AP f a
theorem TJ{f:Int}{a:Nat}(h:nan f a=true):BX f a=a:=by unfold BX;rw[h];rfl
theorem Kw{f:Int}{a:Nat}(h:nan f a=false):BX f a=AP f a:=by unfold BX;rw[h];rfl
theorem TI{f:Int}(hf:Fm f){a:Nat}(h:Af f a=0):Af f (BX f a)=0:=by
 cases hn:nan f a
 ·rw[Kw hn];exact IH hf a
 ·rw[TJ hn];exact h
theorem aKI{f:Int}(hf:Fm f)(a:Nat):nan f (BX f a)=nan f a:=by
 cases hn:nan f a
 ·rw[Kw hn,Hj hf,hn]
 ·rw[TJ hn,hn]
theorem aMh{f:Int}(hf:Fm f)(a:Nat):AI f (BX f a)=AI f a:=by
 cases hn:nan f a
 ·rw[Kw hn,Ue hf]
 ·rw[TJ hn]
theorem aIR{f:Int}(hf:Fm f)(s:Bool):C3 f (!s)=BX f (C3 f s):=by
 rcases Ct hf with rfl|rfl|rfl|rfl<;>cases s<;>decide +kernel
theorem v9{f:Int}(hf:Fm f)(s:Bool):Bp f (!s)=BX f (Bp f s):=by
 rcases Ct hf with rfl|rfl|rfl|rfl<;>cases s<;>decide +kernel
theorem kA{f:Int}(hf:Fm f):BX f (BD f)=BD f:=TJ (Hi hf).1
theorem zC{f m:Int}(hf:Fm f)(hm:0<=m/\m<=5)(he:Ev m)(s:Bool)(n:Nat)(e:Int):
  AT f m (!s) n e false=(BX f (AT f m s n e false).1,(AT f m s n e false).2):=by
 have h1:=SG hf m (!s) n e;have h2:=SG hf m s n e;have h3:=aLP (f:=f) hm s n e;rw[aKC he]at h3;rw[h3]at h1;have hle:=bL hf m s n e;have hlt:=ao hle (aL hf);rw[h1,h2];dsimp only;rw[Kw (kZ hf s hle)];unfold AP;rw[aT s hlt,Wu s hlt]
theorem bCk{f m:Int}(hf:Fm f)(hm:0<=m/\m<=5)(he:Ev m)(s:Bool)(n:Nat)(e:Int)(more:Bool):
  FI f m (!s) n e more=(BX f (FI f m s n e more).1,(FI f m s n e more).2):=by
 unfold FI;cases more
 ·exact zC hf hm he s n e
 ·exact zC hf hm he s (2*n+1) (e-1)
theorem aMe(x y:Bool):(!((!x)==y))=!(!(x==y)):=by cases x<;>cases y<;>rfl
theorem aW6{f m:Int}(hf:Fm f)(hm:0<=m/\m<=5)(he:Ev m)(a b:Nat):
  ∃(x:Nat) (g:Int),E5 f m a b=((x:Int),g,0,())/\E5 f m (AP f a) b=((BX f x:Int),g,0,()):=by
 unfold E5;rw[Ue hf,Hj hf,Wo hf,cJ hf,Wt hf,W8 hf,TW,aMe];generalize(!(sF f a==sF f b))=s;rw[zC hf hm he s,aIR hf s,v9 hf s];generalize AT f m s (Am f a*Am f b) (Al f a+Al f b) false=d;cases nan f a||nan f b
 ·cases(Ap f a&&AB f b)||(AB f a&&Ap f b)
  ·cases Ap f a||Ap f b
   ·cases AB f a||AB f b
    ·obtain⟨d1,d2⟩:=d;exact⟨d1,d2,rfl,rfl⟩
    ·simp only[cond_true,cond_false];exact⟨_,_,rfl,rfl⟩
   ·simp only[cond_true,cond_false];exact⟨_,_,rfl,rfl⟩
  ·simp only[cond_true,cond_false];exact⟨_,_,rfl,by rw[kA hf]⟩
 ·simp only[cond_true,cond_false];exact⟨_,_,rfl,by rw[kA hf]⟩
theorem aU3(f m:Int)(n k:Nat)(e:Int):∃(q:Nat) (d:Bool),∀s:Bool,DQ f m s n k e=FI f m s q (e-300) d:=
 ⟨n*2^300/k,decide (n*2^300%k≠0),fun _=>by unfold DQ;rfl⟩
theorem aU4{f m:Int}(hf:Fm f)(hm:0<=m/\m<=5)(he:Ev m)(s:Bool)(n k:Nat)(e:Int):
  DQ f m (!s) n k e=(BX f (DQ f m s n k e).1,(DQ f m s n k e).2):=by
 obtain⟨q,d,h⟩:=aU3 f m n k e;rw[h,h,bCk hf hm he s]
def Sc(f m:Int)(s:Bool)(a b:Nat):Int×Int×Int×Unit:=bif nan f a||nan f b then((BD f:Int),(bif AI f a||AI f b then 1 else 0),0,())else bif(Ap f a&&Ap f b)||(AB f a&&AB f b)then((BD f:Int),1,0,())else bif Ap f a then((C3 f s:Int),0,0,())else bif AB f b then((C3 f s:Int),2,0,())else bif Ap f b||AB f a then((Bp f s:Int),0,0,())else(((DQ f m s (Am f a) (Am f b) (Al f a-Al f b)).1:Int),((DQ f m s (Am f a) (Am f b) (Al f a-Al f b)).2:Int),0,())
theorem aIq(f m:Int)(a b:Nat):Iv f m a b=Sc f m (!(sF f a==sF f b)) a b:=by unfold Iv Sc;rfl
theorem aU9{f:Int}(hf:Fm f)(m:Int)(s:Bool)(a b:Nat):Sc f m s (AP f a) b=Sc f m s a b:=by
 unfold Sc;rw[Ue hf,Hj hf,Wo hf,cJ hf,Wt hf,W8 hf]
theorem aU8{f m:Int}(hf:Fm f)(hm:0<=m/\m<=5)(he:Ev m)(s:Bool)(a b:Nat):
  ∃(x:Nat) (g:Int),Sc f m s a b=((x:Int),g,0,())/\Sc f m (!s) a b=((BX f x:Int),g,0,()):=by
 have h1:=aU4 hf hm he s (Am f a) (Am f b) (Al f a-Al f b);unfold Sc;rw[h1,aIR hf s,v9 hf s];generalize DQ f m s (Am f a) (Am f b) (Al f a-Al f b)=d;cases nan f a||nan f b
 ·cases(Ap f a&&Ap f b)||(AB f a&&AB f b)
  ·cases Ap f a
   ·cases AB f b
    ·cases Ap f b||AB f a
     ·obtain⟨d1,d2⟩:=d;exact⟨d1,d2,rfl,rfl⟩
     ·exact⟨Bp f s,0,rfl,rfl⟩
    ·exact⟨C3 f s,2,rfl,rfl⟩
   ·exact⟨C3 f s,0,rfl,rfl⟩
  ·exact⟨BD f,1,rfl,by rw[kA hf];rfl⟩
 ·exact⟨BD f,bif AI f a||AI f b then 1 else 0,rfl,by rw[kA hf];rfl⟩
theorem aU7{f m:Int}(hf:Fm f)(hm:0<=m/\m<=5)(he:Ev m)(a b:Nat):
  ∃(x:Nat) (g:Int),Iv f m a b=((x:Int),g,0,())/\Iv f m (AP f a) b=((BX f x:Int),g,0,()):=by
 rw[aIq,aIq,aU9 hf,TW,aMe];exact aU8 hf hm he _ a b
theorem aIr{f:Int}(m:Int){a:Nat}(h1:nan f a=false)(h2:AI f a=false)(h3:Ap f a=false)(h4:AB f a=true)(b:Nat):
  Iv f m a b=bif nan f b then((BD f:Int),(bif AI f b then 1 else 0),0,())else bif AB f b then((BD f:Int),1,0,())else((Bp f (!(sF f a==sF f b)):Int),0,0,()):=by
 unfold Iv;rw[h1,h2,h3,h4];cases nan f b<;>cases AB f b<;>simp only[bt,ca,ba,bi,cond_true,cond_false,bg]
section
variable {f m:Int}(hf:Fm f)(hm:0<=m/\m<=5)
include hf hm
theorem zQ(he:Ev m){a b:Nat}(ha:Af f a=0)(hb:Af f b=0):At f m 3 (AP f a) b=BX f (At f m 3 a b)/\Av f m 3 (AP f a) b=Av f m 3 a b:=by
 obtain⟨x,g,h1,h2⟩:=aW6 hf hm he a b;unfold At Av;rw[SM hf hm ha hb,SM hf hm (IH hf a) hb,h1,h2];exact⟨rfl,rfl⟩
theorem WV{a b:Nat}(ha:Af f a=0)(hb:Af f b=0):At f m 3 a b=At f m 3 b a/\Av f m 3 a b=Av f m 3 b a:=by
 unfold At Av;rw[aW9 hf hm ha hb];exact⟨rfl,rfl⟩
theorem aMk(he:Ev m){a b:Nat}(ha:Af f a=0)(hb:Af f b=0):At f m 3 a (AP f b)=BX f (At f m 3 a b)/\Av f m 3 a (AP f b)=Av f m 3 a b:=by
 have h:=zQ hf hm he hb ha;have c1:=WV hf hm ha (IH hf b);have c2:=WV hf hm ha hb;rw[c1.1,c1.2,c2.1,c2.2];exact h
theorem zR{a b:Nat}(ha:Af f a=0)(hb:Af f b=0):At f m 3 (AP f a) (AP f b)=At f m 3 a b/\Av f m 3 (AP f a) (AP f b)=Av f m 3 a b:=by
 unfold At Av;rw[SM hf hm ha hb,SM hf hm (IH hf a) (IH hf b),aW7 hf];exact⟨rfl,rfl⟩
end
def Rv(f:Int)(a b:Nat):Prop:=Af f a=0/\Af f b=0/\((nan f a=true/\b=a)∨(nan f a=false/\nan f b=false/\AY f a=-AY f b))
theorem aPK{f:Int}(hf:Fm f){a:Nat}(h:Af f a=0):Rv f a (BX f a):=by
 refine⟨h,TI hf h,?_⟩;cases hn:nan f a
 ·right;rw[Kw hn,Hj hf,xQ,qf];exact⟨rfl,hn,rfl⟩
 ·left;rw[TJ hn];exact⟨rfl,rfl⟩
theorem aPL{f:Int}{a b:Nat}(h:Rv f a b):Rv f b a:=by
 obtain⟨h1,h2,h3⟩:=h;refine⟨h2,h1,?_⟩;rcases h3 with⟨h4,h5⟩|⟨h4,h5,h6⟩
 ·left;rw[h5];exact⟨h4,rfl⟩
 ·right;exact⟨h5,h4,by omega⟩
theorem aHy{f m:Int}(hf:Fm f)(hm:0<=m/\m<=5)(a b:Nat)(h:nan f (Bo f m a b).1=true):(Bo f m a b).1=BD f:=by
 unfold Bo at h⊢;cases h1:AI f a||AI f b
 ·cases h2:nan f a||nan f b
  ·cases h3:(Ap f a&&Ap f b)&&!(sF f a==sF f b)
   ·rw[fh]at h2;rw[h1,h3]at h;simp only[h2.1,h2.2,br,cond_false]at h;cases h4:Ap f a
    ·cases h5:Ap f b
     ·rw[h4,h5]at h;obtain⟨s,x,g,hh,hx⟩:=aMr hf hm (sF f a) (Am f a) (Al f a) (sF f b) (Am f b) (Al f b);rw[hh]at h;have h':nan f (Cy f s x)=true:=h;rw[kZ hf s hx]at h';cases h'
     ·rw[h4,h5]at h;have h':nan f b=true:=h;rw[h2.2]at h';cases h'
    ·rw[h4]at h;have h':nan f a=true:=h;rw[h2.1]at h';cases h'
   ·rfl
  ·rfl
 ·rfl
theorem aHx{f m:Int}(hf:Fm f)(hm:0<=m/\m<=5)(he:Ev m){a b:Nat}(ha:Af f a=0)(hb:Af f b=0):
  Rv f (Bo f m a b).1 (Bo f m (BX f a) (BX f b)).1/\(Bo f m (BX f a) (BX f b)).2=(Bo f m a b).2:=by
 have c1:=uS (m:=m) hf hm ha hb;have c2:=uS (m:=m) hf hm (TI hf ha) (TI hf hb);cases hn:nan f a||nan f b
 ·rw[fh]at hn;have h:=aUf hf hm a b;rw[aKC he]at h;rw[Kw hn.1,Kw hn.2]at c2⊢;obtain⟨h1,h2,h3⟩:=h;refine⟨⟨c1,c2,?_⟩,h1⟩;cases hq:nan f (Bo f m a b).1
  ·right;exact⟨rfl,by rw[h2,hq],h3 hq⟩
  ·left;rw[aHy hf hm a b hq,aHy hf hm _ _ (by rw[h2,hq])];exact⟨rfl,rfl⟩
 ·have e:Bo f m (BX f a) (BX f b)=Bo f m a b/\nan f (Bo f m a b).1=true:=by
   unfold Bo;rw[aMh hf,aMh hf,aKI hf,aKI hf,hn];cases AI f a||AI f b
   ·exact⟨rfl,(Hi hf).1⟩
   ·exact⟨rfl,(Hi hf).1⟩
  rw[e.1];exact⟨⟨c1,c1,.inl ⟨e.2,rfl⟩⟩,rfl⟩
theorem aXk{f:Int}(hf:Fm f){a:Nat}:AP f (BX f a)=BX f (AP f a):=by
 cases hn:nan f a
 ·rw[Kw hn,Kw (by rw[Hj hf,hn])]
 ·rw[TJ hn,TJ (by rw[Hj hf,hn])]
section
variable {f m:Int}(hf:Fm f)(hm:0<=m/\m<=5)(he:Ev m)
include hf hm he
theorem bDn{a b:Nat}(ha:Af f a=0)(hb:Af f b=0):Rv f (At f m 1 a b) (At f m 1 (BX f a) (BX f b))/\Av f m 1 (BX f a) (BX f b)=Av f m 1 a b:=by
 have h:=aHx hf hm he ha hb;have q1:=Uf hf hm ha hb;have q2:=Uf hf hm (TI hf ha) (TI hf hb);rw[q1.1,q1.2,q2.1,q2.2];exact⟨h.1,by rw[h.2]⟩
theorem bDo{a b:Nat}(ha:Af f a=0)(hb:Af f b=0):Rv f (At f m 2 a b) (At f m 2 (BX f a) (BX f b))/\Av f m 2 (BX f a) (BX f b)=Av f m 2 a b:=by
 have h:=aHx hf hm he ha (IH hf b);have q1:=zS hf hm ha hb;have q2:=zS hf hm (TI hf ha) (TI hf hb);rw[aXk hf]at q2;rw[q1.1,q1.2,q2.1,q2.2];exact⟨h.1,by rw[h.2]⟩
end
theorem lH{f:Int}(hf:Fm f){a:Nat}(h:AY f a=0):AB f a=true:=by
 rw[←aOb hf];unfold AY at h;cases hs:sF f a<;>rw[hs]at h
 ·have h':(Bj f a:Int)=0:=h;omega
 ·have h':-(Bj f a:Int)=0:=h;omega
theorem aK7{f:Int}{a b:Nat}(ha:Af f a=0)(hb:Af f b=0)(h:AY f a=-AY f b)(h0:AY f a≠0):b=AP f a:=by
 have e1:=Sx hb;have e2:Bj f b=Bj f a/\sF f b=!sF f a:=by
  unfold AY at h h0;cases h1:sF f a<;>cases h2:sF f b<;>rw[h1]at h h0<;>rw[h2]at h
  ·exfalso;have h':(Bj f a:Int)=-(Bj f b:Int):=h;have h0':(Bj f a:Int)≠0:=h0;omega
  ·have h':(Bj f a:Int)=-(-(Bj f b:Int)):=h;exact⟨by omega,rfl⟩
  ·have h':-(Bj f a:Int)=-(Bj f b:Int):=h;exact⟨by omega,rfl⟩
  ·exfalso;have h':-(Bj f a:Int)=-(-(Bj f b:Int)):=h;have h0':-(Bj f a:Int)≠0:=h0;omega
 rw[e1,e2.1,e2.2];rfl
theorem aOc{f:Int}(hf:Fm f){a:Nat}(h:AB f a=true):Ap f a=false/\nan f a=false:=by
 unfold AB at h;rw[af,beq_iff_eq,beq_iff_eq]at h;have:=kE hf;unfold Ap nan;rw[h.1,beq_false_of_ne (show(0:Nat)≠A4 f by omega)];exact⟨rfl,rfl⟩
theorem aMd{f:Int}(hf:Fm f)(s:Bool):AY f (Bp f s)=0:=by
 rcases Ct hf with rfl|rfl|rfl|rfl<;>cases s<;>decide +kernel
theorem bDp{f m:Int}(hf:Fm f)(hm:0<=m/\m<=5)(he:Ev m){h h' t:Nat}(r:Rv f h h')(ht:Af f t=0):
  Rv f (At f m 4 h t) (At f m 4 h' t)/\Av f m 4 h' t=Av f m 4 h t:=by
 obtain⟨h1,h2,h3⟩:=r;have c1:=bT hf hm h1 ht;have c2:=bT hf hm h2 ht;rcases h3 with⟨h4,rfl⟩|⟨h4,h5,h6⟩
 ·refine⟨⟨c1,c1,.inl ⟨?_,rfl⟩⟩,rfl⟩;unfold At;rw[bV hf hm h1 ht];unfold Iv;rw[h4,bb,cond_true];exact(Hi hf).1
 ·by_cases h0:AY f h=0
  ·have z1:=lH hf h0;have z2:=lH hf (a:=h') (by omega);have i1:=(aOc hf z1).1;have i2:=(aOc hf z2).1;have s1:=bS h4;have s2:=bS h5;have e1:=aIr m h4 s1 i1 z1 t;have e2:=aIr m h5 s2 i2 z2 t;unfold Rv;unfold At Av at *
   rw[bV hf hm h1 ht,e1]at c1⊢;rw[bV hf hm h2 ht,e2]at c2⊢;cases hn:nan f t
   ·cases hz:AB f t
    ·rw[hn,hz]at c1 c2;simp only[cond_false,ae]at c1 c2⊢;refine⟨⟨c1,c2,.inr ⟨(Hw hf _).2.1,(Hw hf _).2.1,?_⟩⟩,trivial⟩;rw[aMd hf,aMd hf];rfl
    ·rw[hn,hz]at c1;simp only[cond_false,cond_true,ae]at c1⊢;exact⟨⟨c1,c1,.inl ⟨(Hi hf).1,trivial⟩⟩,trivial⟩
   ·rw[hn]at c1;simp only[cond_true,ae]at c1⊢;exact⟨⟨c1,c1,.inl ⟨(Hi hf).1,trivial⟩⟩,trivial⟩
  ·obtain rfl:=aK7 h1 h2 h6 h0;obtain⟨x,g,e1,e2⟩:=aU7 hf hm he h t;unfold At Av at *
   rw[bV hf hm h1 ht,e1]at c1⊢;rw[bV hf hm h2 ht,e2];exact⟨aPK hf c1,rfl⟩
end VL
end
