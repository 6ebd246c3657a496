/- Part 7 of the proof. What is proved: symbolic execution of the functions, proved sound; what each function of the program computes, and that every run ends with it; what these functions compute, in plain numbers. Conditions: each theorem bears its own. -/
import Derived.Test.YthajbkcpnbiobaaGreatDoorVxG6
set_option linter.all false
set_option exponentiation.threshold 1000000
noncomputable section
open Bool renaming and_eq_true->ar,and_false->be,and_self->ba,and_true->bq,eq_iff_iff->gj,false_and->ay,false_or->bm,not_false->bf,not_true->bi,or_comm->rg,or_eq_false_iff->jb,or_eq_true->fh,or_false->br,or_self->bj,or_true->bo,true_and->bl,true_or->bg
open Classical renaming not_not->jv
open Go.IntKind renaming wrap->al
open Int renaming add_zero->lf,eq_ofNat_of_zero_le->cv,le_refl->lc,natAbs_natCast->qd,natCast_mul->kl,sub_self->nn,toNat->aq,toNat_natCast->ao,toNat_zero->bb
open List renaming append_assoc->fy,append_nil->du,drop_eq_getElem_cons->dr,drop_length->gf,drop_of_length_le->jz,drop_replicate->lw,drop_zero->jh,eq_of_mem_replicate->lz,getD_eq_getElem?_getD->aw,getElem?_append_left->cw,getElem?_append_right->cm,getElem?_drop->fe,getElem?_eq_getElem->bw,getElem?_eq_none->dz,length_cons->cy,length_nil->ee,length_replicate->gr,length_set->jj,mem_append->dt,mem_cons->dq,mem_of_mem_drop->ln,mem_of_mem_take->gc,mem_singleton->kw,replicate->bd,replicate_zero->jg,set_append_left->my,set_append_right->gh,set_cons_zero->kf,take_append_drop->le,take_length->dw,take_of_length_le->de,take_succ_eq_append_getElem->kh
open Nat renaming add_comm->jc,add_mul->cu,add_mul_div_left->fj,add_sub_cancel_left->jq,add_zero->dp,div_add_mod->df,div_div_eq_div_mul->fd,div_eq_of_lt->dc,div_eq_zero_iff->ni,div_le_self->ga,div_lt_iff_lt_mul->cj,div_mul_le_self->lx,div_one->oc,eq_zero_or_pos->cg,le_div_iff_mul_le->iu,le_mul_of_pos_right->gw,le_of_lt_succ->qj,le_refl->ci,le_trans->gb,lt_of_le_of_lt->bv,lt_of_lt_of_le->az,lt_of_mul_lt_mul_right->ll,lt_or_ge->bc,lt_trans->gl,lt_trichotomy->gd,mod_add_div->jk,mod_eq_of_lt->ce,mod_lt->cn,mod_mul->nj,mod_one->pw,mod_two_eq_zero_or_one->ka,mul_add->ck,mul_add_div->lg,mul_add_mod->lh,mul_assoc->bu,mul_comm->bt,mul_div_cancel->jn,mul_div_cancel_left->iy,mul_div_mul_right->li,mul_le_mul->ju,mul_le_mul_left->cq,mul_le_mul_right->bh,mul_left_comm->ic,mul_lt_mul_of_pos_right->dl,mul_mod_mul_right->gk,mul_ne_zero->kq,mul_one->gx,mul_pos->ir,mul_right_comm->kg,mul_zero->fu,ne_of_gt->la,one_mul->go,pos_of_ne_zero->np,pow_add->ca,pow_le_pow_right->ax,pow_lt_pow_iff_right->dk,pow_lt_pow_right->ct,pow_mul->gn,pow_one->qz,pow_pos->iq,pow_succ->fm,pow_succ'->iw,pow_zero->iv,sub_add_cancel->kd,sub_self->gu,succ_eq_add_one->kt,two_pow_pos->au,zero_add->dj,zero_le->dv,zero_mul->fq
namespace VL
open Go Vx
theorem LQ(B:Nat)(l:List Nat)(i:Nat)(h:i<l.length):nv B (l.drop i)=l.getD i 0+B*nv B (l.drop (i+1)):=by
 rw[dr h,aw,bw h];rfl
theorem aE7{B:Nat}(hB:2<=B){l:List Nat}(h:∀x∈l,x<B)(i:Nat):nv B (l.take i)<B^i:=by
 have:=C0 hB (l.take i) fun x hx=>h x (gc hx);refine az this (ax (by omega) ?_);rw[List.length_take];exact Nat.min_le_left _ _
theorem bIi{P A A' X Y:Nat}(h:A<P)(hxy:X<Y):A+P*X<A'+P*Y:=by
 have:P*(X+1)<=P*Y:=cq _ hxy;rw[ck,gx]at this;omega
theorem L4{B:Nat}(hB:2<=B){a b:List Nat}(ha:∀x∈a,x<B){i:Nat}(hia:i<a.length)(hib:i<b.length)(hd:nv B (a.drop (i+1))=nv B (b.drop (i+1)))(h:a.getD i 0<b.getD i 0):nv B a<nv B b:=by
 rw[LS B a i (by omega),LS B b i (by omega),LQ B a i hia,LQ B b i hib,hd];exact bIi (aE7 hB ha i) (by omega)
theorem aWQ(a b:List Nat)(ha:Hs a)(hb:Hs b)(hab:a.length=b.length):
  qB ((Wd a,(Wd b,((a.length:Int)-1,()))),())=some (if nv (2^32) a=nv (2^32) b then .inl ((),())else .inr (((if nv (2^32) a<nv (2^32) b then(-1:Int)else 1),()),())):=by
 have key:=Cx aO8 (fun x=>(x.1.2.2.1+1).toNat)
  (fun x=>∃j:Nat,j<=a.length/\nv (2^32) (a.drop j)=nv (2^32) (b.drop j)/\x=((Wd a,(Wd b,((j:Int)-1,()))),()))
  (fun _=>if nv (2^32) a=nv (2^32) b then .inl ((),())else .inr (((if nv (2^32) a<nv (2^32) b then(-1:Int)else 1),()),())) ?_ ((Wd a,(Wd b,((a.length:Int)-1,()))),())
  ⟨a.length,ci _,by rw[gf,hab,gf],rfl⟩
 ·exact key
 intro L x hx hL;obtain⟨j,hj,hd,rfl⟩:=hx;have hla:=ha.2;have hlb:=hb.2;unfold YF;rcases j with _|i
 ·have e1:decide ((((0:Nat):Int)-1)>=0)=false:=rfl;rw[jh,jh]at hd;simp only[e1,ab,ah hd]
 ·have e0:(((i+1:Nat):Int)-1)=(i:Int):=by omega
  have e2:al .i64 ((i:Int)-1)=(i:Int)-1:=Au (by omega);have e3:decide ((i:Int)>=0)=true:=ae (by omega);simp(disch:=omega) only[e0,e2,e3,Be,A2,Bf,AW,AN,Bg,A1,AZ,A9,A8,A7,A6,A4,A3,Bb,Ba,A5,AV,AF,AS,AG,AO,AU,ao,bb,aa,ab,ba,bl,bq,ay,be,bi,bf,bj,bg,bo,bm,br,Ay,BM];rcases gd (a.getD i 0) (b.getD i 0)with h|h|h
  ·have hr:=L4 (by decide) ha.1 (by omega) (by omega) hd h;simp(disch:=omega) only[Be,A2,Bf,AW,AN,Bg,A1,AZ,A9,A8,A7,A6,A4,A3,Bb,Ba,A5,AV,AF,AS,AG,AO,AU,ao,bb,aa,ab,ba,bl,bq,ay,be,bi,bf,bj,bg,bo,bm,br];rw[ag (by omega),ah hr]
  ·simp(disch:=omega) only[Be,A2,Bf,AW,AN,Bg,A1,AZ,A9,A8,A7,A6,A4,A3,Bb,Ba,A5,AV,AF,AS,AG,AO,AU,ao,bb,aa,ab,ba,bl,bq,ay,be,bi,bf,bj,bg,bo,bm,br];refine hL _ ⟨i,by omega,?_,rfl⟩ (by simp only[ao];omega);rw[LQ _ a i (by omega),LQ _ b i (by omega),hd,h]
  ·have hr:=L4 (by decide) hb.1 (by omega) (by omega) hd.symm h;simp(disch:=omega) only[Be,A2,Bf,AW,AN,Bg,A1,AZ,A9,A8,A7,A6,A4,A3,Bb,Ba,A5,AV,AF,AS,AG,AO,AU,ao,bb,aa,ab,ba,bl,bq,ay,be,bi,bf,bj,bg,bo,bm,br];rw[ag (by omega),ag (by omega)]
theorem gA{B:Nat}(hB:2<=B){x y:Nat}(h:(dg B x).length<(dg B y).length):x<y:=by
 have h1:=f8 hB x;rcases bc x y with h2|h2
 ·exact h2
 ·have:=Eg hB (dg B x).length y (by omega);omega
theorem aGT(x y:Nat)(hx:x<2^100000)(hy:y<2^100000):nH (Dh x,Dh y,())=some (if x=y then 0 else if x<y then -1 else 1,()):=by
 show wO qB (Dh x) (Dh y)=_;unfold wO;have hX:=Hs.dg hx;have hY:=Hs.dg hy;have hlx:=hX.2;have hly:=hY.2;rcases gd (dg (2^32) x).length (dg (2^32) y).length with h|h|h
 ·have hr:=gA (by decide) h;have e0:(((dg (2^32) x).length:Int)!=((dg (2^32) y).length:Int))=true:=by rw[uV];exact bne_iff_ne.2 (by omega)
  unfold Dh;simp(disch:=omega) only[Be,A2,Bf,AW,AN,Bg,A1,AZ,A9,A8,A7,A6,A4,A3,Bb,Ba,A5,AV,AF,AS,AG,AO,AU,ao,bb,aa,ab,ba,bl,bq,ay,be,bi,bf,bj,bg,bo,bm,br,Ay,e0];rw[ag (by omega),ah hr]
 ·have hw:=aWQ _ _ hX hY h;rw[FC,FC]at hw;have e0:(((dg (2^32) x).length:Int)!=((dg (2^32) y).length:Int))=false:=by rw[uV,h];simp
  have e2:al .i64 (((dg (2^32) x).length:Int)-1)=((dg (2^32) x).length:Int)-1:=Au (by omega);unfold Dh;simp only[Ay,e0,ab,e2,hw];by_cases he:x=y
  ·rw[ah he,ah he]
  ·rw[ag he,ag he]
 ·have hr:=gA (by decide) h;have e0:(((dg (2^32) x).length:Int)!=((dg (2^32) y).length:Int))=true:=by rw[uV];exact bne_iff_ne.2 (by omega)
  unfold Dh;simp(disch:=omega) only[Be,A2,Bf,AW,AN,Bg,A1,AZ,A9,A8,A7,A6,A4,A3,Bb,Ba,A5,AV,AF,AS,AG,AO,AU,ao,bb,aa,ab,ba,bl,bq,ay,be,bi,bf,bj,bg,bo,bm,br,Ay,e0];rw[ag (by omega),ag (by omega)]
theorem aAj(a:Nat)(h:a<2^33):al .u64 ((a:Int)+4294967296)=((a+2^32:Nat):Int):=by rw[DV (by omega)];omega
theorem W7(a b:Nat)(h:b<=a/\a<2^64):al .u64 ((a:Int)-(b:Int))=((a-b:Nat):Int):=by
 rw[DV (by omega)];omega
theorem bIb{out:List Nat}{n i v:Nat}(hol:out.length=i)(h:i<n):(out++bd (n-i) 0).set i v=(out++[v])++bd (n-(i+1)) 0:=by
 have e:n-i=(n-(i+1))+1:=by omega
 rw[e,List.replicate_succ,gh _ _ (by omega),hol,gu,kf,fy];rfl
theorem aPM{P B A A' O a b c c' v:Nat}(h:A+P*c=A'+O)(h2:a+B*c'=b+c+v):A+P*a+P*B*c'=A'+P*b+(O+P*v):=by
 have h3:P*(a+B*c')=P*(b+c+v):=by rw[h2]
 rw[ck,ck,ck,←bu]at h3;omega
theorem aWR(a b:List Nat)(ha:Hs a)(hb:Hs b)(hba:b.length<=a.length)(hv:nv (2^32) b<=nv (2^32) a):
  qC (((0:Int),(Wd b,(Wd a,((0:Int),((),()))))),(Wd (bd a.length 0),()))=some (.inl (((),()),(Wd (pd (2^32) a.length (nv (2^32) a-nv (2^32) b)),()))):=by
 have key:=Cx (aO9 Aq.pre Aq.F) (fun x=>a.length-x.1.2.2.2.1.toNat)
  (fun x=>∃(i:Nat) (out:List Nat) (c:Nat),i<=a.length/\out.length=i/\(∀x∈out,x<2^32)/\c<=1/\nv (2^32) (a.take i)+(2^32)^i*c=nv (2^32) (b.take i)+nv (2^32) out /\
   x=(((c:Int),(Wd b,(Wd a,((i:Int),((),()))))),(Wd (out++bd (a.length-i) 0),())))
  (fun _=>.inl (((),()),(Wd (pd (2^32) a.length (nv (2^32) a-nv (2^32) b)),()))) ?_ (((0:Int),(Wd b,(Wd a,((0:Int),((),()))))),(Wd (bd a.length 0),()))
  ⟨0,[],0,dv _,rfl,(fun x hx=>by simp at hx),by decide,by simp[nv],rfl⟩
 ·exact key
 intro L x hx hL;obtain⟨i,out,c,hi,hol,hod,hc,hov,rfl⟩:=hx;have hla:=ha.2;unfold YG;rcases bc i a.length with hlt|hge
 ·have hxa:=B0 (by decide) ha.1 i;have hxb:=B0 (by decide) hb.1 i;have hna:=Dg (2^32) a i;have hnb:=Dg (2^32) b i;have hzb:b.length<=i->b.getD i 0=0:=fun h=>by rw[aw,dz h];rfl
  have hset:=fun v=>bIb (v:=v) hol hlt;have hlen:(out++bd (a.length-i) 0).length=a.length:=by simp;omega
  generalize hda:a.getD i 0=da at *
  generalize hdb:b.getD i 0=db at *
  have hgo:∀c' v:Nat,c'<=1->v<2^32->da+2^32*c'=db+c+v->L (((c':Int),(Wd b,(Wd a,(((i+1:Nat):Int),((),()))))),(Wd (out++[v]++bd (a.length-(i+1)) 0),()))=_:=fun c' v h1 h2 h3=>
   hL _ ⟨i+1,out++[v],c',by omega,by simp;omega,JB hod h2,h1,by
    rw[hna,hnb,LR,hol,fm];exact aPM hov h3,rfl⟩ (by simp only[ao];omega)
  have hg1:=fun v=>hgo 1 v (ci _);have hg0:=fun v=>hgo 0 v (dv _);rw[show((1:Nat):Int)=1 from rfl]at hg1;rw[show((0:Nat):Int)=0 from rfl]at hg0;rcases bc i b.length with hib|hib
  ·rcases bc da (c+db)with h|h
   ·simp(disch:=omega) only[Be,A2,Bf,AW,AN,Bg,A1,AZ,A9,A8,A7,A6,A4,A3,Bb,Ba,A5,AV,AF,AS,AG,AO,AU,ao,bb,aa,ab,ba,bl,bq,ay,be,bi,bf,bj,bg,bo,bm,br,Ay,BM,hda,hdb,DL,aAj,W7,hlen,Dz,hset];exact hg1 _ (by omega) (by omega)
   ·simp(disch:=omega) only[Be,A2,Bf,AW,AN,Bg,A1,AZ,A9,A8,A7,A6,A4,A3,Bb,Ba,A5,AV,AF,AS,AG,AO,AU,ao,bb,aa,ab,ba,bl,bq,ay,be,bi,bf,bj,bg,bo,bm,br,Ay,BM,hda,hdb,DL,aAj,W7,hlen,Dz,hset];exact hg0 _ (by omega) (by omega)
  ·have:=hzb hib;rcases bc da c with h|h
   ·simp(disch:=omega) only[Be,A2,Bf,AW,AN,Bg,A1,AZ,A9,A8,A7,A6,A4,A3,Bb,Ba,A5,AV,AF,AS,AG,AO,AU,ao,bb,aa,ab,ba,bl,bq,ay,be,bi,bf,bj,bg,bo,bm,br,Ay,BM,hda,hdb,DL,aAj,W7,hlen,Dz,hset];exact hg1 _ (by omega) (by omega)
   ·simp(disch:=omega) only[Be,A2,Bf,AW,AN,Bg,A1,AZ,A9,A8,A7,A6,A4,A3,Bb,Ba,A5,AV,AF,AS,AG,AO,AU,ao,bb,aa,ab,ba,bl,bq,ay,be,bi,bf,bj,bg,bo,bm,br,Ay,BM,hda,hdb,DL,aAj,W7,hlen,Dz,hset];exact hg0 _ (by omega) (by omega)
 ·have e:i=a.length:=by omega
  subst e;rw[dw,de hba]at hov;have hlt:=C0 (B:=2^32) (by decide) out hod;rw[hol]at hlt;have hc0:(2^32)^a.length*c=0:=by
   rcases(show c=0∨c=1 by omega)with h|h
   ·rw[h,fu]
   ·rw[h,gx]at hov;omega
  have ho:=Ve (B:=2^32) (v:=nv (2^32) a-nv (2^32) b) (by decide) hod hol (by omega);rw[gu,jg,du];simp(disch:=omega) only[Be,A2,Bf,AW,AN,Bg,A1,AZ,A9,A8,A7,A6,A4,A3,Bb,Ba,A5,AV,AF,AS,AG,AO,AU,ao,bb,aa,ab,ba,bl,bq,ay,be,bi,bf,bj,bg,bo,bm,br,Ay];rw[←ho]
theorem aVV(a b:List Nat)(ha:Hs a)(hb:Hs b)(hba:b.length<=a.length)(hv:nv (2^32) b<=nv (2^32) a):bW (Wd a,Wd b,())=some (Dh (nv (2^32) a-nv (2^32) b),()):=by
 show wP Aq.pre Aq.F qC (Wd a) (Wd b)=_;unfold wP;have hw:=aWR a b ha hb hba hv;have hla:=ha.2;have hlt:=C0 (B:=2^32) (by decide) a ha.1;have p0:=VI (l:=pd (2^32) a.length (nv (2^32) a-nv (2^32) b)) ⟨H3 (by decide) _ _,by rw[Dr];omega⟩ (H4 (by decide) _ _ (by omega));have e2:decide ((a.length:Int)*8<=140737488355328)=true:=ae (by omega);simp(disch:=omega) only[Be,A2,Bf,AW,AN,Bg,A1,AZ,A9,A8,A7,A6,A4,A3,Bb,Ba,A5,AV,AF,AS,AG,AO,AU,ao,bb,aa,ab,ba,bl,bq,ay,be,bi,bf,bj,bg,bo,bm,br,Ay,e2,Of,hw];show(bif Aq.pre (Wd (pd (2^32) a.length (nv (2^32) a-nv (2^32) b)),())then some (Aq.F (Wd (pd (2^32) a.length (nv (2^32) a-nv (2^32) b)),()))else none)=_;simp only[Yj p0,aa];rfl
theorem aDv{B:Nat}(hB:2<=B){x y:Nat}(h:y<=x):(dg B y).length<=(dg B x).length:=by
 rcases bc (dg B x).length (dg B y).length with h1|h1
 ·have:=gA hB h1;omega
 ·exact h1
theorem aA3{x y:Nat}(hx:x<2^100000)(h:y<=x):bW (Dh x,Dh y,())=some (Dh (x-y),()):=by
 have:=aVV (dg (2^32) x) (dg (2^32) y) (Hs.dg hx) (Hs.dg (by omega)) (aDv (by decide) h) (by rw[FC,FC];exact h);rwa [FC,FC]at this
theorem Hs.len{n:Nat}(h:n<2^100000):(VL.dg (2^32) n).length<=3125:=by
 have:n<(2^32)^3125:=by rw[←gn];exact h
 exact Eg (B:=2^32) (by decide) 3125 n this
theorem bU{x:Nat}(hx:x<2^100000)(n:Nat)(hn:n<=10000000):bT (Dh x,(n:Int),())=some (Dh (x*2^n),()):=by
 have:=aVT (dg (2^32) x) (Hs.dg hx) (by have:=Hs.len hx;omega) n hn;rwa [FC]at this
theorem aGS{x y:Nat}(hx:x<2^100000)(hy:y<2^100000):bV (Dh x,Dh y,())=some (Dh (x+y),()):=by
 have:=aVU (dg (2^32) x) (dg (2^32) y) (Hs.dg hx) (Hs.dg hy) (by have:=Hs.len hx;omega) (by have:=Hs.len hy;omega);rwa [FC,FC]at this
theorem bC8(x:Nat)(h:x<2^64):Bl .u64 (x:Int) 2=((x/2:Nat):Int):=by
 unfold Bl;have e:(x:Int).tdiv 2=((x/2:Nat):Int):=rfl;rw[e,DV (by omega)]
theorem aEF(x:Nat)(h:x<2^60):Bl .i64 (x:Int) 2=((x/2:Nat):Int):=by
 unfold Bl;have e:(x:Int).tdiv 2=((x/2:Nat):Int):=rfl;rw[e,Au (by omega)]
theorem aE8(x:Nat):Int.tmod (x:Int) 2=((x%2:Nat):Int):=rfl
theorem bIY(a:Nat)(h:a<2^56):al .i64 (32*(a:Int))=((32*a:Nat):Int):=by rw[Au (by omega)];omega
theorem aYD{x:Nat}(h:x≠0):Af x=Af (x/2)+1:=by
 have:=sZ (n:=x) (k:=1);rcases bc x 2 with h1|h1
 ·have:x=1:=by omega
  subst this;decide
 ·have:=this (by omega);rw[this,qz];omega
theorem aWW(x c:Nat)(hx:x<2^64)(hc:c+Af x<2^60):qF (((x:Int),((c:Int),())),())=some (.inl ((((c+Af x:Nat):Int),()),())):=by
 have key:=Cx (aPe Aq.pre Aq.F) (fun y=>y.1.1.toNat)
  (fun y=>∃x' c':Nat,x'<2^64/\c'+Af x'=c+Af x/\y=(((x':Int),((c':Int),())),()))
  (fun _=>.inl ((((c+Af x:Nat):Int),()),())) ?_ (((x:Int),((c:Int),())),()) ⟨x,c,hx,rfl,rfl⟩
 ·exact key
 intro L y hy hL;obtain⟨x',c',hx',hc',rfl⟩:=hy;unfold YL;rcases cg x' with rfl|hp
 ·have:Af 0=0:=by decide
  rw[this,dp]at hc';rw[←hc'];simp(disch:=omega) only[Be,A2,Bf,AW,AN,Bg,A1,AZ,A9,A8,A7,A6,A4,A3,Bb,Ba,A5,AV,AF,AS,AG,AO,AU,ao,bb,aa,ab,ba,bl,bq,ay,be,bi,bf,bj,bg,bo,bm,br]
 ·have hb:=aYD (x:=x') (by omega);simp(disch:=omega) only[Be,A2,Bf,AW,AN,Bg,A1,AZ,A9,A8,A7,A6,A4,A3,Bb,Ba,A5,AV,AF,AS,AG,AO,AU,ao,bb,aa,ab,ba,bl,bq,ay,be,bi,bf,bj,bg,bo,bm,br,bC8];exact hL _ ⟨x'/2,c'+1,by omega,by omega,rfl⟩ (by simp only[ao];omega)
theorem aA6{n:Nat}(hn:n<2^100000):nR (Dh n,())=some ((Af n:Int),()):=by
 show w9 Aq.pre Aq.F qF (Dh n)=_;unfold w9;have hH:=Hs.dg hn;have hl:=Hs.len hn;have p0:=VI hH (FC n);rw[show Wd (dg (2^32) n)=Dh n from rfl]at p0;simp only[Yj p0,aa,Xj];by_cases h0:n=0
 ·subst h0;rfl
 ·rw[af h0,ab];have hlen:0<(dg (2^32) n).length:=by rw[Ez (by decide) (by omega)];simp
  have ht:=Pp (B:=2^32) (by decide) n;have hlast:=W3 (dg (2^32) n) (by rw[ht];exact hlen);rw[ht]at hlast;have hnv:=FC n;rw[LS _ _ ((dg (2^32) n).length-1) (by omega),LQ _ _ _ (by omega)]at hnv;rw[show(dg (2^32) n).length-1+1=(dg (2^32) n).length by omega,gf]at hnv;have htk:=aE7 (B:=2^32) (by decide) hH.1 ((dg (2^32) n).length-1);have htop:=B0 (B:=2^32) (by decide) hH.1 ((dg (2^32) n).length-1);have hb:Af n=32*((dg (2^32) n).length-1)+Af ((dg (2^32) n).getD ((dg (2^32) n).length-1) 0):=by
   rw[←gn]at hnv htk;have:=aCP htk (b:=(dg (2^32) n).getD ((dg (2^32) n).length-1) 0) (by omega);have hnv2:=hnv;simp only[nv,fu,dp]at hnv2;rw[hnv2]at this;exact this
  have hbb:=Db htop;have hw:=aWW ((dg (2^32) n).getD ((dg (2^32) n).length-1) 0) (32*((dg (2^32) n).length-1)) (by omega) (by omega);rw[←hb]at hw;unfold Dh;simp(disch:=omega) only[Be,A2,Bf,AW,AN,Bg,A1,AZ,A9,A8,A7,A6,A4,A3,Bb,Ba,A5,AV,AF,AS,AG,AO,AU,ao,bb,aa,ab,ba,bl,bq,ay,be,bi,bf,bj,bg,bo,bm,br,Ay,BM,bIY,hw]
theorem aFf(a:Nat)(h:a<2^32):al .u64 ((a:Int)*4294967296)=((a*2^32:Nat):Int):=by rw[DV (by omega)];omega
theorem aPV(B:Nat)(l:List Nat)(i x y:Nat)(hi:i<l.length)(hy:l.getD i 0+y=x):nv B (l.set i x)=nv B l+B^i*y:=by
 have:=ZP B l i x hi;rw[←hy,ck]at this;rw[hy]at this;omega
theorem aWX(a:List Nat)(ha:Hs a):
  qG ((Wd a,((0:Int),((),()))),(Wd (bd ((a.length+1)/2) 0),()))=some (.inl (((),()),(Wd (pd (2^64) ((a.length+1)/2) (nv (2^32) a)),()))):=by
 have key:=Cx (aPf Aq.pre Aq.F) (fun x=>a.length-x.1.2.1.toNat)
  (fun x=>∃(i:Nat) (out:List Nat),i<=a.length/\out.length=(a.length+1)/2/\(∀x∈out,x<2^64)/\nv (2^64) out=nv (2^32) (a.take i)/\(∀j,i<=2*j->out.getD j 0=0)/\(i%2=1->out.getD (i/2) 0<2^32) /\
   x=((Wd a,((i:Int),((),()))),(Wd out,())))
  (fun _=>.inl (((),()),(Wd (pd (2^64) ((a.length+1)/2) (nv (2^32) a)),()))) ?_ ((Wd a,((0:Int),((),()))),(Wd (bd ((a.length+1)/2) 0),()))
  ⟨0,bd ((a.length+1)/2) 0,dv _,by simp,(fun x hx=>by have:=lz hx;omega),by rw[u6];simp[nv],(fun j _=>by
   have h:=B0 (B:=1) (by decide) (l:=bd ((a.length+1)/2) 0) (fun x hx=>by have:=lz hx;omega) j;omega),(fun h=>by omega),rfl⟩
 ·exact key
 intro L x hx hL;obtain⟨i,out,hi,hol,hod,hov,hz,ho,rfl⟩:=hx;have hla:=ha.2;unfold YM;rcases bc i a.length with hlt|hge
 ·have hxa:=B0 (by decide) ha.1 i;have hna:=Dg (2^32) a i;generalize hda:a.getD i 0=da at *
  rcases ka i with h2|h2
  ·have hz0:=hz (i/2) (by omega);have hns:=aPV (2^64) out (i/2) da da (by omega) (by omega);simp(disch:=omega) only[Be,A2,Bf,AW,AN,Bg,A1,AZ,A9,A8,A7,A6,A4,A3,Bb,Ba,A5,AV,AF,AS,AG,AO,AU,ao,bb,aa,ab,ba,bl,bq,ay,be,bi,bf,bj,bg,bo,bm,br,Ay,BM,hda,aE8,aEF,Dz];refine hL _ ⟨i+1,out.set (i/2) da,by omega,by rw[jj];exact hol,vT hod (by omega),?_,?_,?_,rfl⟩ (by simp only[ao];omega)
   ·rw[hns,hna,hov];have:(2^64)^(i/2)=(2^32)^i:=by rw[←gn,←gn];congr 1;omega
    rw[this]
   ·intro j hj;rw[gQ (by omega)];exact hz j (by omega)
   ·intro _;rw[show(i+1)/2=i/2 by omega,aDS (by omega)];exact hxa
  ·have hlo:=ho h2;generalize hdo:out.getD (i/2) 0=lo at *
   have hns:=aPV (2^64) out (i/2) (lo+da*2^32) (da*2^32) (by omega) (by omega);simp(disch:=omega) only[Be,A2,Bf,AW,AN,Bg,A1,AZ,A9,A8,A7,A6,A4,A3,Bb,Ba,A5,AV,AF,AS,AG,AO,AU,ao,bb,aa,ab,ba,bl,bq,ay,be,bi,bf,bj,bg,bo,bm,br,Ay,BM,hda,hdo,aE8,aEF,aFf,DL,Dz];refine hL _ ⟨i+1,out.set (i/2) (lo+da*2^32),by omega,by rw[jj];exact hol,vT hod (by omega),?_,?_,?_,rfl⟩ (by simp only[ao];omega)
   ·rw[hns,hna,hov,bt da,←bu];have:(2^64)^(i/2)*2^32=(2^32)^i:=by rw[←gn,←gn,←ca];congr 1;omega
    rw[this]
   ·intro j hj;rw[gQ (by omega)];exact hz j (by omega)
   ·intro h;omega
 ·have e:i=a.length:=by omega
  subst e;rw[dw]at hov;have h1:=Ve (B:=2^64) (by decide) hod hol hov;simp(disch:=omega) only[Be,A2,Bf,AW,AN,Bg,A1,AZ,A9,A8,A7,A6,A4,A3,Bb,Ba,A5,AV,AF,AS,AG,AO,AU,ao,bb,aa,ab,ba,bl,bq,ay,be,bi,bf,bj,bg,bo,bm,br,Ay];rw[←h1]
theorem aV7(a:List Nat)(ha:Hs a):bZ (Wd a,())=some (Dw (nv (2^32) a),()):=by
 show xC Aq.pre Aq.F qG (Wd a)=_;unfold xC;have hla:=ha.2;have hw:=aWX a ha;have hlt:=C0 (B:=2^32) (by decide) a ha.1;have hlt2:nv (2^32) a<(2^64)^((a.length+1)/2):=by
  refine az hlt ?_;rw[←gn,←gn];exact ax (by decide) (by omega)
 have p0:=aG0 (pd (2^64) ((a.length+1)/2) (nv (2^32) a)) (by rw[Dr];omega);rw[Gh (B:=2^64) (by decide) _ (H3 (by decide) _ _),H4 (by decide) _ _ hlt2]at p0;have e2:decide ((((a.length+1)/2:Nat):Int)*8<=140737488355328)=true:=ae (by omega);simp(disch:=omega) only[Be,A2,Bf,AW,AN,Bg,A1,AZ,A9,A8,A7,A6,A4,A3,Bb,Ba,A5,AV,AF,AS,AG,AO,AU,ao,bb,aa,ab,ba,bl,bq,ay,be,bi,bf,bj,bg,bo,bm,br,Ay,aEF,e2,Of,hw];show(bif Aq.pre (Wd (pd (2^64) ((a.length+1)/2) (nv (2^32) a)),())then some (Aq.F (Wd (pd (2^64) ((a.length+1)/2) (nv (2^32) a)),()))else none)=_;simp only[Yj p0,aa];rfl
theorem aV8{n:Nat}(hn:n<2^100000):bZ (Dh n,())=some (Dw n,()):=by
 have:=aV7 (dg (2^32) n) (Hs.dg hn);rwa [FC]at this
theorem bBT{B:Nat}(hB:2<=B){l:List Nat}(h:∀x∈l,x<B)(i:Nat)(hi:i<=l.length):nv B l/B^i=nv B (l.drop i):=by
 rw[LS B l i hi,fj _ _ (iq (by omega)),dc (aE7 hB h i),dj]
theorem bGY{l:List Nat}(hl:Hs l){w s k:Nat}(hs:s<32)(hi:w+k<l.length):
  nv (2^32) l/2^(32*w+s)/(2^32)^k%2^32=(l.getD (w+k) 0+l.getD (w+k+1) 0*2^32)/2^s%2^32:=by
 have e1:nv (2^32) l/2^(32*w+s)/(2^32)^k=nv (2^32) l/(2^32)^(w+k)/2^s:=by
  rw[fd,fd];congr 1;rw[←gn,←gn,←ca,←ca];congr 1;omega
 rw[e1,bBT (by decide) hl.1 _ (by omega),LQ _ _ _ hi];have e2:∃R,nv (2^32) (l.drop (w+k+1))=l.getD (w+k+1) 0+2^32*R:=by
  rcases bc (w+k+1) l.length with h|h
  ·exact⟨_,LQ _ _ _ h⟩
  ·refine⟨0,?_⟩;rw[List.drop_eq_nil_of_le h,aw,dz h];rfl
 obtain⟨R,hR⟩:=e2;rw[hR];generalize l.getD (w+k) 0=x;generalize l.getD (w+k+1) 0=y;have hp:=au s;have e3:x+2^32*(y+2^32*R)=(x+y*2^32)+2^s*(2^32*(2^(32-s)*R)):=by
  have h1:2^s*2^(32-s)=2^32:=by rw[←ca];congr 1;omega
  have h2:2^s*(2^32*(2^(32-s)*R))=2^32*(2^s*2^(32-s)*R):=by
   rw[ic,bu (2^s)]
  rw[h2,h1,ck];omega
 rw[e3,fj _ _ hp,Nat.add_mul_mod_self_left]
theorem iS(x m:Nat)(h:x<2^64)(hm:0<m):Bl .u64 (x:Int) (m:Int)=((x/m:Nat):Int):=by
 unfold Bl;have e:(x:Int).tdiv (m:Int)=((x/m:Nat):Int):=rfl;have:=ga x m;generalize x/m=q at *
 rw[e,DV (by omega)]
theorem aW0(l:List Nat)(hl:Hs l)(w s:Nat)(hs:s<32)(hw:w<=10000000):
  qJ ((Wd l,(((2^s:Nat):Int),((w:Int),((),())))),([],()))=some (.inl (((),()),(Wd (pd (2^32) (l.length-w) (nv (2^32) l/2^(32*w+s)%(2^32)^(l.length-w))),()))):=by
 have key:=Cx (aPi Aq.pre Aq.F) (fun x=>l.length-x.1.2.2.1.toNat)
  (fun x=>∃(k:Nat) (out:List Nat),(w+k<=l.length∨k=0)/\out.length=k/\(∀x∈out,x<2^32)/\nv (2^32) out=nv (2^32) l/2^(32*w+s)%(2^32)^k /\
   x=((Wd l,(((2^s:Nat):Int),(((w+k:Nat):Int),((),())))),(Wd out,())))
  (fun _=>.inl (((),()),(Wd (pd (2^32) (l.length-w) (nv (2^32) l/2^(32*w+s)%(2^32)^(l.length-w))),()))) ?_ ((Wd l,(((2^s:Nat):Int),((w:Int),((),())))),([],()))
  ⟨0,[],.inr rfl,rfl,(fun x hx=>by simp at hx),by simp[nv,pw],rfl⟩
 ·exact key
 intro L x hx hL;obtain⟨k,out,hk,hol,hod,hov,rfl⟩:=hx;have hla:=hl.2;have hp:=au s;unfold YP;rcases bc (w+k) l.length with hlt|hge
 ·have hx:=B0 (by decide) hl.1 (w+k);have hy:=B0 (by decide) hl.1 (w+k+1);have hdig:=bGY hl hs hlt;have hzb:l.length<=w+k+1->l.getD (w+k+1) 0=0:=fun h=>by rw[aw,dz h];rfl
  generalize nv (2^32) l/2^(32*w+s)=X at *
  have hgo:∀v:Nat,v=X/(2^32)^k%2^32->L ((Wd l,(((2^s:Nat):Int),(((w+k+1:Nat):Int),((),())))),(Wd (out++[v]),()))=_:=fun v hv=>
   hL _ ⟨k+1,out++[v],.inl (by omega),by simp;omega,JB hod (by rw[hv];exact cn _ (by decide)),by
    rw[LR,hol,hov,hv,show(2^32)^(k+1)=(2^32)^k*2^32 from rfl,nj],rfl⟩ (by simp only[ao];omega)
  generalize hdx:l.getD (w+k) 0=x at *
  generalize hdy:l.getD (w+k+1) 0=y at *
  rcases bc (w+k+1) l.length with h1|h1
  ·simp(disch:=omega) only[Be,A2,Bf,AW,AN,Bg,A1,AZ,A9,A8,A7,A6,A4,A3,Bb,Ba,A5,AV,AF,AS,AG,AO,AU,ao,bb,aa,ab,ba,bl,bq,ay,be,bi,bf,bj,bg,bo,bm,br,Ay,BM,hdx,hdy,aFf,DL,iS,PX,PY,cy,ee,L3];exact hgo _ hdig.symm
  ·have h0:=hzb h1;rw[h0,fq,dp]at hdig;simp(disch:=omega) only[Be,A2,Bf,AW,AN,Bg,A1,AZ,A9,A8,A7,A6,A4,A3,Bb,Ba,A5,AV,AF,AS,AG,AO,AU,ao,bb,aa,ab,ba,bl,bq,ay,be,bi,bf,bj,bg,bo,bm,br,Ay,BM,hdx,hdy,aFf,DL,iS,PX,PY,cy,ee,L3];exact hgo _ hdig.symm
 ·have e:k=l.length-w:=by omega
  subst e;have h1:=Ve (B:=2^32) (by decide) hod hol hov;simp(disch:=omega) only[Be,A2,Bf,AW,AN,Bg,A1,AZ,A9,A8,A7,A6,A4,A3,Bb,Ba,A5,AV,AF,AS,AG,AO,AU,ao,bb,aa,ab,ba,bl,bq,ay,be,bi,bf,bj,bg,bo,bm,br,Ay];rw[←h1]
theorem aWa(l:List Nat)(hl:Hs l)(n:Nat)(hn:n<=10000000):cC (Wd l,(n:Int),())=some (Dh (nv (2^32) l/2^n),()):=by
 show xJ Aq.pre Aq.F qJ (Wd l) n=_;unfold xJ;have hla:=hl.2;have hw:=aW0 l hl (n/32) (n%32) (cn _ (by decide)) (by omega);rw[show 32*(n/32)+n%32=n by omega]at hw;have hlt:=C0 (B:=2^32) (by decide) l hl.1;have hX:nv (2^32) l/2^n<(2^32)^(l.length-n/32):=by
  rw[cj (au n)];refine az hlt ?_;rw[←gn,←gn,←ca];exact ax (by decide) (by omega)
 rw[ce hX]at hw;have p0:=VI (l:=pd (2^32) (l.length-n/32) (nv (2^32) l/2^n)) ⟨H3 (by decide) _ _,by rw[Dr];omega⟩ (H4 (by decide) _ _ hX);simp(disch:=omega) only[Be,A2,Bf,AW,AN,Bg,A1,AZ,A9,A8,A7,A6,A4,A3,Bb,Ba,A5,AV,AF,AS,AG,AO,AU,ao,bb,aa,ab,ba,bl,bq,ay,be,bi,bf,bj,bg,bo,bm,br,aQt,aSQ,J6,PR,hw];show(bif Aq.pre (Wd (pd (2^32) (l.length-n/32) (nv (2^32) l/2^n)),())then some (Aq.F (Wd (pd (2^32) (l.length-n/32) (nv (2^32) l/2^n)),()))else none)=_;simp only[Yj p0,aa];rfl
theorem aWb{x:Nat}(hx:x<2^100000)(n:Nat)(hn:n<=10000000):cC (Dh x,(n:Int),())=some (Dh (x/2^n),()):=by
 have:=aWa (dg (2^32) x) (Hs.dg hx) n hn;rwa [FC]at this
end VL
namespace VL
open Go Vx
theorem cY{f:Int}(h:Fm f):cX (f,())=some ((fW f:Int),(fP f:Int),(1-(fX f:Int)),()):=by
 rcases CB h with rfl|rfl|rfl|rfl<;>kernel_rfl
theorem aIt{f:Int}(h:¬Fm f):cX (f,())=some (0,0,0,()):=by
 show zN f=_;unfold zN;have hn:∀k:Int,0<=k/\k<4->(f==k)=false:=fun k hk=>Wz _ _ (fun e=>h (by rw[e];exact hk));rw[hn 0 (by omega),hn 1 (by omega),hn 2 (by omega),hn 3 (by omega)];rfl
theorem aIx{f:Int}(h:Fm f)(neg:Bool):pQ (f,neg,())=some ((Bu f neg:Int),()):=by
 rcases CB h with rfl|rfl|rfl|rfl<;>cases neg<;>kernel_rfl
theorem aG7{f:Int}(h:Fm f)(neg:Bool):nV (f,neg,())=some ((Dp f neg:Int),()):=by
 rcases CB h with rfl|rfl|rfl|rfl<;>cases neg<;>kernel_rfl
theorem aWp{f:Int}(h:Fm f)(neg:Bool):oA (f,neg,())=some ((Bu f neg:Int),()):=by
 rcases CB h with rfl|rfl|rfl|rfl<;>cases neg<;>kernel_rfl
theorem aBh{f:Int}(h:Fm f):pM (f,())=some ((Cu f:Int),()):=by
 rcases CB h with rfl|rfl|rfl|rfl<;>kernel_rfl
theorem bAY{f:Int}(h:Fm f)(neg:Bool):1<=Dp f neg/\Dp f neg<2^64:=by
 rcases CB h with rfl|rfl|rfl|rfl<;>cases neg<;>decide
theorem aV6{f:Int}(h:Fm f)(m:Int)(neg:Bool):nS (f,m,neg,())=some ((UY f m neg:Int),()):=by
 show xA GP.pre GP.F f m neg=_;have p0:=aG7 h neg;have hp:=bAY h neg;have e1:al .u64 ((Dp f neg:Int)-1)=((Dp f neg-1:Nat):Int):=W7 _ 1 (by omega);unfold xA UY;simp only[aME p0,aa,e1];show(bif J3 m neg then _ else _)=_;cases J3 m neg<;>rfl
theorem FA{f:Int}(hf:Fm f):fP f<=53:=by
 rcases CB hf with rfl|rfl|rfl|rfl<;>decide
theorem uQ{m:Int}(hm:0<=m/\m<=5):m=0∨m=1∨m=2∨m=3∨m=4∨m=5:=by omega
theorem aS8(n:Nat):(decide ((0:Int)<(((Dh n).length:Nat):Int))||!decide ((((Dh n).length:Nat):Int)>0))=true:=by
 cases decide ((((Dh n).length:Nat):Int)>0)<;>rfl
theorem aTa(u:Nat):(decide ((((Dh u).length:Nat):Int)>0)&&(Int.tmod ((Dh u).getD (aq 0) 0) 2==1))=decide (u%2=1):=by
 rw[bb,aS7,aE8,show(u%2^32)%2=u%2 by omega];rcases ka u with h|h
 ·rw[h];simp
 ·have:0<(Dh u).length:=aS9 (by omega);rw[h,ae (show(((Dh u).length:Nat):Int)>0 by omega)];rfl
theorem bBz(N n:Nat):N-N/2^n*2^n=N%2^n:=by
 have:=jk N (2^n);rw[bt]at this;omega
theorem aG1{m:Int}(hm:0<=m/\m<=5)(neg:Bool)(N:Nat)(E q:Int)(hN:N<2^50000)(hb:-20000<=E/\E<=20000/\-20000<=q/\q<=20000)(hsh:q<=E->N*2^(E-q).toNat<2^100000):
  nT (m,(neg,Dh N,E,()),q,())=some (Dh (BF m neg N E q false),decide (Dm N E q false≠0),()):=by
 show xB Ub.pre Ub.F GN.pre GN.F GK.pre GK.F GM.pre GM.F GL.pre GL.F m (neg,Dh N,E,()) q=_;have hN2:N<2^100000:=gl hN (ct (by decide) (by decide));unfold xB BF;rw[Pn];dsimp only;by_cases hqE:q<=E
 ·obtain⟨d,hd⟩:=cv (show 0<=E-q by omega);have e0:al .i64 (E-q)=(d:Int):=by rw[Au (by omega)];exact hd
  have p0:=bU hN2 d (by omega);rw[ae hqE,aa,e0];simp only[fR p0,aa];rw[Z3 hqE,WV hqE,hd,ao];rfl
 ·obtain⟨n,hn⟩:=cv (show 0<=q-E by omega);have e0:al .i64 (q-E)=(n:Int):=by rw[Au (by omega)];exact hn
  have e1:al .i64 ((n:Int)-1)=((n-1:Nat):Int):=AN _ (by omega);have hQN:N/2^n*2^n<=N:=lx _ _;have hQ2:N/2^n<=N:=ga _ _;have p0:=aWb hN2 n (by omega);have p1:=bU (x:=N/2^n) (by omega) n (by omega);have p2:=aA3 hN2 hQN;rw[bBz]at p2;rw[af hqE,ab,e0,Z2 (by omega),WU (by omega),hn,ao];simp only[aY1 p0,aa,fR p1,aCW p2,Xj];have hRN:=Nat.mod_le N (2^n);generalize N/2^n=Q at *
  generalize N%2^n=R at *
  by_cases hR:R=0
  ·subst hR;rw[ae rfl,aa];rfl
  ·have hQ1:1<2^100000:=az (show 1<2^1 by decide) (ax (by decide) (by decide));have p3:=bU (x:=1) hQ1 (n-1) (by omega);rw[aFi (by decide) (by decide),go]at p3;have hH:2^(n-1)<2^100000:=ct (by decide) (by omega);have p4:=aGT R (2^(n-1)) (by omega) hH;have p5:=aGS (x:=Q) (y:=1) (by omega) hQ1;rw[aFi (x:=1) (by decide) (by decide)]at p5;rw[show((1:Nat):Int)=1 from rfl]at p3 p5;have hcls:B5 R n≠0:=by
    unfold B5;rw[ag hR];split
    ·decide
    ·split<;>decide
   have hcut:(if B5 R n≠0/\Df m neg (decide (Q%2=1)) (B5 R n)=true then Q+1 else Q)=bif Df m neg (decide (Q%2=1)) (B5 R n)then Q+1 else Q:=by
    cases h:Df m neg (decide (Q%2=1)) (B5 R n)with
    |true=>rw[ah ⟨hcls,rfl⟩];rfl
    |false=>rw[ag (fun hh=>by cases hh.2)];rfl
   rw[hcut,af hR,ab,ae hcls];simp only[e1,fR p3,aMy p4,aa,aS8,aTa,aMx p5];generalize hcmp:(if R=2^(n-1)then(0:Int)else if R<2^(n-1)then -1 else 1)=cmp at *
   have hcase:(cmp=-1/\B5 R n=1)∨(cmp=0/\B5 R n=2)∨(cmp=1/\B5 R n=3):=by
    unfold B5;rw[ag hR,←hcmp];rcases gd R (2^(n-1))with h|h|h
    ·left;rw[ag (by omega),ah h,ah h];exact⟨rfl,rfl⟩
    ·right;left;rw[ah h,ag (by omega),ah h];exact⟨rfl,rfl⟩
    ·right;right;rw[ag (by omega),ag (by omega),ag (by omega),ag (by omega)];exact⟨rfl,rfl⟩
   generalize B5 R n=cl at *
   generalize decide (Q%2=1)=odd at *
   clear hcut hcmp p0 p1 p2 p3 p4 p5 hcls;rcases hcase with⟨rfl,rfl⟩|⟨rfl,rfl⟩|⟨rfl,rfl⟩<;>rcases uQ hm with rfl|rfl|rfl|rfl|rfl|rfl<;>cases neg<;>cases odd<;>rfl
theorem aDt{f m:Int}(hf:Fm f){neg:Bool}{n:Nat}{e q:Int}(h:Az n e-fP f+1<=q):BF m neg n e q false<=2^fP f:=aDs h
theorem aVS{f m:Int}(hf:Fm f)(hm:0<=m/\m<=5)(neg:Bool)(N:Nat)(E:Int)(h0:N≠0)(hN:N<2^6000)(hE:-6000<=E/\E<=6000):
  nG (f,m,(neg,Dh N,E,()),())=some (((AT f m neg N E false).1:Int),((AT f m neg N E false).2:Int),()):=by
 show wL B3.pre B3.F T8.pre T8.F Ef.pre Ef.F Ua.pre Ua.F T9.pre T9.F T7.pre T7.F f m (neg,Dh N,E,())=_;have hP:=CZ hf;have hPW:=D7 hf;have hW:=EG hf;have hX:=LJ hf;have hX15:=JL hf;have hbl:=Db hN;have hbl1:=fL h0;have htop:Az N E=E+(Af N:Int)-1:=rfl;have hNbig:N<2^50000:=gl hN (ct (by decide) (by decide));have pP:=cY hf;have pB:=aA6 (n:=N) (gl hN (ct (by decide) (by decide)));have pY:=aV6 hf m neg;have pS:=aIx hf neg;have e1:al .i64 (al .i64 (E+(Af N:Int))-1)=Az N E:=by rw[Au (n:=E+_) (by omega),Au (by omega)];rfl
 have e2:al .i64 (1-(1-(fX f:Int)))=(fX f:Int):=by rw[Au (by omega)];omega
 have e3:al .i64 (al .i64 ((if 1-(fX f:Int)>Az N E then 1-(fX f:Int)else Az N E)-(fP f:Int))+1)=BY f (Az N E):=by
  unfold BY;have hb:-100000<=(if 1-(fX f:Int)>Az N E then 1-(fX f:Int)else Az N E)/\(if 1-(fX f:Int)>Az N E then 1-(fX f:Int)else Az N E)<=100000:=by split<;>omega
  rw[Au (n:=_-(fP f:Int)) (by omega),Au (by omega)]
 have e4:al .i64 (al .i64 ((1-(fX f:Int))-(fP f:Int))+1)=1-(fX f:Int)-(fP f:Int)+1:=by
  rw[Au (n:=_-(fP f:Int)) (by omega),Au (by omega)]
 have e5:al .i64 (Az N E-(fP f:Int)+1)=Az N E-(fP f:Int)+1:=Au (by omega);have e6:al .i64 (Az N E-(fP f:Int))=Az N E-(fP f:Int):=Au (by omega);unfold wL AT;dsimp only;simp only[Wg pP,aa,aCZ pB,e1,e2,e3,e4,e5,e6,aYZ pY,aMZ pS];by_cases hov:Az N E>fX f
 ·rw[ah hov,ae hov,aa];rfl
 rw[ag hov,af hov,ab];have hlow:Az N E-(fP f:Int)+1<=BY f (Az N E)/\1-(fX f:Int)-(fP f:Int)+1<=BY f (Az N E)/\BY f (Az N E)<=2000/\BY f (Az N E)<=(fX f:Int)-(fP f:Int)+1/\(BY f (Az N E)≠1-(fX f:Int)-(fP f:Int)+1->BY f (Az N E)=Az N E-(fP f:Int)+1):=by
  unfold BY;split<;>refine⟨?_,?_,?_,?_,?_⟩<;>omega
 generalize hqd:BY f (Az N E)=q at *
 have hshl:∀q:Int,-20000<=q->q<=E->N*2^(E-q).toNat<2^100000:=fun q h1 h2=>by
  have h3:N*2^(E-q).toNat<2^6000*2^(E-q).toNat:=dl hN (au _);rw[←ca]at h3;exact az h3 (ax (by decide) (by omega))
 have p61:=aG1 hm neg N E q hNbig (by omega) (hshl q (by omega));have hu:=aDt (m:=m) (neg:=neg) hf hlow.1;have hu64:BF m neg N E q false<=2^53:=gb hu (ax (by decide) (FA hf));have p591:=aA6 (n:=BF m neg N E q false) (bv hu64 (ct (by decide) (by decide)));have p62:=aV8 (n:=BF m neg N E q false) (bv hu64 (ct (by decide) (by decide)));have p63:=aG1 hm neg N E (Az N E-(fP f:Int)+1) hNbig (by omega) (hshl _ (by omega));have hu2:=aDt (m:=m) (neg:=neg) hf (lc (Az N E-(fP f:Int)+1));have hu264:BF m neg N E (Az N E-(fP f:Int)+1) false<=2^53:=gb hu2 (ax (by decide) (FA hf));have p592:=aA6 (n:=BF m neg N E (Az N E-(fP f:Int)+1) false) (bv hu264 (ct (by decide) (by decide)));have hU0:BF m neg N E q false=0->q=1-(fX f:Int)-(fP f:Int)+1:=fun h=>by
  by_cases hq:q=1-(fX f:Int)-(fP f:Int)+1
  ·exact hq
  ·exfalso;have hq2:=hlow.2.2.2.2 hq;have hQ:Hb N E q=0:=by
    unfold BF at h;split at h
    ·omega
    ·exact h
   by_cases hqE:q<=E
   ·rw[WV hqE]at hQ;have:=ir (show 0<N by omega) (au (E-q).toNat);omega
   ·rw[WU (by omega),ni]at hQ;rcases hQ with hQ|hQ
    ·have:=au (q-E).toNat;omega
    ·have:=Db hQ;omega
 have hb1:=Db (show BF m neg N E q false<2^60 by omega);have hb2:=Db (show BF m neg N E (Az N E-(fP f:Int)+1) false<2^60 by omega);have htny:D9 f m neg N E false↔(Az N E<1-(fX f:Int)/\Az N E-(fP f:Int)+(Af (BF m neg N E (Az N E-(fP f:Int)+1) false):Int)<1-(fX f:Int)):=Iff.rfl;have hodd:Dm N E q false=0↔¬(Dm N E q false≠0):=by omega
 simp only[htny];generalize hU:BF m neg N E q false=U at *
 generalize hU2:BF m neg N E (Az N E-(fP f:Int)+1) false=U2 at *
 generalize hRd:Dm N E q false=R at *
 generalize Az N E=t at *
 have e7:al .i64 (al .i64 (q+(Af U:Int))-1)=q+(Af U:Int)-1:=by
  rw[Au (n:=q+_) (by omega),Au (by omega)]
 have e8:al .i64 (t-(fP f:Int)+(Af U2:Int))=t-(fP f:Int)+(Af U2:Int):=Au (by omega);obtain⟨k,hk⟩:=cv (show 0<=q-(1-(fX f:Int)-(fP f:Int)+1) by omega);have e9:al .u64 (al .i64 (k:Int))=(k:Int):=by
  rw[Au (by omega),J6 _ (by omega)]
 have e10:al .u64 (al .i64 ((fP f:Int)-1))=((fP f-1:Nat):Int):=by
  rw[AN _ (by omega),J6 _ (by omega)]
 have hhalf:=aOE hf;have hpp:=au (fP f-1);have hk2:k<=2*fX f-1:=by omega
 have hkp:k*2^(fP f-1)<=(2*fX f-1)*2^(fP f-1):=bh _ hk2;have hW1:2^(fW f-1)<=2^63:=ax (by decide) (by omega);have e11:Bk .u64 (k:Int) ((fP f-1:Nat):Int)=((k*2^(fP f-1):Nat):Int):=by
  rw[H7 _ _ (by omega),ce (by omega)]
 have hs:Bu f neg<=2^63:=by unfold Bu;split<;>omega
 have e12:al .u64 ((U:Int)+((k*2^(fP f-1):Nat):Int))=((U+k*2^(fP f-1):Nat):Int):=DL _ _ (by omega);have e13:al .u64 ((Bu f neg:Int)+((U+k*2^(fP f-1):Nat):Int))=((Bu f neg+(U+k*2^(fP f-1)):Nat):Int):=DL _ _ (by omega);have hDg:(Dw U).getD (aq 0) 0=(U:Int):=by rw[bb,P0,ce (by omega)]
 have eOr:Ao .i64 16 8=24:=by decide
 simp only[aMB p61,aa,aCZ p591,e7];by_cases hov2:q+(Af U:Int)-1>fX f
 ·rw[ah hov2,ae hov2,aa];rfl
 rw[ag hov2,af hov2,ab,hk,ao];have hval:Bu f neg+(U+k*2^(fP f-1))=k*2^(fP f-1)+U+Bu f neg:=by omega
 have hfl:((if R=0 then 0 else if t<1-(fX f:Int)/\t-(fP f:Int)+(Af U2:Int)<1-(fX f:Int)then 24 else 16:Nat):Int) =
   (bif !(decide (R≠0))then(0:Int)else bif decide (t<1-(fX f:Int))then(bif decide (t-(fP f:Int)+(Af U2:Int)<1-(fX f:Int))then 24 else 16)else 16):=by
  by_cases h1:R=0
  ·rw[ah h1,af (by omega)];rfl
  ·rw[ag h1,ae h1];by_cases h2:t<1-(fX f:Int)
   ·by_cases h3:t-(fP f:Int)+(Af U2:Int)<1-(fX f:Int)
    ·rw[ah ⟨h2,h3⟩,ae h2,ae h3];rfl
    ·rw[ag (fun h=>h3 h.2),ae h2,af h3];rfl
   ·rw[ag (fun h=>h2 h.1),af h2];rfl
 rw[hfl];simp only[aY0 p62,aa,e8,e9,e10,e11,e12,e13,hDg,aMB p63,aCZ p592,eOr];by_cases hUz:U=0
 ·have hk0:k=0:=by have:=hU0 hUz;omega
  have eL:decide ((((Dw U).length:Nat):Int)>0)=false:=by rw[hUz,Fl];rfl
  have ev:k*2^(fP f-1)+U+Bu f neg=Bu f neg:=by rw[hk0,hUz,fq,dj]
  rw[eL,ab,ev];cases decide (R≠0)<;>cases decide (t<1-(fX f:Int))<;>cases decide (t-(fP f:Int)+(Af U2:Int)<1-(fX f:Int))<;>rfl
 ·have eL:decide ((((Dw U).length:Nat):Int)>0)=true:=L9 hUz;have eL2:decide ((0:Int)<(((Dw U).length:Nat):Int))=true:=Xk hUz;rw[eL,aa,aa,hval];cases decide (R≠0)<;>cases decide (t<1-(fX f:Int))<;>cases decide (t-(fP f:Int)+(Af U2:Int)<1-(fX f:Int))<;>rfl
theorem aIw{f m:Int}(hf:Fm f)(hm:0<=m/\m<=5)(neg:Bool)(N:Nat)(E:Int)(zn:Bool)(hN:N<2^6000)(hE:-6000<=E/\E<=6000):
  pN (f,m,(neg,Dh N,E,()),zn,())=some (((if N=0 then(Bu f zn,0)else AT f m neg N E false:Nat×Nat).1:Int),((if N=0 then(Bu f zn,0)else AT f m neg N E false:Nat×Nat).2:Int),()):=by
 show zT Uk.pre Uk.F T4.pre T4.F f m (neg,Dh N,E,()) zn=_;unfold zT;dsimp only;rw[Xj];by_cases h:N=0
 ·have p0:=aWp hf zn;rw[ae h,aa,ah h];simp only[aY8 p0,aa];rfl
 ·have p0:=aVS hf hm neg N E h hN hE;rw[af h,ab,ag h];simp only[aYS p0,aa]
end VL
namespace VL
open Go Vx
def Ea(nx:Bool)(X:Nat)(ex:Int)(ny:Bool)(Y:Nat)(ey:Int):Bool×Nat×Int:=
 if X=0 then(ny,Y,ey)else if Y=0 then(nx,X,ex)else
 let e:=if ey<ex then ey else ex
 let a:=X*2^(ex-e).toNat
 let b:=Y*2^(ey-e).toNat
 if nx=ny then(nx,a+b,e)else if b<=a then(nx,a-b,e)else(ny,b-a,e)
theorem vU{X:Nat}(hX:X<2^53){d:Nat}(hd:d<=5000):X*2^d<2^5053:=by
 have h1:X*2^d<2^53*2^d:=dl hX (au _);rw[←ca]at h1;exact az h1 (ax (by decide) (by omega))
theorem aWJ(nx:Bool)(X:Nat)(ex:Int)(ny:Bool)(Y:Nat)(ey:Int)(hX:X<2^53)(hY:Y<2^53)(hex:-2000<=ex/\ex<=2000)(hey:-2000<=ey/\ey<=2000):
  pO ((nx,Dh X,ex,()),(ny,Dh Y,ey,()),())=some (((Ea nx X ex ny Y ey).1,Dh (Ea nx X ex ny Y ey).2.1,(Ea nx X ex ny Y ey).2.2,()),()):=by
 show zU GK.pre GK.F GL.pre GL.F GM.pre GM.F GN.pre GN.F (nx,Dh X,ex,()) (ny,Dh Y,ey,())=_;unfold zU Ea;dsimp only;rw[Xj,Xj];by_cases h1:X=0
 ·rw[ae h1,aa,ah h1]
 rw[af h1,ab,ag h1];by_cases h2:Y=0
 ·rw[ae h2,aa,ah h2]
 rw[af h2,ab,ag h2];have he:(if ey<ex then ey else ex)<=ex/\(if ey<ex then ey else ex)<=ey/\-2000<=(if ey<ex then ey else ex):=by split<;>omega
 generalize(if ey<ex then ey else ex)=e at *
 obtain⟨d1,hd1⟩:=cv (show 0<=ex-e by omega);obtain⟨d2,hd2⟩:=cv (show 0<=ey-e by omega);have e1:al .i64 (d1:Int)=(d1:Int):=Au (by omega);have e2:al .i64 (d2:Int)=(d2:Int):=Au (by omega);have g1:X<2^100000:=gl hX (ct (by decide) (by decide));have g2:Y<2^100000:=gl hY (ct (by decide) (by decide));have p1:=bU g1 d1 (by omega);have p2:=bU g2 d2 (by omega);have k1:=gl (vU hX (d:=d1) (by omega)) (ct (a:=2) (n:=100000) (by decide) (by decide));have k2:=gl (vU hY (d:=d2) (by omega)) (ct (a:=2) (n:=100000) (by decide) (by decide));have p3:=aGS k1 k2;have p4:=aGT _ _ k1 k2;simp only[e1,e2,fR p1,fR p2,aa,hd1,hd2,ao];generalize X*2^d1=a at *
 generalize Y*2^d2=b at *
 by_cases hn:nx=ny
 ·subst hn;have:(nx==nx)=true:=by cases nx<;>rfl
  rw[this,aa,ah rfl];simp only[aMx p3,aa]
 ·have:(nx==ny)=false:=by cases nx<;>cases ny<;>first|rfl|exact absurd rfl hn
  rw[this,ab,ag hn];simp only[aMy p4,aa];by_cases hle:b<=a
  ·have p5:=aA3 k1 hle;have z:decide ((if a=b then(0:Int)else if a<b then -1 else 1)>=0)=true:=by
    by_cases hab:a=b
    ·rw[ah hab];rfl
    ·rw[ag hab,ag (by omega)];rfl
   simp only[z,aa,aCW p5,ah hle]
  ·have p5:=aA3 (y:=a) k2 (by omega);have z:decide ((if a=b then(0:Int)else if a<b then -1 else 1)>=0)=false:=by
    rw[ag (by omega),ah (by omega)];rfl
   simp only[z,ab,aCW p5,ag hle,aa]
theorem bIx(nx:Bool)(X:Nat)(ex:Int)(ny:Bool)(Y:Nat)(ey:Int)(hX:X<2^53)(hY:Y<2^53)(hex:-2000<=ex/\ex<=2000)(hey:-2000<=ey/\ey<=2000):
  (Ea nx X ex ny Y ey).2.1<2^6000/\-6000<=(Ea nx X ex ny Y ey).2.2/\(Ea nx X ex ny Y ey).2.2<=6000:=by
 have g1:X<2^6000:=gl hX (ct (by decide) (by decide));have g2:Y<2^6000:=gl hY (ct (by decide) (by decide));unfold Ea;dsimp only;have he:(if ey<ex then ey else ex)<=ex/\(if ey<ex then ey else ex)<=ey/\-2000<=(if ey<ex then ey else ex):=by split<;>omega
 generalize(if ey<ex then ey else ex)=e at *
 have k1:=vU hX (d:=(ex-e).toNat) (by omega);have k2:=vU hY (d:=(ey-e).toNat) (by omega);have k3:2^5053+2^5053<=2^6000:=by
  rw[←Nat.two_mul,←iw];exact ax (by decide) (by decide)
 generalize X*2^(ex-e).toNat=a at *
 generalize Y*2^(ey-e).toNat=b at *
 generalize 2^5053=P at *
 generalize 2^6000=P2 at *
 split
 ·exact⟨g2,by dsimp only;omega,by dsimp only;omega⟩
 split
 ·exact⟨g1,by dsimp only;omega,by dsimp only;omega⟩
 split
 ·exact⟨by dsimp only;omega,by dsimp only;omega,by dsimp only;omega⟩
 split
 ·exact⟨by dsimp only;omega,by dsimp only;omega,by dsimp only;omega⟩
 ·exact⟨by dsimp only;omega,by dsimp only;omega,by dsimp only;omega⟩
theorem bIF{f m:Int}(hf:Fm f)(nx:Bool)(X:Nat)(ex:Int)(ny:Bool)(Y:Nat)(ey:Int)(zn:Bool)(hz:zn=if X=0/\Y=0/\nx=ny then nx else(m==4)):
  (if(Ea nx X ex ny Y ey).2.1=0 then(Bu f zn,0)else AT f m (Ea nx X ex ny Y ey).1 (Ea nx X ex ny Y ey).2.1 (Ea nx X ex ny Y ey).2.2 false)=DJ f m nx X ex ny Y ey:=by
 by_cases hX:X=0
 ·subst hX;rw[v0,W2 hf];unfold Ea;rw[ah rfl];dsimp only;by_cases hY:Y=0
  ·rw[ah hY,ah hY,hz];by_cases hn:nx=ny
   ·rw[ah ⟨rfl,hY,hn⟩,ah hn.symm,hn]
   ·rw[ag (fun h=>hn h.2.2),ag (Ne.symm hn)]
  ·rw[ag hY,ag hY]
 by_cases hY:Y=0
 ·subst hY;rw[W2 hf,ag hX];unfold Ea;rw[ag hX,ah rfl];dsimp only;rw[ag hX]
 rw[ag (fun h=>hX h.1)]at hz;subst hz;obtain⟨e,he⟩:∃e,(if ex<=ey then ex else ey)=e:=⟨_,rfl⟩
 obtain⟨a,ha⟩:∃a,X*2^(ex-e).toNat=a:=⟨_,rfl⟩
 obtain⟨b,hb⟩:∃b,Y*2^(ey-e).toNat=b:=⟨_,rfl⟩
 have he2:(if ey<ex then ey else ex)=e:=by rw[←he];split<;>split<;>omega
 have hD:Ea nx X ex ny Y ey=if nx=ny then(nx,a+b,e)else if b<=a then(nx,a-b,e)else(ny,b-a,e):=by
  unfold Ea;rw[ag hX,ag hY];simp only[he2,ha,hb]
 have hS:DJ f m nx X ex ny Y ey=if nx=ny then(if a+b=0 then(Bu f nx,0)else AT f m nx (a+b) e false)
   else if a=b then(Bu f (m==4),0)else if b<a then AT f m nx (a-b) e false else AT f m ny (b-a) e false:=by
  unfold DJ;simp only[he,ha,hb]
 have ha0:0<a:=by rw[←ha];exact ir (by omega) (au _)
 have hb0:0<b:=by rw[←hb];exact ir (by omega) (au _)
 rw[hD,hS];by_cases hn:nx=ny
 ·rw[ah hn,ah hn];dsimp only;rw[ag (by omega),ag (by omega)]
 ·rw[ag hn,ag hn];rcases gd a b with h|h|h
  ·rw[ag (show ¬b<=a by omega)];dsimp only;rw[ag (show ¬b-a=0 by omega),ag (show ¬a=b by omega),ag (show ¬b<a by omega)]
  ·rw[ah (show b<=a by omega)];dsimp only;rw[ah (show a-b=0 by omega),ah h]
  ·rw[ah (show b<=a by omega)];dsimp only;rw[ag (show ¬a-b=0 by omega),ag (show ¬a=b by omega),ah h]
theorem gK{f:Int}(hf:Fm f){a:Nat}(ha:a<2^64):pJ (f,(a:Int),())=some (decide (Ai f a=0),()):=by
 show zO B3.pre B3.F f a=_;unfold zO;have p0:=cY hf;have hW:=EG hf;have h2:=D7 hf;simp only[Wg p0,aa];have e1:al .u64 (fW f:Int)=(fW f:Int):=J6 _ (by omega);rw[e1,DT _ _ hW,Ge];have hc:Ai f a=0↔a<2^fW f:=by
  unfold Ai;rw[ah hf];split<;>simp_all
 have:(((fW f:Int)==64)||(a/2^fW f==0))=decide (Ai f a=0):=by
  rw[gj,fh,beq_iff_eq,beq_iff_eq,ai,hc];constructor
  ·rintro (h|h)
   ·have:fW f=64:=by omega
    rw[this];exact ha
   ·rw[ni]at h;rcases h with h|h
    ·have:=au (fW f);omega
    ·exact h
  ·intro h;right;exact dc h
 rw[this]
theorem aBe(f m:Int):pL (f,m,())=some ((if Fm f then(if 0<=m/\m<=5 then 0 else 3)else 2),()):=by
 show zR B3.pre B3.F f m=_;unfold zR;by_cases hf:Fm f
 ·have p0:=cY hf;have h2:=D7 hf;have e0:((fW f:Int)==0)=false:=AG _ (by omega);simp only[Wg p0,aa,e0,ab,ah hf];by_cases hm:0<=m/\m<=5
  ·rw[ah hm,af (p:=m<0) (by omega),af (p:=m>5) (by omega)];rfl
  ·rw[ag hm];have:(decide (m<0)||decide (m>5))=true:=by
    by_cases h:m<0
    ·rw[ae h];rfl
    ·rw[ae (p:=m>5) (by omega),bo]
   rw[this];rfl
 ·have p0:=aIt hf;simp only[Wg p0,aa,ag hf];rfl
def Al(f:Int)(a:Nat):Nat:=if eF f a=0 then mF f a else mF f a+2^(fP f-1)
def An(f:Int)(a:Nat):Int:=1-(fX f:Int)-(fP f:Int)+1+(if eF f a=0 then 0 else(eF f a:Int)-1)
theorem JP(f:Int)(a:Nat):mF f a<2^(fP f-1):=cn _ (au _)
theorem HZ{f:Int}(hf:Fm f)(a:Nat):Al f a<2^53:=by
 have h1:=JP f a;have h2:=CZ hf;have h3:=D7 hf;have h4:=EG hf;have h5:2^(fP f-1)<=2^52:=ax (by decide) (by rcases CB hf with rfl|rfl|rfl|rfl<;>decide);unfold Al;split<;>omega
theorem gE{f:Int}(hf:Fm f)(a:Nat):eF f a<2048:=by
 have:2^(fW f-fP f)<=2^11:=ax (by decide) (by rcases CB hf with rfl|rfl|rfl|rfl<;>decide);have h:eF f a<2^(fW f-fP f):=cn _ (au _);omega
theorem L7{f:Int}(hf:Fm f)(a:Nat):-2000<=An f a/\An f a<=2000:=by
 have h1:=gE hf a;have h2:=LJ hf;have h3:=FA hf;have h4:=JL hf;have h5:=CZ hf;have h6:(eF f a:Int)<=2*fX f+1:=by
  have:eF f a<2^(fW f-fP f):=cn _ (au _);have:=t9 hf;omega
 unfold An;split<;>omega
theorem aBf{f:Int}(hf:Fm f){a:Nat}(h:Ai f a=0):dB (f,(a:Int),()) =
  some (if eF f a=AH f then(mF f a !=0,(mF f a !=0)&&(mF f a/2^(fP f-2)==0),mF f a==0,sF f a,(false,[],0,()),())
   else(false,false,false,sF f a,(sF f a,Dh (Al f a),An f a,()),()),()):=by
 have ha:=WO h;have haW:=(Fz h).2;show zS B3.pre B3.F T3.pre T3.F f a=_;unfold zS;have h1:=CZ hf;have h2:=D7 hf;have h3:=EG hf;have h4:=LJ hf;have h5:=FA hf;have h6:=JL hf;have hE:=gE hf a;have hM:=JP f a;have hPp:2^(fP f-1)<=2^52:=ax (by decide) (by omega);have hpp:=au (fP f-1);have hWp:=au (fW f-fP f);have hWq:2^(fW f-fP f)<=2^11:=ax (by decide) (by rcases CB hf with rfl|rfl|rfl|rfl<;>decide);have p0:=cY hf;have e1:al .u64 (al .i64 ((fP f:Int)-1))=((fP f-1:Nat):Int):=by rw[AN _ (by omega),J6 _ (by omega)]
 have e2:al .u64 (al .i64 ((fW f:Int)-(fP f:Int)))=((fW f-fP f:Nat):Int):=by rw[AW _ _ (by omega),J6 _ (by omega)]
 have e3:al .u64 (al .i64 ((fW f:Int)-1))=((fW f-1:Nat):Int):=by rw[AN _ (by omega),J6 _ (by omega)]
 have e4:al .u64 (al .i64 ((fP f:Int)-2))=((fP f-2:Nat):Int):=by rw[Au (by omega),DV (by omega)];omega
 have e5:al .u64 (((2^(fW f-fP f):Nat):Int)-1)=((2^(fW f-fP f)-1:Nat):Int):=W7 _ 1 (by omega);have e6:al .u64 (((2^(fP f-1):Nat):Int)-1)=((2^(fP f-1)-1:Nat):Int):=W7 _ 1 (by omega);have e7:Bk .i64 1 ((fW f-fP f:Nat):Int)=((2^(fW f-fP f):Nat):Int):=by
  rcases CB hf with rfl|rfl|rfl|rfl<;>decide
 have e8:al .i64 (((2^(fW f-fP f):Nat):Int)-1)=((AH f:Nat):Int):=AN _ (by omega);have e9:BR .u64 ((a/2^(fP f-1):Nat):Int) ((2^(fW f-fP f)-1:Nat):Int)=((eF f a:Nat):Int):=UX (bv (ga _ _) ha) (by omega);have e10:al .i64 ((eF f a:Nat):Int)=((eF f a:Nat):Int):=Au (by omega);have e11:BR .u64 (a:Int) ((2^(fP f-1)-1:Nat):Int)=((mF f a:Nat):Int):=UX ha (by omega);have e12:BR .u64 ((a/2^(fW f-1):Nat):Int) 1=((a/2^(fW f-1)%2^1:Nat):Int):=UX (n:=1) (bv (ga _ _) ha) (by omega);have e13:(((a/2^(fW f-1)%2^1:Nat):Int)==1)=sF f a:=by
  have hq:a/2^(fW f-1)<2:=by
   rw[cj (au _),←iw,kt,kd (by omega)];exact haW
  unfold sF;rw[show((1:Int))=((1:Nat):Int)from rfl,LP];rcases(show ∀q:Nat,q<2->q=0∨q=1 from fun q h=>by omega) _ hq with hh|hh<;>rw[hh]<;>rfl
 have e14:al .i64 (al .i64 ((1-(fX f:Int))-(fP f:Int))+1)=1-(fX f:Int)-(fP f:Int)+1:=by
  rw[Au (n:=_-(fP f:Int)) (by omega),Au (by omega)]
 have e15:al .u64 (((mF f a:Nat):Int)+((2^(fP f-1):Nat):Int))=((mF f a+2^(fP f-1):Nat):Int):=DL _ _ (by omega);have s1:Bk .u64 1 ((fP f-1:Nat):Int)=((2^(fP f-1):Nat):Int):=PR (by omega);have s2:Bk .u64 1 ((fW f-fP f:Nat):Int)=((2^(fW f-fP f):Nat):Int):=PR (by omega);have r1:AR .u64 (a:Int) ((fP f-1:Nat):Int)=((a/2^(fP f-1):Nat):Int):=DT _ _ (by omega);have r2:AR .u64 (a:Int) ((fW f-1:Nat):Int)=((a/2^(fW f-1):Nat):Int):=DT _ _ (by omega);have r3:AR .u64 ((mF f a:Nat):Int) ((fP f-2:Nat):Int)=((mF f a/2^(fP f-2):Nat):Int):=DT _ _ (by omega);simp only[Wg p0,aa,e1,e2,e3,e4,s1,s2,r1,r2,e5,e6,e7,e8,e9,e10,e11,e12,e13,e14,e15,r3];by_cases hfull:eF f a=AH f
 ·rw[LP,show(eF f a==AH f)=true by simp[hfull],aa,ah hfull,WI,Ge,Ge]
 ·rw[LP,show(eF f a==AH f)=false by simp[hfull],ab,ag hfull];by_cases h0:eF f a=0
  ·have p1:=aGR (x:=mF f a) (by omega);have hg:decide (((eF f a:Nat):Int)>0)=false:=af (by omega);have hm:Al f a=mF f a:=by unfold Al;rw[ah h0]
   have hx:An f a=1-(fX f:Int)-(fP f:Int)+1:=by unfold An;rw[ah h0,lf]
   simp only[hg,ab,aMw p1,aa,hm,hx]
  ·have p1:=aGR (x:=mF f a+2^(fP f-1)) (by omega);have hg:decide (((eF f a:Nat):Int)>0)=true:=ae (by omega);have hm:Al f a=mF f a+2^(fP f-1):=by unfold Al;rw[ag h0]
   have hx:al .i64 ((1-(fX f:Int)-(fP f:Int)+1)+al .i64 (((eF f a:Nat):Int)-1))=An f a:=by
    unfold An;rw[ag h0,Au (n:=((eF f a:Nat):Int)-1) (by omega),Au (by omega)]
   simp only[hg,aa,aMw p1,hm,hx]
def Ax(f:Int)(a:Nat):Bool:=eF f a==AH f&&mF f a==0
def V9(f m:Int)(a b:Nat):Int×Int×Int×Unit:=bif Bm f a||Bm f b then((Cu f:Int),1,0,())else bif nan f a||nan f b then((Cu f:Int),0,0,())else bif(Ax f a&&Ax f b)&&!(sF f a==sF f b)then((Cu f:Int),1,0,())else bif Ax f a then((a:Int),0,0,())else bif Ax f b then((b:Int),0,0,())else(((DJ f m (sF f a) (Al f a) (An f a) (sF f b) (Al f b) (An f b)).1:Int),((DJ f m (sF f a) (Al f a) (An f a) (sF f b) (Al f b) (An f b)).2:Int),0,())
def HR(f m:Int)(a b:Nat):Int×Int×Int×Unit:=if Fm f then(if 0<=m/\m<=5 then(if Ai f a=0/\Ai f b=0 then V9 f m a b else(0,0,4,()))else(0,0,3,()))else(0,0,2,())
theorem aBi(s s':Bool)(X:Nat)(e:Int):XO ((false,false,false,s,(s',Dh X,e,()),()),())=some (decide (X=0),()):=by
 show aB (false,false,false,s,(s',Dh X,e,()),())=_;unfold aB;dsimp only;rw[Xj];rfl
theorem Vb{f:Int}{a:Nat}(h:eF f a=AH f):nan f a=(!(mF f a==0))/\Bm f a=(!(mF f a==0)&&(mF f a/2^(fP f-2)==0))/\Ax f a=(mF f a==0):=by
 unfold Bm nan Ax;rw[h];simp[bne]
theorem JW{f:Int}{a:Nat}(h:eF f a≠AH f):nan f a=false/\Bm f a=false/\Ax f a=false:=by
 unfold Bm nan Ax;simp[h]
theorem aA9(f m:Int){a b:Nat}(ha:a<2^64)(hb:b<2^64):cF (f,m,(a:Int),(b:Int),())=some (HR f m a b):=by
 show xQ Cc.pre Cc.F CW.pre CW.F Eu.pre Eu.F Ew.pre Ew.F GV.pre GV.F UK.pre UK.F GW.pre GW.F f m a b=_;unfold xQ HR;have p0:=aBe f m;by_cases hf:Fm f
 ·rw[ah hf]at p0⊢;by_cases hm:0<=m/\m<=5
  ·rw[ah hm]at p0⊢;have p1:=gK hf ha;have p2:=gK hf hb;simp only[HW p0,fY p1,fY p2,aj,ab,aa,bg];by_cases hca:Ai f a=0
   ·by_cases hcb:Ai f b=0
    ·rw[ah ⟨hca,hcb⟩,ae hca,ae hcb];have p3:=aBf hf hca;have p4:=aBf hf hcb;have p5:=aBh hf;have nb:∀n:Nat,(n !=0)=!(n==0):=fun _=>rfl;rw[nb]at p3 p4;unfold V9;by_cases fa:eF f a=AH f
     ·rw[ah fa]at p3;obtain⟨v1,v2,v3⟩:=Vb fa;rw[v1,v2,v3];generalize(mF f a==0)=x1 at *
      generalize(mF f a/2^(fP f-2)==0)=q1 at *
      by_cases fb:eF f b=AH f
      ·rw[ah fb]at p4;obtain⟨w1,w2,w3⟩:=Vb fb;rw[w1,w2,w3];generalize(mF f b==0)=x2 at *
       generalize(mF f b/2^(fP f-2)==0)=q2 at *
       simp only[bi,bj,ab,JG p3,JG p4,aa,Wh p5];cases x1<;>cases q1<;>cases x2<;>cases q2<;>cases sF f a<;>cases sF f b<;>rfl
      ·rw[ag fb]at p4;obtain⟨w1,w2,w3⟩:=JW fb;rw[w1,w2,w3];simp only[bi,bj,ab,JG p3,JG p4,aa,Wh p5];cases x1<;>cases q1<;>cases sF f a<;>cases sF f b<;>rfl
     ·rw[ag fa]at p3;obtain⟨v1,v2,v3⟩:=JW fa;rw[v1,v2,v3];by_cases fb:eF f b=AH f
      ·rw[ah fb]at p4;obtain⟨w1,w2,w3⟩:=Vb fb;rw[w1,w2,w3];generalize(mF f b==0)=x2 at *
       generalize(mF f b/2^(fP f-2)==0)=q2 at *
       simp only[bi,bj,ab,JG p3,JG p4,aa,Wh p5];cases x2<;>cases q2<;>cases sF f a<;>cases sF f b<;>rfl
      ·rw[ag fb]at p4;obtain⟨w1,w2,w3⟩:=JW fb;rw[w1,w2,w3];have p6:=aBi (sF f a) (sF f a) (Al f a) (An f a);have p7:=aBi (sF f b) (sF f b) (Al f b) (An f b);have p8:=aWJ (sF f a) (Al f a) (An f a) (sF f b) (Al f b) (An f b) (HZ hf a) (HZ hf b) (L7 hf a) (L7 hf b);have hbd:=bIx (sF f a) (Al f a) (An f a) (sF f b) (Al f b) (An f b) (HZ hf a) (HZ hf b) (L7 hf a) (L7 hf b);have hss:=fun zn=>bIF (m:=m) hf (sF f a) (Al f a) (An f a) (sF f b) (Al f b) (An f b) zn;have p9:=fun zn=>aIw hf hm (Ea (sF f a) (Al f a) (An f a) (sF f b) (Al f b) (An f b)).1 (Ea (sF f a) (Al f a) (An f a) (sF f b) (Al f b) (An f b)).2.1 (Ea (sF f a) (Al f a) (An f a) (sF f b) (Al f b) (An f b)).2.2 zn hbd.1 hbd.2;generalize Ea (sF f a) (Al f a) (An f a) (sF f b) (Al f b) (An f b)=D at *
       simp only[bi,bj,ab,JG p3,JG p4,aa,tI p6,tI p7,bg,aZr p8,ay,be];by_cases hz:Al f a=0/\Al f b=0/\sF f a=sF f b
       ·have hg:((decide (Al f a=0)&&decide (Al f b=0))&&(sF f a==sF f b))=true:=by
         rw[ae hz.1,ae hz.2.1,hz.2.2];cases sF f b<;>rfl
        have p10:=p9 (sF f a);have hs2:=hss (sF f a) (by rw[ah hz]);simp only[hs2]at p10;simp only[hg,aa,aC5 p10]
       ·have hg:((decide (Al f a=0)&&decide (Al f b=0))&&(sF f a==sF f b))=false:=by
         cases hh:((decide (Al f a=0)&&decide (Al f b=0))&&(sF f a==sF f b))with
         |false=>rfl
         |true=>
          exfalso;simp only[ar,ai,beq_iff_eq]at hh;exact hz ⟨hh.1.1,hh.1.2,hh.2⟩
        have p10:=p9 (m==4);have hs2:=hss (m==4) (by rw[ag hz]);simp only[hs2]at p10;simp only[hg,ab,aC5 p10,aa]
    ·rw[ag (fun h=>hcb h.2),af hcb];cases decide (Ai f a=0)<;>rfl
   ·rw[ag (fun h=>hca h.1),af hca];rfl
  ·rw[ag hm]at p0⊢;simp only[HW p0];rfl
 ·rw[ag hf]at p0⊢;simp only[HW p0];rfl
theorem aWg{f:Int}{a:Nat}(h:Ai f a=0):nZ (f,(a:Int),())=some ((DR f a:Int),()):=by
 obtain⟨hf,h0⟩:=Fz h;show xT Ef.pre Ef.F f a=_;unfold xT;have h2:=D7 hf;have h3:=EG hf;have p0:=aIx hf true;have e0:Bu f true=2^(fW f-1):=rfl;simp only[aMZ p0,aa,e0];rw[aS3 (by omega) (by rw[kd (by omega)];exact h0)];have e:(if a<2^(fW f-1)then a+2^(fW f-1)else a-2^(fW f-1))=DR f a:=by
  have hp:=aEy h;have hl:=eZ (f:=f) a;unfold DR;unfold CJ at hp⊢;cases hs:sF f a<;>rw[hs]at hp<;>simp only[aa,ab,bi,bf]at hp⊢
  ·rw[ah (by omega)];omega
  ·rw[ag (by omega)];omega
 rw[e]
def JY(f m:Int)(a b:Nat):Int×Int×Int×Unit:=HR f m a (if Ai f b=0 then DR f b else b)
theorem aPR{f:Int}{b:Nat}(h:Ai f b=0):DR f b<2^64:=WO (uX (Fz h).1 b)
theorem aWe(f m:Int){a b:Nat}(ha:a<2^64)(hb:b<2^64):cE (f,m,(a:Int),(b:Int),())=some (JY f m a b):=by
 show xO B3.pre B3.F CW.pre CW.F Ue.pre Ue.F GQ.pre GQ.F f m a b=_;unfold xO JY;have pA:=aA9 f m ha hb;by_cases hf:Fm f
 ·have p0:=cY hf;have p1:=gK hf hb;have h2:=D7 hf;have e0:((fW f:Int)==0)=false:=AG _ (by omega);simp only[Wg p0,aa,e0,fY p1,bg,bm];by_cases h:Ai f b=0
  ·have p2:=aWg h;have p3:=aA9 f m ha (aPR h);rw[ah h,ae h];simp only[bi,ab,aY5 p2,aa,tD p3]
  ·rw[ag h,af h];simp only[bf,tD pA,aa]
 ·have p0:=aIt hf;have h:¬Ai f b=0:=by rw[aNl hf];decide
  rw[ag h];simp only[Wg p0,aa,beq_self_eq_true,ab,bf,bo,bg,tD pA]
end VL
namespace VL
open Go Vx
theorem aBm{f:Int}{a:Nat}(h:Ai f a=0):pU (f,(a:Int),())=some (sF f a,(eF f a:Int),(mF f a:Int),0,()):=by
 obtain⟨hf,h0⟩:=Fz h;have ha:=WO h;show zY Av.pre Av.F D2.pre D2.F f a=_;unfold zY;have p0:=Lh f a ha;have p2:=aBj hf a ha;have hr1:decide (0<=f)=true:=ae hf.1;have hr2:decide (f<((4:Nat):Int))=true:=ae hf.2;simp only[aEP hf,hr1,hr2,JF p0,aC6 p2,h,aa,aj,ab]
theorem aIu{f:Int}{a:Nat}(h:Ai f a=0):pK (f,Cy f,(a:Int),())=some ((sF f a,(Al f a:Int),An f a,()),()):=by
 obtain⟨hf,h0⟩:=Fz h;show zQ Cs.pre Cs.F f (Cy f) a=_;unfold zQ;have h1:=CZ hf;have h3:=FA hf;have h4:=LJ hf;have hE:=gE hf a;have hM:=JP f a;have hPp:2^(fP f-1)<=2^52:=ax (by decide) (by omega);have p0:=aBm h;have r1:(Cy f).2.1=(fP f:Int):=rfl;have r2:(Cy f).2.2.1=1-(fX f:Int):=rfl;have e0:al .i64 ((fP f:Int)-1)=((fP f-1:Nat):Int):=AN _ (by omega);have e1:al .i64 (al .i64 ((1-(fX f:Int))-(fP f:Int))+1)=1-(fX f:Int)-(fP f:Int)+1:=by
  rw[Au (n:=_-(fP f:Int)) (by omega),Au (by omega)]
 have e2:al .i64 (eF f a:Int)=(eF f a:Int):=Au (by omega);have e3:Bk .u64 1 ((fP f-1:Nat):Int)=((2^(fP f-1):Nat):Int):=PR (by omega);have e4:Ao .u64 (mF f a:Int) ((2^(fP f-1):Nat):Int)=((mF f a+2^(fP f-1):Nat):Int):=by
  have:=PO (a:=mF f a) (b:=1) (k:=fP f-1) hM (by omega);rwa [go]at this
 simp only[aC7 p0,aa,r1,r2,e0,e1,e2,e3,e4,AF];by_cases hz:eF f a=0
 ·have hg:decide ((eF f a:Int)>0)=false:=af (by omega);have hm:Al f a=mF f a:=by unfold Al;rw[ah hz]
  have hx:An f a=1-(fX f:Int)-(fP f:Int)+1:=by unfold An;rw[ah hz,lf]
  rw[hg,ab,hm,hx]
 ·have hg:decide ((eF f a:Int)>0)=true:=ae (by omega);have hm:Al f a=mF f a+2^(fP f-1):=by unfold Al;rw[ag hz]
  have hx:al .i64 ((1-(fX f:Int)-(fP f:Int)+1)+al .i64 ((eF f a:Int)-1))=An f a:=by
   unfold An;rw[ag hz,Au (n:=(eF f a:Int)-1) (by omega),Au (by omega)]
  rw[hg,aa,hm,hx]
theorem aDn(f:Int)(a:Nat):(BZ f a==2||BZ f a==9)=Ax f a:=by
 unfold BZ Ax;cases eF f a==AH f<;>cases eF f a==0<;>cases mF f a==0<;>cases sF f a<;>cases mF f a/2^(fP f-2)!=0<;>rfl
theorem aZH(f:Int)(a b:Nat):((Ax f a&&Ax f b)&&(BZ f a !=BZ f b))=((Ax f a&&Ax f b)&&!(sF f a==sF f b)):=by
 unfold BZ Ax;cases eF f a==AH f<;>cases mF f a==0<;>cases eF f b==AH f<;>cases mF f b==0<;>first|rfl|(cases sF f a<;>cases sF f b<;>rfl)
theorem aA8(f m:Int){a b:Nat}(ha:a<2^64)(hb:b<2^64):XH (f,m,(a:Int),(b:Int),())=some (HR f m a b):=by
 show xP Ap.pre Ap.F Bs.pre Bs.F Bh.pre Bh.F UJ.pre UJ.F UI.pre UI.F f m a b=_;unfold xP HR;by_cases hf:Fm f
 ·rw[ah hf];have p0:=Li hf;simp only[Dc p0,aa,aj,ab];by_cases hm:0<=m/\m<=5
  ·have hmm:(decide (m<0)||decide (m>5))=false:=by
    rw[af (p:=m<0) (by omega),af (p:=m>5) (by omega)];rfl
   rw[ah hm,hmm,ab];have c4:∀x:Nat,Ai f x≠0->Ai f x=4:=fun x h=>by
    unfold Ai at h⊢;rw[ah hf]at h⊢;split at h
    ·exact absurd rfl h
    ·rename_i h1;rw[ag h1]
   by_cases hca:Ai f a=0
   ·have p1:=cW ha hca;by_cases hcb:Ai f b=0
    ·have p2:=cW hb hcb;rw[ah ⟨hca,hcb⟩];have p3:=cZ hf;have p4:=aIu hca;have p5:=aIu hcb;have p6:=aWH hf hm (sF f a) (Al f a) (An f a) (sF f b) (Al f b) (An f b) (HZ hf a) (HZ hf b) (L7 hf a) (L7 hf b);simp only[Pi p1,Pi p2,aa,aj,ab,tH p3,aMY p4,aMY p5,aZq p6,aDn,aZH];unfold V9;rw[←tO,←tO,←f0,←f0];generalize((Ax f a&&Ax f b)&&!(sF f a==sF f b))=w1;generalize Ax f a=w2;generalize Ax f b=w3;generalize(BZ f a==0)=x1;generalize(BZ f b==0)=x2;generalize(BZ f a==1)=x3;generalize(BZ f b==1)=x4;cases x1<;>cases x2<;>cases x3<;>cases x4<;>cases w1<;>cases w2<;>cases w3<;>rfl
    ·have p2:=aBd hb hcb;rw[ag (fun h=>hcb h.2)];have hne:(Ai f b !=0)=true:=by simpa using hcb
     simp only[Pi p1,Pi p2,aa,aj,ab,hne];rw[c4 b hcb]
   ·have p1:=aBd ha hca;rw[ag (fun h=>hca h.1)];have hne:(Ai f a !=0)=true:=by simpa using hca
    simp only[Pi p1,aa,hne];rw[c4 a hca]
  ·rw[ag hm];have:(decide (m<0)||decide (m>5))=true:=by
    by_cases h:m<0
    ·rw[ae h];rfl
    ·rw[ae (p:=m>5) (by omega),bo]
   rw[this];rfl
 ·rw[ag hf];have p0:=Oe hf;simp only[Dc p0];rfl
theorem aWd(f m:Int){a b:Nat}(ha:a<2^64)(hb:b<2^64):cD (f,m,(a:Int),(b:Int),())=some (JY f m a b):=by
 show xN Av.pre Av.F Fv.pre Fv.F EY.pre EY.F f m a b=_;unfold xN JY;have p0:=Lh f b hb;by_cases h:Ai f b=0
 ·have p1:=aWG h;have p2:=aA8 f m ha (aPR h);rw[ah h];simp only[JF p0,h,beq_self_eq_true,aa,aZp p1,aMF p2]
 ·have p2:=aA8 f m ha hb;have hne:(Ai f b==0)=false:=by simpa using h
  rw[ag h];simp only[JF p0,aa,hne,ab,aMF p2]
end VL
namespace VL
open Go Vx
theorem aOJ(f:Int)(neg:Bool):Dp f neg=BG f+Bu f neg:=by
 unfold Dp BG AH;rw[bt]
theorem fC(f:Int)(s:Bool)(x:Nat):x+Bu f s=CJ f s x:=by
 unfold CJ Bu;cases s<;>rfl
theorem uL{f:Int}(hf:Fm f):BG f=(2*fX f+1)*2^(fP f-1):=by
 unfold BG AH;rw[←t9 hf,bt]
theorem bBJ{f:Int}(hf:Fm f){a:Nat}(h:Ct f a<=BG f):nan f a=false:=by
 unfold nan;rw[aDy hf,aEf hf];by_cases he:Ct f a/2^(fP f-1)=AH f
 ·have hdm:=df (Ct f a) (2^(fP f-1));rw[he]at hdm;unfold BG at h;have:Ct f a%2^(fP f-1)=0:=by omega
  rw[this];simp
 ·simp[he]
def Ds(f m:Int)(neg:Bool)(n:Nat)(e:Int):Nat×Nat:=
 if Az n e>fX f then((if J3 m neg then BG f else BG f-1),20)
 else
  let q:=BY f (Az n e)
  let u:=BF m neg n e q false
  if q+Af u-1>fX f then((if J3 m neg then BG f else BG f-1),20)
  else((q-(1-(fX f:Int)-fP f+1)).toNat*2^(fP f-1)+u,
   if Dm n e q false=0 then 0 else if D9 f m neg n e false then 24 else 16)
theorem aD1{f:Int}(hf:Fm f):1<=BG f:=by
 rw[uL hf];exact ir (by omega) (au _)
theorem aMj{f m:Int}(hf:Fm f)(neg:Bool):UY f m neg=CJ f neg (if J3 m neg then BG f else BG f-1):=by
 have:=aD1 hf;unfold UY;rw[aOJ,←fC];split<;>omega
theorem Vj{f:Int}(hf:Fm f)(m:Int)(neg:Bool)(n:Nat)(e:Int):AT f m neg n e false=(CJ f neg (Ds f m neg n e).1,(Ds f m neg n e).2):=by
 unfold AT Ds;by_cases h:Az n e>fX f
 ·rw[ah h,ah h,aMj hf]
 ·rw[ag h,ag h];dsimp only;by_cases h2:BY f (Az n e)+(Af (BF m neg n e (BY f (Az n e)) false):Int)-1>fX f
  ·rw[ah h2,ah h2,aMj hf]
  ·rw[ag h2,ag h2];dsimp only;rw[fC]
theorem bBh(f:Int)(hf:Fm f)(t:Int)(ht:¬t>fX f):t-(fP f:Int)+1<=BY f t/\1-(fX f:Int)-(fP f:Int)+1<=BY f t/\BY f t<=(fX f:Int)-(fP f:Int)+1:=by
 have:=JL hf;unfold BY;split<;>refine⟨?_,?_,?_⟩<;>omega
theorem bGZ{f m:Int}(hf:Fm f){neg:Bool}{n:Nat}{e:Int}(h1:¬Az n e>fX f)(h2:¬BY f (Az n e)+(Af (BF m neg n e (BY f (Az n e)) false):Int)-1>fX f):
  (BY f (Az n e)-(1-(fX f:Int)-fP f+1)).toNat*2^(fP f-1)+BF m neg n e (BY f (Az n e)) false<BG f:=by
 obtain⟨g1,g2,g3⟩:=bBh f hf _ h1;have hu:=aDt (m:=m) (neg:=neg) hf g1;generalize BY f (Az n e)=q at *
 generalize BF m neg n e q false=u at *
 have hP:=CZ hf;have hX:=JL hf;have hpp:=au (fP f-1);have h2p:2^fP f=2*2^(fP f-1):=by rw[←iw,kt,kd (by omega)]
 rw[uL hf];obtain⟨k,hk⟩:=cv (show 0<=q-(1-(fX f:Int)-(fP f:Int)+1) by omega);rw[hk,ao];rcases bc u (2^fP f)with h|h
 ·have hk2:k+2<=2*fX f+1:=by omega
  have:=bh (2^(fP f-1)) hk2;rw[cu]at this;omega
 ·have hb:fP f+1<=Af u:=Pf h;have hk2:k+3<=2*fX f+1:=by omega
  have:=bh (2^(fP f-1)) hk2;rw[cu]at this;omega
theorem iV{f:Int}(hf:Fm f)(m:Int)(neg:Bool)(n:Nat)(e:Int):(Ds f m neg n e).1<=BG f:=by
 unfold Ds;by_cases h:Az n e>fX f
 ·rw[ah h];dsimp only;split<;>omega
 ·rw[ag h];dsimp only;by_cases h2:BY f (Az n e)+(Af (BF m neg n e (BY f (Az n e)) false):Int)-1>fX f
  ·rw[ah h2];dsimp only;split<;>omega
  ·rw[ag h2];exact Nat.le_of_lt (bGZ hf h h2)
def WG(m:Int):Int:=if m=3 then 4 else if m=4 then 3 else m
theorem bAO{m:Int}(hm:0<=m/\m<=5)(neg odd:Bool)(r:Nat):Df (WG m) (!neg) odd r=Df m neg odd r:=by
 rcases uQ hm with rfl|rfl|rfl|rfl|rfl|rfl<;>cases neg<;>rfl
theorem bIV{m:Int}(hm:0<=m/\m<=5)(neg:Bool):J3 (WG m) (!neg)=J3 m neg:=by
 rcases uQ hm with rfl|rfl|rfl|rfl|rfl|rfl<;>cases neg<;>rfl
theorem aNw{m:Int}(hm:0<=m/\m<=5)(neg:Bool)(n:Nat)(e q:Int)(more:Bool):BF (WG m) (!neg) n e q more=BF m neg n e q more:=by
 unfold BF;rw[bAO hm]
theorem bIM{f m:Int}(hm:0<=m/\m<=5)(neg:Bool)(n:Nat)(e:Int)(more:Bool):D9 f (WG m) (!neg) n e more↔D9 f m neg n e more:=by
 unfold D9;rw[aNw hm]
theorem bG0{f m:Int}(hm:0<=m/\m<=5)(neg:Bool)(n:Nat)(e:Int):Ds f (WG m) (!neg) n e=Ds f m neg n e:=by
 unfold Ds;simp only[bIV hm,aNw hm,bIM hm]
theorem vV(f:Int)(s:Bool):Bu f s=CJ f s 0:=by
 rw[←fC,dj]
theorem bIB{f m:Int}(hf:Fm f)(hm:0<=m/\m<=5)(nx:Bool)(X:Nat)(ex:Int)(ny:Bool)(Y:Nat)(ey:Int):
  ∃s s' x g,DJ f m nx X ex ny Y ey=(CJ f s x,g)/\DJ f (WG m) (!nx) X ex (!ny) Y ey=(CJ f s' x,g)/\x<=BG f/\(s'=!s∨x=0):=by
 unfold DJ;dsimp only;generalize(if ex<=ey then ex else ey)=e;generalize X*2^(ex-e).toNat=a;generalize Y*2^(ey-e).toNat=b;have hr:∀neg n,AT f (WG m) (!neg) n e false=(CJ f (!neg) (Ds f m neg n e).1,(Ds f m neg n e).2):=fun neg n=>by
  rw[Vj hf,bG0 hm]
 by_cases hn:nx=ny
 ·subst hn;rw[ah rfl,ah rfl];by_cases h0:a+b=0
  ·rw[ah h0,ah h0];exact⟨nx,!nx,0,0,by rw[vV],by rw[vV],dv _,.inr rfl⟩
  ·rw[ag h0,ag h0];exact⟨nx,!nx,_,_,Vj hf _ _ _ _,hr _ _,iV hf _ _ _ _,.inl rfl⟩
 ·have hn2:¬((!nx)=(!ny)):=fun h=>hn (by cases nx<;>cases ny<;>first|rfl|cases h);rw[ag hn,ag hn2];by_cases h1:a=b
  ·rw[ah h1,ah h1];exact⟨_,_,0,0,by rw[vV],by rw[vV],dv _,.inr rfl⟩
  ·rw[ag h1,ag h1];by_cases h2:b<a
   ·rw[ah h2,ah h2];exact⟨nx,!nx,_,_,Vj hf _ _ _ _,hr _ _,iV hf _ _ _ _,.inl rfl⟩
   ·rw[ag h2,ag h2];exact⟨ny,!ny,_,_,Vj hf _ _ _ _,hr _ _,iV hf _ _ _ _,.inl rfl⟩
theorem aD0{f:Int}(hf:Fm f):BG f<2^(fW f-1):=by have:=aOL hf;omega
theorem bBy{f:Int}(s:Bool){x:Nat}(hx:x<2^(fW f-1)):AB f (CJ f s x)=bif s then -(x:Int)else x:=by
 unfold AB;rw[aEj s hx,aPN s hx]
theorem bG3{f m:Int}(hf:Fm f){a:Nat}(h:Ai f a=0)(hfin:eF f a≠AH f)(h0:Al f a≠0):AT f m (sF f a) (Al f a) (An f a) false=(a,0):=by
 have hP:=CZ hf;have hX:=JL hf;have hpp:=au (fP f-1);have h2p:2^fP f=2*2^(fP f-1):=by rw[←iw,kt,kd (by omega)]
 have hM:=JP f a;have hEl:eF f a<AH f:=Nat.lt_of_le_of_ne (aNQ a) hfin;have hfull:AH f=2*fX f+1:=by unfold AH;rw[←t9 hf]
 have habs:=Pe hf a;have hpat:=aEy h;rw[Vj hf];have key:Ds f m (sF f a) (Al f a) (An f a)=(Ct f a,0):=by
  have hbits:∃t,Az (Al f a) (An f a)=t/\t<=fX f/\BY f t=An f a/\An f a+(Af (Al f a):Int)-1=t:=by
   refine⟨_,rfl,?_,?_,rfl⟩
   ·unfold Az An;by_cases he:eF f a=0
    ·have hm:Al f a=mF f a:=by unfold Al;rw[ah he]
     have:=Db (n:=Al f a) (k:=fP f-1) (by rw[hm];exact hM);rw[ah he];omega
    ·have hm:Al f a=mF f a+2^(fP f-1):=by unfold Al;rw[ag he]
     have:=Db (n:=Al f a) (k:=fP f) (by rw[hm];omega);rw[ag he];omega
   ·unfold BY Az An;by_cases he:eF f a=0
    ·have hm:Al f a=mF f a:=by unfold Al;rw[ah he]
     have hb:=Db (n:=Al f a) (k:=fP f-1) (by rw[hm];exact hM);rw[ah he,ah (by omega)];omega
    ·have hm:Al f a=mF f a+2^(fP f-1):=by unfold Al;rw[ag he]
     have hb:=Db (n:=Al f a) (k:=fP f) (by rw[hm];omega);have hb2:=Pf (n:=Al f a) (k:=fP f-1) (by rw[hm];omega);rw[ag he];by_cases h1:eF f a=1
     ·rw[h1];split<;>omega
     ·rw[ag (by omega)];omega
  obtain⟨t,ht,ht2,hlow,htb⟩:=hbits;have hcut:Dm (Al f a) (An f a) (An f a) false=0:=by rw[Pn,Z3 (lc _)]
  have hcn:BF m (sF f a) (Al f a) (An f a) (An f a) false=Al f a:=by
   unfold BF;rw[ag (fun hh=>hh.1 hcut),WV (lc _),nn];simp
  unfold Ds;rw[ht,ag (by omega),hlow];dsimp only;rw[hcn,ag (by omega),hcut,ah rfl];congr 1;rw[habs];unfold An Al;by_cases he:eF f a=0
  ·rw[ah he,ah he,he,fu,lf,nn];simp
  ·rw[ag he,ag he];rw[show(1-(fX f:Int)-(fP f:Int)+1+((eF f a:Int)-1)-(1-(fX f:Int)-(fP f:Int)+1)).toNat=eF f a-1 by omega];obtain⟨k,hk⟩:∃k,eF f a=k+1:=⟨eF f a-1,by omega⟩
   rw[hk,Nat.add_sub_cancel,ck,gx,bt k];omega
 rw[key];dsimp only;rw[←hpat]
end VL
namespace VL
open Go Vx
def qm(f:Int):Int:=1-(fX f:Int)-(fP f:Int)+1
def C2(m:Int)(neg:Bool)(n j:Nat):Nat:=if B5 (n%2^j) j≠0/\Df m neg (decide (n/2^j%2=1)) (B5 (n%2^j) j)=true then n/2^j+1 else n/2^j
def FB(f m:Int)(neg:Bool)(n:Nat):Nat:=if n<2^fP f then n else(Af n-fP f)*2^(fP f-1)+C2 m neg n (Af n-fP f)
def iH(f m:Int)(neg:Bool):Nat:=if J3 m neg then BG f else BG f-1
theorem Wl(m:Int)(neg:Bool)(n j:Nat):n/2^j<=C2 m neg n j/\C2 m neg n j<=n/2^j+1:=by
 unfold C2;split<;>omega
theorem vH{f:Int}(hf:Fm f){n:Nat}(h:¬n<2^fP f):1<=Af n-fP f/\2^(fP f-1)<=n/2^(Af n-fP f)/\n/2^(Af n-fP f)<2^fP f:=by
 have hP:=CZ hf;have hb:=Pf (n:=n) (k:=fP f) (by omega);obtain⟨j,hj⟩:∃j,Af n=fP f+j:=⟨Af n-fP f,by omega⟩
 have h1:=G2 n;have h2:=Pg (n:=n) (by have:=au (fP f);omega);rw[hj]at h1 h2⊢;rw[jq];refine⟨by omega,?_,?_⟩
 ·rw[iu (au _),←ca];refine gb (ax (by decide) ?_) h2;omega
 ·rw[cj (au _),←ca];exact h1
theorem aAc{f:Int}(hf:Fm f):2^fP f=2*2^(fP f-1):=by
 have hP:=CZ hf;rw[←iw,kt,kd (by omega)]
theorem aEL{f:Int}(hf:Fm f)(m:Int)(neg:Bool){n:Nat}(h0:n≠0):
  Ds f m neg n (qm f)=if BG f<=FB f m neg n then(iH f m neg,20)else(FB f m neg n,if n<2^fP f then 0 else if B5 (n%2^(Af n-fP f)) (Af n-fP f)=0 then 0 else 16):=by
 have hP:=CZ hf;have hX:=JL hf;have h2p:=aAc hf;have hpp:=au (fP f-1);have hinf:=uL hf;have hb1:=fL h0;have htop:Az n (qm f)=qm f+(Af n:Int)-1:=rfl;have hqm:qm f=1-(fX f:Int)-(fP f:Int)+1:=rfl;unfold Ds;by_cases h:n<2^fP f
 ·have hb:=Db h;have hlow:BY f (Az n (qm f))=qm f:=by unfold BY;split<;>omega
  have hmu:FB f m neg n=n:=by unfold FB;rw[ah h]
  have hcut:Dm n (qm f) (qm f) false=0:=by rw[Pn,Z3 (lc _)]
  have hcn:BF m neg n (qm f) (qm f) false=n:=by
   unfold BF;rw[ag (fun hh=>hh.1 hcut),WV (lc _),nn];simp
  have hlt:2*2^(fP f-1)<=(2*fX f+1)*2^(fP f-1):=bh _ (by omega);rw[ag (show ¬Az n (qm f)>fX f by omega),hlow,hmu,ag (show ¬BG f<=n by omega)];dsimp only;rw[hcn,ag (show ¬qm f+(Af n:Int)-1>fX f by omega),hcut,ah rfl,ah h,←hqm,nn];simp
 ·obtain⟨hj1,hq1,hq2⟩:=vH hf h;have hblen:(Af n:Int)=(fP f:Int)+((Af n-fP f:Nat):Int):=by omega
  obtain⟨hc1,hc2⟩:=Wl m neg n (Af n-fP f);have hmu:FB f m neg n=(Af n-fP f)*2^(fP f-1)+C2 m neg n (Af n-fP f):=by unfold FB;rw[ag h]
  rw[hmu,ag h];have hlow:BY f (Az n (qm f))=qm f+((Af n-fP f:Nat):Int):=by unfold BY;rw[ag (by omega)];omega
  have htiny:¬D9 f m neg n (qm f) false:=fun hh=>by have:=hh.1;omega
  have hcr:Dm n (qm f) (qm f+((Af n-fP f:Nat):Int)) false=B5 (n%2^(Af n-fP f)) (Af n-fP f):=by
   rw[Pn,Z2 (by omega),show(qm f+((Af n-fP f:Nat):Int)-qm f).toNat=Af n-fP f by omega]
  have hcn:BF m neg n (qm f) (qm f+((Af n-fP f:Nat):Int)) false=C2 m neg n (Af n-fP f):=by
   unfold BF C2;rw[hcr,WU (by omega),show(qm f+((Af n-fP f:Nat):Int)-qm f).toNat=Af n-fP f by omega]
  rw[hlow];dsimp only;rw[hcn,hcr,show(qm f+((Af n-fP f:Nat):Int)-(1-(fX f:Int)-(fP f:Int)+1)).toNat=Af n-fP f by omega];generalize Af n-fP f=j at *
  generalize C2 m neg n j=u at *
  generalize n/2^j=Q at *
  by_cases ht:Az n (qm f)>fX f
  ·have hj2:2*fX f+1<=j+1:=by omega
   have:=bh (2^(fP f-1)) hj2;rw[cu j,go]at this;rw[ah ht,ah (show BG f<=j*2^(fP f-1)+u by omega)];rfl
  ·rw[ag ht];rcases bc u (2^fP f)with hu|hu
   ·have hbu:=Db hu;have hj2:j+2<=2*fX f+1:=by omega
    have:=bh (2^(fP f-1)) hj2;rw[cu]at this;rw[ag (show ¬qm f+(j:Int)+(Af u:Int)-1>fX f by omega),ag (show ¬BG f<=j*2^(fP f-1)+u by omega),ag htiny]
   ·have hbu:=Pf hu;have hbu2:=Db (n:=u) (k:=fP f+1) (by rw[fm];omega);by_cases hj2:j+3<=2*fX f+1
    ·have:=bh (2^(fP f-1)) hj2;rw[cu]at this;rw[ag (show ¬qm f+(j:Int)+(Af u:Int)-1>fX f by omega),ag (show ¬BG f<=j*2^(fP f-1)+u by omega),ag htiny]
    ·have hj3:2*fX f+1<=j+2:=by omega
     have:=bh (2^(fP f-1)) hj3;rw[cu j]at this;rw[ah (show qm f+(j:Int)+(Af u:Int)-1>fX f by omega),ah (show BG f<=j*2^(fP f-1)+u by omega)];rfl
theorem aYE{n k:Nat}(h:n<=k):Af n<=Af k:=Db (bv h (G2 k))
theorem aZF{r r' j:Nat}(h:r<=r'):B5 r j<=B5 r' j:=by
 unfold B5;generalize 2^(j-1)=H;by_cases h0:r=0
 ·rw[ah h0];exact dv _
 rw[ag h0,ag (show ¬r'=0 by omega)];by_cases h1:r'<H
 ·rw[ah (show r<H by omega),ah h1];exact ci _
 rw[ag h1];by_cases h2:r'=H
 ·rw[ah h2];split
  ·decide
  ·rw[ah (by omega)];exact ci _
 ·rw[ag h2];split
  ·decide
  ·split<;>decide
theorem aZD(r j:Nat):B5 r j<=3:=by
 unfold B5;split
 ·decide
 ·split
  ·decide
  ·split<;>decide
theorem bIU{m:Int}(hm:0<=m/\m<=5)(neg odd:Bool){c c':Nat}(h:c<=c')(hc':c'<=3)(hu:c≠0/\Df m neg odd c=true):c'≠0/\Df m neg odd c'=true:=by
 obtain⟨h0,h1⟩:=hu;refine⟨by omega,?_⟩;rcases(show c=1∨c=2∨c=3 by omega)with rfl|rfl|rfl<;>rcases(show c'=1∨c'=2∨c'=3 by omega)with rfl|rfl|rfl<;>rcases uQ hm with rfl|rfl|rfl|rfl|rfl|rfl<;>cases neg<;>cases odd<;>first|rfl|(exfalso;omega)|(revert h1;decide)
theorem aZL{m:Int}(hm:0<=m/\m<=5)(neg:Bool){n k j:Nat}(h:n<=k):C2 m neg n j<=C2 m neg k j:=by
 have hq:n/2^j<=k/2^j:=Nat.div_le_div_right h;have h1:=Wl m neg n j;have h2:=Wl m neg k j;rcases bc (n/2^j) (k/2^j)with hlt|hge
 ·omega
 ·have he:n/2^j=k/2^j:=by omega
  have hr:n%2^j<=k%2^j:=by
   have a1:=df n (2^j);have a2:=df k (2^j);rw[he]at a1;omega
  unfold C2;rw[he];have hu:=bIU hm neg (decide (k/2^j%2=1)) (aZF (j:=j) hr) (aZD _ _);split
  ·rename_i hh;rw[ah (hu hh)];omega
  ·split<;>omega
theorem bBC{f m:Int}(hf:Fm f)(hm:0<=m/\m<=5)(neg:Bool){n k:Nat}(h:n<=k):FB f m neg n<=FB f m neg k:=by
 have h2p:=aAc hf;unfold FB;by_cases h1:n<2^fP f
 ·by_cases h2:k<2^fP f
  ·rw[ah h1,ah h2];exact h
  ·obtain⟨hj1,hq1,_⟩:=vH hf h2;have hc:=(Wl m neg k (Af k-fP f)).1;have:=bh (2^(fP f-1)) hj1;rw[ah h1,ag h2];omega
 ·have h2:¬k<2^fP f:=by omega
  obtain⟨hj1,hq1,hq2⟩:=vH hf h1;obtain⟨hj1',hq1',hq2'⟩:=vH hf h2;have hc:=Wl m neg n (Af n-fP f);have hc':=Wl m neg k (Af k-fP f);have hb:=aYE h;rw[ag h1,ag h2];rcases bc (Af n-fP f) (Af k-fP f)with hlt|hge
  ·have:=bh (2^(fP f-1)) hlt;rw[kt,cu]at this;omega
  ·have he:Af n-fP f=Af k-fP f:=by omega
   rw[he];have:=aZL hm neg (j:=Af k-fP f) h;omega
def WF(f m:Int)(neg:Bool)(n:Nat):Nat:=if n=0 then 0 else(Ds f m neg n (qm f)).1
def WP(f m:Int)(S:Int):Int:=if S<0 then -(WF f m true S.natAbs:Int)else(WF f m false S.natAbs:Int)
theorem aPI{f m:Int}(hf:Fm f)(hm:0<=m/\m<=5)(neg:Bool){n k:Nat}(h:n<=k):WF f m neg n<=WF f m neg k:=by
 unfold WF;by_cases h0:n=0
 ·rw[ah h0];exact dv _
 ·rw[ag h0,ag (by omega),aEL hf m neg h0,aEL hf m neg (by omega)];have hmm:=bBC hf hm neg h;have hp:=aD1 hf;unfold iH;by_cases h1:BG f<=FB f m neg n
  ·rw[ah h1,ah (show BG f<=FB f m neg k by omega)];exact ci _
  ·rw[ag h1];by_cases h2:BG f<=FB f m neg k
   ·rw[ah h2];dsimp only;split<;>omega
   ·rw[ag h2];exact hmm
theorem bCM{f m:Int}(hf:Fm f)(hm:0<=m/\m<=5){S T:Int}(h:S<=T):WP f m S<=WP f m T:=by
 unfold WP;by_cases hS:S<0
 ·rw[ah hS];by_cases hT:T<0
  ·rw[ah hT];have:=aPI hf hm true (n:=T.natAbs) (k:=S.natAbs) (by omega);omega
  ·rw[ag hT];omega
 ·rw[ag hS,ag (by omega)];have:=aPI hf hm false (n:=S.natAbs) (k:=T.natAbs) (by omega);omega
end VL
namespace VL
open Go Vx
def fB(f m:Int)(a b:Nat):Nat×Nat:=bif Bm f a||Bm f b then(Cu f,1)else bif nan f a||nan f b then(Cu f,0)else bif(Ax f a&&Ax f b)&&!(sF f a==sF f b)then(Cu f,1)else bif Ax f a then(a,0)else bif Ax f b then(b,0)else DJ f m (sF f a) (Al f a) (An f a) (sF f b) (Al f b) (An f b)
theorem aYh(f m:Int)(a b:Nat):V9 f m a b=(((fB f m a b).1:Int),((fB f m a b).2:Int),0,()):=by
 unfold V9 fB;cases Bm f a||Bm f b<;>cases nan f a||nan f b<;>cases(Ax f a&&Ax f b)&&!(sF f a==sF f b)<;>cases Ax f a<;>cases Ax f b<;>rfl
theorem bIE{f m:Int}(hf:Fm f)(hm:0<=m/\m<=5)(nx:Bool)(X:Nat)(ex:Int)(ny:Bool)(Y:Nat)(ey:Int):
  ∃s x g,DJ f m nx X ex ny Y ey=(CJ f s x,g)/\x<=BG f:=by
 obtain⟨s,_,x,g,h,_,h2,_⟩:=bIB hf hm nx X ex ny Y ey;exact⟨s,x,g,h,h2⟩
theorem aOS{f:Int}{a:Nat}(h:Ax f a=true):nan f a=false:=by
 unfold Ax at h;unfold nan;simp only[ar,beq_iff_eq]at h;simp[h.2]
theorem aYg{f m:Int}(hf:Fm f)(hm:0<=m/\m<=5){a b:Nat}(ha:Ai f a=0)(hb:Ai f b=0):Ai f (fB f m a b).1=0:=by
 have hn:=(iK hf).2;unfold fB;cases Bm f a||Bm f b
 ·cases nan f a||nan f b
  ·cases(Ax f a&&Ax f b)&&!(sF f a==sF f b)
   ·cases Ax f a
    ·cases Ax f b
     ·obtain⟨s,x,g,h,hx⟩:=bIE hf hm (sF f a) (Al f a) (An f a) (sF f b) (Al f b) (An f b);simp only[ab];rw[h];exact uP hf _ (bv hx (aD0 hf))
     ·exact hb
    ·exact ha
   ·exact hn
  ·exact hn
 ·exact hn
theorem bCK{f:Int}(hf:Fm f){a:Nat}(h:AB f a≠0):Al f a≠0:=fun hm=>by
 have habs:Ct f a≠0:=fun h0=>h (by unfold AB;rw[h0];cases sF f a<;>rfl)
 have hpp:=au (fP f-1)
 unfold Al at hm
 split at hm
 ·rename_i he
  exact habs ((aS4 hf a).2 ⟨he,hm⟩)
 ·omega
end VL
namespace VL
open Go Vx
def vI(f:Int)(neg:Bool)(X:Nat)(e:Int):Int:=bif neg then -((X*2^(e-qm f).toNat:Nat):Int)else((X*2^(e-qm f).toNat:Nat):Int)
theorem aQH{f:Int}(hf:Fm f)(m:Int)(neg:Bool){N:Nat}(hN:N≠0){e:Int}(he:qm f<=e):
  AT f m neg N e false=(CJ f neg (Ds f m neg (N*2^(e-qm f).toNat) (qm f)).1,(Ds f m neg (N*2^(e-qm f).toNat) (qm f)).2):=by
 have h:=Z1 (f:=f) (m:=m) (neg:=neg) hf hN (e-qm f).toNat (qm f);rw[show qm f+((e-qm f).toNat:Int)=e by omega]at h;rw[←h,Vj hf]
end VL
namespace VL
open Go Vx
theorem jF(f:Int)(a:Nat):qm f<=An f a:=by
 unfold An qm;split<;>omega
def sl(V:Nat->Int)(i:Nat):List Int:=[if 0<i then V 0 else 0,if 1<i then V 1 else 0,if 2<i then V 2 else 0,if 3<i then V 3 else 0,if 4<i then V 4 else 0,if 5<i then V 5 else 0]
end VL
namespace VL
open Go Vx
def vA(f:Int)(a:Nat):Int:=vI f (sF f a) (Al f a) (An f a)
theorem bCN(f m:Int):WP f m 0=0:=by
 unfold WP WF;rw[ag (by omega)];rfl
theorem aLZ{f:Int}(hf:Fm f){a:Nat}(h:Ct f a=0):Al f a=0:=by
 have h0:=(aS4 hf a).1 h;unfold Al;rw[ah h0.1];exact h0.2
theorem aQX{f:Int}(hf:Fm f){a:Nat}(ha:Ai f a=0)(fa:eF f a≠AH f):AB f a=WP f 0 (vA f a):=by
 by_cases h0:Al f a=0
 ·have hv:vA f a=0:=by
   unfold vA vI;rw[h0,fq];cases sF f a<;>rfl
  rw[hv,bCN];by_cases hp:AB f a=0
  ·exact hp
  ·exact absurd h0 (bCK hf hp)
 ·have hr:=bG3 (m:=0) hf ha fa h0;rw[aQH hf 0 (sF f a) h0 (jF f a)]at hr;have h1:CJ f (sF f a) (Ds f 0 (sF f a) (Al f a*2^(An f a-qm f).toNat) (qm f)).1=a:=congrArg Prod.fst hr;have hn0:Al f a*2^(An f a-qm f).toNat≠0:=la (ir (by omega) (au _));have hle:=iV hf 0 (sF f a) (Al f a*2^(An f a-qm f).toNat) (qm f);have h2:AB f a=AB f (CJ f (sF f a) (Ds f 0 (sF f a) (Al f a*2^(An f a-qm f).toNat) (qm f)).1):=by rw[h1]
  rw[h2,bBy _ (bv hle (aD0 hf))];unfold vA vI WP WF;generalize Al f a*2^(An f a-qm f).toNat=n at *
  cases sF f a
  ·simp only[ab];rw[ag (show ¬((n:Int)<0) by omega),qd,ag hn0]
  ·simp only[aa];rw[ah (show(-(n:Int)<0) by omega),Int.natAbs_neg,qd,ag hn0]
theorem aQg(f:Int)(a:Nat):(AB f a).natAbs=Ct f a:=by
 unfold AB;cases sF f a<;>simp
theorem bH7{f:Int}(hf:Fm f){a b:Nat}(h:AB f a=AB f b):vA f a=vA f b:=by
 have habs:Ct f a=Ct f b:=by rw[←aQg,←aQg,h]
 by_cases h0:Ct f a=0
 ·have e1:=aLZ hf h0;have e2:=aLZ hf (habs▸h0);unfold vA vI;rw[e1,e2,fq,fq];cases sF f a<;>cases sF f b<;>rfl
 ·have hs:sF f a=sF f b:=by
   unfold AB at h;rw[habs]at h h0;cases h1:sF f a<;>cases h2:sF f b<;>rw[h1,h2]at h<;>simp only[aa,ab]at h<;>first|rfl|omega
  have he:eF f a=eF f b:=by rw[aDy hf,aDy hf,habs]
  have hm:mF f a=mF f b:=by rw[aEf hf,aEf hf,habs]
  unfold vA Al An;rw[hs,he,hm]
end VL
namespace VL
open Go Vx
def tz(n:Nat):Nat:=if n=0 then 0 else if n%2=1 then 0 else tz (n/2)+1
termination_by n
decreasing_by omega
theorem aSY:∀(t k:Nat),tz (2^t*(2*k+1))=t
 |0,k=>by
  rw[tz,iv,go,ag (by omega),ah (by omega)]
 |t+1,k=>by
  have e:2^(t+1)*(2*k+1)=2*(2^t*(2*k+1)):=by rw[fm,bt (2^t) 2,bu]
  have hp:0<2^t*(2*k+1):=ir (au t) (by omega)
  have ih:=aSY t k
  rw[e]
  generalize 2^t*(2*k+1)=n at *
  rw[tz,ag (by omega),ag (by omega),show 2*n/2=n by omega,ih]
theorem aAe{n:Nat}(h:n≠0):∃k,n=2^tz n*(2*k+1):=by
 obtain⟨t,k,e⟩:=aSW (x:=n) (by omega);refine⟨k,?_⟩;have:=aSY t k;rw[←e]at this;rw[this];exact e
abbrev Dya:=Ab (.pair (.bool) (.pair (.slice (.int .u64)) (.pair (.int .i64) (.unit))))
def dy(s:Bool)(n:Nat)(e:Int):Dya:=(s,Dw n,e,())
theorem aZ7:dy false 0 0=(false,[],0,()):=by unfold dy;rw[Fl]
end VL
namespace VL
open Go Vx
theorem aWU(a b:List Nat)(ha:∀x∈a,x<2^64)(hb:∀x∈b,x<2^64)(hla:a.length<=1000000)(hab:a.length=b.length):
  qD ((Wd a,(Wd b,((a.length:Int)-1,()))),())=some (if nv (2^64) a=nv (2^64) b then .inl ((),())else .inr (((if nv (2^64) a<nv (2^64) b then(-1:Int)else 1),()),())):=by
 have key:=Cx (aPc Ak.pre Ak.F) (fun x=>(x.1.2.2.1+1).toNat)
  (fun x=>∃j:Nat,j<=a.length/\nv (2^64) (a.drop j)=nv (2^64) (b.drop j)/\x=((Wd a,(Wd b,((j:Int)-1,()))),()))
  (fun _=>if nv (2^64) a=nv (2^64) b then .inl ((),())else .inr (((if nv (2^64) a<nv (2^64) b then(-1:Int)else 1),()),())) ?_ ((Wd a,(Wd b,((a.length:Int)-1,()))),())
  ⟨a.length,ci _,by rw[gf,hab,gf],rfl⟩
 ·exact key
 intro L x hx hL;obtain⟨j,hj,hd,rfl⟩:=hx;unfold YJ;rcases j with _|i
 ·have e1:decide ((((0:Nat):Int)-1)>=0)=false:=rfl;rw[jh,jh]at hd;simp only[e1,ab,ah hd]
 ·have e0:(((i+1:Nat):Int)-1)=(i:Int):=by omega
  have e2:al .i64 ((i:Int)-1)=(i:Int)-1:=Au (by omega);have e3:decide ((i:Int)>=0)=true:=ae (by omega);simp(disch:=omega) only[e0,e2,e3,Be,A2,Bf,AW,AN,Bg,A1,AZ,A9,A8,A7,A6,A4,A3,Bb,Ba,A5,AV,AF,AS,AG,AO,AU,ao,bb,aa,ab,ba,bl,bq,ay,be,bi,bf,bj,bg,bo,bm,br,Ay,BM];rcases gd (a.getD i 0) (b.getD i 0)with h|h|h
  ·have hr:=L4 (by decide) ha (by omega) (by omega) hd h;simp(disch:=omega) only[Be,A2,Bf,AW,AN,Bg,A1,AZ,A9,A8,A7,A6,A4,A3,Bb,Ba,A5,AV,AF,AS,AG,AO,AU,ao,bb,aa,ab,ba,bl,bq,ay,be,bi,bf,bj,bg,bo,bm,br];rw[ag (by omega),ah hr]
  ·simp(disch:=omega) only[Be,A2,Bf,AW,AN,Bg,A1,AZ,A9,A8,A7,A6,A4,A3,Bb,Ba,A5,AV,AF,AS,AG,AO,AU,ao,bb,aa,ab,ba,bl,bq,ay,be,bi,bf,bj,bg,bo,bm,br];refine hL _ ⟨i,by omega,?_,rfl⟩ (by simp only[ao];omega);rw[LQ _ a i (by omega),LQ _ b i (by omega),hd,h]
  ·have hr:=L4 (by decide) hb (by omega) (by omega) hd.symm h;simp(disch:=omega) only[Be,A2,Bf,AW,AN,Bg,A1,AZ,A9,A8,A7,A6,A4,A3,Bb,Ba,A5,AV,AF,AS,AG,AO,AU,ao,bb,aa,ab,ba,bl,bq,ay,be,bi,bf,bj,bg,bo,bm,br];rw[ag (by omega),ag (by omega)]
theorem XC{x:Nat}(hx:x<(2^64)^5000):UL (Dw x,())=some (Dw x,()):=by
 have:=ED (dg (2^64) x) (Eb hx).2;rw[Pp (by decide)]at this;exact this
theorem aA5{x y:Nat}(hx:x<(2^64)^5000)(hy:y<(2^64)^5000):nJ (Dw x,Dw y,())=some (if x=y then 0 else if x<y then -1 else 1,()):=by
 show wT Ak.pre Ak.F qD (Dw x) (Dw y)=_;unfold wT;have p0:=XC hx;have p1:=XC hy;have hX:=Eb hx;have hY:=Eb hy;have hlx:=hX.2;simp only[Fe p0,Fe p1,aa];clear p0 p1;rcases gd (dg (2^64) x).length (dg (2^64) y).length with h|h|h
 ·have hr:=gA (by decide) h;unfold Dw;simp(disch:=omega) only[Be,A2,Bf,AW,AN,Bg,A1,AZ,A9,A8,A7,A6,A4,A3,Bb,Ba,A5,AV,AF,AS,AG,AO,AU,ao,bb,aa,ab,ba,bl,bq,ay,be,bi,bf,bj,bg,bo,bm,br,Ay];rw[ag (by omega),ah hr]
 ·have hw:=aWU _ _ hX.1 hY.1 hlx h;rw[C4,C4]at hw;have e2:al .i64 (((dg (2^64) x).length:Int)-1)=((dg (2^64) x).length:Int)-1:=Au (by omega);unfold Dw;simp(disch:=omega) only[Be,A2,Bf,AW,AN,Bg,A1,AZ,A9,A8,A7,A6,A4,A3,Bb,Ba,A5,AV,AF,AS,AG,AO,AU,ao,bb,aa,ab,ba,bl,bq,ay,be,bi,bf,bj,bg,bo,bm,br,Ay,e2,hw];by_cases he:x=y
  ·rw[ah he,ah he];first|rfl|skip
  ·rw[ag he,ag he];first|rfl|skip
 ·have hr:=gA (by decide) h;unfold Dw;simp(disch:=omega) only[Be,A2,Bf,AW,AN,Bg,A1,AZ,A9,A8,A7,A6,A4,A3,Bb,Ba,A5,AV,AF,AS,AG,AO,AU,ao,bb,aa,ab,ba,bl,bq,ay,be,bi,bf,bj,bg,bo,bm,br,Ay];rw[ag (by omega),ag (by omega)]
theorem i0{out a:List Nat}{i v:Nat}(hol:out.length=i)(h:i<a.length):(out++a.drop i).set i v=(out++[v])++a.drop (i+1):=by
 rw[gh _ _ (by omega),hol,gu,dr h,kf,fy];rfl
theorem bAR{out a:List Nat}{i:Nat}(hol:out.length=i):(out++a.drop i).getD i 0=a.getD i 0:=by
 rw[aw,cm (by omega),hol,gu,fe,dp,←aw]
theorem aWM(a b:List Nat)(ha:∀x∈a,x<2^64)(hb:∀x∈b,x<2^64)(hla:a.length<=1000000)(hba:b.length<=a.length)(hv:nv (2^64) b<=nv (2^64) a):
  dC (((a.length:Int),(Wd b,((0:Int),((0:Int),((),()))))),(Wd a,()))=some (.inl (((),()),(Wd (pd (2^64) a.length (nv (2^64) a-nv (2^64) b)),()))):=by
 have key:=Cx (aO4 B8.pre B8.F BI.pre BI.F Ak.pre Ak.F) (fun x=>a.length-x.1.2.2.2.1.toNat)
  (fun x=>∃(i:Nat) (out:List Nat) (c:Nat),i<=a.length/\out.length=i/\(∀x∈out,x<2^64)/\c<=1/\nv (2^64) (a.take i)+(2^64)^i*c=nv (2^64) (b.take i)+nv (2^64) out /\
   x=(((a.length:Int),(Wd b,((c:Int),((i:Int),((),()))))),(Wd (out++a.drop i),())))
  (fun _=>.inl (((),()),(Wd (pd (2^64) a.length (nv (2^64) a-nv (2^64) b)),()))) ?_ (((a.length:Int),(Wd b,((0:Int),((0:Int),((),()))))),(Wd a,()))
  ⟨0,[],0,dv _,rfl,(fun x hx=>by simp at hx),by decide,by simp[nv],rfl⟩
 ·exact key
 intro L x hx hL;obtain⟨i,out,c,hi,hol,hod,hc,hov,rfl⟩:=hx;unfold YB;rcases bc i a.length with hlt|hge
 ·have hxa:=B0 (by decide) ha i;have hxb:=B0 (by decide) hb i;have hna:=Dg (2^64) a i;have hnb:=Dg (2^64) b i;have hzb:b.length<=i->b.getD i 0=0:=fun h=>by rw[aw,dz h];rfl
  have hset:=fun v=>i0 (v:=v) hol hlt;have hlen:(out++a.drop i).length=a.length:=by simp;omega
  have hget:=bAR (a:=a) hol;generalize hda:a.getD i 0=da at *
  generalize hdb:b.getD i 0=db at *
  have hgo:∀c' v:Nat,c'<=1->v<2^64->da+2^64*c'=db+c+v->L (((a.length:Int),(Wd b,((c':Int),(((i+1:Nat):Int),((),()))))),(Wd (out++[v]++a.drop (i+1)),()))=_:=fun c' v h1 h2 h3=>
   hL _ ⟨i+1,out++[v],c',by omega,by simp;omega,JB hod h2,h1,by
    rw[hna,hnb,LR,hol,fm];exact aPM hov h3,rfl⟩ (by simp only[ao];omega)
  have hgo2:=hgo (if da<db+c then 1 else 0) ((da+2^64-db-c)%2^64) (by split<;>omega) (cn _ (by decide)) (by split<;>omega);have hF:=i6 da db c hc hxa hxb;have hP:=i7 (da:Int) (db:Int) c hc;rcases bc i b.length with hib|hib
  ·simp(disch:=omega) only[Be,A2,Bf,AW,AN,Bg,A1,AZ,A9,A8,A7,A6,A4,A3,Bb,Ba,A5,AV,AF,AS,AG,AO,AU,ao,bb,aa,ab,ba,bl,bq,ay,be,bi,bf,bj,bg,bo,bm,br,Ay,BM,hdb,hget,hF,hP,hlen,Dz,hset];exact hgo2
  ·have h0:=hzb hib;rw[h0]at hF hP;simp(disch:=omega) only[Be,A2,Bf,AW,AN,Bg,A1,AZ,A9,A8,A7,A6,A4,A3,Bb,Ba,A5,AV,AF,AS,AG,AO,AU,ao,bb,aa,ab,ba,bl,bq,ay,be,bi,bf,bj,bg,bo,bm,br,Ay,BM,hget];have hF':BI.F ((da:Int),((0:Int),((c:Int),())))=_:=hF;have hP':BI.pre ((da:Int),((0:Int),((c:Int),())))=true:=hP;rw[h0]at hgo2;simp(disch:=omega) only[Be,A2,Bf,AW,AN,Bg,A1,AZ,A9,A8,A7,A6,A4,A3,Bb,Ba,A5,AV,AF,AS,AG,AO,AU,ao,bb,aa,ab,ba,bl,bq,ay,be,bi,bf,bj,bg,bo,bm,br,hF',hP',hlen,Dz,hset];exact hgo2
 ·have e:i=a.length:=by omega
  subst e;rw[dw,de hba]at hov;have hlt:=C0 (B:=2^64) (by decide) out hod;rw[hol]at hlt;have hc0:(2^64)^a.length*c=0:=by
   rcases(show c=0∨c=1 by omega)with h|h
   ·rw[h,fu]
   ·rw[h,gx]at hov;omega
  have ho:=Ve (B:=2^64) (v:=nv (2^64) a-nv (2^64) b) (by decide) hod hol (by omega);rw[gf,du];simp(disch:=omega) only[Be,A2,Bf,AW,AN,Bg,A1,AZ,A9,A8,A7,A6,A4,A3,Bb,Ba,A5,AV,AF,AS,AG,AO,AU,ao,bb,aa,ab,ba,bl,bq,ay,be,bi,bf,bj,bg,bo,bm,br,Ay];rw[←ho]
theorem aGM(l:List Nat)(hl:Ws l):Xy (Wd l,())=some (Dw (nv (2^64) l),()):=by
 show v8 Ak.pre Ak.F (Wd l)=_;unfold v8;have p0:=ED l hl.2;have hle:=(DU l).1;have h2:=hl.2;have e3:decide ((((Am l).length:Nat):Int)*8<=140737488355328)=true:=ae (by omega);simp(disch:=omega) only[Be,A2,Bf,AW,AN,Bg,A1,AZ,A9,A8,A7,A6,A4,A3,Bb,Ba,A5,AV,AF,AS,AG,AO,AU,ao,bb,aa,ab,ba,bl,bq,ay,be,bi,bf,bj,bg,bo,bm,br,ZW p0,Yv p0,Ay,e3,gr,lw,gu];rw[de (by rw[Ay];exact ci _),jg,du,Gh (by decide) l hl.1];rfl
theorem aVY{x y:Nat}(hx:x<(2^64)^5000)(h:y<=x):nK (Dw x,Dw y,())=some (Dw (x-y),0,()):=by
 show wU TW.pre TW.F DM.pre DM.F B1.pre B1.F CT.pre CT.F Ak.pre Ak.F Xv.pre Xv.F (Dw x) (Dw y)=_;unfold wU;have hy:y<(2^64)^5000:=bv h hx;have p0:=aA5 hx hy;have p1:=aGM (dg (2^64) x) (Eb hx);rw[C4]at p1;have p1:Xy (Dw x,())=some (Dw x,()):=p1;have p2:=XC hy;have z1:decide ((if x=y then(0:Int)else if x<y then -1 else 1)<0)=false:=by
  by_cases he:x=y
  ·rw[ah he];rfl
  ·rw[ag he,ag (by omega)];rfl
 have hX:=Eb hx;have hY:=Eb hy;have hlx:=hX.2;have p3:nA (Dw x,Dw y,())=some (Dw (x-y),()):=by
  show wD B8.pre B8.F BI.pre BI.F Ak.pre Ak.F dC (Dw x) (Dw y)=_;unfold wD;have hw:=aWM (dg (2^64) x) (dg (2^64) y) hX.1 hY.1 hlx (aDv (by decide) h) (by rw[C4,C4];exact h);rw[C4,C4]at hw;have q1:=aGP (pd (2^64) (dg (2^64) x).length (x-y)) (by rw[Dr];exact hlx);have hlt:=f8 (B:=2^64) (by decide) x;rw[Gh (by decide) _ (H3 (by decide) _ _),H4 (by decide) _ _ (by omega)]at q1;rw[show(Dw x).length=(dg (2^64) x).length from Ay _];rw[show dC ((((dg (2^64) x).length:Int),(Dw y,((0:Int),((0:Int),((),()))))),(Dw x,()))=_ from hw];show(bif B8.pre (Wd (pd (2^64) (dg (2^64) x).length (x-y)),())then some (B8.F (Wd (pd (2^64) (dg (2^64) x).length (x-y)),()))else none)=_;simp only[aYN q1,aa];rfl
 simp only[aCX p0,aa,z1,ab,aCU p1,Fe p2,aYO p3]
def od(s:Bool)(n:Nat)(e:Int):Bool×Nat×Int:=if n=0 then(false,0,0)else(s,n/2^tz n,e+tz n)
def Yq(t:Bool×Nat×Int):Dya:=dy t.1 t.2.1 t.2.2
theorem WM(s:Bool)(n:Nat)(e:Int):(od s n e=(false,0,0)/\n=0)∨((od s n e).1=s/\(od s n e).2.1%2=1/\n≠0/\n=2^tz n*(od s n e).2.1/\(od s n e).2.2=e+tz n):=by
 unfold od;by_cases h:n=0
 ·rw[ah h];exact .inl ⟨rfl,h⟩
 ·right;rw[ag h];obtain⟨k,hk⟩:=aAe h;have hd:n/2^tz n=2*k+1:=by
   have:=iy (2*k+1) (au (tz n));rw[←hk]at this;exact this
  dsimp only;rw[hd];exact⟨rfl,by omega,h,hk,rfl⟩
theorem aFc{n k:Nat}(h:n<2^k)(h0:n≠0):tz n<k:=by
 obtain⟨j,hj⟩:=aAe h0;have h1:2^tz n*1<=2^tz n*(2*j+1):=cq _ (by omega);exact(dk (a:=2) (by decide)).1 (by omega)
theorem aYz{n k:Nat}(h:n<2^k)(hk:k<=64*2000):n<(2^64)^2000:=by
 rw[DS];exact az h (ax (by decide) hk)
theorem aA4{x y:Nat}(hx:x<(2^64)^5000)(hy:y<(2^64)^5000):XB (Dw x,Dw y,())=some (Dw (x+y),()):=by
 have h1:(dg (2^64) x).length<=5000:=Eg (by decide) _ _ hx;have h2:(dg (2^64) y).length<=5000:=Eg (by decide) _ _ hy;have:=aGX (dg (2^64) x) (dg (2^64) y) (Eb hx) (Eb hy) (by rw[Pp (by decide)];omega) (by rw[Pp (by decide)];omega);rw[C4,C4]at this;exact this
end VL
namespace VL
open Go Vx
theorem kO{x:Nat}(h0:x≠0)(h:x<2^64):Dw x=(x:Int)::[]:=by
 unfold Dw;rw[Ez (by decide) (by omega),ce h,dc h,D5];rfl
theorem aHK{f:Int}{a:Nat}(h:Ai f a=0)(hfin:eF f a≠AH f):oG (f,(a:Int),())=some (Yq (od (sF f a) (Al f a) (An f a)),0,()):=by
 obtain⟨hf,h0⟩:=Fz h;have ha:=WO h;show yE Av.pre Av.F D2.pre D2.F BV.pre BV.F Cr.pre Cr.F f a=_;unfold yE;have h1:=CZ hf;have h2:=D7 hf;have h3:=EG hf;have h4:=LJ hf;have h5:=FA hf;have h6:=JL hf;have hE:=gE hf a;have hM:=JP f a;have hPp:2^(fP f-1)<=2^52:=ax (by decide) (by omega);have hpp:=au (fP f-1);have p0:=Lh f a ha;have p1:=pT (fW f-fP f) (by omega);have p2:=aBj hf a ha;have hr1:decide (0<=f)=true:=ae hf.1;have hr2:decide (f<((4:Nat):Int))=true:=ae hf.2;have r1:(Cy f).1=(fW f:Int):=rfl;have r2:(Cy f).2.1=(fP f:Int):=rfl;have r3:(Cy f).2.2.1=1-(fX f:Int):=rfl;have e1:al .i64 ((fW f:Int)-(fP f:Int))=((fW f-fP f:Nat):Int):=AW _ _ (by omega);have e2:al .i64 ((fP f:Int)-1)=((fP f-1:Nat):Int):=AN _ (by omega);have e3:Bk .u64 1 ((fP f-1:Nat):Int)=((2^(fP f-1):Nat):Int):=PR (by omega);have e4:Ao .u64 (mF f a:Int) ((2^(fP f-1):Nat):Int)=((mF f a+2^(fP f-1):Nat):Int):=by
  have:=PO (a:=mF f a) (b:=1) (k:=fP f-1) hM (by omega);rwa [go]at this
 have hfl:(((eF f a:Nat):Int)==((2^(fW f-fP f)-1:Nat):Int))=false:=by
  rw[LP];exact beq_eq_false_iff_ne.2 hfin
 have ew:∀z:Int,-1000000<=z/\z<=1000000->al .i64 z=z:=fun z hz=>Au (by omega);simp only[aEP hf,r1,r2,r3,hr1,hr2,JF p0,aC6 p2,h,aa,aj,ab,e1,e2,e3,e4,aM0 p1,hfl,AF];by_cases hz:eF f a=0
 ·have hg:(((eF f a:Nat):Int)==0)=true:=AS _ hz;have hm:Al f a=mF f a:=by unfold Al;rw[ah hz]
  have hx:An f a=1-(fX f:Int)-(fP f:Int)+1:=by unfold An;rw[ah hz,lf]
  rw[hg,aa,hm,hx];by_cases hm0:mF f a=0
  ·rw[AS _ hm0,aa];unfold od Yq;rw[ah hm0,aZ7]
  ·obtain⟨k,hk⟩:=aAe hm0;have htl:=aFc (n:=mF f a) (k:=53) (by omega) hm0;have p3:=aBk (t:=tz (mF f a)) (k:=k) (by omega);rw[←hk]at p3;have hq:mF f a/2^tz (mF f a)≠0:=by
    have:=iy (2*k+1) (au (tz (mF f a)));rw[←hk]at this;omega
   have hql:=ga (mF f a) (2^tz (mF f a));rw[AG _ hm0,ab];simp only[aM1 p3,aa,AF,DT (mF f a) (tz (mF f a)) (by omega)];rw[←kO hq (by omega)];unfold od Yq dy;rw[ag hm0];rw[ew 1 (by omega),ew (1-1) (by omega),ew (1-1+_) (by omega),ew (1-1+_-_) (by omega),ew (1-1+_-_+1) (by omega),ew _ (by omega)];rw[show(1:Int)-1+(1-(fX f:Int))-(fP f:Int)+1+(tz (mF f a):Int)=1-(fX f:Int)-(fP f:Int)+1+(tz (mF f a):Int) by omega]
 ·have hg:(((eF f a:Nat):Int)==0)=false:=AG _ hz;have hm:Al f a=mF f a+2^(fP f-1):=by unfold Al;rw[ag hz]
  have hx:An f a=1-(fX f:Int)-(fP f:Int)+1+((eF f a:Int)-1):=by unfold An;rw[ag hz]
  rw[hg,ab,hm,hx];have hm0:mF f a+2^(fP f-1)≠0:=by omega
  have hml:mF f a+2^(fP f-1)<2^54:=by omega
  generalize mF f a+2^(fP f-1)=n at *
  obtain⟨k,hk⟩:=aAe hm0;have htl:=aFc hml hm0;have p3:=aBk (t:=tz n) (k:=k) (by rw[←hk];omega);rw[←hk]at p3;have hq:n/2^tz n≠0:=by
   have:=iy (2*k+1) (au (tz n));rw[←hk]at this;omega
  have hql:=ga n (2^tz n);rw[AG _ hm0,ab];simp only[aM1 p3,aa,AF,DT n (tz n) (by omega)];rw[←kO hq (by omega)];unfold od Yq dy;rw[ag hm0];rw[ew (eF f a:Int) (by omega),ew ((eF f a:Int)-1) (by omega),ew ((eF f a:Int)-1+_) (by omega),ew ((eF f a:Int)-1+_-_) (by omega),ew ((eF f a:Int)-1+_-_+1) (by omega),ew _ (by omega)];rw[show(eF f a:Int)-1+(1-(fX f:Int))-(fP f:Int)+1+(tz n:Int)=1-(fX f:Int)-(fP f:Int)+1+((eF f a:Int)-1)+(tz n:Int) by omega]
theorem aPW(s:Bool){n:Nat}(e:Int)(hn:n<2^53)(he:-2000<=e/\e<=2000):(od s n e).2.1<2^53/\-2500<=(od s n e).2.2/\(od s n e).2.2<=2500:=by
 rcases WM s n e with⟨h,_⟩|⟨_,h2,h3,h4,h5⟩
 ·rw[h];exact⟨au _,by dsimp only;omega,by dsimp only;omega⟩
 ·have hle:(od s n e).2.1<=n:=by
   have:=Nat.le_mul_of_pos_left (od s n e).2.1 (au (tz n));omega
  have:=aFc hn h3;refine⟨by omega,by omega,by omega⟩
end VL
namespace VL
open Go Vx
theorem aQs{f:Int}(hf:Fm f):qm f<=0:=by
 have:=JL hf;have:=CZ hf;unfold qm;omega
end VL
namespace VL
open Go Vx
def Bd(f:Int)(n:Nat)(e:Int):Prop:=qm f<=e/\e<=6000/\n*2^(e-qm f).toNat<2^5000
theorem Bd.lt{f:Int}{n:Nat}{e:Int}(h:Bd f n e):n<2^5000:=by
 have:=gw n (au (e-qm f).toNat);exact bv this h.2.2
theorem Bd.od{f:Int}(hf:Fm f){n:Nat}{e:Int}(s:Bool)(h:Bd f n e):Bd f (VL.od s n e).2.1 (VL.od s n e).2.2:=by
 rcases WM s n e with⟨hz,_⟩|⟨_,h2,h3,h4,h5⟩
 ·rw[hz];exact⟨aQs hf,by dsimp only;omega,by dsimp only;rw[fq];exact au _⟩
 ·have hle:2^(tz n+(e-qm f).toNat)<=n*2^(e-qm f).toNat:=by
   rw[ca];refine bh _ ?_;have:=gw (2^tz n) (show 0<(VL.od s n e).2.1 by omega);omega
  have hlt:=(dk (a:=2) (by decide)).1 (bv hle h.2.2);have hq:=aQs hf;have h1:=h.1;refine⟨by omega,by omega,?_⟩;have e1:(VL.od s n e).2.1*2^((VL.od s n e).2.2-qm f).toNat=n*2^(e-qm f).toNat:=by
   rw[h5,show(e+(tz n:Int)-qm f).toNat=tz n+(e-qm f).toNat by omega,ca,←bu,bt _ (2^tz n),←h4]
  rw[e1];exact h.2.2
end VL
namespace VL
open Go Vx
theorem bBv{f:Int}(hf:Fm f)(a:Nat):Al f a<2^fP f:=by
 have h1:=JP f a;have h2:=aAc hf;have hpp:=au (fP f-1);unfold Al;split<;>omega
end VL
namespace VL
open Go Vx
structure Hid (p:Prop):Prop where
 out:p
end VL
namespace VL
open Go Vx
theorem i2{l:List Nat}{j v:Nat}(hj:j<l.length)(h:l.getD j 0=v):l.set j v=l:=by
 rw[aw,bw hj,Option.getD_some]at h;subst h;exact List.set_getElem_self hj
end VL
namespace VL
open Go Vx
theorem JD{n k:Nat}(h:n<2^k)(hk:k<=64*5000):n<(2^64)^5000:=by
 rw[DS];exact az h (ax (by decide) hk)
theorem aTb(n:Nat):((((Dw n).length:Nat):Int)==0)=decide (n=0):=by
 by_cases h:n=0
 ·subst h;rw[Fl];rfl
 ·rw[af h];exact AG _ (by have:=kN h;omega)
end VL
namespace VL
open Go Vx
def aNo(far n:Int):Int:=if(if far<n then far else n)>-far then(if far<n then far else n)else -far
def bH8(f m:Int)(a:Nat)(n:Int):DenS M2:=if ¬Fm f then(0,0,2,())else if m<0∨m>5 then(0,0,3,())else if Ai f a≠0 then(0,0,Ai f a,())else bif nan f a then((Cu f:Int),(bif Bm f a then 1 else 0),0,())else if eF f a=AH f∨Ct f a=0 then((a:Int),0,0,())else(((AT f m (sF f a) (Al f a) (An f a+aNo 5000 n) false).1:Int),((AT f m (sF f a) (Al f a) (An f a+aNo 5000 n) false).2:Int),0,())
end VL
namespace VL
open Go Vx
theorem eY{x:Nat}(h:x<2^64):BR .u64 (x:Int) 4294967295=((x%2^32:Nat):Int):=UX (n:=32) h (by decide)
theorem WZ(x:Nat):AR .u64 (x:Int) 32=((x/2^32:Nat):Int):=by
 have h:=aQ1 (a:=(x:Int)) 32 (by decide);rw[show((32:Nat):Int)=32 from rfl]at h;rw[h];norm_cast
theorem bBE{x0 x1 y0 y1:Nat}(h0:x0<2^32)(h1:x1<2^32)(k0:y0<2^32)(k1:y1<2^32):
  ((x1*y1%2^64+(x1*y0%2^64+x0*y0%2^64/2^32)%2^64/2^32)%2^64+((x1*y0%2^64+x0*y0%2^64/2^32)%2^64%2^32+x0*y1%2^64)%2^64/2^32)%2^64=(x0+2^32*x1)*(y0+2^32*y1)/2^64:=by
 have b00:x0*y0<=(2^32-1)*(2^32-1):=ju (by omega) (by omega);have b01:x0*y1<=(2^32-1)*(2^32-1):=ju (by omega) (by omega);have b10:x1*y0<=(2^32-1)*(2^32-1):=ju (by omega) (by omega);have b11:x1*y1<=(2^32-1)*(2^32-1):=ju (by omega) (by omega);have e1:x0*(2^32*y1)=2^32*(x0*y1):=ic _ _ _;have e2:2^32*x1*y0=2^32*(x1*y0):=bu _ _ _;have e3:2^32*x1*(2^32*y1)=2^64*(x1*y1):=by
  rw[bu,ic x1,←bu]
 rw[cu,ck,ck,e1,e2,e3];generalize x0*y0=a at *
 generalize x0*y1=b at *
 generalize x1*y0=c at *
 generalize x1*y1=d at *
 have ha:a%2^64=a:=ce (by omega);have hb:b%2^64=b:=ce (by omega);have hc:c%2^64=c:=ce (by omega);have hd:d%2^64=d:=ce (by omega);rw[ha,hb,hc,hd];have ht:(c+a/2^32)%2^64=c+a/2^32:=ce (by omega);rw[ht];generalize hT:c+a/2^32=t;have hw:(t%2^32+b)%2^64=t%2^32+b:=ce (by omega);rw[hw];have hq:(d+t/2^32)%2^64=d+t/2^32:=ce (by omega);rw[hq];omega
theorem aBa{x y:Nat}(hx:x<2^64)(hy:y<2^64):nX ((x:Int),(y:Int),())=some (((x*y/2^64:Nat):Int),((x*y%2^64:Nat):Int),()):=by
 show xR (x:Int) (y:Int)=_;unfold xR;dsimp only;rw[eY hx,eY hy,WZ x,WZ y];have hm:∀z:Nat,z%2^64<2^64:=fun z=>cn _ (by decide);have am:∀z:Nat,BR .u64 ((z%2^64:Nat):Int) 4294967295=((z%2^64%2^32:Nat):Int):=fun z=>eY (hm z);have wm:∀a b:Nat,al .u64 ((a:Int)*(b:Int))=((a*b%2^64:Nat):Int):=fun a b=>by rw[←kl];exact aAi _
 have wa:∀a b:Nat,al .u64 ((a:Int)+(b:Int))=(((a+b)%2^64:Nat):Int):=fun a b=>by rw[←Int.natCast_add];exact aAi _
 simp only[wm,wa,WZ,am];have e:=bBE (x0:=x%2^32) (x1:=x/2^32) (y0:=y%2^32) (y1:=y/2^32) (by omega) (by omega) (by omega) (by omega);rw[jk,jk]at e;rw[e]
theorem aWf{x y:Nat}(hx:x<2^64)(hy:y<2^64):nY ((x:Int),(y:Int),())=some (Wi (x*y),()):=by
 show xS Bo.pre Bo.F (x:Int) (y:Int)=_;unfold xS;have p:=aBa hx hy;simp only[aC2 p,aa];rfl
def AX(f:Int)(a:Nat):Bool:=eF f a==0&&mF f a==0
theorem aNq{f:Int}(hf:Fm f)(a:Nat):(BZ f a==5||BZ f a==6)=AX f a:=by
 have hp:=Wx hf;have hne:(eF f a==AH f&&eF f a==0)=false:=by
  cases h:eF f a==AH f
  ·rfl
  ·have:=beq_iff_eq.1 h;rw[bl,this];exact beq_eq_false_iff_ne.2 (by omega)
 unfold BZ AX;cases h1:eF f a==AH f<;>cases h2:eF f a==0<;>rw[h1,h2]at hne<;>cases mF f a==0<;>cases sF f a<;>cases mF f a/2^(fP f-2)!=0<;>first|rfl|cases hne
theorem bI7{f:Int}(hf:Fm f){a:Nat}(h:eF f a=0):
  al .i64 (al .i64 (al .i64 (al .i64 (al .i64 (1:Int)-1)+(1-(fX f:Int)))-(fP f:Int))+1)=An f a:=by
 have h3:=FA hf;have h4:=LJ hf;unfold An;rw[ah h,show al .i64 (1:Int)=1 from rfl,Au (n:=(1:Int)-1) (by omega),Au (n:=(1:Int)-1+(1-(fX f:Int))) (by omega),Au (n:=(1:Int)-1+(1-(fX f:Int))-(fP f:Int)) (by omega),Au (by omega)];omega
theorem bI6{f:Int}(hf:Fm f){a:Nat}(h:eF f a≠0):
  al .i64 (al .i64 (al .i64 (al .i64 (al .i64 (eF f a:Int)-1)+(1-(fX f:Int)))-(fP f:Int))+1)=An f a:=by
 have h3:=FA hf;have h4:=LJ hf;have hE:=gE hf a;unfold An;rw[ag h,Au (n:=(eF f a:Int)) (by omega),Au (n:=(eF f a:Int)-1) (by omega),Au (n:=(eF f a:Int)-1+(1-(fX f:Int))) (by omega),Au (n:=(eF f a:Int)-1+(1-(fX f:Int))-(fP f:Int)) (by omega),Au (by omega)];omega
theorem bBw{f:Int}(hf:Fm f)(a:Nat):Ao .u64 (mF f a:Int) (Bk .u64 1 (al .i64 ((fP f:Int)-1)))=((mF f a+2^(fP f-1):Nat):Int):=by
 have h1:=CZ hf;have h3:=FA hf;have hM:=JP f a;have hPp:2^(fP f-1)<=2^52:=ax (by decide) (by omega);have e0:al .i64 ((fP f:Int)-1)=((fP f-1:Nat):Int):=AN _ (by omega);have e3:Bk .u64 1 ((fP f-1:Nat):Int)=((2^(fP f-1):Nat):Int):=PR (by omega);rw[e0,e3];have:=PO (a:=mF f a) (b:=1) (k:=fP f-1) hM (by omega);rwa [go]at this
theorem aHo{f:Int}{a:Nat}(h:Ai f a=0):cK (f,Cy f,(a:Int),())=some ((BZ f a,sF f a,(Al f a:Int),An f a,()),0,()):=by
 obtain⟨hf,h0⟩:=Fz h;have ha:=WO h;show Z8 Bs.pre Bs.F Cs.pre Cs.F f (Cy f) a=_;unfold Z8;have p1:=cW ha h;have p2:=aBm h;have h1:=CZ hf;have h3:=FA hf;have r1:(Cy f).2.1=(fP f:Int):=rfl;have r2:(Cy f).2.2.1=1-(fX f:Int):=rfl;have e0:decide (0<=al .i64 ((fP f:Int)-1))=true:=by
  rw[AN _ (by omega)];exact AF _
 simp only[Pi p1,aC7 p2,aa,aj,ab,r1,r2,e0];by_cases hz:eF f a=0
 ·rw[AS _ hz,aa,bI7 hf hz];have hm:Al f a=mF f a:=by unfold Al;rw[ah hz]
  rw[hm]
 ·rw[AG _ hz,ab,bI6 hf hz,bBw hf];have hm:Al f a=mF f a+2^(fP f-1):=by unfold Al;rw[ag hz]
  rw[hm]
theorem aHn{f:Int}{a:Nat}(ha:a<2^64)(h:Ai f a≠0):cK (f,Cy f,(a:Int),())=some ((0,false,0,0,()),Ai f a,()):=by
 show Z8 Bs.pre Bs.F Cs.pre Cs.F f (Cy f) a=_;unfold Z8;have p1:=aBd ha h;have e:(Ai f a !=0)=true:=bne_iff_ne.2 h;simp only[Pi p1,aa,e]
def WH(f m:Int)(a b:Nat):Int×Int×Int×Unit:=bif nan f a||nan f b then((Cu f:Int),(bif Bm f a||Bm f b then 1 else 0),0,())else bif(Ax f a&&AX f b)||(AX f a&&Ax f b)then((Cu f:Int),1,0,())else bif Ax f a||Ax f b then((Dp f (!(sF f a==sF f b)):Int),0,0,())else bif AX f a||AX f b then((Bu f (!(sF f a==sF f b)):Int),0,0,())else(((AT f m (!(sF f a==sF f b)) (Al f a*Al f b) (An f a+An f b) false).1:Int),((AT f m (!(sF f a==sF f b)) (Al f a*Al f b) (An f a+An f b) false).2:Int),0,())
def JS(f m:Int)(a b:Nat):Int×Int×Int×Unit:=if ¬Fm f then(0,0,2,())else if m<0∨m>5 then(0,0,3,())else if Ai f a≠0 then(0,0,Ai f a,())else if Ai f b≠0 then(0,0,Ai f b,())else WH f m a b
theorem FE{f:Int}{a:Nat}(h:AX f a=false):Al f a≠0:=by
 unfold AX at h;unfold Al;by_cases hz:eF f a=0
 ·rw[ah hz];intro hm;rw[hz,hm]at h;cases h
 ·rw[ag hz];have:=au (fP f-1);omega
theorem aWm(f m:Int){a b:Nat}(ha:a<2^64)(hb:b<2^64):cL (f,m,(a:Int),(b:Int),())=some (JS f m a b):=by
 show x6 Ap.pre Ap.F Ug.pre Ug.F Uh.pre Uh.F Bh.pre Bh.F Ui.pre Ui.F CM.pre CM.F Uj.pre Uj.F Cw.pre Cw.F EC.pre EC.F C1.pre C1.F f m a b=_;unfold x6 JS;dsimp only;by_cases hf:¬Fm f
 ·have p0:=Oe hf;rw[ah hf];simp only[Dc p0,aa];rfl
 have hf:=jv.1 hf;have p0:=Li hf;rw[ag (show ¬¬Fm f from fun h=>h hf)];simp only[Dc p0,aa,aj,ab];by_cases hm:m<0∨m>5
 ·rw[ah hm];have:(decide (m<0)||decide (m>5))=true:=by rcases hm with h|h<;>simp[h]
  rw[this,aa]
 rw[ag hm];have hm':0<=m/\m<=5:=by omega
 have:(decide (m<0)||decide (m>5))=false:=by simp;omega
 rw[this,ab];by_cases hca:Ai f a≠0
 ·have p1:=aHn ha hca;have e:(Ai f a !=0)=true:=bne_iff_ne.2 hca;rw[ah hca];simp only[tE p1,aa,e]
 have hca:=jv.1 hca;have p1:=aHo hca;rw[ag (show ¬Ai f a≠0 from fun h=>h hca)];simp only[tE p1,aa,aj,ab];by_cases hcb:Ai f b≠0
 ·have p2:=aHn hb hcb;have e:(Ai f b !=0)=true:=bne_iff_ne.2 hcb;rw[ah hcb];simp only[tE p2,aa,e]
 have hcb:=jv.1 hcb;have p2:=aHo hcb;rw[ag (show ¬Ai f b≠0 from fun h=>h hcb)];have n351:∀(c:Int) (s:Bool) (n e:Int),n7 ((c,s,n,e,()),())=some ((c==1||c==0),()):=fun _ _ _ _=>rfl;have n352:∀(c:Int) (s:Bool) (n e:Int),n8 ((c,s,n,e,()),())=some ((c==2||c==9),()):=fun _ _ _ _=>rfl;have n353:∀(c:Int) (s:Bool) (n e:Int),n9 ((c,s,n,e,()),())=some ((c==5||c==6),()):=fun _ _ _ _=>rfl;have q1:=n351 (BZ f a) (sF f a) (Al f a:Int) (An f a);have q2:=n351 (BZ f b) (sF f b) (Al f b:Int) (An f b);have q3:=n352 (BZ f a) (sF f a) (Al f a:Int) (An f a);have q4:=n352 (BZ f b) (sF f b) (Al f b:Int) (An f b);have q5:=n353 (BZ f a) (sF f a) (Al f a:Int) (An f a);have q6:=n353 (BZ f b) (sF f b) (Al f b:Int) (An f b);rw[f0]at q1 q2;rw[aDn]at q3 q4;rw[aNq hf]at q5 q6;have s:=!(sF f a==sF f b);have p3:=cZ hf;have p4:=aBl hf (!(sF f a==sF f b));have p5:=bP hf (!(sF f a==sF f b));have ma:=HZ hf a;have mb:=HZ hf b;have xa:=L7 hf a;have xb:=L7 hf b;have hprod:Al f a*Al f b<2^128:=az (Nat.mul_lt_mul'' ma mb) (by decide);have p6:=aWf (x:=Al f a) (y:=Al f b) (gl ma (by decide)) (gl mb (by decide));have p7:=bR hf hm' (!(sF f a==sF f b)) (Al f a*Al f b) hprod (An f a+An f b) (by omega) false (fun h=>by cases h);have ew:al .i64 (An f a+An f b)=An f a+An f b:=Au (by omega);simp only[tE p2,aa,aj,ab,aMI q1,aMI q2,aMJ q3,aMJ q4,aMK q5,aMK q6,tH p3,aM2 p4,fO p5,aY4 p6,ew,fQ p7,bg,tO];unfold WH;cases h1:nan f a||nan f b
 ·simp only[ab];cases h2:Ax f a&&AX f b||AX f a&&Ax f b
  ·simp only[ab];cases h3:Ax f a||Ax f b
   ·simp only[ab];cases h4:AX f a||AX f b
    ·simp only[ab];simp only[jb]at h4;rw[ag (kq (FE h4.1) (FE h4.2))]
    ·simp only[aa]
   ·simp only[aa]
  ·simp only[aa]
 ·simp only[aa];cases Bm f a||Bm f b<;>rfl
end VL
namespace VL
open Go Vx
theorem bAg(n:Nat):∃r,r*r<=n/\n<(r+1)*(r+1):=by
 induction n with
 |zero=>exact⟨0,by decide,by decide⟩
 |succ n ih=>
  obtain⟨r,h1,h2⟩:=ih;by_cases h:n+1<(r+1)*(r+1)
  ·exact⟨r,by omega,h⟩
  ·refine⟨r+1,by omega,?_⟩;have:(r+1+1)*(r+1+1)=(r+1)*(r+1)+2*(r+1)+1:=by
    rw[ck (r+1+1),cu (r+1) 1 (r+1)];omega
   omega
def uN(n:Nat):Nat:=Classical.choose (bAg n)
def aQJ(f m:Int)(X:Nat)(E:Int):Nat×Nat:=if uN X*uN X=X then AT f m false (uN X) E false else AT f m false (2*uN X+1) (E-1) false
end VL
namespace VL
open Go Vx
def PN(f:Int)(l:List Nat):Bool:=l.all fun a=>Ai f a==0
theorem aDi{f:Int}(hf:Fm f)(a:Nat):Ai f a=0∨Ai f a=4:=by
 unfold Ai;rw[ah hf];split<;>simp
def Fy(f m:Int)(l:List Nat):Int:=if ¬Fm f then 2 else if m<0∨m>5 then 3 else bif PN f l then 0 else 4
def aQK(f m:Int)(n:Nat)(e:Int):Nat×Nat:=if e%2=1 then aQJ f m (n*2*2^200) ((e-1)/2-100)else aQJ f m (n*2^200) (e/2-100)
def bIj(f m:Int)(a:Nat):Int×Int×Int×Unit:=if Fy f m [a]≠0 then(0,0,Fy f m [a],())else bif nan f a then((Cu f:Int),(bif Bm f a then 1 else 0),0,())else bif sF f a&&!AX f a then((Cu f:Int),1,0,())else bif AX f a||Ax f a then((a:Int),0,0,())else(((aQK f m (Al f a) (An f a)).1:Int),((aQK f m (Al f a) (An f a)).2:Int),0,())
end VL
namespace VL
open Go Vx
theorem aNF{q r yn1 yn0 u u1:Nat}(hq:q*yn1+r=u):(2^32*r+u1<q*yn0)↔u*2^32+u1<q*(yn1*2^32+yn0):=by
 rw[ck,←bu,←hq,cu];omega
theorem aNC{q r yn1 yn0 u u1:Nat}(hq:q*yn1+r=u)(hr:r<2^32)(h0:yn0<2^32)(hu1:u1<2^32)(hlt:u<yn1*2^32+yn0):
  (decide ((q:Int)>=4294967296)||decide (al .u64 ((q:Int)*(yn0:Int))>al .u64 (al .u64 ((4294967296:Int)*(r:Int))+(u1:Int))))=decide (u*2^32+u1<q*(yn1*2^32+yn0)):=by
 rcases bc q (2^32)with h|h
 ·have hm:q*yn0<=(2^32-1)*(2^32-1):=ju (by omega) (by omega);have e1:al .u64 ((q:Int)*(yn0:Int))=((q*yn0:Nat):Int):=jD _ _ (by omega);have e2:al .u64 ((4294967296:Int)*(r:Int))=((2^32*r:Nat):Int):=jD (2^32) r (by omega);have e3:al .u64 (((2^32*r:Nat):Int)+(u1:Int))=((2^32*r+u1:Nat):Int):=DL _ _ (by omega);have e4:decide ((q:Int)>=4294967296)=false:=af (by omega);rw[e1,e2,e3,e4,bm,gj,ai,ai,←aNF hq];omega
 ·have e4:decide ((q:Int)>=4294967296)=true:=ae (by omega);have hm:2^32*(yn1*2^32+yn0)<=q*(yn1*2^32+yn0):=bh _ h;rw[e4,bg,ae (by omega)]
theorem aNE{yn1 yn0 u u1:Nat}(hy:0<yn1)(hu1:u1<2^32):u*2^32+u1<(u/yn1+1)*(yn1*2^32+yn0):=by
 have h1:u<(u/yn1+1)*yn1:=by
  have:=Nat.lt_div_mul_add hy (a:=u);rw[cu,go];exact this
 rw[ck,←bu];omega
theorem aND{q r yn1 yn0 u u1:Nat}(hq:q*yn1+r=u)(h:u*2^32+u1<q*(yn1*2^32+yn0)):1<=q/\(q-1)*yn1+(r+yn1)=u:=by
 have h1:1<=q:=by
  rcases cg q with h0|h0
  ·rw[h0,fq]at h;omega
  ·exact h0
 refine⟨h1,?_⟩;obtain⟨p,rfl⟩:∃p,q=p+1:=⟨q-1,by omega⟩
 rw[cu,go]at hq;rw[show p+1-1=p by omega];omega
theorem aNB{q r yn1 yn0 u u1:Nat}(hq:q*yn1+r=u)(hr:2^32<=r)(h0:yn0<2^32)(hlt:u<yn1*2^32+yn0):q*(yn1*2^32+yn0)<=u*2^32+u1:=by
 have h1:q*yn1<2^32*yn1:=by omega
 have h2:q<2^32:=ll h1;have h3:q*yn0<=2^32*(2^32-1):=ju (by omega) (by omega);have h4:¬2^32*r+u1<q*yn0:=by omega
 rw[aNF hq]at h4;omega
theorem tV{a b q:Nat}(h1:q*b<=a)(h2:a<(q+1)*b):a/b=q:=Nat.div_eq_of_lt_le h1 h2
theorem aW4{u u1 yn0 yn1:Nat}(h0:yn0<2^32)(h1:yn1<2^32)(hy:0<yn1)(hu1:u1<2^32)(hlt:u<yn1*2^32+yn0)(u0 y s:Int):
  qN ((((u%yn1:Nat):Int),((u:Int),((u1:Int),((yn0:Int),((yn1:Int),(((u/yn1:Nat):Int),(u0,(y,(s,()))))))))),()) =
   some (.inl (((u:Int),((u1:Int),((yn0:Int),((yn1:Int),((((u*2^32+u1)/(yn1*2^32+yn0):Nat):Int),(u0,(y,(s,())))))))),())):=by
 have key:=Cx (aPm B2.pre B2.F) (fun x=>x.1.2.2.2.2.2.1.toNat)
  (fun x=>∃q r:Nat,q*yn1+r=u/\r<2^32/\u*2^32+u1<(q+1)*(yn1*2^32+yn0)/\x=(((r:Int),((u:Int),((u1:Int),((yn0:Int),((yn1:Int),((q:Int),(u0,(y,(s,()))))))))),()))
  (fun _=>.inl (((u:Int),((u1:Int),((yn0:Int),((yn1:Int),((((u*2^32+u1)/(yn1*2^32+yn0):Nat):Int),(u0,(y,(s,())))))))),())) ?_ _
  ⟨u/yn1,u%yn1,by rw[bt];exact df u yn1,gl (cn _ hy) h1,aNE hy hu1,rfl⟩
 ·exact key
 intro L x hx hL;obtain⟨q,r,hq,hr,hup,rfl⟩:=hx;unfold YT;have hqu:q<=u:=by
  have:=gw q hy;omega
 dsimp only;rw[aNC hq hr h0 hu1 hlt];by_cases hc:u*2^32+u1<q*(yn1*2^32+yn0)
 ·obtain⟨d1,d2⟩:=aND hq hc;have e1:al .u64 ((q:Int)-1)=((q-1:Nat):Int):=by rw[DV (by omega)];omega
  have e2:al .u64 ((r:Int)+(yn1:Int))=((r+yn1:Nat):Int):=DL _ _ (by omega);rw[ae hc,aa,e1,e2];by_cases hb:2^32<=r+yn1
  ·have e3:decide (((r+yn1:Nat):Int)>=4294967296)=true:=ae (by omega);rw[e3,aa];have:=aNB (u1:=u1) d2 hb h0 hlt;rw[tV this (by rw[show q-1+1=q by omega];exact hc)]
  ·have e3:decide (((r+yn1:Nat):Int)>=4294967296)=false:=af (by omega);rw[e3,ab];exact hL _ ⟨q-1,r+yn1,d2,by omega,by rw[show q-1+1=q by omega];exact hc,rfl⟩ (by simp only[ao];omega)
 ·rw[af hc,ab,tV (by omega) hup]
theorem aW5{u u1 yn0 yn1:Nat}(h0:yn0<2^32)(h1:yn1<2^32)(hy:0<yn1)(hu1:u1<2^32)(hlt:u<yn1*2^32+yn0)(q1 y s:Int):
  qO (((yn0:Int),(((u%yn1:Nat):Int),((yn1:Int),(q1,((u:Int),((u1:Int),(((u/yn1:Nat):Int),(y,(s,()))))))))),()) =
   some (.inl ((q1,((u:Int),((u1:Int),((((u*2^32+u1)/(yn1*2^32+yn0):Nat):Int),(y,(s,())))))),())):=by
 have key:=Cx (aPn B2.pre B2.F) (fun x=>x.1.2.2.2.2.2.2.1.toNat)
  (fun x=>∃q r:Nat,q*yn1+r=u/\r<2^32/\u*2^32+u1<(q+1)*(yn1*2^32+yn0)/\x=(((yn0:Int),((r:Int),((yn1:Int),(q1,((u:Int),((u1:Int),((q:Int),(y,(s,()))))))))),()))
  (fun _=>.inl ((q1,((u:Int),((u1:Int),((((u*2^32+u1)/(yn1*2^32+yn0):Nat):Int),(y,(s,())))))),())) ?_ _
  ⟨u/yn1,u%yn1,by rw[bt];exact df u yn1,gl (cn _ hy) h1,aNE hy hu1,rfl⟩
 ·exact key
 intro L x hx hL;obtain⟨q,r,hq,hr,hup,rfl⟩:=hx;unfold YU;have hqu:q<=u:=by
  have:=gw q hy;omega
 dsimp only;rw[aNC hq hr h0 hu1 hlt];by_cases hc:u*2^32+u1<q*(yn1*2^32+yn0)
 ·obtain⟨d1,d2⟩:=aND hq hc;have e1:al .u64 ((q:Int)-1)=((q-1:Nat):Int):=by rw[DV (by omega)];omega
  have e2:al .u64 ((r:Int)+(yn1:Int))=((r+yn1:Nat):Int):=DL _ _ (by omega);rw[ae hc,aa,e1,e2];by_cases hb:2^32<=r+yn1
  ·have e3:decide (((r+yn1:Nat):Int)>=4294967296)=true:=ae (by omega);rw[e3,aa];have:=aNB (u1:=u1) d2 hb h0 hlt;rw[tV this (by rw[show q-1+1=q by omega];exact hc)]
  ·have e3:decide (((r+yn1:Nat):Int)>=4294967296)=false:=af (by omega);rw[e3,ab];exact hL _ ⟨q-1,r+yn1,d2,by omega,by rw[show q-1+1=q by omega];exact hc,rfl⟩ (by simp only[ao];omega)
 ·rw[af hc,ab,tV (by omega) hup]
theorem aZY{A y u32 u1 u0 q1 r1 q0 r0:Nat}(hA:A=(u32*2^32+u1)*2^32+u0)(h1:u32*2^32+u1=q1*y+r1)(h2:r1*2^32+u0=q0*y+r0)(hr:r0<y):
  A/y=q1*2^32+q0/\A%y=r0:=by
 have e:A=(q1*2^32+q0)*y+r0:=by
  rw[hA,h1,cu,cu,kg];omega
 have hy:0<y:=by omega
 rw[e,bt _ y];exact⟨by rw[lg hy,dc hr,dp],by rw[lh,ce hr]⟩
theorem bIh(U X:Nat):U*2^64+X=(U*2^32+X/2^32)*2^32+X%2^32:=by omega
theorem orL{a b k:Nat}(ha:a<2^k)(h:b*2^k+a<2^64):Ao .u64 ((b*2^k:Nat):Int) (a:Int)=((b*2^k+a:Nat):Int):=by
 rw[iP (by omega) (by omega)];congr 1;have:=Nat.two_pow_add_eq_or_of_lt ha b;rw[bt b,←this]
theorem aHk{n:Nat}(hn:n<2^64):n0 ((n:Int),())=some (((64-Af n:Nat):Int),()):=by
 show xU CL.pre CL.F (n:Int)=_;unfold xU;have p0:=aG6 n hn;have hb:=Db hn;have e:al .i64 ((64:Int)-(Af n:Int))=((64-Af n:Nat):Int):=by rw[Au (by omega)];omega
 simp only[aMD p0,aa,e]
theorem aHl{hi lo y:Nat}(hlo:lo<2^64)(hy:y<2^64)(hlt:hi<y):
  n4 ((hi:Int),(lo:Int),(y:Int),())=some ((((hi*2^64+lo)/y:Nat):Int),(((hi*2^64+lo)%y:Nat):Int),()):=by
 have hy0:0<y:=by omega
 show xV B2.pre B2.F qN qO (hi:Int) (lo:Int) (y:Int)=_;unfold xV;have hbl:=Db hy;have hbl1:=fL (n:=y) (by omega);have p0:=aHk hy;generalize hs:64-Af y=s at *
 have e9:al .u64 (s:Int)=(s:Int):=J6 _ (by omega);have e10:al .u64 ((64:Int)-(s:Int))=((64-s:Nat):Int):=by rw[DV (by omega)];omega
 have g0:((y:Int)==0)=false:=AG _ (by omega);have g1:decide ((y:Int)<=(hi:Int))=false:=af (by omega);have g2:((y:Int)!=0)=true:=AO _ (by omega);dsimp only;simp only[g0,g1,g2,ab,aa,aMG p0,e9,e10];by_cases hh:hi=0
 ·subst hh;have e1:(((0:Nat):Int)==0)=true:=rfl;rw[e1,aa,iS _ _ hlo hy0,fq,dj];rfl
 have e1:((hi:Int)==0)=false:=AG _ hh;rw[e1,ab];have hp:=au s;have hyl:=Pg (n:=y) (by omega);have hyu:=G2 y;have hY1:y*2^s<2^64:=by
  have:y*2^s<2^Af y*2^s:=dl hyu hp;rw[←ca,show Af y+s=64 by omega]at this;exact this
 have hY2:2^63<=y*2^s:=by
  have:2^(Af y-1)*2^s<=y*2^s:=bh _ hyl;rw[←ca,show Af y-1+s=63 by omega]at this;exact this
 have hH:hi*2^s<y*2^s:=dl hlt hp;have hlos:lo/2^(64-s)<2^s:=by
  rw[cj (au _),←ca,show s+(64-s)=64 by omega];exact hlo
 have e264:2^64=2^s*2^(64-s):=by rw[←ca];congr 1;omega
 have hU:hi*2^s+lo/2^(64-s)<y*2^s:=by
  have h1:(hi+1)*2^s<=y*2^s:=bh _ hlt;rw[cu,go]at h1;omega
 have hsc:(hi*2^64+lo)*2^s=(hi*2^s+lo/2^(64-s))*2^64+lo*2^s%2^64:=by
  have h1:lo*2^s=lo*2^s/2^64*2^64+lo*2^s%2^64:=by
   have:=df (lo*2^s) (2^64);omega
  have h2:lo*2^s/2^64=lo/2^(64-s):=by
   rw[e264,bt lo,Nat.mul_div_mul_left _ _ hp]
  rw[h2]at h1;rw[cu,cu,kg];omega
 have s1:=H7 hi s (by omega);have s2:=DT lo (64-s) (by omega);have s3:=H7 y s (by omega);have s4:=H7 lo s (by omega);rw[ce (by omega)]at s1 s3;have hY32:y*2^s/2^32*2^32+y*2^s%2^32=y*2^s:=by omega
 have hdiv:(hi*2^64+lo)*2^s/(y*2^s)=(hi*2^64+lo)/y:=li _ _ hp;have hmod:(hi*2^64+lo)*2^s%(y*2^s)=(hi*2^64+lo)%y*2^s:=gk _ _ _;have hX:lo*2^s%2^64<2^64:=cn _ (by decide);have s5:=orL (b:=hi) hlos (by omega);rw[s1,s2,s3,s4,s5];have hq64:(hi*2^64+lo)/y<2^64:=by
  rw[cj hy0];have:(hi+1)*2^64<=y*2^64:=bh _ hlt;omega
 rw[hsc]at hdiv hmod;generalize hi*2^s+lo/2^(64-s)=U at *
 generalize lo*2^s%2^64=X at *
 generalize hYd:y*2^s=Y at *
 rw[WZ Y,WZ X,eY hY1,eY hX];have hYY1:Y/2^32<2^32:=by omega
 have hYY0:Y%2^32<2^32:=by omega
 have hYp:0<Y/2^32:=by omega
 have g3:(((Y/2^32:Nat):Int)!=0)=true:=AO _ (by omega);have hrem:∀V:Nat,V<2^64->al .u64 ((V:Int)-al .u64 (((V/(Y/2^32):Nat):Int)*((Y/2^32:Nat):Int)))=((V%(Y/2^32):Nat):Int):=fun V hV=>by
  have hdm:=df V (Y/2^32);rw[bt]at hdm;rw[jD _ _ (by omega)];generalize V/(Y/2^32)*(Y/2^32)=z at *
  generalize V%(Y/2^32)=w at *
  rw[DV (by omega)];omega
 rw[g3,aa,iS _ _ (by omega) hYp,hrem U (by omega)];have w1:=aW4 hYY0 hYY1 hYp (show X/2^32<2^32 by omega) (u:=U) (by omega) ((X%2^32:Nat):Int) (Y:Int) (s:Int);rw[w1,hY32];show(bif(((Y/2^32:Nat):Int)!=0)then _ else _)=_;rw[g3,aa];dsimp only;have hd1:=df (U*2^32+X/2^32) Y;have hr1:=cn (U*2^32+X/2^32) (show 0<Y by omega);have hq1:(U*2^32+X/2^32)/Y<2^32:=by
  rw[cj (by omega)];have:(U+1)*2^32<=Y*2^32:=bh _ hU;omega
 have hrem2:∀a b c q r:Nat,a*2^32+b=Y*q+r->r<Y->al .u64 (al .u64 (al .u64 ((a:Int)*4294967296)+(b:Int))-al .u64 ((q:Int)*(Y:Int)))=(r:Int):=fun a b _ q r h1 h2=>by
  have e:(q:Int)*(Y:Int)=((Y*q:Nat):Int):=by rw[kl,Int.mul_comm]
  rw[e];generalize Y*q=z at *
  show((((a:Int)*4294967296)%18446744073709551616+(b:Int))%18446744073709551616-((z:Int)%18446744073709551616))%18446744073709551616=(r:Int)
  omega
 rw[hrem2 U (X/2^32) 0 _ _ hd1.symm hr1];clear w1;obtain⟨q1,hQ1⟩:∃q,q=(U*2^32+X/2^32)/Y:=⟨_,rfl⟩
 obtain⟨r1,hR1⟩:∃q,q=(U*2^32+X/2^32)%Y:=⟨_,rfl⟩
 rw[←hQ1]at hd1 hq1;rw[←hR1]at hd1 hr1;rw[←hQ1,←hR1];rw[iS _ _ (by omega) hYp,hrem r1 (by omega)];have w2:=aW5 hYY0 hYY1 hYp (show X%2^32<2^32 by omega) (u:=r1) (by omega) (q1:Int) (Y:Int) (s:Int);rw[w2,hY32];show some (_,(_,()))=_;dsimp only;have hd2:=df (r1*2^32+X%2^32) Y;have hr2:=cn (r1*2^32+X%2^32) (show 0<Y by omega);have hq2:(r1*2^32+X%2^32)/Y<2^32:=by
  rw[cj (by omega)];have:(r1+1)*2^32<=Y*2^32:=bh _ hr1;omega
 rw[hrem2 r1 (X%2^32) 0 _ _ hd2.symm hr2];obtain⟨q0,hQ0⟩:∃q,q=(r1*2^32+X%2^32)/Y:=⟨_,rfl⟩
 obtain⟨r0,hR0⟩:∃q,q=(r1*2^32+X%2^32)%Y:=⟨_,rfl⟩
 rw[←hQ0]at hd2 hq2;rw[←hR0]at hd2 hr2;rw[←hQ0,←hR0];obtain⟨f1,f2⟩:=aZY (A:=U*2^64+X) (y:=Y) (u32:=U) (u1:=X/2^32) (u0:=X%2^32) (bIh U X) (by rw[bt q1];exact hd1.symm) (by rw[bt q0];exact hd2.symm) hr2;rw[hdiv]at f1;rw[hmod]at f2;have e5:al .u64 (al .u64 ((q1:Int)*4294967296)+(q0:Int))=(((hi*2^64+lo)/y:Nat):Int):=by
  rw[f1];show((((q1:Int)*4294967296)%18446744073709551616)+(q0:Int))%18446744073709551616=_;omega
 have e6:AR .u64 (r0:Int) (s:Int)=(((hi*2^64+lo)%y:Nat):Int):=by
  rw[DT _ _ (by omega),←f2,jn _ hp]
 rw[e5,e6]
end VL
namespace VL
open Go Vx
theorem PL{D Y:Type}{Φ:{R:Type}->(D->Option R)->(Y->Option R)->D->Option R}(hp:Bn Φ)(μ:D->Nat)(I:D->Prop)(Q:Y->Prop)
  (h:∀(L:D->Option Y) x,I x->(∀x',I x'->μ x'<μ x->∃y,L x'=some y/\Q y)->∃y,Φ L some x=some y/\Q y):∀x,I x->∃y,Bi (fun L=>Φ L some) x=some y/\Q y:=by
 have key:∀m x,I x->μ x<m->∃y,C3 (fun L=>Φ L some) m x=some y/\Q y:=by
  intro m;induction m with
  |zero=>intro x _ h;omega
  |succ m ih=>
   intro x hx hm;simp only[C3];exact h _ x hx fun x' hx' hlt=>ih x' hx' (by omega)
 intro x hx;obtain⟨y,hy,hQ⟩:=key (μ x+1) x hx (by omega);exact⟨y,aOU hp hy,hQ⟩
theorem LX(i:Nat):(2^64)^(i+1)=(2^64)^i*2^64:=fm ..
theorem W6{A us C:List Nat}{i:Nat}(h:i<us.length):(Wd (A++us++C)).getD (A.length+i) 0=((us.getD i 0:Nat):Int):=by
 rw[BM];congr 1;rw[aw,aw,fy,cm (by omega),jq,cw h]
theorem aAg{A us C:List Nat}{i v:Nat}(h:i<us.length):(Wd (A++us++C)).set (A.length+i) (v:Int)=Wd (A++us.set i v++C):=by
 rw[Dz];congr 1;rw[fy,gh _ _ (by omega),jq,my _ _ h,←fy]
theorem tT{out us:List Nat}{i:Nat}(hol:out.length=i)(hi:i<us.length):(out++us.drop i).getD i 0=us.getD i 0:=by
 rw[aw,aw,cm (by omega),hol,gu,fe,dp]
theorem bBG{x y c:Nat}(hx:x<2^64)(hy:y<2^64)(hc:c<2^64):
  x*y+c=2^64*(x*y/2^64+(x*y%2^64+c)/2^64)+(x*y%2^64+c)%2^64/\x*y/2^64+(x*y%2^64+c)/2^64<2^64:=by
 have:x*y<=(2^64-1)*(2^64-1):=ju (by omega) (by omega);generalize x*y=z at *
 omega
theorem aQ6{d l b:Nat}(hd:d<2^64)(hl:l<2^64)(hb:b<=1):
  (d+2^64-l-b)%2^64+l+b=d+2^64*(if d<l+b then 1 else 0)/\(d+2^64-l-b)%2^64<2^64/\(if d<l+b then 1 else 0)<=1:=by
 split<;>omega
theorem bIL{P U V O x y c b d o l c' b':Nat}(h:O+x*V=U+P*(c+b))(h1:x*y+c=2^64*c'+l)(h2:o+l+b=d+2^64*b'):
  O+P*o+x*(V+P*y)=U+P*d+P*2^64*(c'+b'):=by
 have h3:P*(c+b+o+x*y)=P*(d+2^64*(c'+b')):=by
  congr 1;omega
 rw[ck P,ck P,ck P d,←bu P (2^64)]at h3;rw[ck x,ic x P y];omega
theorem aWh(A us C v:List Nat)(hlen:us.length=v.length+1)(hu:∀x∈us,x<2^64)(hv:∀x∈v,x<2^64)(hn:v.length<=1000000){x:Nat}(hx:x<2^64):
  ∃out:List Nat,out.length=us.length/\(∀z∈out,z<2^64)/\nv (2^64) out+x*nv (2^64) v=nv (2^64) us+(if nv (2^64) us<x*nv (2^64) v then(2^64)^us.length else 0) /\
   cG ((Wd (A++us++C),(A.length,us.length)),(Wd v,((x:Int),())))=some (Wd (A++out++C),decide (nv (2^64) us<x*nv (2^64) v),()):=by
 show ∃out:List Nat,_/\_/\_/\xW Bo.pre Bo.F AD.pre AD.F BI.pre BI.F qP (Wd (A++us++C),(A.length,us.length)) (Wd v) (x:Int)=_;have key:=PL (aPo Bo.pre Bo.F AD.pre AD.F BI.pre BI.F) (fun s=>v.length-s.1.2.2.2.1.toNat)
  (fun s=>∃(i:Nat) (out:List Nat) (c b:Nat),i<=v.length/\out.length=i/\(∀z∈out,z<2^64)/\c<2^64/\b<=1/\nv (2^64) out+x*nv (2^64) (v.take i)=nv (2^64) (us.take i)+(2^64)^i*(c+b) /\
   s=(((v.length:Int),(Wd v,((x:Int),((i:Int),(Wd v,((A.length,us.length),((c:Int),((b:Int),())))))))),(Wd (A++(out++us.drop i)++C),())))
  (fun y=>∃(out:List Nat) (c b:Nat),out.length=v.length/\(∀z∈out,z<2^64)/\c<2^64/\b<=1/\nv (2^64) out+x*nv (2^64) v=nv (2^64) (us.take v.length)+(2^64)^v.length*(c+b) /\
   y=.inl ((Wd v,((A.length,us.length),((c:Int),((b:Int),())))),(Wd (A++(out++us.drop v.length)++C),()))) ?_
  (((v.length:Int),(Wd v,((x:Int),((0:Int),(Wd v,((A.length,us.length),((0:Int),((0:Int),())))))))),(Wd (A++us++C),()))
  ⟨0,[],0,0,dv _,rfl,(fun z hz=>by simp at hz),by decide,by decide,by simp[nv],rfl⟩
 ·obtain⟨y,hy,out,c,b,k1,k2,k3,k4,k5,rfl⟩:=key;have hy:qP (((v.length:Int),(Wd v,((x:Int),((0:Int),(Wd v,((A.length,us.length),((0:Int),((0:Int),())))))))),(Wd (A++us++C),()))=_:=hy;have hlt:v.length<us.length:=by omega
  have hwl:(out++us.drop v.length).length=us.length:=by simp[k1];omega
  have hdg:=tT (us:=us) k1 hlt;have hg:=W6 (A:=A) (C:=C) (us:=out++us.drop v.length) (i:=v.length) (by omega);rw[hdg]at hg;have hst:=fun z=>aAg (A:=A) (C:=C) (us:=out++us.drop v.length) (i:=v.length) (v:=z) (by omega);have hsd:=fun z=>i0 (a:=us) (v:=z) k1 hlt;have hd:=B0 (by decide) hu v.length;obtain⟨w1,w2,w3⟩:=aQ6 (d:=us.getD v.length 0) (l:=c) (b:=b) hd k3 k4;have q1:=i6 (us.getD v.length 0) c b k4 hd k3;have q2:=i7 ((us.getD v.length 0:Nat):Int) (c:Int) b k4;have hnx:=Dg (2^64) us v.length;rw[de (show us.length<=v.length+1 by omega)]at hnx;have hnil:us.drop (v.length+1)=[]:=jz (by omega);unfold xW;dsimp only;rw[Ay,hy];have e0:decide ((0:Int)<=(v.length:Int))=true:=ae (by omega);have e1:decide ((v.length:Int)<(us.length:Int))=true:=ae (by omega);dsimp only[AQ,AP];simp only[e0,e1,ba,aa,Ay,ao,hg,q2,q1,hst,hsd,hnil,du];generalize us.getD v.length 0=d at *
  generalize(d+2^64-c-b)%2^64=o at *
  have hO:nv (2^64) (out++[o])+x*nv (2^64) v=nv (2^64) us+(2^64)^us.length*(if d<c+b then 1 else 0):=by
   rw[LR,k1,hnx,hlen,LX];have h3:(2^64)^v.length*(o+c+b)=(2^64)^v.length*(d+2^64*(if d<c+b then 1 else 0)):=by rw[w1]
   rw[ck,ck,ck _ d,←bu _ (2^64)]at h3;rw[ck]at k5;omega
  have hod:=JB k2 w2;have hOl:=C0 (B:=2^64) (by decide) (out++[o]) hod;have hol:(out++[o]).length=us.length:=by simp[k1];omega
  rw[hol]at hOl;by_cases hb:d<c+b
  ·rw[ah hb,gx]at hO;have hlt2:nv (2^64) us<x*nv (2^64) v:=by omega
   refine⟨out++[o],hol,hod,by rw[ah hlt2];exact hO,?_⟩;rw[ah hb,ae hlt2];rfl
  ·rw[ag hb,fu,dp]at hO;have hlt2:¬nv (2^64) us<x*nv (2^64) v:=by omega
   refine⟨out++[o],hol,hod,by rw[ag hlt2,dp];exact hO,?_⟩;rw[ag hb,af hlt2];rfl
 intro L s hs hL;obtain⟨i,out,c,b,hi,hol,hod,hc,hb,hinv,rfl⟩:=hs;unfold YV;rcases bc i v.length with hlt|hge
 ·have hy:=B0 (by decide) hv i;have hd:=B0 (by decide) hu i;have hnv:=Dg (2^64) v i;have hnu:=Dg (2^64) us i;have hwl:(out++us.drop i).length=us.length:=by simp[hol];omega
  have hdg:=tT (us:=us) hol (by omega);have hg:=W6 (A:=A) (C:=C) (us:=out++us.drop i) (i:=i) (by omega);rw[hdg]at hg;have hst:=fun z=>aAg (A:=A) (C:=C) (us:=out++us.drop i) (i:=i) (v:=z) (by omega);have hsd:=fun z=>i0 (a:=us) (v:=z) hol (by omega);have hgv:(Wd v).getD i 0=((v.getD i 0:Nat):Int):=BM v i;generalize v.getD i 0=y at *
  generalize us.getD i 0=d at *
  have p0:=aBa hx hy;obtain⟨m1,m2⟩:=bBG hx hy hc;have q1:=Yc (x*y%2^64) c 0;have q2:=Yd ((x*y%2^64:Nat):Int) (c:Int) 0 (by decide);rw[dp]at q1;have hl:(x*y%2^64+c)%2^64<2^64:=cn _ (by decide);have e5:=DL (x*y/2^64) ((x*y%2^64+c)/2^64) m2;generalize x*y/2^64+(x*y%2^64+c)/2^64=c' at *
  generalize hlq:(x*y%2^64+c)%2^64=l at *
  obtain⟨w1,w2,w3⟩:=aQ6 (d:=d) (l:=l) (b:=b) hd hl hb;have r1:=i6 d l b hb hd hl;have r2:=i7 (d:Int) (l:Int) b hb;generalize(d+2^64-l-b)%2^64=o at *
  generalize(if d<l+b then 1 else 0)=b' at *
  have hstep:=bIL (P:=(2^64)^i) hinv m1 w1;have e0:decide ((i:Int)<(v.length:Int))=true:=ae (by omega);have e1:decide ((0:Int)<=(i:Int))=true:=ae (by omega);have e2:decide ((i:Int)<((us.length:Nat):Int))=true:=ae (by omega);have e3:al .i64 ((i:Int)+1)=((i+1:Nat):Int):=by rw[Au (by omega)];omega
  have z0:((0:Nat):Int)=0:=rfl;rw[z0]at q1 q2;dsimp only;simp only[e0,e1,e2,e3,aa,ba,Ay,ao,hgv,hg,aC2 p0,q1,q2,r1,r2,e5,hst,hsd];refine hL _ ⟨i+1,out++[o],c',b',by omega,by simp[hol],JB hod w2,m2,w3,?_,rfl⟩ (by simp only[ao];omega);rw[LR,hol,hnv,hnu,LX];exact hstep
 ·have e:i=v.length:=by omega
  subst e;have e0:decide ((v.length:Int)<(v.length:Int))=false:=af (by omega);simp only[e0,ab];rw[dw]at hinv;exact⟨_,rfl,out,c,b,hol,hod,hc,hb,hinv,rfl⟩
end VL
namespace VL
open Go Vx
theorem aMh{P U V O y c d:Nat}(h:O+P*c=U+V):O+P*((d+y+c)%2^64)+P*2^64*((d+y+c)/2^64)=U+P*d+(V+P*y):=by
 have h1:P*((d+y+c)%2^64+2^64*((d+y+c)/2^64))=P*(d+y+c):=by rw[jk]
 rw[ck,ck P (d+y),ck,←bu P (2^64)]at h1;omega
theorem aWi(A us C v:List Nat)(hlen:us.length=v.length+1)(hu:∀x∈us,x<2^64)(hv:∀x∈v,x<2^64)(hn:v.length<=1000000):
  ∃out:List Nat,out.length=us.length/\(∀z∈out,z<2^64)/\nv (2^64) out+(if(2^64)^us.length<=nv (2^64) us+nv (2^64) v then(2^64)^us.length else 0)=nv (2^64) us+nv (2^64) v /\
   cH ((Wd (A++us++C),(A.length,us.length)),(Wd v,()))=some (Wd (A++out++C),decide ((2^64)^us.length<=nv (2^64) us+nv (2^64) v),()):=by
 show ∃out:List Nat,_/\_/\_/\xX AD.pre AD.F qQ (Wd (A++us++C),(A.length,us.length)) (Wd v)=_;have key:=PL (aPp AD.pre AD.F) (fun s=>v.length-s.1.2.2.1.toNat)
  (fun s=>∃(i:Nat) (out:List Nat) (c:Nat),i<=v.length/\out.length=i/\(∀z∈out,z<2^64)/\c<=1/\nv (2^64) out+(2^64)^i*c=nv (2^64) (us.take i)+nv (2^64) (v.take i) /\
   s=(((v.length:Int),(Wd v,((i:Int),(Wd v,((A.length,us.length),((c:Int),())))))),(Wd (A++(out++us.drop i)++C),())))
  (fun y=>∃(out:List Nat) (c:Nat),out.length=v.length/\(∀z∈out,z<2^64)/\c<=1/\nv (2^64) out+(2^64)^v.length*c=nv (2^64) (us.take v.length)+nv (2^64) v /\
   y=.inl ((Wd v,((A.length,us.length),((c:Int),()))),(Wd (A++(out++us.drop v.length)++C),()))) ?_
  (((v.length:Int),(Wd v,((0:Int),(Wd v,((A.length,us.length),((0:Int),())))))),(Wd (A++us++C),()))
  ⟨0,[],0,dv _,rfl,(fun z hz=>by simp at hz),by decide,by simp[nv],rfl⟩
 ·obtain⟨y,hy,out,c,k1,k2,k3,k5,rfl⟩:=key;have hy:qQ (((v.length:Int),(Wd v,((0:Int),(Wd v,((A.length,us.length),((0:Int),())))))),(Wd (A++us++C),()))=_:=hy;have hlt:v.length<us.length:=by omega
  have hwl:(out++us.drop v.length).length=us.length:=by simp[k1];omega
  have hdg:=tT (us:=us) k1 hlt;have hg:=W6 (A:=A) (C:=C) (us:=out++us.drop v.length) (i:=v.length) (by omega);rw[hdg]at hg;have hst:=fun z=>aAg (A:=A) (C:=C) (us:=out++us.drop v.length) (i:=v.length) (v:=z) (by omega);have hsd:=fun z=>i0 (a:=us) (v:=z) k1 hlt;have hd:=B0 (by decide) hu v.length;have q1:=Yc (us.getD v.length 0) 0 c;have q2:=Yd ((us.getD v.length 0:Nat):Int) ((0:Nat):Int) c k3;have z0:((0:Nat):Int)=0:=rfl;rw[z0]at q1 q2;have hnx:=Dg (2^64) us v.length;rw[de (show us.length<=v.length+1 by omega)]at hnx;have hnil:us.drop (v.length+1)=[]:=jz (by omega);unfold xX;dsimp only;rw[Ay,hy];have e0:decide ((0:Int)<=(v.length:Int))=true:=ae (by omega);have e1:decide ((v.length:Int)<(us.length:Int))=true:=ae (by omega);dsimp only[AQ,AP];simp only[e0,e1,ba,aa,Ay,ao,hg,q2,q1,hst,hsd,hnil,du];have hstep:=aMh (P:=(2^64)^v.length) (y:=0) (d:=us.getD v.length 0) k5;generalize us.getD v.length 0=d at *
  have ho:(d+0+c)%2^64<2^64:=cn _ (by decide);have hO:nv (2^64) (out++[(d+0+c)%2^64])+(2^64)^us.length*((d+0+c)/2^64)=nv (2^64) us+nv (2^64) v:=by
   rw[LR,k1,hnx,hlen,LX];rw[fu]at hstep;omega
  have hod:=JB k2 ho;have hOl:=C0 (B:=2^64) (by decide) (out++[(d+0+c)%2^64]) hod;have hol:(out++[(d+0+c)%2^64]).length=us.length:=by simp[k1];omega
  rw[hol]at hOl;by_cases hb:(d+0+c)/2^64=1
  ·rw[hb,gx]at hO;have hlt2:(2^64)^us.length<=nv (2^64) us+nv (2^64) v:=by omega
   refine⟨out++[(d+0+c)%2^64],hol,hod,by rw[ah hlt2];exact hO,?_⟩;rw[hb,ae hlt2];rfl
  ·have hb0:(d+0+c)/2^64=0:=by omega
   rw[hb0,fu,dp]at hO;have hlt2:¬(2^64)^us.length<=nv (2^64) us+nv (2^64) v:=by omega
   refine⟨out++[(d+0+c)%2^64],hol,hod,by rw[ag hlt2,dp];exact hO,?_⟩;rw[hb0,af hlt2];rfl
 intro L s hs hL;obtain⟨i,out,c,hi,hol,hod,hc,hinv,rfl⟩:=hs;unfold YW;rcases bc i v.length with hlt|hge
 ·have hy:=B0 (by decide) hv i;have hd:=B0 (by decide) hu i;have hnv:=Dg (2^64) v i;have hnu:=Dg (2^64) us i;have hwl:(out++us.drop i).length=us.length:=by simp[hol];omega
  have hdg:=tT (us:=us) hol (by omega);have hg:=W6 (A:=A) (C:=C) (us:=out++us.drop i) (i:=i) (by omega);rw[hdg]at hg;have hst:=fun z=>aAg (A:=A) (C:=C) (us:=out++us.drop i) (i:=i) (v:=z) (by omega);have hsd:=fun z=>i0 (a:=us) (v:=z) hol (by omega);have hgv:(Wd v).getD i 0=((v.getD i 0:Nat):Int):=BM v i;generalize v.getD i 0=y at *
  generalize us.getD i 0=d at *
  have q1:=Yc d y c;have q2:=Yd (d:Int) (y:Int) c hc;have ho:(d+y+c)%2^64<2^64:=cn _ (by decide);have hc':(d+y+c)/2^64<=1:=by omega
  have hstep:=aMh (P:=(2^64)^i) (y:=y) (d:=d) hinv;have e0:decide ((i:Int)<(v.length:Int))=true:=ae (by omega);have e1:decide ((0:Int)<=(i:Int))=true:=ae (by omega);have e2:decide ((i:Int)<((us.length:Nat):Int))=true:=ae (by omega);have e3:al .i64 ((i:Int)+1)=((i+1:Nat):Int):=by rw[Au (by omega)];omega
  dsimp only;simp only[e0,e1,e2,e3,aa,ba,Ay,ao,hgv,hg,q1,q2,hst,hsd];refine hL _ ⟨i+1,out++[(d+y+c)%2^64],(d+y+c)/2^64,by omega,by simp[hol],JB hod ho,hc',?_,rfl⟩ (by simp only[ao];omega);rw[LR,hol,hnv,hnu,LX];exact hstep
 ·have e:i=v.length:=by omega
  subst e;have e0:decide ((v.length:Int)<(v.length:Int))=false:=af (by omega);simp only[e0,ab];rw[dw]at hinv;exact⟨_,rfl,out,c,hol,hod,hc,hinv,rfl⟩
theorem aW7(A C v:List Nat){k U:Nat}(hk:k=v.length+1)(hv:∀x∈v,x<2^64)(hn:v.length<=1000000)(us:List Nat)(g:Nat)(hlen:us.length=k)(hu:∀x∈us,x<2^64)(hg:g<2^64)
  (hinv:nv (2^64) us+g*nv (2^64) v=U+(2^64)^k) :
  ∃out:List Nat,out.length=k/\(∀z∈out,z<2^64)/\nv (2^64) out=U%nv (2^64) v /\
   dG ((((g:Int),((A.length,k),(Wd v,()))),(Wd (A++us++C),())):GB.D)=some (.inl ((((U/nv (2^64) v:Nat):Int),()),(Wd (A++out++C),()))):=by
 have key:=PL (aPq Br.pre Br.F Bo.pre Bo.F AD.pre AD.F CC.pre CC.F Da.pre Da.F) (fun s=>s.1.1.toNat)
  (fun s=>∃(us:List Nat) (g:Nat),us.length=k/\(∀x∈us,x<2^64)/\g<2^64/\nv (2^64) us+g*nv (2^64) v=U+(2^64)^k /\
   s=(((g:Int),((A.length,k),(Wd v,()))),(Wd (A++us++C),())))
  (fun y=>∃out:List Nat,out.length=k/\(∀z∈out,z<2^64)/\nv (2^64) out=U%nv (2^64) v/\y=.inl ((((U/nv (2^64) v:Nat):Int),()),(Wd (A++out++C),()))) ?_
  (((g:Int),((A.length,k),(Wd v,()))),(Wd (A++us++C),())) ⟨us,g,hlen,hu,hg,hinv,rfl⟩
 ·obtain⟨y,hy,out,k1,k2,k3,rfl⟩:=key;exact⟨out,k1,k2,k3,hy⟩
 clear hinv hg hu hlen us g;intro L s hs hL;obtain⟨us,g,hlen,hu,hg,hinv,rfl⟩:=hs;unfold YX;obtain⟨out,o1,o2,o3,o4⟩:=aWi A us C v (by omega) hu hv hn;rw[hlen]at o1 o3 o4;have hul:=C0 (B:=2^64) (by decide) us hu;rw[hlen]at hul;have hg1:1<=g:=by
  rcases cg g with h|h
  ·rw[h,fq]at hinv;omega
  ·exact h
 obtain⟨p,rfl⟩:∃p,g=p+1:=⟨g-1,by omega⟩
 rw[cu,go]at hinv;have e1:al .u64 (((p+1:Nat):Int)-1)=(p:Int):=by rw[DV (by omega)];omega
 dsimp only;rw[bCU o4,bAE o4,aa,e1];dsimp only;by_cases hc:(2^64)^k<=nv (2^64) us+nv (2^64) v
 ·rw[ah hc]at o3;rw[ae hc,aa];have hV:nv (2^64) out<nv (2^64) v:=by omega
  have hd:U=nv (2^64) v*p+nv (2^64) out:=by rw[bt];omega
  have hpos:0<nv (2^64) v:=by omega
  refine⟨_,rfl,out,o1,o2,?_,?_⟩
  ·rw[hd,lh,ce hV]
  ·rw[hd,lg hpos,dc hV,dp]
 ·rw[ag hc]at o3;rw[af hc,ab];exact hL _ ⟨out,p,o1,o2,by omega,by omega,rfl⟩ (by simp only[ao];omega)
theorem bBe{h l r w:Nat}(hl:l<2^64)(hw:w<2^64):(decide ((h:Int)<(r:Int))||(((h:Int)==(r:Int))&&decide ((l:Int)<=(w:Int))))=decide (h*2^64+l<=r*2^64+w):=by
 rw[gj,fh,ar,ai,ai,ai,beq_iff_eq];omega
theorem bAc{U V P v1 v2 u2 u0 g rest:Nat}(hP:0<P)(hV:(v1*2^64+v2)*P<=V)(hU:U<(u2*2^64+u0+1)*P)(hg:g*v1+rest=u2)(h:¬g*v2<=rest*2^64+u0):U/V<g:=by
 rcases bc (U/V) g with h1|h1
 ·exact h1
 ·exfalso;have h2:g*V<=U:=gb (bh V h1) (lx U V);have h3:g*((v1*2^64+v2)*P)<=g*V:=cq g hV;rw[←bu]at h3;have h4:=ll (bv (gb h3 h2) hU);rw[ck,←bu]at h4;rw[←hg,cu]at h4;omega
theorem bAd{U V P v1 v2 u2 u0:Nat}(hP:0<P)(h1:0<v1)(hV:(v1*2^64+v2)*P<=V)(hU:U<(u2*2^64+u0+1)*P)(hu0:u0<2^64):U/V<=u2/v1:=by
 rw[iu h1];have h2:U/V*V<=U:=lx U V;have h3:U/V*((v1*2^64+v2)*P)<=U/V*V:=cq _ hV;rw[←bu]at h3;have h4:=ll (bv (gb h3 h2) hU);rw[ck,←bu]at h4;omega
theorem aSX{v:List Nat}{n:Nat}(hn:v.length=n+2):(v.getD (n+1) 0*2^64+v.getD n 0)*(2^64)^n<=nv (2^64) v:=by
 have h1:=Dg (2^64) v n;have h2:=Dg (2^64) v (n+1);rw[de (by omega)]at h2;rw[h2,h1,LX,cu,bt _ ((2^64)^n),bt (v.getD n 0),bu,bt (2^64) (v.getD (n+1) 0)];omega
theorem aSO{u:List Nat}{n:Nat}(hu:∀x∈u,x<2^64)(hn:u.length=n+3):nv (2^64) u<((u.getD (n+2) 0*2^64+u.getD (n+1) 0)*2^64+u.getD n 0+1)*(2^64)^n:=by
 have h0:=iN hu n;have h1:=Dg (2^64) u n;have h2:=Dg (2^64) u (n+1);have h3:=Dg (2^64) u (n+2);rw[de (show u.length<=n+2+1 by omega)]at h3;rw[h3,h2,h1];rw[show(2^64)^(n+2)=(2^64)^n*2^64*2^64 by rw[show n+2=n+1+1 by omega,LX,LX],LX];generalize(2^64)^n=P at *
 generalize u.getD (n+2) 0=a;generalize u.getD (n+1) 0=b;generalize u.getD n 0=c;rw[bt (_+1) P,ck,ck,cu,ck,gx];have e1:P*(a*2^64*2^64)=P*2^64*2^64*a:=by rw[bu P,bu P,bu a,bt a]
 have e2:P*(b*2^64)=P*2^64*b:=by rw[bu P,bt b]
 rw[e1,e2];omega
end VL
namespace VL
open Go Vx
theorem aW6(A us C v:List Nat){n:Nat}(hvl:v.length=n+2)(hlen:us.length=n+3)(hu:∀x∈us,x<2^64)(hv:∀x∈v,x<2^64)(hn:v.length<=1000000)
  (hV0:0<v.getD (n+1) 0) (g rest:Nat) (hg:g<2^64) (hr:rest<2^64) (hinv:g*v.getD (n+1) 0+rest=us.getD (n+2) 0*2^64+us.getD (n+1) 0) (hq:nv (2^64) us/nv (2^64) v<=g) :
  ∃g':Nat,g'<2^64/\nv (2^64) us/nv (2^64) v<=g' /\
   qR ((((g:Int),((rest:Int),((v.length:Int),((A.length,us.length),(Wd v,()))))),(Wd (A++us++C),())):GC.D)=some (.inl (((A.length,us.length),(Wd v,((g':Int),()))),(Wd (A++us++C),()))):=by
 have key:=PL (aPr Br.pre Br.F Bo.pre Bo.F AD.pre AD.F CC.pre CC.F Da.pre Da.F) (fun s=>s.1.1.toNat)
  (fun s=>∃(g rest:Nat),g<2^64/\rest<2^64/\g*v.getD (n+1) 0+rest=us.getD (n+2) 0*2^64+us.getD (n+1) 0/\nv (2^64) us/nv (2^64) v<=g /\
   s=(((g:Int),((rest:Int),((v.length:Int),((A.length,us.length),(Wd v,()))))),(Wd (A++us++C),())))
  (fun y=>∃g':Nat,g'<2^64/\nv (2^64) us/nv (2^64) v<=g'/\y=.inl (((A.length,us.length),(Wd v,((g':Int),()))),(Wd (A++us++C),()))) ?_
  (((g:Int),((rest:Int),((v.length:Int),((A.length,us.length),(Wd v,()))))),(Wd (A++us++C),())) ⟨g,rest,hg,hr,hinv,hq,rfl⟩
 ·obtain⟨y,hy,g',k1,k2,rfl⟩:=key;exact⟨g',k1,k2,hy⟩
 clear hinv hg hr hq g rest;intro L s hs hL;obtain⟨g,rest,hg,hr,hinv,hq,rfl⟩:=hs;unfold YY;have hv1:=B0 (by decide) hv (n+1);have hv2:=B0 (by decide) hv n;have hu0:=B0 (by decide) hu n;have g1:(Wd v).getD (n+1) 0=((v.getD (n+1) 0:Nat):Int):=BM v _;have g2:(Wd v).getD n 0=((v.getD n 0:Nat):Int):=BM v _;have g3:=W6 (A:=A) (C:=C) (us:=us) (i:=n) (by omega);have e11:al .i64 ((v.length:Int)-2)=(n:Int):=by rw[Au (by omega)];omega
 have e12:al .i64 ((v.length:Int)-1)=((n+1:Nat):Int):=by rw[Au (by omega)];omega
 have p0:=aBa hg hv2;have e0:decide ((0:Int)<=(n:Int))=true:=ae (by omega);have e1:decide ((n:Int)<(v.length:Int))=true:=ae (by omega);have e2:decide ((n:Int)<(us.length:Int))=true:=ae (by omega);have e3:decide ((0:Int)<=((n+1:Nat):Int))=true:=ae (by omega);have e4:decide (((n+1:Nat):Int)<(v.length:Int))=true:=ae (by omega);have hlo:g*v.getD n 0%2^64<2^64:=cn _ (by decide);have hlex:=bBe (h:=g*v.getD n 0/2^64) (r:=rest) hlo hu0;rw[show g*v.getD n 0/2^64*2^64+g*v.getD n 0%2^64=g*v.getD n 0 by omega]at hlex;dsimp only;simp only[e11,e12,e0,e1,e2,e3,e4,ba,bg,aa,Ay,ao,g1,g2,g3,aC2 p0,hlex];by_cases hc:g*v.getD n 0<=rest*2^64+us.getD n 0
 ·rw[ae hc,aa];exact⟨_,rfl,g,hg,hq,rfl⟩
 ·rw[af hc,ab];have hdn:=bAc (iq (by decide)) (aSX hvl) (aSO hu hlen) hinv hc;have hg1:1<=g:=bv (dv _) hdn;obtain⟨p,rfl⟩:∃p,g=p+1:=⟨g-1,by omega⟩
  have e5:al .u64 (((p+1:Nat):Int)-1)=(p:Int):=by rw[DV (by omega)];omega
  have q1:=Yc rest (v.getD (n+1) 0) 0;have q2:=Yd (rest:Int) ((v.getD (n+1) 0:Nat):Int) 0 (by decide);have z0:((0:Nat):Int)=0:=rfl;rw[z0]at q1 q2;simp only[q1,q2,aa,e5];by_cases hb:(rest+v.getD (n+1) 0+0)/2^64=0
  ·have e6:((((rest+v.getD (n+1) 0+0)/2^64:Nat):Int)!=0)=false:=by rw[hb];rfl
   rw[e6,ab];have hs:(rest+v.getD (n+1) 0+0)%2^64=rest+v.getD (n+1) 0:=by omega
   rw[hs];refine hL _ ⟨p,rest+v.getD (n+1) 0,by omega,by omega,?_,qj hdn,rfl⟩ (by simp only[ao];omega);rw[cu,go]at hinv;omega
  ·have e6:((((rest+v.getD (n+1) 0+0)/2^64:Nat):Int)!=0)=true:=AO _ hb;rw[e6,aa];exact⟨_,rfl,p,by omega,qj hdn,rfl⟩
theorem aWj(A us C v:List Nat){n:Nat}(hvl:v.length=n+2)(hlen:us.length=n+3)(hu:∀x∈us,x<2^64)(hv:∀x∈v,x<2^64)(hn:v.length<=1000000)
  (hlt:nv (2^64) us<nv (2^64) v*2^64) :
  ∃out:List Nat,out.length=us.length/\(∀z∈out,z<2^64)/\nv (2^64) out=nv (2^64) us%nv (2^64) v /\
   cJ ((Wd (A++us++C),(A.length,us.length)),(Wd v,()))=some (Wd (A++out++C),((nv (2^64) us/nv (2^64) v:Nat):Int),()):=by
 show ∃out:List Nat,_/\_/\_/\xY Br.pre Br.F Bo.pre Bo.F AD.pre AD.F CC.pre CC.F Da.pre Da.F qR dG (Wd (A++us++C),(A.length,us.length)) (Wd v)=_;have hVp:0<nv (2^64) v:=by omega
 have hq64:nv (2^64) us/nv (2^64) v<2^64:=by rw[cj hVp,bt];exact hlt
 have hv1:=B0 (by decide) hv (n+1);have hu2:=B0 (by decide) hu (n+2);have hu1:=B0 (by decide) hu (n+1);have hu0:=B0 (by decide) hu n;have CR:∀g:Nat,g<2^64->nv (2^64) us/nv (2^64) v<=g ->
   ∃out:List Nat,out.length=us.length/\(∀z∈out,z<2^64)/\nv (2^64) out=nv (2^64) us%nv (2^64) v /\
    (bif CC.pre ((Wd (A++us++C),(A.length,us.length)),(Wd v,((g:Int),())))then
     (bif(CC.F ((Wd (A++us++C),(A.length,us.length)),(Wd v,((g:Int),())))).2.1 then
      (Vx.AQ (dG (((g:Int),((A.length,us.length),(Wd v,()))),((CC.F ((Wd (A++us++C),(A.length,us.length)),(Wd v,((g:Int),())))).1,()))) fun y5=>
      Vx.AP y5 (fun y6=>some (y6.2.1,y6.1)) (fun _=>none))
     else some ((CC.F ((Wd (A++us++C),(A.length,us.length)),(Wd v,((g:Int),())))).1,((g:Int),())))
    else none)=(some (Wd (A++out++C),(((nv (2^64) us/nv (2^64) v:Nat):Int),())):Option (LK.B FJ×DenS KM)):=by
  intro g hg hq;obtain⟨out,o1,o2,o3,o4⟩:=aWh A us C v (by omega) hu hv hn hg;have hpr:CC.pre ((Wd (A++us++C),(A.length,us.length)),(Wd v,((g:Int),())))=true:=bCT o4;have hfr:CC.F ((Wd (A++us++C),(A.length,us.length)),(Wd v,((g:Int),())))=(Wd (A++out++C),decide (nv (2^64) us<g*nv (2^64) v),()):=bAD o4;rw[hpr,hfr];rw[aa];by_cases hb:nv (2^64) us<g*nv (2^64) v
  ·rw[ah hb]at o3;obtain⟨out2,u1,u2,u3,u4⟩:=aW7 A C v (k:=us.length) (U:=nv (2^64) us) (by omega) hv hn out g o1 o2 hg o3;refine⟨out2,u1,u2,u3,?_⟩;dsimp only;rw[ae hb,aa,u4]
  ·rw[ag hb,dp]at o3;have h1:nv (2^64) us/nv (2^64) v=g:=by
    have:g<=nv (2^64) us/nv (2^64) v:=by rw[iu hVp];omega
    exact Nat.le_antisymm hq this
   have h2:nv (2^64) out=nv (2^64) us%nv (2^64) v:=by
    have:=df (nv (2^64) us) (nv (2^64) v);rw[h1,bt]at this;omega
   refine⟨out,o1,o2,h2,?_⟩;dsimp only;rw[af hb,ab,h1]
 have g1:(Wd v).getD (n+1) 0=((v.getD (n+1) 0:Nat):Int):=BM v _;have g2:=W6 (A:=A) (C:=C) (us:=us) (i:=n+2) (by omega);have g3:=W6 (A:=A) (C:=C) (us:=us) (i:=n+1) (by omega);have e10:al .i64 ((v.length:Int)-1)=((n+1:Nat):Int):=by rw[Au (by omega)];omega
 have e0:decide ((0:Int)<=(v.length:Int))=true:=ae (by omega);have e1:decide ((v.length:Int)<(us.length:Int))=true:=ae (by omega);have e2:decide ((0:Int)<=((n+1:Nat):Int))=true:=ae (by omega);have e3:decide (((n+1:Nat):Int)<(v.length:Int))=true:=ae (by omega);have e4:decide (((n+1:Nat):Int)<(us.length:Int))=true:=ae (by omega);have evl:v.length=n+2:=hvl;have g2':(Wd (A++us++C)).getD (A.length+v.length) 0=((us.getD (n+2) 0:Nat):Int):=by rw[evl];exact g2
 unfold xY;dsimp only;simp only[Ay,ao,e10,g1,g2',g3,e0,e1,e2,e3,e4,ba,aa];by_cases hc:us.getD (n+2) 0<v.getD (n+1) 0
 ·have e5:decide (((us.getD (n+2) 0:Nat):Int)<((v.getD (n+1) 0:Nat):Int))=true:=ae (by omega);have p0:=aHl hu1 hv1 hc;simp only[e5,aa,aMH p0];have hgl:(us.getD (n+2) 0*2^64+us.getD (n+1) 0)/v.getD (n+1) 0<2^64:=by
   rw[cj (by omega)];have:(us.getD (n+2) 0+1)*2^64<=v.getD (n+1) 0*2^64:=bh _ hc;rw[cu,go]at this;rw[bt (2^64)];omega
  have hrl:(us.getD (n+2) 0*2^64+us.getD (n+1) 0)%v.getD (n+1) 0<2^64:=gl (cn _ (by omega)) hv1;have hst:=bAd (iq (n:=n) (show 0<2^64 by decide)) (show 0<v.getD (n+1) 0 by omega) (aSX hvl) (aSO hu hlen) hu0;obtain⟨g',k1,k2,k3⟩:=aW6 A us C v hvl hlen hu hv hn (by omega) _ _ hgl hrl (by rw[bt];exact df _ _) hst;rw[k3];obtain⟨out,o1,o2,o3,o4⟩:=CR g' k1 k2;exact⟨out,o1,o2,o3,o4⟩
 ·have e5:decide (((us.getD (n+2) 0:Nat):Int)<((v.getD (n+1) 0:Nat):Int))=false:=af (by omega);simp only[e5,ab];obtain⟨out,o1,o2,o3,o4⟩:=CR (2^64-1) (by decide) (Nat.le_pred_of_lt hq64);exact⟨out,o1,o2,o3,o4⟩
end VL
namespace VL
open Go Vx
theorem aZs{X Q d r a B:Nat}(hX:X=Q*d+r):X*B+a=(Q*B+(r*B+a)/d)*d+(r*B+a)%d:=by
 have h1:=df (r*B+a) d;rw[hX,cu,cu,kg,bt ((r*B+a)/d) d];omega
theorem aWS(l:List Nat)(hl:∀x∈l,x<2^64)(hn:l.length<=1000000){d:Nat}(hd:0<d)(hd2:d<2^64):
  ∃qs:List Nat,qs.length=l.length/\(∀x∈qs,x<2^64)/\nv (2^64) qs=nv (2^64) l/d /\
   dD ((((d:Int),(((l.length:Int)-1),((),((0:Int),())))),(Wd l,())):GA.D)=some (.inl (((),(((nv (2^64) l%d:Nat):Int),())),(Wd qs,()))):=by
 have key:=PL (aPa Br.pre Br.F Ak.pre Ak.F) (fun s=>(s.1.2.1+1).toNat)
  (fun s=>∃(k:Nat) (qs:List Nat) (r:Nat),k<=l.length/\qs.length+k=l.length/\(∀x∈qs,x<2^64)/\r<d/\nv (2^64) (l.drop k)=nv (2^64) qs*d+r /\
   s=(((d:Int),(((k:Int)-1),((),((r:Int),())))),(Wd (l.take k++qs),())))
  (fun y=>∃qs:List Nat,qs.length=l.length/\(∀x∈qs,x<2^64)/\nv (2^64) qs=nv (2^64) l/d/\y=.inl (((),(((nv (2^64) l%d:Nat):Int),())),(Wd qs,()))) ?_
  (((d:Int),(((l.length:Int)-1),((),((0:Int),())))),(Wd l,()))
  ⟨l.length,[],0,ci _,by simp,(fun z hz=>by simp at hz),hd,by simp[nv],by simp⟩
 ·obtain⟨y,hy,qs,k1,k2,k3,rfl⟩:=key;exact⟨qs,k1,k2,k3,hy⟩
 intro L s hs hL;obtain⟨k,qs,r,hk,hql,hqd,hr,hinv,rfl⟩:=hs;unfold YH;rcases k with _|i
 ·have e0:decide ((((0:Nat):Int)-1)>=0)=false:=rfl;dsimp only;rw[e0,ab];rw[jh]at hinv;have hdv:nv (2^64) l/d=nv (2^64) qs:=by rw[hinv,bt,lg hd,dc hr,dp]
  have hmd:nv (2^64) l%d=r:=by rw[hinv,bt,lh,ce hr]
  exact⟨_,rfl,qs,by omega,hqd,hdv.symm,by rw[hmd,List.take_zero,List.nil_append]⟩
 ·have ei:(((i+1:Nat):Int)-1)=(i:Int):=by omega
  have ha:=B0 (by decide) hl i;have hg:(Wd (l.take (i+1)++qs)).getD i 0=((l.getD i 0:Nat):Int):=by
   rw[BM];congr 1;rw[aw,aw,cw (by simp;omega),List.getElem?_take_of_lt (by omega)]
  have hdn:=LQ (2^64) l i (by omega);have hset:∀z:Nat,(Wd (l.take (i+1)++qs)).set i (z:Int)=Wd (l.take i++(z::qs)):=fun z=>by
   rw[Dz,my _ _ (by simp;omega),kh (show i<l.length by omega),gh _ _ (by simp;omega)];have:i-(l.take i).length=0:=by simp;omega
   rw[this];simp
  have hlen:(Wd (l.take (i+1)++qs)).length=l.length:=by rw[Ay];simp;omega
  generalize l.getD i 0=a at *
  have p0:=aHl (hi:=r) ha hd2 hr;have e0:decide ((i:Int)>=0)=true:=ae (by omega);have e1:decide ((0:Int)<=(i:Int))=true:=ae (by omega);have e2:decide ((i:Int)<(l.length:Int))=true:=ae (by omega);have e3:al .i64 ((i:Int)-1)=(i:Int)-1:=Au (by omega);dsimp only;simp only[ei,e0,e1,e2,e3,hlen,ba,aa,ao,hg,aMH p0,hset];have hq:(r*2^64+a)/d<2^64:=by
   rw[cj hd];have:(r+1)*2^64<=d*2^64:=bh _ hr;rw[bt (2^64)];omega
  refine hL _ ⟨i,(r*2^64+a)/d::qs,(r*2^64+a)%d,by omega,by simp;omega,?_,cn _ hd,?_,rfl⟩ (by dsimp only;omega)
  ·intro x hx;rcases dq.1 hx with rfl|hx
   ·exact hq
   ·exact hqd x hx
  ·have:=aZs (B:=2^64) (a:=a) hinv;rw[hdn];show a+2^64*_=((r*2^64+a)/d+2^64*nv (2^64) qs)*d+_;rw[bt (2^64) (nv (2^64) qs),jc ((r*2^64+a)/d),←this];omega
theorem aFb{l:List Nat}(h:∀x∈l,x<2^64):Wd (Am l)=Dw (nv (2^64) l):=by
 unfold Dw;rw[Gh (by decide) l h]
theorem aVW{a:Nat}(ha:a<(2^64)^5000){d:Nat}(hd:0<d)(hd2:d<2^64):nI (Dw a,(d:Int),())=some (Dw (a/d),((a%d:Nat):Int),()):=by
 show wQ Br.pre Br.F Ak.pre Ak.F dD (Dw a) (d:Int)=_;unfold wQ;have hw:=Eb ha;obtain⟨qs,k1,k2,k3,k4⟩:=aWS (dg (2^64) a) hw.1 hw.2 hd hd2;rw[C4]at k3 k4;have hl:(dg (2^64) a).length<=1000000:=hw.2;have e0:al .i64 (((Dw a).length:Int)-1)=(((dg (2^64) a).length:Int)-1):=by
  unfold Dw;rw[Ay,Au (by omega)]
 have p0:=ED qs (by omega);rw[e0];have k4:dD ((((d:Int),((((dg (2^64) a).length:Int)-1),((),((0:Int),())))),(Dw a,())):GA.D)=_:=k4;rw[k4];show(bif Ak.pre (Wd qs,())then some ((Ak.F (Wd qs,())).1,(((a%d:Nat):Int),()))else none)=_;simp only[Fe p0,aa,aFb k2,k3]
theorem aW8(v:List Nat){n:Nat}(hvl:v.length=n+2)(hv:∀x∈v,x<2^64)(hn:v.length<=900000){X:Nat}(Q:Nat)(hQ:Q<=50000)(s:Int)(us:List Nat)(hus:us.length=Q+n+2)
  (hud:∀x∈us,x<2^64) (hX:nv (2^64) us=X) (hlt:X<nv (2^64) v*(2^64)^Q) :
  ∃qs us':List Nat,qs.length=Q/\(∀x∈qs,x<2^64)/\nv (2^64) qs=X/nv (2^64) v/\us'.length=Q+n+2/\(∀x∈us',x<2^64)/\nv (2^64) us'=X%nv (2^64) v /\
   dH (((Wd v,(((Q:Int)-1),((),((),((v.length:Int),(s,())))))),(Wd us,(Wd (bd Q 0),()))):GD.D)=some (.inl (((),((),((v.length:Int),(s,())))),(Wd us',(Wd qs,())))):=by
 have hV0:0<nv (2^64) v:=by
  rcases cg (nv (2^64) v)with h|h
  ·rw[h,fq]at hlt;omega
  ·exact h
 have hVl:=C0 (B:=2^64) (by decide) v hv;have key:=PL (aPs DM.pre DM.F EW.pre EW.F B1.pre B1.F CT.pre CT.F FX.pre FX.F B2.pre B2.F DN.pre DN.F EZ.pre EZ.F Ak.pre Ak.F CU.pre CU.F) (fun s=>(s.1.2.1+1).toNat)
  (fun x=>∃(k:Nat) (qs us:List Nat),k<=Q/\qs.length+k=Q/\(∀x∈qs,x<2^64)/\us.length=Q+n+2/\(∀x∈us,x<2^64)/\nv (2^64) us<nv (2^64) v*(2^64)^k /\
   X=nv (2^64) qs*(2^64)^k*nv (2^64) v+nv (2^64) us /\
   x=((Wd v,(((k:Int)-1),((),((),((v.length:Int),(s,())))))),(Wd us,(Wd (bd k 0++qs),()))))
  (fun y=>∃qs us':List Nat,qs.length=Q/\(∀x∈qs,x<2^64)/\nv (2^64) qs=X/nv (2^64) v/\us'.length=Q+n+2/\(∀x∈us',x<2^64)/\nv (2^64) us'=X%nv (2^64) v /\
   y=.inl (((),((),((v.length:Int),(s,())))),(Wd us',(Wd qs,())))) ?_
  ((Wd v,(((Q:Int)-1),((),((),((v.length:Int),(s,())))))),(Wd us,(Wd (bd Q 0),())))
  ⟨Q,[],us,ci _,by simp,(fun z hz=>by simp at hz),hus,hud,by rw[hX];exact hlt,by simp[nv,hX],by simp⟩
 ·obtain⟨y,hy,qs,us',k1,k2,k3,k4,k5,k6,rfl⟩:=key;exact⟨qs,us',k1,k2,k3,k4,k5,k6,hy⟩
 clear hlt hX hud hus us;intro L x hx hL;obtain⟨k,qs,us,hk,hql,hqd,hus,hud,hlt,hinv,rfl⟩:=hx;unfold YZ;rcases k with _|j
 ·have e0:decide ((((0:Nat):Int)-1)>=0)=false:=rfl;dsimp only;rw[e0,ab];rw[iv,gx]at hlt hinv;have hdv:X/nv (2^64) v=nv (2^64) qs:=by rw[hinv,bt,lg hV0,dc hlt,dp]
  have hmd:X%nv (2^64) v=nv (2^64) us:=by rw[hinv,bt,lh,ce hlt]
  exact⟨_,rfl,qs,us,by omega,hqd,hdv.symm,hus,hud,hmd.symm,by simp⟩
 ·have ei:(((j+1:Nat):Int)-1)=(j:Int):=by omega
  have hjl:j+(n+3)<=us.length:=by omega
  have hsplit:us=us.take j++(us.drop j).take (n+3)++us.drop (j+(n+3)):=by
   rw[fy,←List.drop_drop,le,le]
  have hAl:(us.take j).length=j:=by simp;omega
  have hwl:((us.drop j).take (n+3)).length=n+3:=by simp;omega
  have hAd:∀x∈us.take j,x<2^64:=fun x hx=>hud x (gc hx);have hwd:∀x∈(us.drop j).take (n+3),x<2^64:=fun x hx=>hud x (ln (gc hx));have hCd:∀x∈us.drop (j+(n+3)),x<2^64:=fun x hx=>hud x (ln hx);have hCl:(us.drop (j+(n+3))).length+j+(n+3)=us.length:=by simp;omega
  generalize us.take j=A at *
  generalize(us.drop j).take (n+3)=w at *
  generalize us.drop (j+(n+3))=C at *
  subst hsplit;have hAlt:=C0 (B:=2^64) (by decide) A hAd;have hval:∀w:List Nat,w.length=n+3->nv (2^64) (A++w++C)=nv (2^64) A+(2^64)^j*nv (2^64) w+(2^64)^(j+(n+3))*nv (2^64) C:=fun w hw=>by
   rw[Vd,Vd,hAl,show(A++w).length=j+(n+3) by simp[hAl,hw]]
  have hPj:=iq (n:=j) (show 0<2^64 by decide);have hv1:=hval w hwl;rw[hAl]at hAlt;have hC0:nv (2^64) C=0:=by
   rcases cg (nv (2^64) C)with h|h
   ·exact h
   ·exfalso;have h1:(2^64)^(j+(n+3))*1<=(2^64)^(j+(n+3))*nv (2^64) C:=cq _ h;have h2:nv (2^64) v*(2^64)^(j+1)<=(2^64)^(n+2)*(2^64)^(j+1):=bh _ (by rw[hvl]at hVl;omega);rw[←ca,show n+2+(j+1)=j+(n+3) by omega]at h2;omega
  rw[hC0,fu,dp]at hv1;have hwlt:nv (2^64) w<nv (2^64) v*2^64:=by
   have h1:(2^64)^j*nv (2^64) w<(2^64)^j*(nv (2^64) v*2^64):=by
    rw[LX,←bu]at hlt;rw[ic,←bu];omega
   exact Nat.lt_of_mul_lt_mul_left h1
  obtain⟨out,o1,o2,o3,o4⟩:=aWj A w C v hvl hwl hwd hv (by omega) hwlt;rw[hAl,hwl]at o4;have hout:out.length=n+3:=by omega
  have hv2:=hval out hout;rw[hC0,fu,dp,o3]at hv2;have hdm:=df (nv (2^64) w) (nv (2^64) v);have hml:=cn (nv (2^64) w) hV0;have hq64:nv (2^64) w/nv (2^64) v<2^64:=by rw[cj hV0,bt];exact hwlt
  have e0:decide ((j:Int)>=0)=true:=ae (by omega);have e1:decide ((0:Int)<=(j:Int))=true:=ae (by omega);have e3:al .i64 (al .i64 ((j:Int)+(v.length:Int))+1)=((j+(n+3):Nat):Int):=by
   rw[Au (n:=(j:Int)+_) (by omega),Au (by omega)];omega
  have e4:decide ((j:Int)<=((j+(n+3):Nat):Int))=true:=ae (by omega);have e5:decide ((((j+(n+3):Nat):Int))<=((Wd (A++w++C)).length:Int))=true:=ae (by rw[Ay];simp;omega);have e6:decide ((j:Int)<((Wd (bd (j+1) 0++qs)).length:Int))=true:=ae (by rw[Ay];simp;omega);have e7:al .i64 ((j:Int)-1)=(j:Int)-1:=Au (by omega);have hset:∀z:Nat,(Wd (bd (j+1) 0++qs)).set j (z:Int)=Wd (bd j 0++(z::qs)):=fun z=>by
   rw[Dz,my _ _ (by simp),List.replicate_succ',gh _ _ (by simp)];simp
  have e8:j+(n+3)-j=n+3:=by omega
  dsimp only;simp only[ei,e0,e1,e3,e4,e5,e6,e7,ba,aa,ao,e8];rw[bCV o4,bAF o4,aa];dsimp only;rw[hset];refine hL _ ⟨j,nv (2^64) w/nv (2^64) v::qs,A++out++C,by omega,by simp;omega,?_,by simp;omega,?_,?_,?_,rfl⟩ (by dsimp only;omega)
  ·intro x hx;rcases dq.1 hx with rfl|hx
   ·exact hq64
   ·exact hqd x hx
  ·intro x hx;rcases dt.1 hx with hx|hx
   ·rcases dt.1 hx with hx|hx
    ·exact hAd x hx
    ·exact o2 x hx
   ·exact hCd x hx
  ·rw[hv2];have:(2^64)^j*(nv (2^64) w%nv (2^64) v+1)<=(2^64)^j*nv (2^64) v:=cq _ hml;rw[ck,gx]at this;rw[bt (nv (2^64) v)];omega
  ·rw[hv2,hinv,hv1];show _=(nv (2^64) w/nv (2^64) v+2^64*nv (2^64) qs)*(2^64)^j*nv (2^64) v+_;have h1:(2^64)^j*nv (2^64) w=(2^64)^j*(nv (2^64) v*(nv (2^64) w/nv (2^64) v))+(2^64)^j*(nv (2^64) w%nv (2^64) v):=by rw[←ck,hdm]
   rw[h1,LX,cu,cu];generalize nv (2^64) w/nv (2^64) v=q;generalize nv (2^64) v=V;generalize(2^64)^j=P;have h2:nv (2^64) qs*(P*2^64)*V=2^64*nv (2^64) qs*P*V:=by rw[bt P,←bu,bt (nv (2^64) qs)]
   have h3:P*(V*q)=q*P*V:=by rw[bt V,←bu,bt P]
   rw[h2,h3];omega
end VL
namespace VL
open Go Vx
theorem aZT{x k:Nat}(h:(2^64)^k<=x):k<(dg (2^64) x).length:=by
 have:=f8 (B:=2^64) (by decide) x;exact(dk (a:=2^64) (by decide)).1 (bv h this)
theorem aZU{x:Nat}(h0:x≠0):∃t,(dg (2^64) x).getD ((dg (2^64) x).length-1) 0=t/\t≠0/\t<2^64/\Af x=64*((dg (2^64) x).length-1)+Af t/\0<(dg (2^64) x).length:=by
 have hl:0<(dg (2^64) x).length:=by rw[Ez (by decide) (by omega)];simp
 have ht:=Pp (B:=2^64) (by decide) x;have h1:=W3 (dg (2^64) x) (by rw[ht];exact hl);have h2:=aMl (LI (B:=2^64) (by decide) x) (by rw[ht];exact hl);rw[ht]at h1 h2;rw[C4]at h2;exact⟨_,rfl,h1,B0 (by decide) (LI (by decide) x) _,h2,hl⟩
theorem ZU(k:Nat):(2^64)^k=2^(64*k):=(gn ..).symm
theorem aWk{a b:Nat}(ha:a<(2^64)^4000)(hb:b<(2^64)^4000)(h0:b≠0):n5 (Dw a,Dw b,())=some (Dw (a/b),Dw (a%b),()):=by
 have up:∀{x:Nat},x<(2^64)^4000->x<(2^64)^5000:=fun h=>az h (ax (by decide) (by decide));show xZ DM.pre DM.F EW.pre EW.F B1.pre B1.F CT.pre CT.F FX.pre FX.F B2.pre B2.F DN.pre DN.F EZ.pre EZ.F Ak.pre Ak.F CU.pre CU.F dH (Dw a) (Dw b)=_;unfold xZ;have pa:=XC (up ha);have pb:=XC (up hb);have pc:=aA5 (up ha) (up hb);have wa:=Eb (up ha);have wb:=Eb (up hb);have hla:(dg (2^64) a).length<=4000:=Eg (by decide) _ _ ha;have hlb:(dg (2^64) b).length<=4000:=Eg (by decide) _ _ hb;have pcopy:=aGM (dg (2^64) a) wa;rw[C4]at pcopy;have pcopy:Xy (Dw a,())=some (Dw a,()):=pcopy;obtain⟨t,ht,ht0,ht64,hbt,hlp⟩:=aZU h0;have hLen:∀x:Nat,(Dw x).length=(dg (2^64) x).length:=fun x=>Ay _;have hGet:∀(x i:Nat),(Dw x).getD i 0=(((dg (2^64) x).getD i 0:Nat):Int):=fun x i=>BM _ _;dsimp only;simp only[Fe pa,Fe pb,aCX pc,aa];by_cases hlt:a<b
 ·have e0:decide ((if a=b then(0:Int)else if a<b then -1 else 1)<0)=true:=by rw[ag (by omega),ah hlt];rfl
  simp only[e0,aa,aCU pcopy];rw[dc hlt,ce hlt,Fl]
 have e0:decide ((if a=b then(0:Int)else if a<b then -1 else 1)<0)=false:=by
  rw[ag hlt];split<;>rfl
 simp only[e0,ab];by_cases h1:(dg (2^64) b).length=1
 ·have e1:(((Dw b).length:Int)==1)=true:=by rw[hLen,h1];rfl
  have hb64:b<2^64:=by
   have:=f8 (B:=2^64) (by decide) b;rw[h1,qz]at this;exact this
  have e2:decide ((0:Int)<((Dw b).length:Int))=true:=by rw[hLen,h1];rfl
  have e3:(Dw b).getD (aq 0) 0=(b:Int):=by rw[bb,P0,ce hb64]
  have p0:=aVW (up ha) (np h0) hb64;have hr:a%b<b:=cn _ (np h0);have p1:=ED [a%b] (by simp);rw[aFb (by intro x hx;rw[kw]at hx;omega),show nv (2^64) [a%b]=a%b by simp[nv]]at p1;have p1:UL ((((a%b:Nat):Int)::[]),())=_:=p1;simp only[e1,e2,e3,aa,aCU pcopy,aYT p0,Fe p1]
 have e1:(((Dw b).length:Int)==1)=false:=by
  rw[hLen];exact Wz _ _ (by omega)
 simp only[e1,ab];obtain⟨n,hn⟩:∃n,(dg (2^64) b).length=n+2:=⟨(dg (2^64) b).length-2,by omega⟩
 have hab:(dg (2^64) b).length<=(dg (2^64) a).length:=aDv (by decide) (by omega);obtain⟨Q,hQ⟩:∃Q,(dg (2^64) a).length+1=Q+n+2:=⟨(dg (2^64) a).length+1-(n+2),by omega⟩
 rw[show(dg (2^64) b).length-1=n+1 by omega]at ht hbt;have hbl:=Db ht64;have hbl1:=fL ht0;generalize hs:64-Af t=s at *
 have p327:=aHk ht64;rw[hs]at p327;have hub:=G2 b;have hlob:=Pg h0;have hp:=au s;have hV1:b*2^s<2^(64*(n+2)):=by
  have h2:b*2^s<2^Af b*2^s:=dl hub hp;rw[←ca,show Af b+s=64*(n+2) by omega]at h2;exact h2
 have hV2:2^(64*(n+2)-1)<=b*2^s:=by
  have h2:2^(Af b-1)*2^s<=b*2^s:=bh _ hlob;rw[←ca,show Af b-1+s=64*(n+2)-1 by omega]at h2;exact h2
 have hvlen:(dg (2^64) (b*2^s)).length=n+2:=by
  have h2:(dg (2^64) (b*2^s)).length<=n+2:=Eg (by decide) _ _ (by rw[ZU];exact hV1);have h3:=aZT (x:=b*2^s) (k:=n+1) (by
   rw[ZU];exact gb (ax (by decide) (by omega)) hV2)
  omega
 have hA:a*2^s<2^(64*(dg (2^64) a).length+s):=by
  have h2:=f8 (B:=2^64) (by decide) a;rw[ZU]at h2;rw[ca];exact dl h2 hp
 have hulen:(dg (2^64) (a*2^s)).length<=Q+n+2:=Eg (by decide) _ _ (by
  rw[ZU];exact az hA (ax (by decide) (by omega)))
 have hstart:a*2^s<b*2^s*(2^64)^Q:=by
  have h2:2^(64*(n+2)-1)*2^(64*Q)<=b*2^s*2^(64*Q):=bh _ hV2;rw[←ca]at h2;rw[ZU];exact az (az hA (ax (by decide) (by omega))) h2
 have pv:=aA7 (dg (2^64) b) wb s (by rw[Pp (by decide)];omega);have pu:=aA7 (dg (2^64) a) wa s (by rw[Pp (by decide)];omega);rw[C4]at pv pu;have pv:XG (Dw b,(s:Int),())=some (Dw (b*2^s),()):=pv;have pu:XG (Dw a,(s:Int),())=some (Dw (a*2^s),()):=pu;have e17:al .i64 (((Dw b).length:Int)-1)=((n+1:Nat):Int):=by rw[hLen,Au (by omega)];omega
 have e18:al .i64 (((Dw a).length:Int)+1)=((Q+n+2:Nat):Int):=by rw[hLen,Au (by omega)];omega
 have eg:(Dw b).getD (aq ((n+1:Nat):Int)) 0=(t:Int):=by rw[ao,hGet,ht]
 have e2:(decide ((0:Int)<=((n+1:Nat):Int))&&decide (((n+1:Nat):Int)<((Dw b).length:Int)))=true:=by
  rw[hLen,ae (by omega),ae (by omega)];rfl
 have e3:(decide ((0:Int)<=((Q+n+2:Nat):Int))&&decide (((Q+n+2:Nat):Int)*8<=140737488355328))=true:=by
  rw[ae (by omega),ae (by omega)];rfl
 generalize hud:dg (2^64) (a*2^s)++bd (Q+n+2-(dg (2^64) (a*2^s)).length) 0=us;have husl:us.length=Q+n+2:=by rw[←hud,List.length_append,gr];omega
 have hus:∀x∈us,x<2^64:=by
  rw[←hud];intro x hx;rcases dt.1 hx with hx|hx
  ·exact LI (by decide) _ x hx
  ·have:=(List.mem_replicate.1 hx).2;omega
 have husv:nv (2^64) us=a*2^s:=by rw[←hud,Vd,u6,fu,dp,C4]
 have hrow:(Dw (a*2^s)).take (bd (aq ((Q+n+2:Nat):Int)) (0:Int)).length++(bd (aq ((Q+n+2:Nat):Int)) (0:Int)).drop (Dw (a*2^s)).length=Wd us:=by
  rw[ao,gr,Of,hLen,aXm,lw];unfold Dw;rw[dJ,de hulen,←hud];unfold Wd;rw[List.map_append]
 have e11:al .i64 (((Wd us).length:Int)-((Dw (b*2^s)).length:Int))=(Q:Int):=by
  rw[Ay,husl,hLen,hvlen,Au (by omega)];omega
 have e4:(decide ((0:Int)<=(Q:Int))&&decide ((Q:Int)*8<=140737488355328))=true:=by
  rw[ae (by omega),ae (by omega)];rfl
 have e5:al .i64 (((bd (aq (Q:Int)) (0:Int)).length:Int)-1)=(Q:Int)-1:=by
  rw[ao,gr,Au (by omega)]
 obtain⟨qs,us',k1,k2,k3,k4,k5,k6,k7⟩:=aW8 (dg (2^64) (b*2^s)) hvlen (LI (by decide) _) (by omega) (X:=a*2^s) Q (by omega) (s:Int) us husl hus husv (by rw[C4];exact hstart);rw[C4]at k3 k6;rw[li _ _ hp]at k3;rw[gk]at k6;have k7:dH (((Dw (b*2^s),(((Q:Int)-1),((),((),(((Dw (b*2^s)).length:Int),((s:Int),())))))),(Wd us,((bd (aq (Q:Int)) (0:Int)),()))):GD.D)=some (.inl (((),((),(((n+2:Nat):Int),((s:Int),())))),(Wd us',(Wd qs,())))):=by
  rw[ao,Of,hLen];rw[hvlen]at k7⊢;exact k7
 simp only[e17,eg,aMG p327,aC1 pv,aC1 pu,e18,e2,e3,aa,hrow,e11,e4,e5];rw[k7];dsimp only[AQ,AP];have pq:=ED qs (by omega);rw[aFb k2,k3]at pq;have hnl:nv (2^64) (us'.take (n+2))=a%b*2^s:=by
  have h2:=LS (2^64) us' (n+2) (by omega);have h3:nv (2^64) (us'.drop (n+2))=0:=by
   rcases cg (nv (2^64) (us'.drop (n+2)))with h|h
   ·exact h
   ·exfalso;have h4:(2^64)^(n+2)*1<=(2^64)^(n+2)*nv (2^64) (us'.drop (n+2)):=cq _ h;have h5:a%b*2^s<b*2^s:=dl (cn _ (np h0)) hp;rw[ZU]at h4 h2;omega
  rw[h3,fu,dp]at h2;rw[←h2,k6]
 have pr:=aG2 (us'.take (n+2)) ⟨fun x hx=>k5 x (gc hx),by simp;omega⟩ s (by omega);rw[hnl,jn _ hp]at pr;have pr:cA (Wd (us'.take (n+2)),(s:Int),())=some (Dw (a%b),()):=pr;have e6:(decide ((0:Int)<=((n+2:Nat):Int))&&decide (((n+2:Nat):Int)<=((Wd us').length:Int)))=true:=by
  rw[Ay,k4,ae (by omega),ae (by omega)];rfl
 have e7:((Wd us').take (aq ((n+2:Nat):Int))).drop (aq 0)=Wd (us'.take (n+2)):=by
  rw[ao,bb,dJ,jh]
 simp only[Fe pq,e6,e7,aMC pr,aa]
theorem bAV{l:List (List Nat)}(hl:∀x∈l,x.length<=1024)(hn:l.length<=1000000):VJ (l.map Wd,())=some (false,()):=by
 have:=aG8 l (fun x hx=>by have:=hl x hx;omega) hn;rw[this,ae (fun x hx=>gb (DU x).1 (hl x hx))];rfl
theorem aWl{a b:Nat}(ha:a<(2^64)^1024)(hb:b<(2^64)^1024)(h0:b≠0):n6 (Dw a,Dw b,())=some (Dw (a/b),Dw (a%b),0,()):=by
 have up:∀{x:Nat},x<(2^64)^1024->x<(2^64)^4000:=fun h=>az h (ax (by decide) (by decide));have up5:∀{x:Nat},x<(2^64)^1024->x<(2^64)^5000:=fun h=>az h (ax (by decide) (by decide));show x5 EX.pre EX.F Ak.pre Ak.F Uf.pre Uf.F (Dw a) (Dw b)=_;unfold x5;have p0:=bAV (l:=[dg (2^64) a,dg (2^64) b]) (by
  intro x hx;rcases dq.1 hx with rfl|hx
  ·exact Eg (by decide) _ _ ha
  ·rw[kw]at hx;rw[hx];exact Eg (by decide) _ _ hb) (by simp)
 have p0:VJ ((Dw a::Dw b::[]),())=some (false,()):=p0;have p1:=XC (up5 hb);have p2:=aWk (up ha) (up hb) h0;have e0:(((Dw b).length:Int)==0)=false:=by rw[aTb,af h0]
 simp only[aC0 p0,Fe p1,aY6 p2,aa,ab,e0]
end VL
namespace VL
open Go Vx
theorem aPK{l:List Nat}{i v B:Nat}(h:∀x∈l,x<B)(hv:v<B):∀x∈l.set i v,x<B:=fun x hx=>by
 rcases List.mem_or_eq_of_mem_set hx with h1|h1
 ·exact h x h1
 ·omega
end VL
namespace VL
open Go Vx
theorem aAk{f:Int}(hf:Fm f)(a:Nat):-1100<=An f a/\An f a<=1100:=by
 have h1:=aNQ (f:=f) a;have e:AH f=2*fX f+1:=by unfold AH;rw[←t9 hf]
 have h2:=LJ hf;have h3:=FA hf;have h4:=CZ hf;unfold An;split<;>omega
theorem W9(f:Int)(a:Nat):((Al f a:Int)==0)=AX f a:=by
 cases hz:AX f a
 ·exact AG _ (FE hz)
 ·unfold AX at hz;rw[ar,beq_iff_eq,beq_iff_eq]at hz;unfold Al;rw[ah hz.1,hz.2];rfl
end VL
namespace VL
open Go Vx
theorem bCP(i:Nat):(2^32)^(i+1)=(2^32)^i*2^32:=fm ..
theorem bGU(n k:Nat):(bd n 0).getD k 0=0:=by
 rw[aw,List.getElem?_replicate];split<;>rfl
end VL
namespace VL
open Go Vx
def ZM(f m:Int)(neg:Bool)(d n:Nat):Nat:=(Af n-fP f-d)*2^(fP f-1)+C2 m neg n (Af n-fP f-d+d)
theorem bDc{f:Int}(hf:Fm f)(d n:Nat):n/2^(Af n-fP f-d+d)<2^fP f:=by
 rw[cj (au _),←ca];exact az (G2 n) (ax (by decide) (by omega))
theorem bDa{f:Int}(hf:Fm f){d n:Nat}(h0:n≠0)(hJ:fP f+d<=Af n):2^(fP f-1)<=n/2^(Af n-fP f-d+d):=by
 have hP:=CZ hf;rw[iu (au _),←ca];exact gb (ax (by decide) (by omega)) (Pg h0)
theorem bG1{f:Int}(hf:Fm f)(m:Int)(neg:Bool){n:Nat}(h0:n≠0)(d:Nat):
  Ds f m neg n (qm f-d)=if BG f<=ZM f m neg d n then(iH f m neg,20)else(ZM f m neg d n,if B5 (n%2^(Af n-fP f-d+d)) (Af n-fP f-d+d)=0 then 0 else if D9 f m neg n (qm f-d) false then 24 else 16):=by
 have hP:=CZ hf;have hX:=JL hf;have h2p:=aAc hf;have hpp:=au (fP f-1);have hinf:=uL hf;have hb1:=fL h0;have htop:Az n (qm f-d)=qm f-d+(Af n:Int)-1:=rfl;have hqm:qm f=1-(fX f:Int)-(fP f:Int)+1:=rfl;have hqt:=bDc hf d n;have hql:=bDa hf (d:=d) h0;have hlow:BY f (Az n (qm f-d))=qm f+((Af n-fP f-d:Nat):Int):=by unfold BY;split<;>omega
 obtain⟨hc1,hc2⟩:=Wl m neg n (Af n-fP f-d+d);have hcr:Dm n (qm f-d) (qm f+((Af n-fP f-d:Nat):Int)) false=B5 (n%2^(Af n-fP f-d+d)) (Af n-fP f-d+d):=by
  rw[Pn];rcases cg (Af n-fP f-d+d)with hz|hz
  ·rw[Z3 (by omega),hz,iv,pw];rfl
  ·rw[Z2 (by omega),show(qm f+((Af n-fP f-d:Nat):Int)-(qm f-d)).toNat=Af n-fP f-d+d by omega]
 have hcn:BF m neg n (qm f-d) (qm f+((Af n-fP f-d:Nat):Int)) false=C2 m neg n (Af n-fP f-d+d):=by
  have hqe:Hb n (qm f-d) (qm f+((Af n-fP f-d:Nat):Int))=n/2^(Af n-fP f-d+d):=by
   rcases cg (Af n-fP f-d+d)with hz|hz
   ·rw[WV (by omega),hz,show(qm f-(d:Int)-(qm f+((Af n-fP f-d:Nat):Int))).toNat=0 by omega,iv,gx,oc]
   ·rw[WU (by omega),show(qm f+((Af n-fP f-d:Nat):Int)-(qm f-d)).toNat=Af n-fP f-d+d by omega]
  unfold BF C2;rw[hcr,hqe]
 unfold Ds;rw[hlow];dsimp only;rw[hcn,hcr,show(qm f+((Af n-fP f-d:Nat):Int)-(1-(fX f:Int)-(fP f:Int)+1)).toNat=Af n-fP f-d by omega];have hmu:ZM f m neg d n=(Af n-fP f-d)*2^(fP f-1)+C2 m neg n (Af n-fP f-d+d):=rfl;rw[hmu];have hJd:fP f+d<=Af n∨Af n-fP f-d=0:=by omega
 have hJb:(Af n:Int)-fP f-d<=((Af n-fP f-d:Nat):Int):=by omega
 have hJe:fP f+d<=Af n->(Af n:Int)=fP f+d+((Af n-fP f-d:Nat):Int):=by omega
 generalize C2 m neg n (Af n-fP f-d+d)=u at *
 generalize n/2^(Af n-fP f-d+d)=Q at *
 generalize B5 (n%2^(Af n-fP f-d+d)) (Af n-fP f-d+d)=c at *
 generalize Af n-fP f-d=j at *
 by_cases ht:Az n (qm f-d)>fX f
 ·have hj2:2*fX f+1<=j+1:=by omega
  have:=bh (2^(fP f-1)) hj2;rw[cu j,go]at this;have hql:=hql (by omega);rw[ah ht,ah (show BG f<=j*2^(fP f-1)+u by omega)];rfl
 ·rw[ag ht];have hj0:j+1<=2*fX f:=by
   rcases hJd with h|h
   ·have:=hJe h;omega
   ·omega
  rcases bc u (2^fP f)with hu|hu
  ·have hbu:=Db hu;have hj2:j+2<=2*fX f+1:=by omega
   have:=bh (2^(fP f-1)) hj2;rw[cu]at this;rw[ag (show ¬qm f+(j:Int)+(Af u:Int)-1>fX f by omega),ag (show ¬BG f<=j*2^(fP f-1)+u by omega)]
  ·have hbu:=Pf hu;have hbu2:=Db (n:=u) (k:=fP f+1) (by rw[fm];omega);by_cases hj2:j+3<=2*fX f+1
   ·have:=bh (2^(fP f-1)) hj2;rw[cu]at this;rw[ag (show ¬qm f+(j:Int)+(Af u:Int)-1>fX f by omega),ag (show ¬BG f<=j*2^(fP f-1)+u by omega)]
   ·have hj3:2*fX f+1<=j+2:=by omega
    have:=bh (2^(fP f-1)) hj3;rw[cu j]at this;rw[ah (show qm f+(j:Int)+(Af u:Int)-1>fX f by omega),ah (show BG f<=j*2^(fP f-1)+u by omega)];rfl
def pv(f:Int)(x:Nat):Nat:=Al f x*2^(An f x-qm f).toNat
end VL
namespace VL
open Go Vx
def VV(f:Int)(x:Nat):Nat:=Al f x*2^(An f x+2600).toNat
end VL
namespace VL
open Go Vx
theorem aQI{f m:Int}{neg:Bool}{N k:Nat}{E:Int}(hf:Fm f)(hn:N/2^k≠0)(hm:N%2^k≠0->fP f+1<=Af (N/2^k)):AT f m neg (N/2^k) (E+k) (decide (N%2^k≠0))=AT f m neg N E false:=by
 have ht:=aSS (E:=E) hn;have htd:Az (N/2^k) (E+k)=E+k+(Af (N/2^k):Int)-1:=rfl;have hq1:N%2^k≠0->E+k<BY f (Az N E):=fun h=>by
  have:=hm h;unfold BY;split<;>omega
 have hq2:N%2^k≠0->E+k<Az N E-fP f+1:=fun h=>by
  have:=hm h;omega
 have hti:D9 f m neg (N/2^k) (E+k) (decide (N%2^k≠0))=D9 f m neg N E false:=by
  unfold D9;rw[ht,tS hq2]
 unfold AT;simp only[ht,tS hq1,(aDu hq1).2,hti]
theorem aQF{f m:Int}{neg:Bool}{N k:Nat}{E:Int}(hf:Fm f)(hb:fP f+1<=Af (N/2^k)):AT f m neg (N/2^k) E true=AT f m neg (2*N+1) (E-k-1) false:=by
 have hP:=CZ hf;have e1:(2*N+1)/2^(k+1)=N/2^k:=by
  rw[fm,bt (2^k),←fd,show(2*N+1)/2=N by omega]
 have e2:(2*N+1)%2^(k+1)≠0:=by
  rw[fm,bt (2^k),nj];omega
 have h0:N/2^k≠0:=fun h=>by
  rw[h]at hb;have:Af 0=0:=rfl;omega
 have:=aQI (f:=f) (m:=m) (neg:=neg) (N:=2*N+1) (k:=k+1) (E:=E-k-1) hf (by rw[e1];exact h0) (fun _=>by rw[e1];exact hb);rw[e1,ae e2,show E-k-1+((k+1:Nat):Int)=E by omega]at this;exact this
def LZ(f m:Int)(neg:Bool)(R:Nat)(E:Int)(more:Bool):Nat×Nat:=if more=true then AT f m neg (2*R+1) (E-1) false else AT f m neg R E false
theorem aQE{f m:Int}{neg:Bool}(hf:Fm f){R:Nat}{E:Int}{more:Bool}(hb:more=true->fP f+1<=Af R):AT f m neg R E more=LZ f m neg R E more:=by
 unfold LZ;cases more
 ·rw[ag (by decide)]
 ·have:=aQF (f:=f) (m:=m) (neg:=neg) (N:=R) (k:=0) (E:=E) hf (by rw[iv,oc];exact hb rfl);rw[iv,oc]at this;rw[ah rfl,this];congr 1;omega
theorem bG2{f m:Int}{neg:Bool}(hf:Fm f){R k:Nat}{E:Int}{more:Bool}(hb:fP f+1<=Af (R/2^k)):LZ f m neg (R/2^k) (E+k) (more||decide (R%2^k≠0))=LZ f m neg R E more:=by
 have h0:R/2^k≠0:=fun h=>by
  rw[h]at hb;have:Af 0=0:=rfl;omega
 rw[←aQE hf (fun _=>hb)];unfold LZ;cases more
 ·rw[ag (by decide),bm];exact aQI hf h0 fun _=>hb
 ·rw[ah rfl,bg];have:=aQF (f:=f) (m:=m) (neg:=neg) (N:=R) (k:=k) (E:=E+k) hf hb;rw[this,show E+(k:Int)-(k:Int)-1=E-1 by omega]
def HX(f m:Int)(neg:Bool)(n k:Nat)(e:Int):Nat×Nat:=LZ f m neg (n*2^300/k) (e-300) (decide (n*2^300%k≠0))
theorem bDe{n k:Nat}(hk:0<k)(t:Nat):(n*2^t/k)/2^t=n/k/\(n%k≠0↔(n*2^t%k≠0∨(n*2^t/k)%2^t≠0)):=by
 have hpp:=au t;have h1:(n*2^t/k)/2^t=n/k:=by
  rw[fd,bt k,←fd,jn _ hpp]
 refine⟨h1,?_⟩;have a1:=df (n*2^t) k;have a2:=df (n*2^t/k) (2^t);have a3:=df n k;rw[h1]at a2;generalize n*2^t%k=r at *
 generalize hQ:n*2^t/k=Q at *
 generalize Q%2^t=u at *
 generalize n%k=w at *
 generalize n/k=q at *
 have e:k*u+r=w*2^t:=by
  have h2:(k*q+w)*2^t=k*(2^t*q+u)+r:=by rw[a3,a2,a1]
  rw[cu,ck,kg,bu k,←bu k]at h2;omega
 constructor
 ·intro hw;rcases cg r with hr|hr
  ·right;intro hu;rw[hu,hr,fu]at e;have:=ir (show 0<w by omega) hpp;omega
  ·left;omega
 ·intro h hw;rw[hw,fq]at e;rcases h with h|h
  ·omega
  ·have:=ir hk (show 0<u by omega);omega
theorem tU{f m:Int}{neg:Bool}(hf:Fm f){n k:Nat}(hn:n≠0)(hk:0<k)(e:Int){s:Nat}(hs:s<=300)(h:n*2^s%k≠0->fP f+1<=Af (n*2^s/k)):
  LZ f m neg (n*2^s/k) (e-s) (decide (n*2^s%k≠0))=HX f m neg n k e:=by
 obtain⟨t,ht⟩:∃t,s+t=300:=⟨300-s,by omega⟩
 have e300:n*2^300=n*2^s*2^t:=by rw[bu,←ca,ht]
 obtain⟨q1,q2⟩:=bDe (n:=n*2^s) hk t;unfold HX;rw[e300];by_cases hex:n*2^s%k=0
 ·have hq:n*2^s=k*(n*2^s/k):=by have:=df (n*2^s) k;omega
  have hq0:n*2^s/k≠0:=fun h0=>by
   rw[h0,fu]at hq;exact kq hn (la (au s)) hq
  have h1:n*2^s*2^t/k=(n*2^s/k)*2^t:=by
   rw[hq,bu k,iy _ hk,iy _ hk]
  have h2:n*2^s*2^t%k=0:=by
   rw[hq,bu k,Nat.mul_mod_right]
  rw[h1,h2,hex];unfold LZ;rw[ag (by decide),ag (by decide),Z1 hf hq0];congr 1;omega
 ·have hb:=h hex;have:=bG2 (f:=f) (m:=m) (neg:=neg) hf (R:=n*2^s*2^t/k) (k:=t) (E:=e-300) (more:=decide (n*2^s*2^t%k≠0)) (by rw[q1];exact hb);rw[←this,q1,show e-300+(t:Int)=e-s by omega];congr 1;rw[gj,fh,ai,ai,ai];exact q2
def gB(f m:Int)(a b:Nat):Int×Int×Int×Unit:=bif nan f a||nan f b then((Cu f:Int),(bif Bm f a||Bm f b then 1 else 0),0,())else bif(Ax f a&&Ax f b)||(AX f a&&AX f b)then((Cu f:Int),1,0,())else bif Ax f a then((Dp f (!(sF f a==sF f b)):Int),0,0,())else bif AX f b then((Dp f (!(sF f a==sF f b)):Int),2,0,())else bif Ax f b||AX f a then((Bu f (!(sF f a==sF f b)):Int),0,0,())else(((HX f m (!(sF f a==sF f b)) (Al f a) (Al f b) (An f a-An f b)).1:Int),((HX f m (!(sF f a==sF f b)) (Al f a) (Al f b) (An f a-An f b)).2:Int),0,())
def Pq(f m:Int)(a b:Nat):Int×Int×Int×Unit:=if ¬Fm f then(0,0,2,())else if m<0∨m>5 then(0,0,3,())else if Ai f a≠0 then(0,0,Ai f a,())else if Ai f b≠0 then(0,0,Ai f b,())else gB f m a b
end VL
namespace VL
open Go Vx
def Bc(c:Int)(n:Nat)(e:Int):Prop:=c<=e/\e<=6000/\n*2^(e-c).toNat<2^5000
theorem Bc.lt{c:Int}{n:Nat}{e:Int}(h:Bc c n e):n<2^5000:=by
 have:=gw n (au (e-c).toNat);exact bv this h.2.2
theorem Bc.od{c:Int}(hc:-4000<=c/\c<=0){n:Nat}{e:Int}(s:Bool)(h:Bc c n e):Bc c (VL.od s n e).2.1 (VL.od s n e).2.2:=by
 rcases WM s n e with⟨hz,_⟩|⟨_,h2,h3,h4,h5⟩
 ·rw[hz];exact⟨hc.2,by dsimp only;omega,by dsimp only;rw[fq];exact au _⟩
 ·have hle:2^(tz n+(e-c).toNat)<=n*2^(e-c).toNat:=by
   rw[ca];refine bh _ ?_;have:=gw (2^tz n) (show 0<(VL.od s n e).2.1 by omega);omega
  have hlt:=(dk (a:=2) (by decide)).1 (bv hle h.2.2);have hq:=hc.2;have h1:=h.1;refine⟨by omega,by omega,?_⟩;have e1:(VL.od s n e).2.1*2^((VL.od s n e).2.2-c).toNat=n*2^(e-c).toNat:=by
   rw[h5,show(e+(tz n:Int)-c).toNat=tz n+(e-c).toNat by omega,ca,←bu,bt _ (2^tz n),←h4]
  rw[e1];exact h.2.2
end VL
namespace VL
open Go Vx
structure Beside (f:Int) (R d:Nat) (more:Bool) (B:Nat) (inex:Bool) (r:Int->Nat×Nat):Prop where
 CR:B+1<BG f
 pos:B≠0
 low:pv f B*2^d<=R
 high:R<pv f (B+1)*2^d
 ex:inex=(more||decide (pv f B*2^d≠R))
 any:∀m,0<=m/\m<=5->((r m).1=B∨(inex=true/\(r m).1=B+1))/\(r m).2=(bif inex then 16 else 0)
 down:(r 4).1=B
 up:(r 3).1=B+(bif inex then 1 else 0)
end VL
namespace VL
open Go Vx
theorem aW9{f:Int}(hf:Fm f)(l:List Nat)(hl:∀a∈l,a<2^64)(hlen:l.length<1000):
  qS (((l.length:Int),(Wd l,(f,((0:Int),())))),())=some (bif PN f l then .inl ((),())else .inr (((4:Int),()),())):=by
 have key:=Cx (aPt Ap.pre Ap.F Av.pre Av.F) (fun x=>l.length-x.1.2.2.2.1.toNat)
  (fun x=>∃i:Nat,i<=l.length/\PN f (l.take i)=true/\x=(((l.length:Int),(Wd l,(f,((i:Int),())))),()))
  (fun _=>bif PN f l then .inl ((),())else .inr (((4:Int),()),())) ?_ _ ⟨0,dv _,rfl,rfl⟩
 ·exact key
 intro L x hx hL;obtain⟨i,hi,hok,rfl⟩:=hx;unfold Y0;rcases bc i l.length with hlt|hge
 ·have hg:l.getD i 0=l[i]:=by simp[aw,hlt]
  have hmem:l[i]∈l:=List.getElem_mem hlt;have ha:=hl _ hmem;have p0:=Lh f l[i] ha;have e0:decide ((i:Int)<(l.length:Int))=true:=ae (by omega);have e1:(decide ((0:Int)<=(i:Int))&&decide ((i:Int)<((Wd l).length:Int)))=true:=by rw[Ay,ae (by omega),ae (by omega)];rfl
  have e2:(Wd l).getD (aq (i:Int)) 0=((l[i]:Nat):Int):=by rw[ao,BM,hg]
  have e3:al .i64 ((i:Int)+1)=((i+1:Nat):Int):=by rw[Au (by omega)];omega
  have htk:l.take (i+1)=l.take i++[l[i]]:=by rw[kh hlt]
  dsimp only;simp only[e0,e1,e2,e3,aa,JF p0];by_cases hc:Ai f l[i]=0
  ·rw[hc,aj,ab];refine hL _ ⟨i+1,by omega,?_,rfl⟩ (by simp only[ao];omega);unfold PN at hok⊢;rw[htk,List.all_append,hok,List.all_cons,hc];rfl
  ·have h4:Ai f l[i]=4:=(aDi hf _).resolve_left hc;have hno:PN f l=false:=by
    unfold PN;rw[List.all_eq_false];exact⟨l[i],hmem,by rw[h4];decide⟩
   rw[h4,hno];rfl
 ·have e:i=l.length:=by omega
  subst e;rw[dw]at hok;have e0:decide ((l.length:Int)<(l.length:Int))=false:=af (by omega);simp only[e0,ab];rw[hok];rfl
theorem aWn(f m:Int)(l:List Nat)(hl:∀a∈l,a<2^64)(hlen:l.length<1000):cM (f,m,Wd l,())=some (Fy f m l,()):=by
 show x7 Ap.pre Ap.F Av.pre Av.F qS f m (Wd l)=_;unfold x7 Fy;by_cases hf:Fm f
 ·have p0:=Li hf;rw[ag (show ¬¬Fm f from fun h=>h hf)];simp only[Dc p0,aa,aj,ab];by_cases hm:m<0∨m>5
  ·rw[ah hm];have:(decide (m<0)||decide (m>5))=true:=by rcases hm with h|h<;>simp[h]
   rw[this,aa]
  ·rw[ag hm];have:(decide (m<0)||decide (m>5))=false:=by
    rw[af (by omega),af (by omega)];rfl
   rw[this,ab,Ay,aW9 hf l hl hlen];cases PN f l<;>rfl
 ·have p0:=Oe hf;rw[ah hf];simp only[Dc p0,aa];rfl
theorem aHq{f:Int}{a:Nat}(h:Ai f a=0):oB (f,(a:Int),())=some ((nan f a,Bm f a,Ax f a,AX f a,sF f a,()),()):=by
 show x8 Bs.pre Bs.F Cs.pre Cs.F f a=_;unfold x8;obtain⟨hf,_⟩:=Fz h;have p0:=cW (WO h) h;have p1:=aBm h;simp only[Pi p0,aC7 p1,aa];rw[f0,tO,rg (BZ f a==9),aDn,rg (BZ f a==6),aNq hf]
theorem aHr{f:Int}(hf:Fm f)(x:Int):oC (f,x,())=some ((Cu f:Int),x,0,()):=by
 show x9 Bh.pre Bh.F f x=_;unfold x9;have p0:=cZ hf;simp only[tH p0,aa]
theorem aZP(N:Nat){k:Nat}(hk:0<k):(k<=2*(N%k)->2*N/k=2*(N/k)+1/\2*N%k=2*(N%k)-k)/\(2*(N%k)<k->2*N/k=2*(N/k)/\2*N%k=2*(N%k)):=by
 have h1:=df N k;have h2:=cn N hk;generalize N/k=q at *
 generalize N%k=r at *
 constructor
 ·intro h;have e:2*N=k*(2*q+1)+(2*r-k):=by
   rw[ck,gx,ic k 2 q];omega
  rw[e,lg hk,lh,dc (by omega),ce (by omega)];exact⟨rfl,rfl⟩
 ·intro h;have e:2*N=k*(2*q)+2*r:=by
   rw[ic k 2 q];omega
  rw[e,lg hk,lh,dc (by omega),ce (by omega)];exact⟨rfl,rfl⟩
theorem bC9{n k D s:Nat}(hk0:0<k)(hk:k<2^64)(hn0:n≠0)(h:Af (n*2^s/k)<D):s<64+D/\n*2^s<2^(64+D):=by
 have h1:n*2^s/k<2^D:=az (G2 _) (ax (by decide) (by omega));have h2:n*2^s<2^D*k:=(cj hk0).1 h1;have h3:2^D*k<=2^D*2^64:=cq _ (by omega);rw[←ca]at h3;have h4:1*2^s<=n*2^s:=bh _ (by omega);rw[go]at h4;have h5:2^s<2^(D+64):=by omega
 have h6:=(dk (a:=2) (by decide)).1 h5;rw[jc 64 D];exact⟨h6,by omega⟩
theorem aXa{n k D s0:Nat}(hk0:0<k)(hk:k<2^64)(hn0:n≠0)(hn:n<2^64)(hD:D<=100)(hs0:s0<=64):
  ∃s:Nat,s<=64+D/\(n*2^s%k≠0->D<=Af (n*2^s/k)) /\
   qT (((D:Int),(Dw k,(Dw (n*2^s0%k),((),((),()))))),((false,([],((0:Int),(false,())))),((false,(Dw (n*2^s0/k),(-(s0:Int),(false,())))),()))) =
    some (.inl ((Dw (n*2^s%k),((),((),()))),((false,([],((0:Int),(false,())))),((false,(Dw (n*2^s/k),(-(s:Int),(false,())))),())))):=by
 have key:=PL (aPu Ee.pre Ee.F E0.pre E0.F Ck.pre Ck.F B1.pre B1.F Ed.pre Ed.F Dx.pre Dx.F) (fun x=>(300+x.2.2.1.2.2.1).toNat)
  (fun x=>∃s:Nat,s<=64+D/\x=(((D:Int),(Dw k,(Dw (n*2^s%k),((),((),()))))),((false,([],((0:Int),(false,())))),((false,(Dw (n*2^s/k),(-(s:Int),(false,())))),()))))
  (fun y=>∃s:Nat,s<=64+D/\(n*2^s%k≠0->D<=Af (n*2^s/k))/\y=.inl ((Dw (n*2^s%k),((),((),()))),((false,([],((0:Int),(false,())))),((false,(Dw (n*2^s/k),(-(s:Int),(false,())))),())))) ?_
  _ ⟨s0,by omega,rfl⟩
 ·obtain⟨y,hy,s,k1,k2,rfl⟩:=key;exact⟨s,k1,k2,hy⟩
 intro L x hx hL;obtain⟨s,hs,rfl⟩:=hx;unfold Y1;have hr:=cn (n*2^s) hk0;have hN:n*2^s<2^(64+(64+D)):=by
  rw[ca];exact az (dl hn (au s)) (cq _ (ax (by decide) hs))
 have hq:n*2^s/k<2^(64+(64+D)):=bv (ga _ _) hN;have hqb:=JD hq (by omega);have hrb:=JD (gl hr hk) (by decide);have hkb:=JD hk (by decide);have p0:=VG hqb;have e2s:2*(n*2^s)=n*2^(s+1):=by rw[fm];ac_rfl
 obtain⟨d1,d2⟩:=aZP (n*2^s) hk0;rw[e2s]at d1 d2;have hstop:=bC9 (n:=n) (k:=k) (D:=D) (s:=s) hk0 hk hn0;have gen:=hL;dsimp only at gen⊢;generalize hQ:n*2^s/k=q at *
 generalize hR:n*2^s%k=r at *
 simp only[Wf p0,aa];by_cases hgo:Af q<D/\r≠0
 ·obtain⟨g1,g2⟩:=hgo;have hs1:=(hstop g1).1;rw[ae (show(Af q:Int)<(D:Int) by omega),L9 g2];have p1:=aA4 hqb hqb;have p2:=aA4 hrb hrb;have h65:r+r<2^65:=by
   have:(2:Nat)^65=2*2^64:=by decide
   omega
  have hrr:=JD h65 (by decide);have hqq:q+q<2^(65+(64+D)):=by
   have:(2:Nat)^(65+(64+D))=2*2^(64+(64+D)):=by rw[show 65+(64+D)=(64+(64+D))+1 by omega,fm,bt]
   omega
  have p3:=aA5 hrr hkb;have ew:al .i64 (-(s:Int)-1)=-((s+1:Nat):Int):=by rw[Au (by omega)];omega
  simp only[ba,aa,Ph p1,Ph p2,aCX p3,ew];have hμ:(300 + -((s+1:Nat):Int)).toNat<(300 + -(s:Int)).toNat:=by omega
  by_cases hge:k<=2*r
  ·obtain⟨f1,f2⟩:=d1 hge;have p4:=aVY hrr (show k<=r+r by omega);have p5:=aA4 (JD hqq (by omega)) (show 1<(2^64)^5000 from JD (k:=1) (by decide) (by decide));rw[aTc]at p5;have eg:decide ((if r+r=k then(0:Int)else if r+r<k then -1 else 1)>=0)=true:=by
    by_cases h:r+r=k
    ·rw[ah h];rfl
    ·rw[ag h,ag (by omega)];rfl
   rw[eg];simp only[aa,aYU p4,Ph p5];refine gen _ ⟨s+1,by omega,?_⟩ hμ;rw[f1,f2,show 2*q+1=q+q+1 by omega,show 2*r-k=r+r-k by omega]
  ·obtain⟨f1,f2⟩:=d2 (by omega);have eg:decide ((if r+r=k then(0:Int)else if r+r<k then -1 else 1)>=0)=false:=by
    rw[ag (by omega),ah (by omega)];rfl
   rw[eg];simp only[ab];refine gen _ ⟨s+1,by omega,?_⟩ hμ;rw[f1,f2,show 2*q=q+q by omega,show 2*r=r+r by omega]
 ·have e:(decide ((Af q:Int)<(D:Int))&&decide (((Dw r).length:Int)>0))=false:=by
   by_cases g1:Af q<D
   ·have g2:r=0:=jv.1 fun h=>hgo ⟨g1,h⟩;rw[g2,Fl];exact be _
   ·rw[af (show ¬(Af q:Int)<(D:Int) by omega),ay]
  rw[e,ab];refine⟨_,rfl,s,hs,?_,?_⟩
  ·intro h;rw[hR]at h;rw[hQ];by_cases g1:Af q<D
   ·exact absurd ⟨g1,h⟩ hgo
   ·omega
  ·rw[hQ,hR]
theorem aWo{n k D:Nat}(hk0:k≠0)(hk:k<2^64)(hn0:n≠0)(hn:n<2^64)(hD:D<=100):
  ∃s:Nat,s<=64+D/\(n*2^s%k≠0->D<=Af (n*2^s/k)) /\
   oD (Dw n,Dw k,(D:Int),())=some ((false,Dw (n*2^s/k),(-(s:Int)),decide (n*2^s%k≠0),()),()):=by
 have bk:=Db hk;have bn:=Db hn;have p0:=VG (JD hk (by decide));have p1:=VG (JD hn (by decide));obtain⟨s0,hs0,hsl⟩:∃s0:Nat,(if(Af k:Int)-(Af n:Int)-1>0 then(Af k:Int)-(Af n:Int)-1 else 0)=(s0:Int)/\s0<=64:=by
  by_cases h:(Af k:Int)-(Af n:Int)-1>0
  ·exact⟨Af k-Af n-1,by rw[ah h];omega,by omega⟩
  ·exact⟨0,by rw[ag h];rfl,by omega⟩
 obtain⟨s,k1,k2,k3⟩:=aXa (D:=D) (s0:=s0) (by omega) hk hn0 hn hD hsl;refine⟨s,k1,k2,?_⟩;show yA Ee.pre Ee.F E0.pre E0.F Ck.pre Ck.F B1.pre B1.F Ed.pre Ed.F Dx.pre Dx.F qT (Dw n) (Dw k) D=_;unfold yA;have hN:n*2^s0<2^128:=by
  rw[show(128:Nat)=64+64 from rfl,ca];exact az (dl hn (au s0)) (cq _ (ax (by decide) hsl))
 have hN':n*2^s0<(2^64)^1024:=az hN (by rw[←gn];exact ax (by decide) (by decide));have hk':k<(2^64)^1024:=az hk (by rw[←gn];exact ax (by decide) (by decide));have p2:=aG5 (dg (2^64) n) (Eb (JD hn (by decide))) s0 (by omega) (by rw[C4];exact hN');rw[C4]at p2;have p2:XD (Dw n,(s0:Int),())=_:=p2;have p3:=aWl hN' hk' hk0;have w1:al .i64 ((Af k:Int)-(Af n:Int))=(Af k:Int)-(Af n:Int):=Au (by omega);have w2:al .i64 ((Af k:Int)-(Af n:Int)-1)=(Af k:Int)-(Af n:Int)-1:=Au (by omega);have w3:al .i64 (0-(s0:Int))=-(s0:Int):=by rw[Au (by omega)];omega
 simp only[Wf p0,Wf p1,aa,w1,w2,hs0,fS p2,aY7 p3,w3,k3];show some _=_;congr 4;by_cases h:n*2^s%k=0
 ·rw[h,Fl];rfl
 ·rw[L9 h,ae h]
theorem aGE{n:Nat}(hn:n<(2^64)^5000):bO (Dw n,())=some (Dw n,()):=by
 have p0:=aGF (dg (2^64) n) (Eb hn);rw[C4]at p0;exact p0
theorem aWq{f m:Int}(hf:Fm f)(hm:0<=m/\m<=5)(neg:Bool){n k:Nat}(hk0:k≠0)(hk:k<2^64)(hn0:n≠0)(hn:n<2^64){e:Int}(he:-40000<=e/\e<=40000):
  oF (f,m,neg,Dw n,Dw k,e,())=some (((HX f m neg n k e).1:Int),((HX f m neg n k e).2:Int),0,()):=by
 show yB FU.pre FU.F Cj.pre Cj.F Jq.pre Jq.F Uo.pre Uo.F FV.pre FV.F f m neg (Dw n) (Dw k) e=_;unfold yB;have hP:=D7 hf;have hP2:=FA hf;have p0:=aGI hf hm;have p1:=aGE (JD hk (by decide));have p2:=aGE (JD hn (by decide));obtain⟨s,k1,k2,p3⟩:=aWo (D:=fP f+3) hk0 hk hn0 hn (by omega);have hN:n*2^s<2^(64+s):=by
  rw[ca];exact dl hn (au s)
 have hq:n*2^s/k<2^(64+s):=bv (ga _ _) hN;have p4:=aGK neg (n*2^s/k) (e-s) (decide (n*2^s%k≠0)) f m hf (aYz hq (by omega)) (by omega);rw[aQE hf (fun h=>by have:=k2 (of_decide_eq_true h);omega),tU hf hn0 (by omega) e (by omega) (fun h=>by have:=k2 h;omega)]at p4;have r1:(Cy f).2.1=(fP f:Int):=rfl;have w1:al .i64 ((fP f:Int)+3)=((fP f+3:Nat):Int):=by rw[Au (by omega)];omega
 have w2:al .i64 (-(s:Int)+e)=e-s:=by rw[Au (by omega)];omega
 have l1:(Dw n).length=1:=by rw[kO hn0 hn];rfl
 have l2:(Dw k).length=1:=by rw[kO hk0 hk];rfl
 have w3:decide (al .i64 (((1:Nat):Int)+((1:Nat):Int))>1024)=false:=by decide
 have w4:(decide (e<(-(40000:Int)))||decide (e>(40000:Int)))=false:=by rw[af (by omega),af (by omega)];rfl
 have w5:((((1:Nat):Int))==(0:Int))=false:=by decide
 simp only[aMt p0,aj,aa,ab,aCT p1,aCT p2,l1,l2,w3,w4,w5,r1,w1,aZa p3,w2,aMu p4]
theorem aZX{f m:Int}{neg:Bool}(hf:Fm f){n k t u:Nat}(hn0:n≠0)(hk0:k≠0)(hn:n*2^t<2^53)(hk:k*2^u<2^53)(e:Int):
  HX f m neg (n*2^t) (k*2^u) e=HX f m neg n k (e+t-u):=by
 have hP:=FA hf;have ht:t<53:=by
  have:1*2^t<=n*2^t:=bh _ (by omega);exact(dk (a:=2) (by decide)).1 (by omega)
 have hu:u<53:=by
  have:1*2^u<=k*2^u:=bh _ (by omega);exact(dk (a:=2) (by decide)).1 (by omega)
 obtain⟨s,hs⟩:∃s,s+u=120+t:=⟨120+t-u,by omega⟩
 have hk1:0<k:=by omega
 have hup:=au u;have e1:n*2^t*2^120=n*2^s*2^u:=by
  rw[bu,bu,←ca,←ca,hs,jc]
 have hbig:fP f+1<=Af (n*2^s/k):=by
  apply Pf;rw[iu hk1];have h1:2^fP f*(k*2^u)<=2^53*2^53:=ju (ax (by decide) hP) (by omega);have h2:1*2^(120+t)<=n*2^(120+t):=bh _ (by omega);have h3:(2:Nat)^53*2^53<=2^(120+t):=by rw[←ca];exact ax (by decide) (by omega)
  have h4:2^fP f*k*2^u<=n*2^s*2^u:=by
   rw[bu,bu n,←ca,hs];omega
  exact Nat.le_of_mul_le_mul_right h4 hup
 have a1:=tU (f:=f) (m:=m) (neg:=neg) hf (n:=n*2^t) (k:=k*2^u) (kq hn0 (la (au t))) (ir hk1 hup) e (s:=120) (by decide)
  (by rw[e1,li _ _ hup];exact fun _=>hbig)
 have a2:=tU (f:=f) (m:=m) (neg:=neg) hf hn0 hk1 (e+t-u) (s:=s) (by omega) (fun _=>hbig);rw[←a1,←a2,e1,li _ _ hup,gk,show e-((120:Nat):Int)=e+(t:Int)-(u:Int)-(s:Int) by omega];congr 1;rw[gj,ai,ai];constructor
 ·intro h hc;rw[hc,fq]at h;exact h rfl
 ·intro h;exact kq h (by omega)
theorem aZW{f m:Int}{neg:Bool}(hf:Fm f)(s s':Bool){n k:Nat}(hn0:n≠0)(hk0:k≠0)(hn:n<2^53)(hk:k<2^53)(x y:Int):
  HX f m neg (od s n x).2.1 (od s' k y).2.1 ((od s n x).2.2-(od s' k y).2.2)=HX f m neg n k (x-y):=by
 rcases WM s n x with⟨_,h⟩|⟨_,h2,_,h4,h5⟩
 ·exact absurd h hn0
 rcases WM s' k y with⟨_,h⟩|⟨_,g2,_,g4,g5⟩
 ·exact absurd h hk0
 generalize(od s n x).2.1=n1 at *
 generalize(od s' k y).2.1=k1 at *
 rw[h5,g5];rw[bt]at h4 g4;have:=aZX (f:=f) (m:=m) (neg:=neg) hf (n:=n1) (k:=k1) (t:=tz n) (u:=tz k) (by omega) (by omega) (by rw[←h4];exact hn) (by rw[←g4];exact hk) (x-y);rw[←h4,←g4]at this;rw[this];congr 1;omega
theorem aQ3{f:Int}{a:Nat}(h:Bm f a=true):nan f a=true:=by
 cases hn:nan f a
 ·rw[PT hn]at h;exact absurd h (by decide)
 ·rfl
theorem aDD{f:Int}{a:Nat}(h1:nan f a=false)(h2:Ax f a=false):eF f a≠AH f:=fun he=>by
 unfold nan at h1
 unfold Ax at h2
 rw[he]at h1 h2
 simp at h1 h2
 exact h2 h1
theorem aWr(f m:Int){a b:Nat}(ha:a<2^64)(hb:b<2^64):cN (f,m,(a:Int),(b:Int),())=some (Pq f m a b):=by
 show yC Ul.pre Ul.F Um.pre Um.F Un.pre Un.F CM.pre CM.F Cw.pre Cw.F DY.pre DY.F Up.pre Up.F f m a b=_;unfold yC Pq;have p0:=aWn f m [a,b] (fun c hc=>by
  rcases dq.1 hc with rfl|hc
  ·exact ha
  ·rw[kw]at hc;omega) (show(2:Nat)<1000 by decide)
 have p0:cM (f,m,((a:Int)::((b:Int)::[])),())=_:=p0;simp only[aY9 p0,aa];clear p0;unfold Fy;by_cases hf:¬Fm f
 ·rw[ah hf,ah hf];rfl
 have hf:=jv.1 hf;rw[ag (show ¬¬Fm f from fun h=>h hf),ag (show ¬¬Fm f from fun h=>h hf)];by_cases hm:m<0∨m>5
 ·rw[ah hm,ah hm];rfl
 rw[ag hm,ag hm];have hm':0<=m/\m<=5:=by omega
 have ho:PN f [a,b]=(Ai f a==0&&(Ai f b==0&&true)):=rfl;rw[ho];by_cases hca:Ai f a≠0
 ·have h4:=(aDi hf a).resolve_left hca;rw[ah hca,h4];rfl
 have hca:=jv.1 hca;rw[ag (fun h=>h hca),hca];by_cases hcb:Ai f b≠0
 ·have h4:=(aDi hf b).resolve_left hcb;rw[ah hcb,h4];rfl
 have hcb:=jv.1 hcb;rw[ag (fun h=>h hcb),hcb];have e0:((bif((0:Int)==0&&((0:Int)==0&&true))then(0:Int)else 4)!=0)=false:=rfl;rw[e0,ab];have p1:=aHq hca;have p2:=aHq hcb;have p3:=aHr hf 0;have p4:=aHr hf 1;have p5:=aBl hf (!(sF f a==sF f b));have p6:=bP hf (!(sF f a==sF f b));have ma:=HZ hf a;have mb:=HZ hf b;have xa:=L7 hf a;have xb:=L7 hf b;simp only[aML p1,aML p2,aa,aMM p3,aMM p4,aM2 p5,fO p6];unfold gB;cases sa:Bm f a
 ·cases sb:Bm f b
  ·simp only[bj,ab];cases na:nan f a
   ·cases nb:nan f b
    ·simp only[bj,ab];cases hi:Ax f a&&Ax f b||AX f a&&AX f b
     ·simp only[ab];cases ia:Ax f a
      ·simp only[ab];cases zb:AX f b
       ·simp only[ab];cases iz:Ax f b||AX f a
        ·simp only[ab];rw[jb]at iz;have q1:=aHK hca (aDD na ia);have q2:=aHK hcb (aDD nb iz.1);have mza:=FE iz.2;have mzb:=FE zb;obtain⟨o1,o2,o3⟩:=aPW (sF f a) (n:=Al f a) (An f a) ma xa;obtain⟨o4,o5,o6⟩:=aPW (sF f b) (n:=Al f b) (An f b) mb xb;have n1:(od (sF f a) (Al f a) (An f a)).2.1≠0:=by
          rcases WM (sF f a) (Al f a) (An f a)with⟨_,h⟩|⟨_,h2,_,_,_⟩
          ·exact absurd h mza
          ·omega
         have n2:(od (sF f b) (Al f b) (An f b)).2.1≠0:=by
          rcases WM (sF f b) (Al f b) (An f b)with⟨_,h⟩|⟨_,h2,_,_,_⟩
          ·exact absurd h mzb
          ·omega
         have q3:=aWq hf hm' (!(sF f a==sF f b)) (n:=(od (sF f a) (Al f a) (An f a)).2.1) (k:=(od (sF f b) (Al f b) (An f b)).2.1) n2 (by omega) n1 (by omega) (e:=(od (sF f a) (Al f a) (An f a)).2.2-(od (sF f b) (Al f b) (An f b)).2.2) (by omega);rw[aZW hf _ _ mza mzb ma mb]at q3;have w1:al .i64 ((od (sF f a) (Al f a) (An f a)).2.2-(od (sF f b) (Al f b) (An f b)).2.2)=(od (sF f a) (Al f a) (An f a)).2.2-(od (sF f b) (Al f b) (An f b)).2.2:=Au (by omega);have d1:∀t:Bool×Nat×Int,(Yq t).2.1=Dw t.2.1:=fun _=>rfl;have d2:∀t:Bool×Nat×Int,(Yq t).2.2.1=t.2.2:=fun _=>rfl;simp only[aMN q1,aMN q2,aa,d1,d2,w1,aZb q3]
        ·rfl
       ·rfl
      ·rfl
     ·rfl
    ·rfl
   ·cases nb:nan f b<;>rfl
  ·have nb:=aQ3 sb;rw[nb,bo,bo];rfl
 ·have na:=aQ3 sa;rw[na];rfl
end VL
namespace VL
open Go Vx
theorem aD2{w:Int}(hw:Fm w)(s:Bool):Ai w (Dp w s)=0/\nan w (Dp w s)=false/\Ax w (Dp w s)=true/\AX w (Dp w s)=false/\sF w (Dp w s)=s:=by
 rcases CB hw with rfl|rfl|rfl|rfl<;>cases s<;>decide +kernel
theorem aS5{w:Int}(hw:Fm w)(s:Bool):Ai w (Bu w s)=0/\nan w (Bu w s)=false/\Ax w (Bu w s)=false/\AX w (Bu w s)=true/\sF w (Bu w s)=s/\Al w (Bu w s)=0:=by
 rcases CB hw with rfl|rfl|rfl|rfl<;>cases s<;>decide +kernel
def same(f w:Int)(a x:Nat):Prop:=Ai f a=0/\Ai w x=0/\nan w x=nan f a/\Ax w x=Ax f a/\AX w x=AX f a/\(nan f a=false->sF w x=sF f a)/\(nan f a=false->Ax f a=false->VV w x=VV f a)
end VL
namespace VL
open Go Vx
theorem aEM{w:Int}(hw:Fm w)(m:Int)(s:Bool)(N:Nat)(E:Int):Ai w (AT w m s N E false).1=0:=by
 rw[Vj hw];have h1:=iV hw m s N E;have h2:=aD0 hw;exact uP hw s (by omega)
end VL
namespace VL
open Go Vx
def bAZ(f m:Int)(a:Nat)(tell:Bool):Int×Int×Int×Unit:=if Fy f m [a]≠0 then(0,0,Fy f m [a],())else bif nan f a then((Cu f:Int),(bif Bm f a then 1 else 0),0,())else bif Ax f a||AX f a||decide (0<=An f a)then((a:Int),0,0,())else((if BF m (sF f a) (Al f a) (An f a) 0 false=0 then(Bu f (sF f a):Int)else((AT f m (sF f a) (BF m (sF f a) (Al f a) (An f a) 0 false) 0 false).1:Int)),(bif decide (Dm (Al f a) (An f a) 0 false≠0)&&tell then 16 else 0),0,())
def uR(k:Int):Nat:=if k=0 then 2^31-1 else if k=1 then 2^63-1 else if k=2 then 2^32-1 else 2^64-1
def fK(k:Int):Nat:=if k=0 then 2^31 else if k=1 then 2^63 else 0
def aEm(x:Nat):Nat:=(2^64-x)%2^64
def aOP(k:Int)(neg:Bool)(u:Nat)(other:Bool):Int×Int×Int×Unit:=bif neg then(if u>fK k then((aEm (fK k):Int),1,0,())else((aEm u:Int),(bif other then 16 else 0),0,()))else(if u>uR k then((uR k:Int),1,0,())else((u:Int),(bif other then 16 else 0),0,()))
def bIO(f m k:Int)(a:Nat):Int×Int×Int×Unit:=if Fy f m []≠0 then(0,0,Fy f m [],())else if k<0∨k>3 then(0,0,9,())else if Ai f a≠0 then(0,0,Ai f a,())else bif nan f a||(Ax f a&&!sF f a)then((uR k:Int),1,0,())else bif Ax f a then((aEm (fK k):Int),1,0,())else if An f a<0 then aOP k (sF f a) (BF m (sF f a) (Al f a) (An f a) 0 false) (decide (Dm (Al f a) (An f a) 0 false≠0))else aOP k (sF f a) (Al f a*2^(An f a).toNat) false
def bAu(f m k:Int)(x:Nat):Int×Int×Int×Unit:=
 if Fy f m []≠0 then(0,0,Fy f m [],())
 else if k<0∨k>3 then(0,0,9,())
 else
  let neg:=decide (0<fK k)&&decide (2^63<=x)
  let n:=bif neg then 2^64-x else x
  if n>(bif neg then fK k else uR k)then(0,0,7,())
  else if n=0 then(0,0,0,())else(((AT f m neg n 0 false).1:Int),((AT f m neg n 0 false).2:Int),0,())
end VL
namespace VL
open Go Vx
def fv(f:Int)(a:Nat):Int:=bif nan f a||Ax f a then 0 else vA f a
def bA0(f:Int)(a b:Nat):Bool:=(Ax f a&&AX f b)||(Ax f b&&AX f a)
def pv2(f:Int)(a b:Nat):Int:=bif Ax f a||Ax f b then 0 else fv f a*fv f b
def bIz(f m c:Int)(s t:Bool)(S T:Int):Int×Int×Int×Unit:=if S+T=0 then((Bu f (bif(S==0&&T==0)&&(s==t)then s else m==4):Int),0,0,())else(((AT f m (decide (S+T<0)) (S+T).natAbs c false).1:Int),((AT f m (decide (S+T<0)) (S+T).natAbs c false).2:Int),0,())
def bAl(f m:Int)(a b c:Nat):Int×Int×Int×Unit:=bif(Bm f a||Bm f b||Bm f c)||(!(nan f a||nan f b)&&bA0 f a b)then((Cu f:Int),1,0,())else bif nan f a||nan f b||nan f c then((Cu f:Int),0,0,())else bif((Ax f a||Ax f b)&&Ax f c)&&!((!(sF f a==sF f b))==sF f c)then((Cu f:Int),1,0,())else bif Ax f a||Ax f b then((Dp f (!(sF f a==sF f b)):Int),0,0,())else bif Ax f c then((Dp f (sF f c):Int),0,0,())else bIz f m (qm f+qm f) (!(sF f a==sF f b)) (sF f c) (pv2 f a b) (fv f c*(2^(qm f-(qm f+qm f)).toNat:Nat))
def bAk(f m:Int)(a b c:Nat):Int×Int×Int×Unit:=if Fy f m [a,b,c]≠0 then(0,0,Fy f m [a,b,c],())else bAl f m a b c
end VL
namespace VL
open Go Vx
def vP(f:Int)(a b:Nat):Int×Int×Bool×Int×Unit:=if Fy f 0 [a,b]≠0 then(0,0,true,Fy f 0 [a,b],())else bif Bm f a||Bm f b then((Cu f:Int),1,true,0,())else bif nan f a||nan f b then((Cu f:Int),0,true,0,())else bif Ax f a||AX f b then((Cu f:Int),1,true,0,())else bif Ax f b||AX f a then((a:Int),0,true,0,())else(0,0,false,0,())
def wA(X:Nat)(ex ey:Int):Nat:=X*2^(ex-min ex ey).toNat
def wB(Y:Nat)(ex ey:Int):Nat:=Y*2^(ey-min ex ey).toNat
def bGS(A B:Nat)(WJ:Bool):Bool×Nat×Nat:=if(WJ&&(decide (2*(A%B)>B)||(decide (2*(A%B)=B)&&decide (A/B%2=1))))=true then(true,B-A%B,A/B+1)else(false,A%B,A/B)
def bGT(f:Int)(a b:Nat)(WJ:Bool):Int×Int×Int×Int×Unit:=let e:=min (An f a) (An f b);let t:=bGS (wA (Al f a) (An f a) (An f b)) (wB (Al f b) (An f a) (An f b)) WJ;((if t.2.1=0 then(Bu f (sF f a):Int)else((AT f 2 (bif t.1 then !sF f a else sF f a) t.2.1 e false).1:Int)),((t.2.2%8:Nat):Int),0,0,())
def vO(f:Int)(a b:Nat)(WJ:Bool):Int×Int×Int×Int×Unit:=bif(vP f a b).2.2.1 then((vP f a b).1,0,(vP f a b).2.1,(vP f a b).2.2.2.1,())else bGT f a b WJ
end VL
namespace VL
open Go Vx
def aNs(f w m:Int)(a:Nat):Int:=if ¬(Fm f/\Fm w)then 2 else if m<0∨m>5 then 3 else Ai f a
def aZJ(f w m:Int)(a:Nat):Int×Int×Int×Unit:=if aNs f w m a≠0 then(0,0,aNs f w m a,())else bif nan f a then((Cu w:Int),(bif Bm f a then 1 else 0),0,())else bif Ax f a then((Dp w (sF f a):Int),0,0,())else bif AX f a then((Bu w (sF f a):Int),0,0,())else(((AT w m (sF f a) (Al f a) (An f a) false).1:Int),((AT w m (sF f a) (Al f a) (An f a) false).2:Int),0,())
def aNt(f:Int)(a b:Nat):Int×Int×Unit:=if Ai f a≠0 then(0,Ai f a,())else if Ai f b≠0 then(0,Ai f b,())else((CJ f (sF f b) (Ct f a):Int),0,())
end VL
end
