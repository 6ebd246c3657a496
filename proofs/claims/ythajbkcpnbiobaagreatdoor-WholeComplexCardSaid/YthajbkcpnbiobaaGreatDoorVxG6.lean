/- Part 6 of the proof. What is proved: symbolic execution of the functions, proved sound; what each function of the program computes, and that every run ends with it; what these functions compute, in plain numbers. Conditions: each theorem bears its own. -/
import Derived.Test.YthajbkcpnbiobaaGreatDoorVxG5
set_option linter.all false
set_option exponentiation.threshold 1000000
noncomputable section
open BitVec renaming ofInt->cw,toNat_or->px
open Bool renaming and_eq_false_iff->lr,and_eq_true->ae,and_false->bj,and_self->bh,and_true->cq,eq_iff_iff->ff,false_and->az,false_or->ca,not_false->bw,not_true->ck,or_eq_false_iff->kl,or_false->cv,or_self->bt,or_true->cd,true_and->bi,true_or->bf
open Classical renaming not_not->ir
open Go.IntKind renaming bits->gy,signed->ip,wrap->aa
open Int renaming add_zero->kw,eq_ofNat_of_zero_le->cy,le_refl->mh,natAbs_natCast->oo,natCast_add->nm,natCast_mul->jj,natCast_zero->gx,sub_self->mq,tmod->le,toNat->ai,toNat_natCast->ag,toNat_zero->be
open List renaming all_eq_true->lv,append_assoc->ee,append_nil->df,drop->qh,drop_eq_getElem_cons->dr,drop_length->jq,drop_replicate->ku,drop_zero->lk,getD_cons_succ->oh,getD_cons_zero->og,getD_eq_getElem?_getD->ak,getElem?_drop->di,getElem?_eq_getElem->ay,getElem?_eq_none->dq,getElem?_eq_some_iff->ap,getElem?_of_mem->lz,length_cons->gc,length_map->kx,length_nil->iu,length_replicate->fj,length_set->lc,length_take->gk,mem_append->cr,mem_of_mem_drop->kj,mem_of_mem_take->dz,mem_range->ko,nil_append->mi,range->gu,replicate->au,replicate_succ->jn,replicate_zero->kt,set_append_right->ga,set_cons_zero->jt,set_set->nn,take->jy,take_length->ej,take_of_length_le->co,take_succ->qc,take_zero->ms
open Nat renaming add_assoc->gj,add_comm->gv,add_mul->bl,add_mul_div_left->dx,add_mul_div_right->nz,add_mul_mod_self_left->gh,add_mul_mod_self_right->kg,add_sub_cancel_left->io,add_zero->cu,div_add_mod->cg,div_div_eq_div_mul->dk,div_eq_of_lt->cj,div_le_self->fg,div_lt_iff_lt_mul->bg,eq_of_testBit_eq->ly,eq_zero_or_pos->bc,le_div_iff_mul_le->gn,le_mul_of_pos_left->lh,le_mul_of_pos_right->fq,le_refl->bd,lt_of_le_of_lt->aw,lt_of_lt_of_le->ao,lt_or_ge->aq,lt_trans->je,lt_trichotomy->gl,min_eq_left->gb,min_le_left->la,mod_add_div->lg,mod_eq_of_lt->bb,mod_lt->bo,mod_mod->qo,mod_mul->nc,mod_two_eq_zero_or_one->mm,mul_add->br,mul_assoc->ax,mul_comm->ar,mul_div_cancel->ig,mul_div_cancel_left->gq,mul_eq_zero->nt,mul_le_mul->jf,mul_le_mul_left->bm,mul_le_mul_right->al,mul_left_comm->iq,mul_lt_mul_of_pos_left->mn,mul_lt_mul_of_pos_right->de,mul_mod->qp,mul_mod_left->lx,mul_mod_mul_right->fc,mul_mod_right->lj,mul_one->fx,mul_pos->ii,mul_right_comm->jd,mul_zero->dw,ne_of_gt->jx,one_mul->fh,or_comm->qn,pow_add->ba,pow_le_pow_right->aj,pow_lt_pow_iff_right->cm,pow_lt_pow_right->fe,pow_mul->mj,pow_pos->iw,pow_succ->dm,pow_succ'->im,pow_zero->go,sub_add_cancel->lf,sub_self->gw,sub_zero->mp,succ_eq_add_one->kv,testBit_succ->ks,testBit_two_pow_mul_add->iv,two_pow_pos->ah,zero_add->cz,zero_le->dv,zero_mod->lm,zero_mul->dp
namespace VL
open Go Vx
def Ws(l:List Nat):Prop:=(∀x∈l,x<2^64)/\l.length<=1000000
theorem aPp(l:List Nat)(hl:l.length<=1000000)(n:Nat)(hn:n<=l.length)(ht:(Al l).length<=n):
  bF ((Wd l,((n:Int),())),())=some (.inl ((Wd l,(((Al l).length:Int),())),())):=by
 have key:=EJ aHB (fun x=>x.1.2.1.toNat)
  (fun x=>∃n:Nat,n<=l.length/\(Al l).length<=n/\x=((Wd l,((n:Int),())),()))
  (fun _=>.inl ((Wd l,(((Al l).length:Int),())),())) ?_ ((Wd l,((n:Int),())),()) ⟨n,hn,ht,rfl⟩
 ·exact key
 intro L x hx hL;obtain⟨n,hn,ht,rfl⟩:=hx;unfold Ug;rcases bc n with rfl|hpos
 ·have e1:decide (((0:Nat):Int)>0)=false:=rfl;simp only[e1,bw,cd,cond_true,az,cond_false];have:(Al l).length=0:=by omega
  rw[this]
 ·have e0:aa .i64 ((n:Int)-1)=((n-1:Nat):Int):=D8 n 1 (by omega) (by omega);have e1:decide ((n:Int)>0)=true:=by simp;omega
  have e2:(decide ((0:Int)<=((n-1:Nat):Int))&&decide (((n-1:Nat):Int)<((Wd l).length:Int)))=true:=by
   rw[AI];simp;omega
  simp only[e0,e1,e2,bf,cond_true,bi,ag,CP,JL];cases hz:(l.getD (n-1) 0==0)with
  |true=>
   simp only[cond_true];refine hL _ ⟨n-1,by omega,?_,rfl⟩ (by simp only[ag];omega);rcases aq (n-1) (Al l).length with h|h
   ·exfalso;have e:n=(Al l).length:=by omega
    have:=YX l (by omega);rw[←e]at this;exact this (by simpa using hz)
   ·exact h
  |false=>
   simp only[cond_false];have:(Al l).length=n:=by
    rcases aq (n-1) (Al l).length with h|h
    ·omega
    ·exfalso;have:=vT l (n-1) h;rw[this]at hz;simp at hz
   rw[this]
theorem DZ(l:List Nat)(hl:l.length<=1000000):RF (Wd l,())=some (Wd (Al l),()):=by
 show iU bF (Wd l)=_;unfold iU;have h:=aPp l hl l.length (bd _) (DW l).1;rw[AI];rw[h];have e:(decide ((0:Int)<=((Al l).length:Int))&&decide (((Al l).length:Int)<=((Wd l).length:Int)))=true:=by
  rw[AI];have:=(DW l).1;simp;omega
 show(bif(decide ((0:Int)<=((Al l).length:Int))&&decide (((Al l).length:Int)<=((Wd l).length:Int)))then some (qh (ai 0) (jy (ai ((Al l).length:Int)) (Wd l)),())else none)=_;rw[e,cond_true,ag,be,lk,bR];have:=(DW l).2;rw[←this]
def Ag(n:Nat):Nat:=if n=0 then 0 else Nat.log2 n+1
theorem FM(n:Nat):n<2^Ag n:=by
 unfold Ag;split
 ·subst_vars;decide
 ·exact Nat.lt_log2_self
theorem LX{n:Nat}(h:n≠0):2^(Ag n-1)<=n:=by
 unfold Ag;rw[if_neg h];exact Nat.log2_self_le h
theorem aRP{n k:Nat}(h1:2^k<=n)(h2:n<2^(k+1)):Ag n=k+1:=by
 have hp:=ah k;have hn:n≠0:=by omega
 have a1:=FM n;have a2:=LX hn;have b1:Ag n-1<k+1:=(cm (by decide)).1 (aw a2 h2);have b2:k<Ag n:=(cm (by decide)).1 (aw h1 a1);omega
theorem qF{n k:Nat}(h:2^k<=n):Ag n=k+Ag (n/2^k):=by
 have hp:=ah k;have hq:0<n/2^k:=Nat.div_pos h hp;have a1:=FM (n/2^k);have a2:=LX (n:=n/2^k) (by omega);have hb:0<Ag (n/2^k):=by unfold Ag;rw[if_neg (by omega)];omega
 have h1:2^(k+(Ag (n/2^k)-1))<=n:=by
  rw[ba];calc 2^k*2^(Ag (n/2^k)-1)<=2^k*(n/2^k):=bm _ a2
   _<=n:=Nat.mul_div_le n _
 have h2:n<2^(k+(Ag (n/2^k)-1)+1):=by
  rw[show k+(Ag (n/2^k)-1)+1=k+Ag (n/2^k) by omega,ba,ar];exact(bg hp).1 a1
 have:=aRP h1 h2;omega
theorem aHl:∀i:Nat,i<256->(HT.getD i 0).toNat=Ag i:=by
 have h:((gu 256).all fun i=>decide ((HT.getD i 0).toNat=Ag i))=true:=by decide +kernel
 intro i hi;have:=lv.1 h i (ko.2 hi);simpa using this
theorem aAs(n:Nat)(hn:n<2^64):V7 ((n:Int),())=some ((Ag n:Int),()):=by
 have hs:∀m k:Nat,k<=64->AL .u64 (m:Int) (k:Int)=((m/2^k:Nat):Int):=fun m k hk=>D6 m k hk;have SA:∀m:Nat,AL .u64 (m:Int) 32=((m/2^32:Nat):Int):=fun m=>hs m 32 (by decide);have s16:∀m:Nat,AL .u64 (m:Int) 16=((m/2^16:Nat):Int):=fun m=>hs m 16 (by decide);have s8:∀m:Nat,AL .u64 (m:Int) 8=((m/2^8:Nat):Int):=fun m=>hs m 8 (by decide);have ge:∀m k:Nat,decide ((m:Int)>=(k:Int))=decide (k<=m):=fun m k=>by rw[ff];simp
 have g32:∀m:Nat,decide ((m:Int)>=4294967296)=decide (2^32<=m):=fun m=>ge m (2^32);have g16:∀m:Nat,decide ((m:Int)>=65536)=decide (2^16<=m):=fun m=>ge m (2^16);have g8:∀m:Nat,decide ((m:Int)>=256)=decide (2^8<=m):=fun m=>ge m (2^8);have tab:∀m:Nat,m<256->aa .u8 (m:Int)=(m:Int):=fun m hm=>IntWalk.u8_in _ (by omega);have look:∀(m:Nat) (c:Int) (d:Nat),m<256->c=(d:Int)->d<=56->(bif(decide ((0:Int)<=aa .u8 (m:Int))&&decide (aa .u8 (m:Int)<(256:Int)))then(some (aa .i64 (c+aa .i64 ((UInt8.toNat (HT.getD (ai (aa .u8 (m:Int))) 0):Nat):Int)),()):Option (DenS E0))else none)=some (((d+Ag m:Nat):Int),()):=fun m c d hm hc hd=>by
  have e:(decide ((0:Int)<=(m:Int))&&decide ((m:Int)<(256:Int)))=true:=by simp;omega
  have hb:Ag m<=8:=by
   have:=aHl m hm;rcases bc m with rfl|hpos
   ·decide
   ·have:=LX (n:=m) (by omega);have h8:Ag m-1<8:=(cm (a:=2) (by decide)).1 (aw this hm);omega
  rw[tab m hm,e,cond_true,ag,aHl m hm,hc,AB (n:=((Ag m:Nat):Int)) (by omega),AB (by omega)];rfl
 show iY n=_;unfold iY;have Cm:∀(k:Nat),2^k<=n->k+Ag (n/2^k)=Ag n:=fun k h=>(qF h).symm;have dd:∀a b:Nat,n/2^a/2^b=n/2^(a+b):=fun a b=>by rw[dk,←ba]
 have up:∀a b:Nat,2^b<=n/2^a->2^(a+b)<=n:=fun a b h=>by
  rw[ba,ar];exact(gn (ah a)).1 h
 have down:∀a b:Nat,n/2^a<2^b->n<2^(a+b):=fun a b h=>by
  rw[ba,ar];exact(bg (ah a)).1 h
 have small:∀a:Nat,n<2^(a+8)->n/2^a<256:=fun a h=>by
  rw[bg (ah a),ar];rw[ba]at h;exact h
 simp only[SA,s16,s8,g32,g16,g8];by_cases h1:2^32<=n
 ·rw[decide_eq_true h1,cond_true];by_cases h2:2^16<=n/2^32
  ·rw[decide_eq_true h2,cond_true];by_cases h3:2^8<=n/2^32/2^16
   ·rw[decide_eq_true h3,cond_true];rw[dd 32 16]at h3;have hm:n/2^32/2^16/2^8=n/2^56:=by rw[dd 32 16,dd 48 8]
    refine(look (n/2^32/2^16/2^8) _ 56 (by rw[hm];exact small 56 hn) rfl (by decide)).trans ?_;rw[hm,Cm 56 (up 48 8 h3)]
   ·rw[decide_eq_false h3,cond_false];rw[dd 32 16]at h3;refine(look (n/2^32/2^16) _ 48 (by rw[dd 32 16];exact small 48 (down 48 8 (by omega))) rfl (by decide)).trans ?_;rw[dd 32 16,Cm 48 (up 32 16 h2)]
  ·rw[decide_eq_false h2,cond_false];by_cases h3:2^8<=n/2^32
   ·rw[decide_eq_true h3,cond_true];refine(look (n/2^32/2^8) _ 40 (by rw[dd 32 8];exact small 40 (down 32 16 (by omega))) rfl (by decide)).trans ?_;rw[dd 32 8,Cm 40 (up 32 8 h3)]
   ·rw[decide_eq_false h3,cond_false];refine(look (n/2^32) _ 32 (small 32 (down 32 8 (by omega))) rfl (by decide)).trans ?_;rw[Cm 32 h1]
 ·rw[decide_eq_false h1,cond_false];by_cases h2:2^16<=n
  ·rw[decide_eq_true h2,cond_true];by_cases h3:2^8<=n/2^16
   ·rw[decide_eq_true h3,cond_true];refine(look (n/2^16/2^8) _ 24 (by rw[dd 16 8];exact small 24 (by omega)) rfl (by decide)).trans ?_;rw[dd 16 8,Cm 24 (up 16 8 h3)]
   ·rw[decide_eq_false h3,cond_false];refine(look (n/2^16) _ 16 (small 16 (down 16 8 (by omega))) rfl (by decide)).trans ?_;rw[Cm 16 h2]
  ·rw[decide_eq_false h2,cond_false];by_cases h3:2^8<=n
   ·rw[decide_eq_true h3,cond_true];refine(look (n/2^8) _ 8 (small 8 (by omega)) rfl (by decide)).trans ?_;rw[Cm 8 h3]
   ·rw[decide_eq_false h3,cond_false];refine(look n 0 0 (by omega) rfl (by decide)).trans ?_;rw[cz]
end VL
namespace VL
open Go Vx
theorem Sq(B:Nat):∀(l m:List Nat),nv B (l++m)=nv B l+B^l.length*nv B m
 | [],m=>by simp[nv]
 |x::r,m=>by
  simp only[List.cons_append,nv,gc]
  rw[Sq B r m,dm,br,gj]
  congr 2
  rw[ar (B^r.length) B,ax]
theorem D3{B:Nat}(hB:2<=B):∀(l:List Nat),(∀x∈l,x<B)->nv B l<B^l.length
 | [],_=>by simp[nv]
 |x::r,h=>by
  have ih:=D3 hB r fun y hy=>h y (by simp[hy])
  have hx:=h x (by simp)
  simp only[nv,gc,dm]
  have:B*nv B r<=B*(B^r.length-1):=bm _ (by omega)
  have hp:0<B^r.length:=iw (by omega)
  rw[Nat.mul_sub]at this
  have h1:B*1<=B*B^r.length:=bm _ hp
  rw[ar (B^r.length) B]
  omega
theorem Rc(B:Nat)(l:List Nat)(i:Nat)(h:i<=l.length):nv B l=nv B (l.take i)+B^i*nv B (l.drop i):=by
 conv=>lhs;rw[←List.take_append_drop i l]
 rw[Sq];simp[h]
theorem JM{B:Nat}(hB:2<=B){l:List Nat}(h:∀x∈l,x<B):nv B (Al l)=nv B l:=by
 rw[GQ hB l h,fV hB]
theorem SF{l:List Nat}{x:Nat}(h:x∈Al l):x∈l:=by
 rw[(DW l).2]at h;exact dz h
theorem aLa{l:List Nat}{i:Nat}(h:i<(Al l).length):(Al l)[i]? = l[i]?:=by
 have:(Al l)[i]? = (l.take (Al l).length)[i]?:=congrArg (fun t:List Nat=>t[i]?) (DW l).2;rw[this,List.getElem?_take_of_lt h]
theorem aFo{a b k:Nat}(ha:a<2^k)(hb:0<b):Ag (a+2^k*b)=k+Ag b:=by
 have hp:=ah k;have h1:2^k*1<=2^k*b:=bm _ hb;rw[qF (n:=a+2^k*b) (k:=k) (by omega),dx _ _ hp,cj ha,cz]
theorem Di(i:Nat):(2^64)^i=2^(64*i):=by rw[←mj]
theorem aFn{l:List Nat}(h:∀x∈l,x<2^64)(hl:0<(Al l).length):Ag (nv (2^64) l)=64*((Al l).length-1)+Ag (l.getD ((Al l).length-1) 0):=by
 have hlast:=YX l hl;have hle:=(DW l).1;rw[←JM (by decide) h];have hm:∀x∈Al l,x<2^64:=fun x hx=>h x (SF hx);rw[Rc _ (Al l) ((Al l).length-1) (by omega),Di];have hd:(Al l).drop ((Al l).length-1)=[l.getD ((Al l).length-1) 0]:=by
  have hlt:(Al l).length-1<(Al l).length:=by omega
  rw[dr hlt];have e1:(Al l).length-1+1=(Al l).length:=by omega
  rw[e1,jq];congr 1;have:(Al l)[(Al l).length-1]? = l[(Al l).length-1]?:=aLa hlt;rw[ay hlt]at this;rw[ak,←this];rfl
 rw[hd];have hlow:=D3 (B:=2^64) (by decide) ((Al l).take ((Al l).length-1)) fun x hx=>hm x (dz hx);rw[gk,gb (by omega),Di]at hlow;have:nv (2^64) [l.getD ((Al l).length-1) 0]=l.getD ((Al l).length-1) 0:=by simp[nv]
 rw[this];exact aFo hlow (by omega)
theorem aLb{l:List Nat}(h:∀x∈l,x<2^64)(h0:(Al l).length=0):nv (2^64) l=0:=by
 have:Al l=[]:=List.eq_nil_of_length_eq_zero h0;rw[←JM (by decide) h,this];rfl
theorem CS{l:List Nat}{B:Nat}(hB:0<B)(h:∀x∈l,x<B)(i:Nat):l.getD i 0<B:=by
 rw[ak];cases e:l[i]? with
 |none=>exact hB
 |some x=>exact h x (List.mem_of_getElem? e)
theorem aOM(l:List Nat)(hl:Ws l):S8 (Wd l,())=some ((Ag (nv (2^64) l):Int),()):=by
 obtain⟨h,hlen⟩:=hl;show iQ Ai.pre Ai.F Cd.pre Cd.F (Wd l)=_;unfold iQ;have p0:=DZ l hlen;have hle:=(DW l).1;simp only[C9 p0,C7 p0,cond_true,AI];rcases bc (Al l).length with h0|h0
 ·rw[h0,aLb h h0];rfl
 ·have e0:(((Al l).length:Int)==0)=false:=by rw[JL];exact beq_false_of_ne (by omega)
  have e1:aa .i64 (((Al l).length:Int)-1)=(((Al l).length-1:Nat):Int):=D8 (Al l).length 1 (by omega) (by omega);have e2:(decide ((0:Int)<=(((Al l).length-1:Nat):Int))&&decide ((((Al l).length-1:Nat):Int)<((Al l).length:Int)))=true:=by simp only[ae,decide_eq_true_eq];omega
  have e3:(Wd (Al l)).getD ((Al l).length-1) 0=((l.getD ((Al l).length-1) 0:Nat):Int):=by
   rw[CP];congr 1;rw[ak,ak];rw[aLa (by omega)]
  have hd:=CS (by decide) h ((Al l).length-1);have p1:=aAs _ hd;have hb:Ag (l.getD ((Al l).length-1) 0)<=64:=by
   rcases bc (l.getD ((Al l).length-1) 0)with z|z
   ·rw[z];decide
   ·have:=LX (n:=l.getD ((Al l).length-1) 0) (by omega);have:Ag (l.getD ((Al l).length-1) 0)-1<64:=(cm (a:=2) (by decide)).1 (aw this hd);omega
  rw[e0,e1,e2,cond_false,cond_true,ag,e3];simp only[aIy p1,aGL p1,cond_true];rw[aFn h h0,AB (n:=64*(((Al l).length-1:Nat):Int)) (by omega),AB (by omega)];congr 2
end VL
namespace VL
open Go Vx
theorem kR(x:Nat):aa .u64 (x:Int)=((x%2^64:Nat):Int):=by
 simp[aa,gy,ip];try omega
theorem H1(x n:Nat)(hn:n<=64):Bb .u64 (x:Int) (n:Int)=((x*2^n%2^64:Nat):Int):=by
 have hm:(min (n:Int).toNat IntKind.u64.bits)=n:=by simp[gy];omega
 unfold Bb;rw[hm];have e:(x:Int)*2^n=((x*2^n:Nat):Int):=by simp
 rw[e];exact kR _
theorem Mq{a b k:Nat}(ha:a<2^k)(h:a+b*2^k<2^64):Ap .u64 (a:Int) ((b*2^k:Nat):Int)=((a+b*2^k:Nat):Int):=by
 have key:(cw 64 (a:Int) ||| cw 64 ((b*2^k:Nat):Int)).toNat=a+b*2^k:=by
  rw[px,JN (by omega),JN (by omega),ar b,qn,←Nat.two_pow_add_eq_or_of_lt ha];omega
 show IntKind.u64.wrap (((cw 64 (a:Int) ||| cw 64 ((b*2^k:Nat):Int)).toNat:Nat):Int)=_;rw[key];exact EN (by omega)
def Bh(s:Nat):List Nat->List Nat
 | []=>[]
 |x::r=>(x/2^s+(r.getD 0 0%2^s)*2^(64-s))::Bh s r
theorem Mw(s:Nat):∀l,(Bh s l).length=l.length
 | []=>rfl
 |_::r=>by simp[Bh,Mw s r]
theorem YN(s:Nat):∀(l:List Nat) (i:Nat),i<l.length->(Bh s l)[i]? = some (l.getD i 0/2^s+(l.getD (i+1) 0%2^s)*2^(64-s))
 | [],i,h=>by simp at h
 |x::r,0,_=>by simp[Bh]
 |x::r,i+1,h=>by
  simp only[Bh,List.getElem?_cons_succ]
  rw[YN s r i (by simpa using h)]
  simp
theorem UQ{s:Nat}(hs:s<=64):2^64=2^s*2^(64-s):=by rw[←ba];congr 1;omega
theorem gR{s:Nat}(hs:s<=64){x y:Nat}(hx:x<2^64):x/2^s<2^(64-s)/\x/2^s+(y%2^s)*2^(64-s)<2^64:=by
 have hp:=ah s;have h1:x/2^s<2^(64-s):=by
  rw[bg hp,ar,←UQ hs];exact hx
 refine⟨h1,?_⟩;have h2:y%2^s+1<=2^s:=bo _ hp;have h3:=al (2^(64-s)) h2;rw[←UQ hs,bl,fh]at h3;omega
theorem aUH{B:Nat}{s:Nat}(hB:B%2^s=0):∀l:List Nat,nv B l%2^s=l.getD 0 0%2^s
 | []=>by simp[nv]
 |x::r=>by
  simp only[nv,og]
  obtain⟨c,hc⟩:=Nat.dvd_of_mod_eq_zero hB
  rw[hc,ax,gh]
theorem tV{s:Nat}(hs:s<=64):∀l:List Nat,nv (2^64) (Bh s l)=nv (2^64) l/2^s
 | []=>by simp[Bh,nv]
 |x::r=>by
  have ih:=tV hs r
  simp only[Bh,nv]
  rw[ih]
  have hp:=ah s
  have hm:=aUH (B:=2^64) (s:=s) (by rw[UQ hs];exact lj _ _) r
  rw[←hm]
  have hN:nv (2^64) r=2^s*(nv (2^64) r/2^s)+nv (2^64) r%2^s:=(cg _ _).symm
  generalize nv (2^64) r/2^s=q at *
  generalize nv (2^64) r%2^s=t at *
  rw[hN]
  have e:x+2^64*(2^s*q+t)=x+2^s*(2^64*q+2^(64-s)*t):=by
   rw[br,br]
   have e1:2^64*(2^s*q)=2^s*(2^64*q):=by rw[←ax,←ax,ar (2^64) (2^s)]
   have e2:2^64*t=2^s*(2^(64-s)*t):=by rw[←ax,←UQ hs]
   rw[e1,e2]
  rw[e,dx _ _ hp,ar t]
  omega
end VL
namespace VL
open Go Vx
theorem aJm{O:List Nat}{i v:Nat}(hi:i<O.length)(hv:O[i]? = some v):(O.take i++au (O.length-i) 0).set i v=O.take (i+1)++au (O.length-(i+1)) 0:=by
 have e:O.length-i=(O.length-(i+1))+1:=by omega
 have hl:(O.take i).length=i:=by simp;omega
 rw[e,jn,ga _ _ (by omega),hl,gw,jt];rw[qc,hv];simp
theorem aG2{l:List Nat}{i v:Nat}(hi:i<l.length):(l.set i v).getD i 0=v:=by
 rw[ak,List.getElem?_set_self hi];rfl
theorem eJ(l:List Nat)(w i:Nat):(l.drop w).getD i 0=l.getD (w+i) 0:=by
 rw[ak,ak,di]
theorem uS(n:Nat)(hn:n<=1000000000):BX .i64 (n:Int) 64=((n/64:Nat):Int):=by
 unfold BX;have e:(n:Int).tdiv 64=((n/64:Nat):Int):=rfl;rw[e,AB (by omega)]
theorem aPj(l:List Nat)(hl:l.length<=1000000)(n:Nat)(hn:n<=l.length)(ht:(Al l).length<=n):
  bC (((),((n:Int),())),(Wd l,()))=some (.inl (((),(((Al l).length:Int),())),(Wd l,()))):=by
 have key:=EJ aHv (fun x=>x.1.2.1.toNat)
  (fun x=>∃n:Nat,n<=l.length/\(Al l).length<=n/\x=(((),((n:Int),())),(Wd l,())))
  (fun _=>.inl (((),(((Al l).length:Int),())),(Wd l,()))) ?_ (((),((n:Int),())),(Wd l,())) ⟨n,hn,ht,rfl⟩
 ·exact key
 intro L x hx hL;obtain⟨n,hn,ht,rfl⟩:=hx;unfold Ua;rcases bc n with rfl|hpos
 ·have e1:decide (((0:Nat):Int)>0)=false:=rfl;simp only[e1,bw,cd,cond_true,az,cond_false];have:(Al l).length=0:=by omega
  rw[this]
 ·have e0:aa .i64 ((n:Int)-1)=((n-1:Nat):Int):=D8 n 1 (by omega) (by omega);have e1:decide ((n:Int)>0)=true:=by simp;omega
  have e2:(decide ((0:Int)<=((n-1:Nat):Int))&&decide (((n-1:Nat):Int)<((Wd l).length:Int)))=true:=by
   rw[AI];simp;omega
  simp only[e0,e1,e2,bf,cond_true,bi,ag,CP,JL];cases hz:(l.getD (n-1) 0==0)with
  |true=>
   simp only[cond_true];refine hL _ ⟨n-1,by omega,?_,rfl⟩ (by simp only[ag];omega);rcases aq (n-1) (Al l).length with h|h
   ·exfalso;have e:n=(Al l).length:=by omega
    have:=YX l (by omega);rw[←e]at this;exact this (by simpa using hz)
   ·exact h
  |false=>
   simp only[cond_false];have:(Al l).length=n:=by
    rcases aq (n-1) (Al l).length with h|h
    ·omega
    ·exfalso;have:=vT l (n-1) h;rw[this]at hz;simp at hz
   rw[this]
theorem aAg(l:List Nat)(hl:l.length<=1000000):VO (Wd l,())=some (Wd (Al l),()):=by
 show hZ bC (Wd l)=_;unfold hZ;have h:=aPj l hl l.length (bd _) (DW l).1;rw[AI];rw[h];have e:(decide ((0:Int)<=((Al l).length:Int))&&decide (((Al l).length:Int)<=((Wd l).length:Int)))=true:=by
  rw[AI];have:=(DW l).1;simp;omega
 show(bif(decide ((0:Int)<=((Al l).length:Int))&&decide (((Al l).length:Int)<=((Wd l).length:Int)))then some (jy (ai ((Al l).length:Int)) (Wd l),())else none)=_;rw[e,cond_true,ag,bR];have:=(DW l).2;rw[←this]
theorem aPo(a:List Nat)(ha:∀x∈a,x<2^64)(hlen:a.length<=1000000)(w s:Nat)(hs:s<64)(hw:w<=a.length)(i:Nat)(hi:i<=(a.drop w).length):
  bE ((((a.drop w).length:Int),(Wd a,((w:Int),((s:Int),((i:Int),((),())))))),(Wd ((Bh s (a.drop w)).take i++au ((Bh s (a.drop w)).length-i) 0),()))=some (.inl (((),()),(Wd (Bh s (a.drop w)),()))):=by
 have key:=EJ (aHA Ai.pre Ai.F) (fun x=>(a.drop w).length-x.1.2.2.2.2.1.toNat)
  (fun x=>∃i:Nat,i<=(a.drop w).length/\x=((((a.drop w).length:Int),(Wd a,((w:Int),((s:Int),((i:Int),((),())))))),(Wd ((Bh s (a.drop w)).take i++au ((Bh s (a.drop w)).length-i) 0),())))
  (fun _=>.inl (((),()),(Wd (Bh s (a.drop w)),()))) ?_ _ ⟨i,hi,rfl⟩
 ·exact key
 intro L x hx hL;obtain⟨i,hi,rfl⟩:=hx;unfold Uf;have hdl:(a.drop w).length=a.length-w:=by simp
 have hol:=Mw s (a.drop w);rcases aq i (a.drop w).length with hlt|hge
 ·have e1:decide ((i:Int)<((a.drop w).length:Int))=true:=by simp;omega
  have e2:aa .i64 ((w:Int)+(i:Int))=((w+i:Nat):Int):=by rw[AB (by omega)];omega
  have e3:(decide ((0:Int)<=((w+i:Nat):Int))&&decide (((w+i:Nat):Int)<((Wd a).length:Int)))=true:=by
   rw[AI];simp only[ae,decide_eq_true_eq];omega
  have e4:decide ((0:Int)<=(s:Int))=true:=by simp
  have houtl:((Bh s (a.drop w)).take i++au ((Bh s (a.drop w)).length-i) 0).length=(a.drop w).length:=by simp;omega
  generalize hout:(Bh s (a.drop w)).take i++au ((Bh s (a.drop w)).length-i) 0=out at houtl⊢;have e5:(decide ((0:Int)<=(i:Int))&&decide ((i:Int)<((Wd out).length:Int)))=true:=by
   rw[AI];simp only[ae,decide_eq_true_eq];omega
  have e6:aa .i64 (((w+i:Nat):Int)+1)=((w+i+1:Nat):Int):=by rw[AB (by omega)];omega
  have e7:aa .i64 ((i:Int)+1)=((i+1:Nat):Int):=by rw[AB (by omega)];omega
  have e8:aa .i64 (64-(s:Int))=((64-s:Nat):Int):=D8 64 s (by omega) (by omega);have hx:=CS (by decide) ha (w+i);have hget:=YN s (a.drop w) i hlt;rw[eJ,eJ,←gj]at hget;have hnext:=fun v (hv:(Bh s (a.drop w))[i]? = some v)=>aJm (by omega) hv;rw[hout]at hnext;have e9:∀v:Nat,(decide ((0:Int)<=(i:Int))&&decide ((i:Int)<((Wd (out.set i v)).length:Int)))=true:=fun v=>by
   rw[AI,lc];simp only[ae,decide_eq_true_eq];omega
  simp only[e1,e2,e3,e4,e5,e6,e7,e8,cond_true,ag,CP,D6 _ s (by omega),Fa,e9];rcases aq (w+i+1) a.length with h1|h1
  ·have f1:decide (((w+i+1:Nat):Int)<((Wd a).length:Int))=true:=by rw[AI];exact decide_eq_true (by omega)
   have f2:decide ((0:Int)<=((w+i+1:Nat):Int))=true:=decide_eq_true (by omega);have f3:decide ((0:Int)<=((64-s:Nat):Int))=true:=decide_eq_true (by omega);simp only[f1,f2,f3,bh,cond_true];have hw2:=gR (s:=s) (y:=a.getD (w+i+1) 0) (by omega) hx;have g1:a.getD (w+i+1) 0*2^(64-s)%2^64=(a.getD (w+i+1) 0%2^s)*2^(64-s):=by
    rw[UQ (s:=s) (by omega),fc]
   rw[aG2 (by omega),H1 _ _ (by omega),g1,Mq hw2.1 hw2.2,Fa,nn,hnext _ hget];exact hL _ ⟨i+1,by omega,rfl⟩ (by simp only[ag];omega)
  ·have f1:decide (((w+i+1:Nat):Int)<((Wd a).length:Int))=false:=by rw[AI];exact decide_eq_false (by omega)
   have hz:a.getD (w+i+1) 0=0:=by rw[ak,dq h1];rfl
   rw[hz,lm,dp,cu]at hget;simp only[f1,cond_false];rw[hnext _ hget];exact hL _ ⟨i+1,by omega,rfl⟩ (by simp only[ag];omega)
 ·have hie:i=(a.drop w).length:=by omega
  subst hie;have e1:decide (((a.drop w).length:Int)<((a.drop w).length:Int))=false:=by simp
  simp only[e1,cond_false];have:(Bh s (a.drop w)).take (a.drop w).length++au ((Bh s (a.drop w)).length-(a.drop w).length) 0=Bh s (a.drop w):=by
   rw[←hol,ej,gw,kt,df]
  rw[this]
theorem aAo(l:List Nat)(hl:Ws l)(n:Nat)(hn:n<=100000000):S9 (Wd l,(n:Int),())=some (Wd (dg (2^64) (nv (2^64) l/2^n)),()):=by
 obtain⟨h,hlen⟩:=hl;show iT Ai.pre Ai.F bE (Wd l) n=_;unfold iT;have p0:=DZ l hlen;have hB:2<=2^64:=by decide
 have hle:=(DW l).1;have hm:∀x∈Al l,x<2^64:=fun x hx=>h x (SF hx);have hv:=JM hB h;have hsplit:2^n=(2^64)^(n/64)*2^(n%64):=by rw[Di,←ba];congr 1;omega
 simp only[C9 p0,C7 p0,cond_true,AI,uS n (by omega)];rcases aq (n/64) (Al l).length with h1|h1
 ·have e1:decide (((n/64:Nat):Int)>=((Al l).length:Int))=false:=by simp;omega
  have e2:aa .i64 (((Al l).length:Int)-((n/64:Nat):Int))=(((Al l).drop (n/64)).length:Int):=by
   rw[D8 _ _ (by omega) (by omega)];simp
  have hdl:((Al l).drop (n/64)).length<=1000000:=by simp;omega
  have e3:(decide ((0:Int)<=(((Al l).drop (n/64)).length:Int))&&decide ((((Al l).drop (n/64)).length:Int)*8<=140737488355328))=true:=by
   simp only[ae,decide_eq_true_eq];omega
  have e4:le (n:Int) 64=((n%64:Nat):Int):=rfl;have hw:=aPo (Al l) hm (by omega) (n/64) (n%64) (bo _ (by decide)) (by omega) 0 (dv _);rw[ms,mi,mp,Mw]at hw;rw[e1,e2,e3,cond_false,cond_true,ag,e4,W2,AI,fj];rw[show((0:Nat):Int)=0 from rfl]at hw;rw[hw];have hos:∀x∈Bh (n%64) ((Al l).drop (n/64)),x<2^64:=fun x hx=>by
   obtain⟨i,hi⟩:=lz hx;have hil:i<((Al l).drop (n/64)).length:=by rw[←Mw (n%64)];exact(ap.1 hi).1
   rw[YN _ _ i hil]at hi;cases hi;exact(gR (s:=n%64) (by omega) (CS (by decide) (fun y hy=>hm y (kj hy)) i)).2
  have p1:=DZ (Bh (n%64) ((Al l).drop (n/64))) (by rw[Mw];exact hdl);show(bif Ai.pre (Wd (Bh (n%64) ((Al l).drop (n/64))),())then some (Ai.F (Wd (Bh (n%64) ((Al l).drop (n/64))),()))else none)=_;rw[C9 p1,C7 p1,cond_true,GQ hB _ hos,tV (by omega)];have hd:nv (2^64) ((Al l).drop (n/64))=nv (2^64) l/(2^64)^(n/64):=by
   rw[←hv,Rc _ (Al l) (n/64) (by omega)];have hlow:=D3 hB ((Al l).take (n/64)) fun x hx=>hm x (dz hx);rw[gk,gb (by omega)]at hlow;rw[dx _ _ (iw (by decide)),cj hlow,cz]
  rw[hd,dk,←hsplit];rfl
 ·have e1:decide (((n/64:Nat):Int)>=((Al l).length:Int))=true:=by simp;omega
  rw[e1,cond_true];have hz:nv (2^64) l/2^n=0:=by
   rw[←hv];have:=D3 hB (Al l) hm;apply cj;refine ao this ?_;rw[Di];exact aj (by decide) (by omega)
  rw[hz,D1];rfl
theorem aPi(a:List Nat)(ha:∀x∈a,x<2^64)(hlen:a.length<=1000000)(w s:Nat)(hs:s<64)(hw:w<=a.length)(i:Nat)(hi:i<=(a.drop w).length):
  bB ((((a.drop w).length:Int),(Wd a,((w:Int),((s:Int),((i:Int),((),())))))),(Wd ((Bh s (a.drop w)).take i++au ((Bh s (a.drop w)).length-i) 0),()))=some (.inl (((),()),(Wd (Bh s (a.drop w)),()))):=by
 have key:=EJ (aHu BO.pre BO.F Ai.pre Ai.F) (fun x=>(a.drop w).length-x.1.2.2.2.2.1.toNat)
  (fun x=>∃i:Nat,i<=(a.drop w).length/\x=((((a.drop w).length:Int),(Wd a,((w:Int),((s:Int),((i:Int),((),())))))),(Wd ((Bh s (a.drop w)).take i++au ((Bh s (a.drop w)).length-i) 0),())))
  (fun _=>.inl (((),()),(Wd (Bh s (a.drop w)),()))) ?_ _ ⟨i,hi,rfl⟩
 ·exact key
 intro L x hx hL;obtain⟨i,hi,rfl⟩:=hx;unfold T9;have hdl:(a.drop w).length=a.length-w:=by simp
 have hol:=Mw s (a.drop w);rcases aq i (a.drop w).length with hlt|hge
 ·have e1:decide ((i:Int)<((a.drop w).length:Int))=true:=by simp;omega
  have e2:aa .i64 ((w:Int)+(i:Int))=((w+i:Nat):Int):=by rw[AB (by omega)];omega
  have e3:(decide ((0:Int)<=((w+i:Nat):Int))&&decide (((w+i:Nat):Int)<((Wd a).length:Int)))=true:=by
   rw[AI];simp only[ae,decide_eq_true_eq];omega
  have e4:decide ((0:Int)<=(s:Int))=true:=by simp
  have houtl:((Bh s (a.drop w)).take i++au ((Bh s (a.drop w)).length-i) 0).length=(a.drop w).length:=by simp;omega
  generalize hout:(Bh s (a.drop w)).take i++au ((Bh s (a.drop w)).length-i) 0=out at houtl⊢;have e5:(decide ((0:Int)<=(i:Int))&&decide ((i:Int)<((Wd out).length:Int)))=true:=by
   rw[AI];simp only[ae,decide_eq_true_eq];omega
  have e6:aa .i64 (((w+i:Nat):Int)+1)=((w+i+1:Nat):Int):=by rw[AB (by omega)];omega
  have e7:aa .i64 ((i:Int)+1)=((i+1:Nat):Int):=by rw[AB (by omega)];omega
  have e8:aa .i64 (64-(s:Int))=((64-s:Nat):Int):=D8 64 s (by omega) (by omega);have hx:=CS (by decide) ha (w+i);have hget:=YN s (a.drop w) i hlt;rw[eJ,eJ,←gj]at hget;have hnext:=fun v (hv:(Bh s (a.drop w))[i]? = some v)=>aJm (by omega) hv;rw[hout]at hnext;have e9:∀v:Nat,(decide ((0:Int)<=(i:Int))&&decide ((i:Int)<((Wd (out.set i v)).length:Int)))=true:=fun v=>by
   rw[AI,lc];simp only[ae,decide_eq_true_eq];omega
  simp only[e1,e2,e3,e4,e5,e6,e7,e8,cond_true,ag,CP,D6 _ s (by omega),Fa,e9];rcases aq (w+i+1) a.length with h1|h1
  ·have f1:decide (((w+i+1:Nat):Int)<((Wd a).length:Int))=true:=by rw[AI];exact decide_eq_true (by omega)
   have f2:decide ((0:Int)<=((w+i+1:Nat):Int))=true:=decide_eq_true (by omega);have f3:decide ((0:Int)<=((64-s:Nat):Int))=true:=decide_eq_true (by omega);simp only[f1,f2,f3,bh,cond_true];have hw2:=gR (s:=s) (y:=a.getD (w+i+1) 0) (by omega) hx;have g1:a.getD (w+i+1) 0*2^(64-s)%2^64=(a.getD (w+i+1) 0%2^s)*2^(64-s):=by
    rw[UQ (s:=s) (by omega),fc]
   rw[aG2 (by omega),H1 _ _ (by omega),g1,Mq hw2.1 hw2.2,Fa,nn,hnext _ hget];exact hL _ ⟨i+1,by omega,rfl⟩ (by simp only[ag];omega)
  ·have f1:decide (((w+i+1:Nat):Int)<((Wd a).length:Int))=false:=by rw[AI];exact decide_eq_false (by omega)
   have hz:a.getD (w+i+1) 0=0:=by rw[ak,dq h1];rfl
   rw[hz,lm,dp,cu]at hget;simp only[f1,cond_false];rw[hnext _ hget];exact hL _ ⟨i+1,by omega,rfl⟩ (by simp only[ag];omega)
 ·have hie:i=(a.drop w).length:=by omega
  subst hie;have e1:decide (((a.drop w).length:Int)<((a.drop w).length:Int))=false:=by simp
  simp only[e1,cond_false];have:(Bh s (a.drop w)).take (a.drop w).length++au ((Bh s (a.drop w)).length-(a.drop w).length) 0=Bh s (a.drop w):=by
   rw[←hol,ej,gw,kt,df]
  rw[this]
theorem aOB(l:List Nat)(hl:Ws l)(n:Nat)(hn:n<=100000000):VN (Wd l,(n:Int),())=some (Wd (dg (2^64) (nv (2^64) l/2^n)),()):=by
 obtain⟨h,hlen⟩:=hl;show g9 BO.pre BO.F Ai.pre Ai.F bB (Wd l) n=_;unfold g9;have p0:=DZ l hlen;have hB:2<=2^64:=by decide
 have hle:=(DW l).1;have hm:∀x∈Al l,x<2^64:=fun x hx=>h x (SF hx);have hv:=JM hB h;have hsplit:2^n=(2^64)^(n/64)*2^(n%64):=by rw[Di,←ba];congr 1;omega
 simp only[C9 p0,C7 p0,cond_true,AI,uS n (by omega)];rcases aq (n/64) (Al l).length with h1|h1
 ·have e1:decide (((n/64:Nat):Int)>=((Al l).length:Int))=false:=by simp;omega
  have e2:aa .i64 (((Al l).length:Int)-((n/64:Nat):Int))=(((Al l).drop (n/64)).length:Int):=by
   rw[D8 _ _ (by omega) (by omega)];simp
  have hdl:((Al l).drop (n/64)).length<=1000000:=by simp;omega
  have e3:(decide ((0:Int)<=(((Al l).drop (n/64)).length:Int))&&decide ((((Al l).drop (n/64)).length:Int)*8<=140737488355328))=true:=by
   simp only[ae,decide_eq_true_eq];omega
  have e4:le (n:Int) 64=((n%64:Nat):Int):=rfl;have hw:=aPi (Al l) hm (by omega) (n/64) (n%64) (bo _ (by decide)) (by omega) 0 (dv _);rw[ms,mi,mp,Mw]at hw;rw[e1,e2,e3,cond_false,cond_true,ag,e4,W2,AI,fj];rw[show((0:Nat):Int)=0 from rfl]at hw;rw[hw];have hos:∀x∈Bh (n%64) ((Al l).drop (n/64)),x<2^64:=fun x hx=>by
   obtain⟨i,hi⟩:=lz hx;have hil:i<((Al l).drop (n/64)).length:=by rw[←Mw (n%64)];exact(ap.1 hi).1
   rw[YN _ _ i hil]at hi;cases hi;exact(gR (s:=n%64) (by omega) (CS (by decide) (fun y hy=>hm y (kj hy)) i)).2
  have p1:=aAg (Bh (n%64) ((Al l).drop (n/64))) (by rw[Mw];exact hdl);show(bif BO.pre (Wd (Bh (n%64) ((Al l).drop (n/64))),())then some (BO.F (Wd (Bh (n%64) ((Al l).drop (n/64))),()))else none)=_;rw[aIt p1,aGG p1,cond_true,GQ hB _ hos,tV (by omega)];have hd:nv (2^64) ((Al l).drop (n/64))=nv (2^64) l/(2^64)^(n/64):=by
   rw[←hv,Rc _ (Al l) (n/64) (by omega)];have hlow:=D3 hB ((Al l).take (n/64)) fun x hx=>hm x (dz hx);rw[gk,gb (by omega)]at hlow;rw[dx _ _ (iw (by decide)),cj hlow,cz]
  rw[hd,dk,←hsplit];rfl
 ·have e1:decide (((n/64:Nat):Int)>=((Al l).length:Int))=true:=by simp;omega
  rw[e1,cond_true];have hz:nv (2^64) l/2^n=0:=by
   rw[←hv];have:=D3 hB (Al l) hm;apply cj;refine ao this ?_;rw[Di];exact aj (by decide) (by omega)
  rw[hz,D1];rfl
end VL
namespace VL
open Go Vx
theorem Cx(a b:Nat)(h:a+b<2^62):aa .i64 ((a:Int)+(b:Int))=((a+b:Nat):Int):=by rw[AB (by omega)];omega
theorem Ck(a:Nat)(h:a<2^62):aa .i64 ((a:Int)+1)=((a+1:Nat):Int):=by rw[AB (by omega)];omega
theorem Cy(a:Nat)(h:a<2^56):aa .i64 (64*(a:Int))=((64*a:Nat):Int):=by rw[AB (by omega)];omega
theorem Cz(a:Nat)(h:a<2^56):aa .i64 ((a:Int)*64)=((64*a:Nat):Int):=by rw[AB (by omega)];omega
theorem Cl(m n:Nat)(h:n<=m/\m<2^62):aa .i64 ((m:Int)-(n:Int))=((m-n:Nat):Int):=by rw[AB (by omega)];omega
theorem BQ(m:Nat)(h:1<=m/\m<2^62):aa .i64 ((m:Int)-1)=((m-1:Nat):Int):=by rw[AB (by omega)];omega
theorem Cg(a b:Nat)(h:a<b):decide ((a:Int)<(b:Int))=true:=decide_eq_true (by omega)
theorem Cf(a b:Nat)(h:b<=a):decide ((a:Int)<(b:Int))=false:=decide_eq_false (by omega)
theorem Ct(a b:Nat)(h:a<=b):decide ((a:Int)<=(b:Int))=true:=decide_eq_true (by omega)
theorem Cs(a b:Nat)(h:b<a):decide ((a:Int)<=(b:Int))=false:=decide_eq_false (by omega)
theorem Cr(a b:Nat)(h:b<a):decide ((a:Int)>(b:Int))=true:=decide_eq_true (by omega)
theorem Cq(a b:Nat)(h:a<=b):decide ((a:Int)>(b:Int))=false:=decide_eq_false (by omega)
theorem Co(a b:Nat)(h:b<=a):decide ((a:Int)>=(b:Int))=true:=decide_eq_true (by omega)
theorem Cn(a b:Nat)(h:a<b):decide ((a:Int)>=(b:Int))=false:=decide_eq_false (by omega)
theorem Cv(a:Nat)(h:0<a):decide ((0:Int)<(a:Int))=true:=decide_eq_true (by omega)
theorem Cu(a:Nat)(h:a=0):decide ((0:Int)<(a:Int))=false:=decide_eq_false (by omega)
theorem Cp(a:Nat)(h:0<a):decide ((a:Int)>0)=true:=decide_eq_true (by omega)
theorem Cb(a:Nat)(h:a=0):decide ((a:Int)>0)=false:=decide_eq_false (by omega)
theorem sS(a:Nat):decide ((a:Int)<0)=false:=decide_eq_false (by omega)
theorem B3(a:Nat)(h:a=0):((a:Int)==0)=true:=by rw[JL];simp[h]
theorem Bn(a:Nat)(h:a≠0):((a:Int)==0)=false:=by rw[JL];simp[h]
theorem BD(a:Nat)(h:a≠0):((a:Int)!=0)=true:=by rw[UE];simp[h]
theorem Ca(a:Nat)(h:a=0):((a:Int)!=0)=false:=by rw[UE];simp[h]
def pd(B:Nat):Nat->Nat->List Nat
 |0,_=>[]
 |k+1,v=>v%B::pd B k (v/B)
theorem FX(B:Nat):∀k v,(pd B k v).length=k
 |0,_=>rfl
 |k+1,v=>by simp[pd,FX B k]
theorem UN{B:Nat}(hB:0<B):∀k v,∀x∈pd B k v,x<B
 |0,_,x,hx=>by simp[pd]at hx
 |k+1,v,x,hx=>by
  simp only[pd,List.mem_cons]at hx
  rcases hx with rfl|hx
  ·exact bo _ hB
  ·exact UN hB k _ x hx
theorem aIk{B:Nat}(hB:0<B):∀(l:List Nat),(∀x∈l,x<B)->l=pd B l.length (nv B l)
 | [],_=>rfl
 |x::r,h=>by
  have hx:=h x (by simp)
  simp only[gc,pd,nv]
  rw[gh,bb hx,dx _ _ hB,cj hx,cz,←aIk hB r fun y hy=>h y (by simp[hy])]
theorem t6{B:Nat}(hB:0<B){l:List Nat}{k v:Nat}(h:∀x∈l,x<B)(hl:l.length=k)(hv:nv B l=v):l=pd B k v:=by
 have:=aIk hB l h;rw[hl,hv]at this;exact this
theorem UO{B:Nat}(hB:0<B):∀k v,v<B^k->nv B (pd B k v)=v
 |0,v,h=>by simp at h;subst h;rfl
 |k+1,v,h=>by
  simp only[pd,nv]
  rw[UO hB k (v/B) (by rw[bg hB,←dm];exact h)]
  exact lg v B
theorem t7(B:Nat):∀k v i,i<k->(pd B k v).getD i 0=v/B^i%B
 |0,_,_,h=>by omega
 |k+1,v,0,_=>by simp[pd]
 |k+1,v,i+1,h=>by
  simp only[pd,oh]
  rw[t7 B k (v/B) i (by omega),dk,←im]
theorem aIm(B:Nat):∀k,pd B k 0=au k 0
 |0=>rfl
 |k+1=>by simp[pd,aIm B k,jn]
theorem tU(B:Nat):∀(l:List Nat) (i x:Nat),i<l.length->nv B (l.set i x)+B^i*l.getD i 0=nv B l+B^i*x
 | [],_,_,h=>by simp at h
 |y::r,0,x,_=>by simp[nv];omega
 |y::r,i+1,x,h=>by
  have:=tU B r i x (by simpa using h)
  simp only[List.set_cons_succ,nv,oh,im]
  rw[ax,ax,gj,gj,←br,←br,this]
theorem aJl{B:Nat}{l:List Nat}(h:∀x∈l,x<B){i v:Nat}(hv:v<B):∀x∈l.set i v,x<B:=fun x hx=>by
 rcases List.mem_or_eq_of_mem_set hx with h1|h1
 ·exact h x h1
 ·rw[h1];exact hv
theorem QW{B:Nat}(hB:2<=B)(n:Nat):Al (dg B n)=dg B n:=by
 rw[GQ hB _ (QV hB n),fV hB]
theorem tW(B:Nat)(l:List Nat)(i:Nat)(h:i<l.length):nv B (l.take (i+1))=nv B (l.take i)+B^i*l.getD i 0:=by
 have hs:=Rc B (l.take (i+1)) i (by simp;omega);rw[hs,List.take_take,gb (by omega)];congr 2;rw[List.drop_take,io,ak];rw[dr h,ay h];show l[i]+B*0=l[i];rw[dw,cu]
theorem aLd{x:Nat}(h:0<x):∃t k,x=2^t*(2*k+1):=by
 induction x using Nat.strongRecOn with
 |ind x ih=>
  rcases mm x with h0|h1
  ·obtain⟨t,k,e⟩:=ih (x/2) (by omega) (by omega);refine⟨t+1,k,?_⟩;rw[dm,ar (2^t) 2,ax,←e];omega
  ·exact⟨0,x/2,by simp;omega⟩
theorem aUJ{t k n:Nat}:(2^t*(2*k+1))%2^n=0↔n<=t:=by
 constructor
 ·intro h;rcases aq t n with hlt|hge
  ·exfalso;have e:n=t+(n-t-1)+1:=by omega
   rw[e,gj,ba,Nat.mul_mod_mul_left,dm]at h;have hp:=ah t;have h2:(2*k+1)%(2^(n-t-1)*2)=0:=by
    rcases nt.1 h with h|h
    ·omega
    ·exact h
   have:(2*k+1)%2=0:=by
    have:=Nat.mod_mod_of_dvd (2*k+1) (show 2 ∣ 2^(n-t-1)*2 from⟨_,ar _ _⟩);rw[h2]at this;omega
   omega
  ·exact hge
 ·intro h;have e:t=n+(t-n):=by omega
  rw[e,ba,ax];exact lj _ _
theorem aRC{t k:Nat}(h:2^t*(2*k+1)<2^64):2^t*(2*k+1) &&& (2^64-2^t*(2*k+1))=2^t:=by
 have hp:=ah t;have ht:t<64:=by
  have:2^t*1<=2^t*(2*k+1):=bm _ (by omega);exact(cm (a:=2) (by decide)).1 (by omega)
 have hz:2^t*(2*k)+(2^t-1)+1=2^t*(2*k+1):=by rw[br,fx];omega
 have hb:∀i,(2^64-2^t*(2*k+1)).testBit i=(decide (i<64)&&!(2^t*(2*k)+(2^t-1)).testBit i):=fun i=>by
  rw[←hz,Nat.testBit_two_pow_sub_succ (by omega)]
 apply ly;intro i;rw[Nat.testBit_and,hb,Nat.testBit_two_pow];have h1:(2^t*(2*k+1)).testBit i=(decide (t<=i)&&(2*k+1).testBit (i-t)):=by
  have:=iv (2*k+1) hp i;rw[cu]at this;rw[this];by_cases hi:i<t
  ·simp[hi];omega
  ·simp[hi];omega
 rw[h1,iv (2*k) (show 2^t-1<2^t by omega) i];rcases gl i t with hi|hi|hi
 ·simp[show ¬t<=i by omega,show ¬t=i by omega]
 ·subst hi;simp[ht]
 ·have e:i-t=(i-t-1)+1:=by omega
  simp only[show ¬i<t by omega,if_false,show ¬t=i by omega,decide_false];rw[e,ks,ks,show(2*k+1)/2=k by omega,show 2*k/2=k by omega];cases k.testBit (i-t-1)<;>simp
theorem aRB{a b:Nat}(ha:a<2^64)(hb:b<2^64):BA .u64 (a:Int) (b:Int)=((a &&& b:Nat):Int):=by
 have key:(cw 64 (a:Int) &&& cw 64 (b:Int)).toNat=a &&& b:=by
  rw[BitVec.toNat_and,JN ha,JN hb]
 show IntKind.u64.wrap (((cw 64 (a:Int) &&& cw 64 (b:Int)).toNat:Nat):Int)=_;rw[key];have:=Nat.and_le_left (n:=a) (m:=b);exact EN (by omega)
theorem Yr{a b:Nat}(ha:a<2^64)(hb:b<2^64):Ap .u64 (a:Int) (b:Int)=((a ||| b:Nat):Int):=by
 have key:(cw 64 (a:Int) ||| cw 64 (b:Int)).toNat=a ||| b:=by
  rw[px,JN ha,JN hb]
 show IntKind.u64.wrap (((cw 64 (a:Int) ||| cw 64 (b:Int)).toNat:Nat):Int)=_;rw[key];have:=Nat.or_lt_two_pow ha hb;exact EN (by omega)
theorem deb:∀t:Nat,t<64->aa .i64 (k_deb.getD (2^t*285870213051353865%2^64/2^58) 0)=(t:Int):=by
 have h:((gu 64).all fun t=>decide (aa .i64 (k_deb.getD (2^t*285870213051353865%2^64/2^58) (0:Int))=(t:Int)))=true:=by decide +kernel
 intro t ht;have:=lv.1 h t (ko.2 ht);simpa using this
theorem mW{t k:Nat}(h:2^t*(2*k+1)<2^64):WS (((2^t*(2*k+1):Nat):Int),())=some ((t:Int),()):=by
 have hp:=ah t;have h1:2^t*1<=2^t*(2*k+1):=bm _ (by omega);have ht:t<64:=(cm (a:=2) (by decide)).1 (by omega);have han:=aRC h;show kH ((2^t*(2*k+1):Nat):Int)=_;generalize hx:2^t*(2*k+1)=x at *
 unfold kH;try dsimp only
 have e1:aa .u64 ((0:Int)-(x:Int))=((2^64-x:Nat):Int):=by
  have:∀y:Int,aa .u64 y=y%18446744073709551616:=fun y=>by
   simp[aa,gy,ip]
  rw[this];omega
 have e2:aa .u64 (((2^t:Nat):Int)*285870213051353865)=((2^t*285870213051353865%2^64:Nat):Int):=kR (2^t*285870213051353865);have e3:AL .u64 ((2^t*285870213051353865%2^64:Nat):Int) 58=((2^t*285870213051353865%2^64/2^58:Nat):Int):=D6 _ 58 (by decide);have e4:2^t*285870213051353865%2^64/2^58<64:=by omega
 have e5:(decide ((0:Int)<=((2^t*285870213051353865%2^64/2^58:Nat):Int))&&decide (((2^t*285870213051353865%2^64/2^58:Nat):Int)<(64:Nat)))=true:=by
  rw[decide_eq_true (by omega),decide_eq_true (by omega)];rfl
 rw[e1,aRB h (by omega),han,e2,e3,e5,aJj,cond_true,Bn x (by omega),cond_false,ag,deb t ht]
end VL
namespace VL
open Go Vx
def Dw(n:Nat):List Int:=Wd (dg (2^64) n)
theorem aSj(n:Nat)(h:(dg (2^64) n).length<=1000000):Ws (dg (2^64) n):=⟨QV (by decide) n,h⟩
theorem D0{B:Nat}(hB:2<=B):∀(k n:Nat),n<B^k->(dg B n).length<=k
 |0,n,h=>by simp at h;subst h;rw[D1];simp
 |k+1,n,h=>by
  rcases bc n with rfl|hn
  ·rw[D1];simp
  ·rw[FQ hB hn]
   have:=D0 hB k (n/B) (by rw[bg (by omega),←dm];exact h)
   simp;omega
theorem XD{B:Nat}(hB:2<=B)(n:Nat):n<B^(dg B n).length:=by
 have:=D3 hB _ (QV hB n);rwa [fV hB]at this
theorem aSp{x i t k r n:Nat}(hx:x=2^t*(2*k+1))(ht:t<64):((2^64)^i*(x+2^64*r))%2^n=0↔n<=64*i+t:=by
 have e:(2^64)^i*(x+2^64*r)=2^(64*i+t)*(2*(k+2^(64-t-1)*r)+1):=by
  have h1:2^64=2^t*(2^(64-t-1)*2):=by rw[←dm,←ba];congr 1;omega
  rw[Di,hx,ba,ax];congr 1;rw[h1,ax,←br];congr 1;rw[ax,iq];omega
 rw[e];exact aUJ
theorem aPq(a:List Nat)(ha:∀x∈a,x<2^64)(hlen:a.length<=1000000)(n:Nat)(hn:n<=1000000000)(i:Nat)(hi:i<=a.length)(hz:nv (2^64) (a.take i)=0):
  bG (((a.length:Int),(Wd a,((n:Int),((i:Int),())))),())=some (if nv (2^64) a=0 then .inl ((),())else .inr ((decide (nv (2^64) a%2^n=0),()),())):=by
 have key:=EJ (aHC Ai.pre Ai.F B2.pre B2.F) (fun x=>a.length-x.1.2.2.2.1.toNat)
  (fun x=>∃i:Nat,i<=a.length/\nv (2^64) (a.take i)=0/\x=(((a.length:Int),(Wd a,((n:Int),((i:Int),())))),()))
  (fun _=>if nv (2^64) a=0 then .inl ((),())else .inr ((decide (nv (2^64) a%2^n=0),()),())) ?_ _ ⟨i,hi,hz,rfl⟩
 ·exact key
 intro L x hx hL;obtain⟨i,hi,hz,rfl⟩:=hx;unfold Uh;rcases aq i a.length with hlt|hge
 ·simp(disch:=omega) only[Cx,Ck,Cy,Cl,BQ,Cz,Cg,Cf,Ct,Cs,Cr,Cq,Co,Cn,Cv,Cu,Cp,Cb,Bi,B3,Bn,BD,Ca,ag,be,cond_true,cond_false,bh,bi,cq,az,bj,ck,bw,bt,bf,cd,ca,cv,AI,CP];have hxl:=CS (by decide) ha i;rcases bc (a.getD i 0)with h0|h0
  ·simp(disch:=omega) only[Cx,Ck,Cy,Cl,BQ,Cz,Cg,Cf,Ct,Cs,Cr,Cq,Co,Cn,Cv,Cu,Cp,Cb,Bi,B3,Bn,BD,Ca,ag,be,cond_true,cond_false,bh,bi,cq,az,bj,ck,bw,bt,bf,cd,ca,cv];refine hL _ ⟨i+1,by omega,?_,rfl⟩ (by simp only[ag];omega);rw[tW _ _ _ hlt,hz,h0,dw]
  ·obtain⟨t,k,e⟩:=aLd h0;have ht:t<64:=by
    have hp:=ah t;have h1:2^t*1<=2^t*(2*k+1):=bm _ (by omega);exact(cm (a:=2) (by decide)).1 (by omega)
   have p0:=mW (t:=t) (k:=k) (by omega);rw[←e]at p0;have hv:nv (2^64) a=(2^64)^i*(a.getD i 0+2^64*nv (2^64) (a.drop (i+1))):=by
    rw[Rc _ a i hi,hz,cz,dr hlt];simp only[nv];rw[ak,ay hlt];rfl
   have hne:nv (2^64) a≠0:=by
    rw[hv];have:0<(2^64)^i:=iw (by decide);exact jx (ii this (by omega))
   have hd:=aSp (i:=i) (r:=nv (2^64) (a.drop (i+1))) (n:=n) e ht;rw[←hv]at hd;simp(disch:=omega) only[Cx,Ck,Cy,Cl,BQ,Cz,Cg,Cf,Ct,Cs,Cr,Cq,Co,Cn,Cv,Cu,Cp,Cb,Bi,B3,Bn,BD,Ca,ag,be,cond_true,cond_false,bh,bi,cq,az,bj,ck,bw,bt,bf,cd,ca,cv,uJ p0,sJ p0,if_neg hne];have:decide (((64*i+t:Nat):Int)>=(n:Int))=decide (nv (2^64) a%2^n=0):=by
    rw[ff,decide_eq_true_eq,decide_eq_true_eq,hd];omega
   rw[this]
 ·have e:i=a.length:=by omega
  subst e;rw[ej]at hz;simp(disch:=omega) only[Cx,Ck,Cy,Cl,BQ,Cz,Cg,Cf,Ct,Cs,Cr,Cq,Co,Cn,Cv,Cu,Cp,Cb,Bi,B3,Bn,BD,Ca,ag,be,cond_true,cond_false,bh,bi,cq,az,bj,ck,bw,bt,bf,cd,ca,cv,if_pos hz]
theorem aOQ(l:List Nat)(hl:Ws l)(n:Nat)(hn:n<=1000000000):V8 (Wd l,(n:Int),())=some (decide (nv (2^64) l%2^n=0),()):=by
 obtain⟨h,hlen⟩:=hl;show iZ Ai.pre Ai.F B2.pre B2.F bG (Wd l) n=_;unfold iZ;have p0:=DZ l hlen;have hm:∀x∈Al l,x<2^64:=fun x hx=>h x (SF hx);have hle:=(DW l).1;have hw:=aPq (Al l) hm (by omega) n hn 0 (dv _) rfl;rw[JM (by decide) h]at hw;simp only[C9 p0,C7 p0,cond_true,AI];rw[show((0:Nat):Int)=0 from rfl]at hw;rw[hw];by_cases h0:nv (2^64) l=0
 ·rw[if_pos h0,h0,lm];rfl
 ·rw[if_neg h0]
def Mk(v n:Nat):Nat:=if v%2^n=0 then v/2^n else v/2^n/2*2+1
theorem aId(w:Nat):w ||| 1=w/2*2+1:=by
 apply ly;intro i;rw[Nat.testBit_or];cases i with
 |zero=>simp[Nat.testBit_zero]
 |succ i=>
  rw[ks,ks,ks,show(w/2*2+1)/2=w/2 by omega,show 1/2=0 by rfl];simp
theorem aOP(l:List Nat)(hl:Ws l)(n:Nat)(hn:n<=100000000):Tb (Wd l,(n:Int),())=some (Dw (Mk (nv (2^64) l) n),0,()):=by
 show iV P6.pre P6.F CB.pre CB.F P9.pre P9.F (Wd l) n=_;unfold iV;have p0:=aOB l hl n hn;have p1:=aOQ l hl n (by omega);simp only[sS,cond_false,aVz p0,aSY p0,aVK p1,aS9 p1,cond_true,AI];unfold Mk;by_cases h0:nv (2^64) l%2^n=0
 ·rw[if_pos h0,decide_eq_true h0];rfl
 ·rw[if_neg h0,decide_eq_false h0];generalize nv (2^64) l/2^n=q;rcases bc q with rfl|hq
  ·have e:Dw (0/2*2+1)=[1]:=by
    show Wd (dg (2^64) 1)=[1]
    rw[FQ (by decide) (by decide),D1];rfl
   rw[e,D1];rfl
  ·have hB:2<=2^64:=by decide
   have e:Dw (q/2*2+1)=Wd ((q%2^64/2*2+1)::dg (2^64) (q/2^64)):=by
    show Wd (dg (2^64) (q/2*2+1))=_;rw[FQ hB (by omega)];have e1:(q/2*2+1)%2^64=q%2^64/2*2+1:=by omega
    have e2:(q/2*2+1)/2^64=q/2^64:=by omega
    rw[e1,e2]
   have e2:Ap .u64 ((q%2^64:Nat):Int) 1=((q%2^64/2*2+1:Nat):Int):=by
    have:=Yr (a:=q%2^64) (b:=1) (by omega) (by decide);rw[aId]at this;exact this
   rw[e,FQ hB hq];simp(disch:=omega) only[Cx,Ck,Cy,Cl,BQ,Cz,Cg,Cf,Ct,Cs,Cr,Cq,Co,Cn,Cv,Cu,Cp,Cb,Bi,B3,Bn,BD,Ca,ag,be,cond_true,cond_false,bh,bi,cq,az,bj,ck,bw,bt,bf,cd,ca,cv,gc,CP,og,e2,Fa,jt]
theorem aOG(l:List Nat)(hl:Ws l)(n:Nat)(hn:n<=100000000):QG (Wd l,(n:Int),())=some (Dw (nv (2^64) l/2^n),0,()):=by
 show iH CB.pre CB.F (Wd l) n=_;unfold iH;have p0:=aAo l hl n hn;simp only[sS,cond_false,aIx p0,aGK p0,cond_true];rfl
end VL
namespace VL
open Go Vx
theorem aTD{l:List Nat}{i j v:Nat}(h:i≠j):(l.set i v).getD j 0=l.getD j 0:=by
 rw[ak,ak,List.getElem?_set_ne h]
theorem aTU{out:List Nat}{K V k s x:Nat}(hs:s<64)(ho:out=pd (2^64) K V)(hk:k+1<K)(hV:V<2^(64*k+s))(hx:x<2^64):
  (out.getD k 0<2^s)/\(out.getD k 0+x%2^(64-s)*2^s<2^64)/\((out.set k (out.getD k 0+x%2^(64-s)*2^s)).set (k+1) (x/2^(64-s))=pd (2^64) K (V+2^(64*k+s)*x)):=by
 have hB:0<2^64:=by decide
 have hps:=ah s;have hpk:=ah (64*k);have hlen:out.length=K:=by rw[ho,FX]
 have hc:out.getD k 0=V/(2^64)^k%2^64:=by rw[ho,t7 _ _ _ _ (by omega)]
 have hc2:V/(2^64)^k<2^s:=by
  rw[Di,bg hpk,ar,←ba];exact hV
 have hc1:out.getD (k+1) 0=0:=by
  rw[ho,t7 _ _ _ _ hk,Di];have:V<2^(64*(k+1)):=ao hV (aj (by decide) (by omega));rw[cj this]
 have h64:2^64=2^(64-s)*2^s:=by rw[←ba];congr 1;omega
 have hs64:2^s<=2^64:=aj (by decide) (by omega);have hce:V/(2^64)^k%2^64=V/(2^64)^k:=bb (by omega);have hcl:out.getD k 0<2^s:=by rw[hc,hce];exact hc2
 have hp1:=ah (64-s);have hm:x%2^(64-s)+1<=2^(64-s):=bo _ hp1;have hm2:=al (2^s) hm;rw[←h64,bl,fh]at hm2;have hsum:out.getD k 0+x%2^(64-s)*2^s<2^64:=by omega
 refine⟨hcl,hsum,?_⟩;have hall:∀y∈out,y<2^64:=by rw[ho];exact UN hB _ _
 have hxd:x/2^(64-s)<2^64:=aw (fg _ _) hx;refine t6 hB (aJl (aJl hall hsum) hxd) (by simp[hlen]) ?_;have g1:=tU (2^64) out k (out.getD k 0+x%2^(64-s)*2^s) (by omega);have g2:=tU (2^64) (out.set k (out.getD k 0+x%2^(64-s)*2^s)) (k+1) (x/2^(64-s)) (by rw[lc];omega);rw[aTD (by omega),hc1,dw,cu]at g2;have hVK:V<(2^64)^K:=by
  rw[Di];exact ao hV (aj (by decide) (by omega))
 have hnv:nv (2^64) out=V:=by rw[ho,UO hB _ _ hVK]
 rw[hnv,br]at g1;rw[g2];have hx2:2^(64*k+s)*x=(2^64)^k*(x%2^(64-s)*2^s)+(2^64)^(k+1)*(x/2^(64-s)):=by
  have hdm:=cg x (2^(64-s));generalize x/2^(64-s)=q at *
  generalize x%2^(64-s)=r at *
  rw[ba 2 (64*k) s,←Di,show(2^64)^(k+1)=(2^64)^k*2^64 from dm _ _,ax ((2^64)^k),ax ((2^64)^k),←br,←hdm];congr 1;rw[br,ar r,gv];congr 1;rw[←ax,ar (2^s),←h64]
 omega
theorem aPs(a:List Nat)(ha:∀x∈a,x<2^64)(hlen:a.length<=1000000)(w s:Nat)(hs:s<64)(hw:w<=10000000)(i:Nat)(hi:i<=a.length):
  bI (((a.length:Int),(Wd a,((w:Int),((s:Int),((i:Int),((),())))))),(Wd (pd (2^64) (w+a.length+1) (2^(64*w+s)*nv (2^64) (a.take i))),()))=some (.inl (((),()),(Wd (pd (2^64) (w+a.length+1) (2^(64*w+s)*nv (2^64) a)),()))):=by
 have key:=EJ (aHE Ai.pre Ai.F) (fun x=>a.length-x.1.2.2.2.2.1.toNat)
  (fun x=>∃i:Nat,i<=a.length/\x=(((a.length:Int),(Wd a,((w:Int),((s:Int),((i:Int),((),())))))),(Wd (pd (2^64) (w+a.length+1) (2^(64*w+s)*nv (2^64) (a.take i))),())))
  (fun _=>.inl (((),()),(Wd (pd (2^64) (w+a.length+1) (2^(64*w+s)*nv (2^64) a)),()))) ?_ _ ⟨i,hi,rfl⟩
 ·exact key
 intro L x hx hL;obtain⟨i,hi,rfl⟩:=hx;unfold Uj;rcases aq i a.length with hlt|hge
 ·have hxl:=CS (by decide) ha i;have ht:=D3 (B:=2^64) (by decide) (a.take i) fun x hx=>ha x (dz hx);rw[gk,gb (by omega),Di]at ht;have hV:2^(64*w+s)*nv (2^64) (a.take i)<2^(64*(w+i)+s):=by
   have e:64*(w+i)+s=(64*w+s)+64*i:=by omega
   rw[e,ba _ (64*w+s)];exact mn ht (ah _)
  have hnext:=tW (2^64) a i hlt;have hgo:=hL (((a.length:Int),(Wd a,((w:Int),((s:Int),(((i+1:Nat):Int),((),())))))),(Wd (pd (2^64) (w+a.length+1) (2^(64*w+s)*nv (2^64) (a.take (i+1)))),())) ⟨i+1,by omega,rfl⟩ (by simp only[ag];omega);rw[hnext,br,←ax,show 2^(64*w+s)*(2^64)^i=2^(64*(w+i)+s) by rw[Di,←ba];congr 1;omega]at hgo;generalize hout:pd (2^64) (w+a.length+1) (2^(64*w+s)*nv (2^64) (a.take i))=out at *
  obtain⟨q1,q2,q3⟩:=aTU (k:=w+i) hs hout.symm (by omega) hV hxl;have hol:out.length=w+a.length+1:=by rw[←hout,FX]
  have g1:a.getD i 0*2^s%2^64=(a.getD i 0%2^(64-s))*2^s:=by
   have:2^64=2^(64-s)*2^s:=by rw[←ba];congr 1;omega
   rw[this,fc]
  have e8:aa .i64 (64-(s:Int))=((64-s:Nat):Int):=D8 64 s (by omega) (by omega);simp(disch:=omega) only[Cx,Ck,Cy,Cl,BQ,Cz,Cg,Cf,Ct,Cs,Cr,Cq,Co,Cn,Cv,Cu,Cp,Cb,Bi,B3,Bn,BD,Ca,ag,be,cond_true,cond_false,bh,bi,cq,az,bj,ck,bw,bt,bf,cd,ca,cv,AI,CP,e8,H1 _ s (by omega),D6 _ (64-s) (by omega),g1,Mq q1 q2,Fa,lc,q3];exact hgo
 ·have e:i=a.length:=by omega
  subst e;rw[ej];simp(disch:=omega) only[Cx,Ck,Cy,Cl,BQ,Cz,Cg,Cf,Ct,Cs,Cr,Cq,Co,Cn,Cv,Cu,Cp,Cb,Bi,B3,Bn,BD,Ca,ag,be,cond_true,cond_false,bh,bi,cq,az,bj,ck,bw,bt,bf,cd,ca,cv]
theorem mQ(l:List Nat)(hl:Ws l)(n:Nat)(hn:n/64+(Al l).length+1<=1000000):RI (Wd l,(n:Int),())=some (Dw (nv (2^64) l*2^n),()):=by
 obtain⟨h,hlen⟩:=hl;show i1 Ai.pre Ai.F bI (Wd l) n=_;unfold i1;have hB:2<=2^64:=by decide
 have p0:=DZ l hlen;have hm:∀x∈Al l,x<2^64:=fun x hx=>h x (SF hx);have hle:=(DW l).1;have hv:=JM hB h;simp only[C9 p0,C7 p0,cond_true,AI];rcases bc (Al l).length with h0|h0
 ·rw[h0,aLb h h0,dp];unfold Dw;rw[D1];rfl
 ·have e4:le (n:Int) 64=((n%64:Nat):Int):=rfl;have e3:decide (((n/64+(Al l).length+1:Nat):Int)*8<=140737488355328)=true:=decide_eq_true (by omega);have hw:=aPs (Al l) hm (by omega) (n/64) (n%64) (bo _ (by decide)) (by omega) 0 (dv _);rw[show nv (2^64) ((Al l).take 0)=0 by rfl,dw,aIm,show 64*(n/64)+n%64=n by omega,show((0:Nat):Int)=0 from rfl]at hw;simp(disch:=omega) only[Cx,Ck,Cy,Cl,BQ,Cz,Cg,Cf,Ct,Cs,Cr,Cq,Co,Cn,Cv,Cu,Cp,Cb,Bi,B3,Bn,BD,Ca,ag,be,cond_true,cond_false,bh,bi,cq,az,bj,ck,bw,bt,bf,cd,ca,cv,uS n (by omega),e4,e3,W2,hw];have hV:2^n*nv (2^64) (Al l)<(2^64)^(n/64+(Al l).length+1):=by
   have:=D3 hB (Al l) hm;rw[Di]at this⊢;have h1:2^n*nv (2^64) (Al l)<2^n*2^(64*(Al l).length):=mn this (ah _);rw[←ba]at h1;exact ao h1 (aj (by decide) (by omega))
  have p1:=DZ (pd (2^64) (n/64+(Al l).length+1) (2^n*nv (2^64) (Al l))) (by rw[FX];omega);rw[GQ hB _ (UN (by decide) _ _),UO (by decide) _ _ hV,hv,ar (2^n)]at p1;rw[hv,ar (2^n)];generalize pd (2^64) (n/64+(Al l).length+1) (nv (2^64) l*2^n)=out at *
  show(bif Ai.pre (Wd out,())then some (Ai.F (Wd out,()))else none)=_;rw[C9 p1,C7 p1];rfl
theorem aPr(ls:List (List Nat))(hls:∀l∈ls,l.length<=1000000)(hn:ls.length<=1000000)(i:Nat)(hi:i<=ls.length)(hz:∀l∈ls.take i,(Al l).length<=1024):
  bH (((ls.length:Int),(ls.map Wd,((i:Int),()))),())=some (if(∀l∈ls,(Al l).length<=1024)then .inl ((),())else .inr ((true,()),())):=by
 have key:=EJ (aHD Ai.pre Ai.F) (fun x=>ls.length-x.1.2.2.1.toNat)
  (fun x=>∃i:Nat,i<=ls.length/\(∀l∈ls.take i,(Al l).length<=1024)/\x=(((ls.length:Int),(ls.map Wd,((i:Int),()))),()))
  (fun _=>if(∀l∈ls,(Al l).length<=1024)then .inl ((),())else .inr ((true,()),())) ?_ _ ⟨i,hi,hz,rfl⟩
 ·exact key
 intro L x hx hL;obtain⟨i,hi,hz,rfl⟩:=hx;unfold Ui;rcases aq i ls.length with hlt|hge
 ·have eg:(ls.map Wd).getD i []=Wd (ls[i]):=by
   rw[ak,List.getElem?_map,ay hlt];rfl
  have hil:ls[i]∈ls:=List.getElem_mem hlt;have p0:=DZ ls[i] (hls _ hil);simp(disch:=omega) only[Cx,Ck,Cy,Cl,BQ,Cz,Cg,Cf,Ct,Cs,Cr,Cq,Co,Cn,Cv,Cu,Cp,Cb,Bi,B3,Bn,BD,Ca,ag,be,cond_true,cond_false,bh,bi,cq,az,bj,ck,bw,bt,bf,cd,ca,cv,kx,eg,C9 p0,C7 p0,AI];rcases aq 1024 (Al ls[i]).length with hg|hg
  ·have e:decide (((Al ls[i]).length:Int)>1024)=true:=decide_eq_true (by omega);have hnot:¬∀l∈ls,(Al l).length<=1024:=fun hh=>by have:=hh _ hil;omega
   rw[e,cond_true,if_neg hnot]
  ·have e:decide (((Al ls[i]).length:Int)>1024)=false:=decide_eq_false (by omega);rw[e,cond_false];refine hL _ ⟨i+1,by omega,?_,rfl⟩ (by simp only[ag];omega);intro l hl;rw[qc,ay hlt]at hl;rcases cr.1 hl with hl|hl
   ·exact hz l hl
   ·have:l=ls[i]:=by simpa using hl
    rw[this];exact hg
 ·have e:i=ls.length:=by omega
  subst e;rw[ej]at hz;simp(disch:=omega) only[Cx,Ck,Cy,Cl,BQ,Cz,Cg,Cf,Ct,Cs,Cr,Cq,Co,Cn,Cv,Cu,Cp,Cb,Bi,B3,Bn,BD,Ca,ag,be,cond_true,cond_false,bh,bi,cq,az,bj,ck,bw,bt,bf,cd,ca,cv,if_pos hz]
theorem aAt(ls:List (List Nat))(hls:∀l∈ls,l.length<=1000000)(hn:ls.length<=1000000):
  QH (ls.map Wd,())=some (!decide (∀l∈ls,(Al l).length<=1024),()):=by
 show i0 Ai.pre Ai.F bH (ls.map Wd)=_;unfold i0;have hw:=aPr ls hls hn 0 (dv _) (fun l hl=>by simp at hl);rw[show((0:Nat):Int)=0 from rfl]at hw;rw[kx,hw];by_cases h:∀l∈ls,(Al l).length<=1024
 ·rw[if_pos h,decide_eq_true h];rfl
 ·rw[if_neg h,decide_eq_false h];rfl
theorem aAu(l:List Nat)(hl:l.length<=1000000):QH ((Wd l::[]),())=some (!decide ((Al l).length<=1024),()):=by
 have:=aAt [l] (by simp;exact hl) (by simp);rw[show[l].map Wd=Wd l::[]from rfl]at this;rw[this];simp
theorem aAr(l:List Nat)(hl:Ws l)(n:Nat)(hn:n<=65536)(hv:nv (2^64) l*2^n<(2^64)^1024):RG (Wd l,(n:Int),())=some (Dw (nv (2^64) l*2^n),0,()):=by
 show iW Dd.pre Dd.F Ei.pre Ei.F (Wd l) n=_;unfold iW;have p0:=aAu l hl.2;have hB:2<=2^64:=by decide
 have h1:=D0 hB 1024 _ hv;have h0:(Al l).length<=1024:=by
  rw[GQ hB _ hl.1];apply D0 hB;exact aw (fq _ (ah _)) hv
 have p1:=mQ l hl n (by omega);have p2:=aAu (dg (2^64) (nv (2^64) l*2^n)) (by omega);rw[QW hB]at p2;rw[decide_eq_true h0]at p0;rw[decide_eq_true h1]at p2;have e2:decide ((n:Int)>65536)=false:=decide_eq_false (by omega);simp only[sS,e2,bt,cond_false,uE p0,sD p0,cond_true,ck,uF p1,sE p1];unfold Dw;simp only[uE p2,sD p2,cond_true,ck,cond_false]
end VL
namespace VL
open Go Vx
theorem EL(B:Nat)(l:List Nat)(i:Nat):nv B (l.take (i+1))=nv B (l.take i)+B^i*l.getD i 0:=by
 rcases aq i l.length with h|h
 ·exact tW B l i h
 ·rw[co (by omega),co h,ak,dq h];simp
def B0(a b:List Nat)(i:Nat):Nat:=nv (2^64) (a.take i)+nv (2^64) (b.take i)
def DF(a b:List Nat)(i:Nat):List Nat:=pd (2^64) i (B0 a b i%(2^64)^i)++(a++[0]).drop i
theorem Yq{l:List Nat}(h:∀x∈l,x<2^64)(i:Nat):nv (2^64) (l.take i)<(2^64)^i:=by
 have:=D3 (B:=2^64) (by decide) (l.take i) fun x hx=>h x (dz hx);refine ao this (aj (by decide) ?_);rw[gk];exact la _ _
theorem aFE{a b:List Nat}(ha:∀x∈a,x<2^64)(hb:∀x∈b,x<2^64)(i:Nat):B0 a b i/(2^64)^i<=1:=by
 have h1:=Yq ha i;have h2:=Yq hb i;have hp:0<(2^64)^i:=iw (by decide);unfold B0;have:(nv (2^64) (a.take i)+nv (2^64) (b.take i))/(2^64)^i<2:=by
  rw[bg hp];omega
 omega
theorem aJx(a b:List Nat)(i:Nat):B0 a b (i+1)=B0 a b i%(2^64)^i+(2^64)^i*(a.getD i 0+b.getD i 0+B0 a b i/(2^64)^i):=by
 have hdm:=cg (B0 a b i) ((2^64)^i);have h1:B0 a b (i+1)=B0 a b i+(2^64)^i*(a.getD i 0+b.getD i 0):=by
  unfold B0;rw[EL,EL,br];omega
 rw[h1,br ((2^64)^i) (a.getD i 0+b.getD i 0)];omega
theorem bAL(a b:List Nat)(i:Nat):B0 a b (i+1)/(2^64)^(i+1)=(a.getD i 0+b.getD i 0+B0 a b i/(2^64)^i)/2^64:=by
 have hp:0<(2^64)^i:=iw (by decide);rw[aJx,dm (2^64) i,←dk,dx _ _ hp,cj (bo _ hp),cz]
theorem bAM(a b:List Nat)(i:Nat):B0 a b (i+1)%(2^64)^(i+1)=B0 a b i%(2^64)^i+(2^64)^i*((a.getD i 0+b.getD i 0+B0 a b i/(2^64)^i)%2^64):=by
 have hp:0<(2^64)^i:=iw (by decide);rw[aJx a b i,dm (2^64) i,nc,gh,qo,dx _ _ hp,cj (bo _ hp),cz]
theorem aIl{k r v:Nat}(hr:r<(2^64)^k)(hv:v<2^64):pd (2^64) k r++[v]=pd (2^64) (k+1) (r+(2^64)^k*v):=by
 refine t6 (by decide) ?_ (by simp[FX]) ?_
 ·intro x hx;rcases cr.1 hx with hx|hx
  ·exact UN (by decide) _ _ x hx
  ·have:x=v:=by simpa using hx
   rw[this];exact hv
 ·rw[Sq,FX,UO (by decide) _ _ hr];simp[nv]
theorem aVn(a b:List Nat)(i:Nat)(hi:i<a.length):(DF a b i).set i ((a.getD i 0+b.getD i 0+B0 a b i/(2^64)^i)%2^64)=DF a b (i+1):=by
 have hp:0<(2^64)^i:=iw (by decide);unfold DF;rw[bAM,←aIl (bo _ hp) (bo _ (by decide)),ga _ _ (by rw[FX];exact bd _),FX,gw,
  dr (l:=a++[0]) (i:=i) (by simp;omega),jt,ee]
 rfl
theorem aIh(a b:List Nat)(i:Nat)(hi:i<=a.length):(DF a b i).length=a.length+1:=by
 unfold DF;rw[List.length_append,FX];simp;omega
theorem aPm(a b:List Nat)(ha:∀x∈a,x<2^64)(hb:∀x∈b,x<2^64)(hlen:a.length<=1000000)(i:Nat)(hi:i<=a.length):
  WX (((a.length:Int),(Wd b,((i:Int),(Wd a,(((B0 a b i/(2^64)^i:Nat):Int),((),())))))),(Wd (DF a b i),()))=some (.inl ((Wd a,(((B0 a b a.length/(2^64)^a.length:Nat):Int),((),()))),(Wd (DF a b a.length),()))):=by
 have key:=EJ (aHy Au.pre Au.F Ai.pre Ai.F) (fun x=>a.length-x.1.2.2.1.toNat)
  (fun x=>∃i:Nat,i<=a.length/\x=(((a.length:Int),(Wd b,((i:Int),(Wd a,(((B0 a b i/(2^64)^i:Nat):Int),((),())))))),(Wd (DF a b i),())))
  (fun _=>.inl ((Wd a,(((B0 a b a.length/(2^64)^a.length:Nat):Int),((),()))),(Wd (DF a b a.length),()))) ?_ _ ⟨i,hi,rfl⟩
 ·exact key
 intro L x hx hL;obtain⟨i,hi,rfl⟩:=hx;unfold Ud;rcases aq i a.length with hlt|hge
 ·have hc:=aFE ha hb i;have hol:=aIh a b i hi;have hset:=aVn a b i hlt;have hgo:=hL (((a.length:Int),(Wd b,(((i+1:Nat):Int),(Wd a,(((B0 a b (i+1)/(2^64)^(i+1):Nat):Int),((),())))))),(Wd (DF a b (i+1)),())) ⟨i+1,by omega,rfl⟩ (by simp only[ag];omega);rw[bAL,←hset]at hgo;have hF:∀x y c:Nat,Au.F ((x:Int),((y:Int),((c:Int),())))=(((((x+y+c)%2^64:Nat):Int)),((((x+y+c)/2^64:Nat):Int)),()):=fun x y c=>rfl;have hP:∀(x y:Int) (c:Nat),c<=1->Au.pre (x,(y,((c:Int),())))=true:=fun x y c h=>by
   show(decide ((0:Int)<=(c:Int))&&decide ((c:Int)<=1))=true;rw[decide_eq_true (by omega),decide_eq_true (by omega)];rfl
  generalize B0 a b i/(2^64)^i=c at *
  generalize DF a b i=out at *
  rcases aq i b.length with hbl|hbl
  ·simp(disch:=omega) only[Cx,Ck,Cy,Cl,BQ,Cz,Cg,Cf,Ct,Cs,Cr,Cq,Co,Cn,Cv,Cu,Cp,Cb,Bi,B3,Bn,BD,Ca,ag,be,cond_true,cond_false,bh,bi,cq,az,bj,ck,bw,bt,bf,cd,ca,cv,AI,CP,hP _ _ c hc,hF,Fa];exact hgo
  ·have hbz:b.getD i 0=0:=by rw[ak,dq hbl];rfl
   have hF0:Au.F (((a.getD i 0:Nat):Int),((0:Int),((c:Int),())))=((((a.getD i 0+b.getD i 0+c)%2^64:Nat):Int),(((a.getD i 0+b.getD i 0+c)/2^64:Nat):Int),()):=by rw[hbz];rfl
   simp(disch:=omega) only[Cx,Ck,Cy,Cl,BQ,Cz,Cg,Cf,Ct,Cs,Cr,Cq,Co,Cn,Cv,Cu,Cp,Cb,Bi,B3,Bn,BD,Ca,ag,be,cond_true,cond_false,bh,bi,cq,az,bj,ck,bw,bt,bf,cd,ca,cv,AI,CP,hP _ _ c hc,hF0,Fa];exact hgo
 ·have e:i=a.length:=by omega
  subst e;simp(disch:=omega) only[Cx,Ck,Cy,Cl,BQ,Cz,Cg,Cf,Ct,Cs,Cr,Cq,Co,Cn,Cv,Cu,Cp,Cb,Bi,B3,Bn,BD,Ca,ag,be,cond_true,cond_false,bh,bi,cq,az,bj,ck,bw,bt,bf,cd,ca,cv]
theorem bAJ(a b:List Nat)(ha:∀x∈a,x<2^64)(hb:∀x∈b,x<2^64)(hab:b.length<=a.length):
  (DF a b a.length).set a.length (B0 a b a.length/(2^64)^a.length)=pd (2^64) (a.length+1) (nv (2^64) a+nv (2^64) b)/\nv (2^64) a+nv (2^64) b<(2^64)^(a.length+1):=by
 have hp:0<(2^64)^a.length:=iw (by decide);have hc:=aFE ha hb a.length;have hs:B0 a b a.length=nv (2^64) a+nv (2^64) b:=by
  unfold B0;rw[ej,co hab]
 have hdm:=cg (B0 a b a.length) ((2^64)^a.length);refine⟨?_,?_⟩
 ·have hd:(a++[0]).drop a.length=[0]:=by simp
  unfold DF;rw[hd,ga _ _ (by rw[FX];exact bd _),FX,gw,jt,aIl (bo _ hp) (by omega),gv (B0 a b a.length%(2^64)^a.length),hdm,hs]
 ·rw[←hs];have h1:=Yq ha a.length;have h2:=Yq hb a.length;unfold B0;rw[dm (2^64) a.length];omega
theorem aRy{a:List Nat}:jy (au (a.length+1) (0:Int)).length (Wd a)++qh a.length (au (a.length+1) (0:Int))=Wd (DF a ([]:List Nat) 0):=by
 rw[fj,ku,io,co (by rw[AI];omega)];unfold DF;simp[Wd,pd]
theorem aVo(a b c:List Nat):DF a b 0=DF a c 0:=by unfold DF;simp[pd]
theorem aE7(a b:List Nat)(ha:∀x∈a,x<2^64)(hb:∀x∈b,x<2^64)(hlen:a.length+1<=1000000)(hab:b.length<=a.length):
  (bif decide (0<=aa .i64 ((a.length:Int)+1))&&decide (aa .i64 ((a.length:Int)+1)*8<=140737488355328)then
   Ba (WX (((a.length:Int),(Wd b,((0:Int),(Wd a,((0:Int),((),())))))),(jy (au (ai (aa .i64 ((a.length:Int)+1))) (0:Int)).length (Wd a)++qh a.length (au (ai (aa .i64 ((a.length:Int)+1))) (0:Int)),()))) fun y4=>
    A7 y4 (fun y5=>bif decide (0<=((y5.1.1.length:Nat):Int))&&decide (((y5.1.1.length:Nat):Int)<((y5.2.1.length:Nat):Int))then
     (bif Ai.pre ((y5.2.1.set (ai ((y5.1.1.length:Nat):Int)) y5.1.2.1),())then some (Ai.F ((y5.2.1.set (ai ((y5.1.1.length:Nat):Int)) y5.1.2.1),()))else none)else none) fun _=>none
  else none:Option (DenS Gg))=some (Dw (nv (2^64) a+nv (2^64) b),()):=by
 have hw:=aPm a b ha hb (by omega) 0 (dv _)
 have h0:B0 a b 0/(2^64)^0=0:=by unfold B0;simp[nv]
 rw[h0,show((0:Nat):Int)=0 from rfl,aVo a b [],←aRy]at hw
 have e3:decide (((a.length+1:Nat):Int)*8<=140737488355328)=true:=decide_eq_true (by omega)
 rw[Ck _ (by omega),e3,Bi,ag,hw]
 obtain⟨g1,g2⟩:=bAJ a b ha hb hab
 have hol:=aIh a b a.length (bd _)
 have p1:=DZ (pd (2^64) (a.length+1) (nv (2^64) a+nv (2^64) b)) (by rw[FX];exact hlen)
 rw[GQ (by decide) _ (UN (by decide) _ _),UO (by decide) _ _ g2,←g1,←Fa]at p1
 generalize B0 a b a.length/(2^64)^a.length=c at *
 generalize DF a b a.length=out at *
 show(bif decide (0<=(((Wd a).length:Nat):Int))&&decide ((((Wd a).length:Nat):Int)<(((Wd out).length:Nat):Int))then
     (bif Ai.pre ((Wd out).set (Wd a).length (c:Int),())then some (Ai.F ((Wd out).set (Wd a).length (c:Int),()))else none)else none)=_
 simp(disch:=omega) only[Cx,Ck,Cy,Cl,BQ,Cz,Cg,Cf,Ct,Cs,Cr,Cq,Co,Cn,Cv,Cu,Cp,Cb,Bi,B3,Bn,BD,Ca,ag,be,cond_true,cond_false,bh,bi,cq,az,bj,ck,bw,bt,bf,cd,ca,cv,AI,C9 p1,C7 p1]
 rfl
theorem aAl(l m:List Nat)(hl:Ws l)(hm:Ws m)(hl2:(Al l).length<1000000)(hm2:(Al m).length<1000000):RD (Wd l,Wd m,())=some (Dw (nv (2^64) l+nv (2^64) m),()):=by
 show iI Au.pre Au.F Ai.pre Ai.F WX (Wd l) (Wd m)=_;unfold iI;have p0:=DZ l hl.2;have p1:=DZ m hm.2;have h1:∀x∈Al l,x<2^64:=fun x hx=>hl.1 x (SF hx);have h2:∀x∈Al m,x<2^64:=fun x hx=>hm.1 x (SF hx);simp only[C9 p0,C7 p0,C9 p1,C7 p1,cond_true];rcases aq (Al l).length (Al m).length with h|h
 ·rw[AI,AI,Cg _ _ h,cond_true];have:=aE7 (Al m) (Al l) h2 h1 hm2 (by omega);rw[JM (by decide) hl.1,JM (by decide) hm.1,gv]at this;exact this
 ·rw[AI,AI,Cf _ _ h,cond_false];have:=aE7 (Al l) (Al m) h1 h2 hl2 (by omega);rw[JM (by decide) hl.1,JM (by decide) hm.1]at this;exact this
theorem aOI(l:List Nat)(hl:Ws l):V1 (Wd l,())=some (Dw (nv (2^64) l),()):=by
 show iL Ai.pre Ai.F (Wd l)=_;unfold iL;have p0:=DZ l hl.2;have hle:=(DW l).1;have h2:=hl.2;have e3:decide ((((Al l).length:Nat):Int)*8<=140737488355328)=true:=decide_eq_true (by omega);simp(disch:=omega) only[Cx,Ck,Cy,Cl,BQ,Cz,Cg,Cf,Ct,Cs,Cr,Cq,Co,Cn,Cv,Cu,Cp,Cb,Bi,B3,Bn,BD,Ca,ag,be,cond_true,cond_false,bh,bi,cq,az,bj,ck,bw,bt,bf,cd,ca,cv,C9 p0,C7 p0,AI,e3,fj,ku,gw];rw[co (by rw[AI];exact bd _),kt,df,GQ (by decide) l hl.1];rfl
theorem zW(l:List Nat)(hl:Ws l):S5 (Wd l,())=some (Dw (nv (2^64) l),()):=by
 show gW CA.pre CA.F (Wd l)=_;unfold gW;have p0:=aOI l hl;simp only[aVG p0,aS5 p0,cond_true]
end VL
namespace VL
open Go Vx
def Wi(n:Nat):Ab (.pair (.int .u64) (.pair (.int .u64) .unit)):=(((n/2^64:Nat):Int),(((n%2^64:Nat):Int),()))
theorem aB1(k:Nat)(h:0<k):decide ((k:Int)<=0)=false:=decide_eq_false (by omega)
theorem aRF{A q R P:Nat}(g1:A%2^64=R)(g2:q<P)(g4:R+P<=2^64):(A+q)%2^64=q+R:=by omega
theorem aRG{X Y r:Nat}(h:X%2^64=Y)(hr:r<2^64):(2^64*X+r)%2^128=2^64*Y+r:=by omega
theorem aRH{X h q R P:Nat}(e:X=2^64*h+R+q)(g2:q<P)(g4:R+P<=2^64):X/2^64=h/\X%2^64=q+R:=by omega
theorem aAh(n k:Nat)(hn:n<2^128):RC (Wi n,(k:Int),())=some (Wi (n*2^k%2^128),()):=by
 show iA (Wi n) k=_;unfold iA;rcases bc k with rfl|hk
 ·have e:n*2^0%2^128=n:=by rw[go,fx,bb hn]
  rw[e];rfl
 rw[aB1 k hk,cond_false];rcases aq k 128 with h128|h128
 ·rw[show decide ((k:Int)>=128)=false from decide_eq_false (by omega),cond_false];have hlo:(n%2^64)<2^64:=bo _ (by decide);have hhi:n/2^64<2^64:=by omega
  have hsplit:n=2^64*(n/2^64)+n%2^64:=(cg n (2^64)).symm;rcases aq k 64 with h64|h64
  ·have e8:aa .i64 (64-(k:Int))=((64-k:Nat):Int):=D8 64 k (by omega) (by omega);rw[show decide ((k:Int)>=64)=false from decide_eq_false (by omega),cond_false,Bi,cond_true,e8,Bi,cond_true,cond_true];show some ((Ap .u64 (Bb .u64 ((n/2^64:Nat):Int) k) (AL .u64 ((n%2^64:Nat):Int) ((64-k:Nat):Int)),(Bb .u64 ((n%2^64:Nat):Int) k,())),())=_;rw[H1 _ k (by omega),H1 _ k (by omega),D6 _ (64-k) (by omega)];have hp:=ah k;have hp2:=ah (64-k);have h2:2^64=2^(64-k)*2^k:=by rw[←ba];congr 1;omega
   generalize n/2^64=hi at *
   generalize n%2^64=lo at *
   have g1:hi*2^k%2^64=(hi%2^(64-k))*2^k:=by rw[h2,fc]
   have g2:lo/2^(64-k)<2^k:=by rw[bg hp2,ar,←h2];exact hlo
   have g3:hi%2^(64-k)+1<=2^(64-k):=bo _ hp2;have g4:=al (2^k) g3;rw[←h2,bl,fh]at g4;have hor:Ap .u64 ((hi*2^k%2^64:Nat):Int) ((lo/2^(64-k):Nat):Int)=((lo/2^(64-k)+(hi%2^(64-k))*2^k:Nat):Int):=by
    have:=Mq g2 (b:=hi%2^(64-k)) (by omega);rw[g1];have hc:∀a b:Nat,a<2^64->b<2^64->Ap .u64 (a:Int) (b:Int)=Ap .u64 (b:Int) (a:Int):=fun a b ha hb=>by
     rw[Yr ha hb,Yr hb ha,qn]
    rw[hc _ _ (by omega) (by omega)];exact this
   rw[hor];have hdm:=cg lo (2^(64-k));have v1:n*2^k=2^64*(hi*2^k+lo/2^(64-k))+lo*2^k%2^64:=by
    have g5:lo*2^k%2^64=(lo%2^(64-k))*2^k:=by rw[h2,fc]
    have g6:2^64*(lo/2^(64-k))=2^(64-k)*(lo/2^(64-k))*2^k:=by
     rw[jd,←h2]
    rw[hsplit,bl,br,ax,gj,g6,g5,←bl,hdm]
   have v2:n*2^k%2^128=2^64*(lo/2^(64-k)+(hi%2^(64-k))*2^k)+lo*2^k%2^64:=by
    rw[v1];have hlo2:lo*2^k%2^64<2^64:=bo _ (by decide);exact aRG (aRF g1 g2 g4) hlo2
   have hlo2:lo*2^k%2^64<2^64:=bo _ (by decide);have e1:n*2^k%2^128/2^64=lo/2^(64-k)+(hi%2^(64-k))*2^k:=by rw[v2];omega
   have e2:n*2^k%2^128%2^64=lo*2^k%2^64:=by rw[v2];omega
   unfold Wi;rw[e1,e2]
  ·have e8:aa .i64 ((k:Int)-64)=((k-64:Nat):Int):=D8 k 64 (by omega) (by omega);rw[show decide ((k:Int)>=64)=true from decide_eq_true (by omega),cond_true,e8,Bi,cond_true];show some ((Bb .u64 ((n%2^64:Nat):Int) ((k-64:Nat):Int),((0:Int),())),())=_;rw[H1 _ (k-64) (by omega)];have v1:n*2^k%2^128=2^64*(n%2^64*2^(k-64)%2^64):=by
    have h2:2^k=2^(k-64)*2^64:=by rw[←ba];congr 1;omega
    rw[h2,←ax,show 2^128=2^64*2^64 by decide,fc,ar _ (2^64),qp n (2^(k-64)),qp (n%2^64) (2^(k-64)),qo]
   have e1:n*2^k%2^128/2^64=n%2^64*2^(k-64)%2^64:=by rw[v1];omega
   have e2:n*2^k%2^128%2^64=0:=by rw[v1];omega
   unfold Wi;rw[e1,e2];rfl
 ·rw[show decide ((k:Int)>=128)=true from decide_eq_true (by omega),cond_true];have e:n*2^k%2^128=0:=by
   rw[show k=(k-128)+128 by omega,ba,←ax];exact lx _ _
  rw[e];rfl
theorem aOC(n k:Nat)(hn:n<2^128):S6 (Wi n,(k:Int),())=some (Wi (n/2^k),()):=by
 show iB (Wi n) k=_;unfold iB;rcases bc k with rfl|hk
 ·have e:n/2^0=n:=by rw[go,Nat.div_one]
  rw[e];rfl
 rw[aB1 k hk,cond_false];rcases aq k 128 with h128|h128
 ·rw[show decide ((k:Int)>=128)=false from decide_eq_false (by omega),cond_false];have hlo:(n%2^64)<2^64:=bo _ (by decide);have hhi:n/2^64<2^64:=by omega
  rcases aq k 64 with h64|h64
  ·have e8:aa .i64 (64-(k:Int))=((64-k:Nat):Int):=D8 64 k (by omega) (by omega);rw[show decide ((k:Int)>=64)=false from decide_eq_false (by omega),cond_false,Bi,cond_true,e8,Bi,cond_true,cond_true];show some ((AL .u64 ((n/2^64:Nat):Int) k,(Ap .u64 (AL .u64 ((n%2^64:Nat):Int) k) (Bb .u64 ((n/2^64:Nat):Int) ((64-k:Nat):Int)),())),())=_;rw[H1 _ (64-k) (by omega),D6 _ k (by omega),D6 _ k (by omega)];have hp:=ah k;have hp2:=ah (64-k);have h2:2^64=2^k*2^(64-k):=by rw[←ba];congr 1;omega
   have hsplit:n=2^64*(n/2^64)+n%2^64:=(cg n (2^64)).symm;generalize n/2^64=hi at *
   generalize n%2^64=lo at *
   have g1:hi*2^(64-k)%2^64=(hi%2^k)*2^(64-k):=by rw[h2,fc]
   have g2:lo/2^k<2^(64-k):=by rw[bg hp,ar,←h2];exact hlo
   have g3:hi%2^k+1<=2^k:=bo _ hp;have g4:=al (2^(64-k)) g3;rw[←h2,bl,fh]at g4;rw[g1,Mq g2 (by omega)];have v1:n/2^k=hi*2^(64-k)+lo/2^k:=by
    have:n=lo+2^k*(hi*2^(64-k)):=by rw[hsplit,h2,ax,ar hi];omega
    rw[this,dx _ _ hp,gv]
   have hdm:=cg hi (2^k);have v2:hi*2^(64-k)=2^64*(hi/2^k)+(hi%2^k)*2^(64-k):=by
    rw[h2,jd,←bl,hdm]
   rw[v2]at v1;obtain⟨e1,e2⟩:=aRH v1 g2 g4;unfold Wi;rw[e1,e2]
  ·have e8:aa .i64 ((k:Int)-64)=((k-64:Nat):Int):=D8 k 64 (by omega) (by omega);rw[show decide ((k:Int)>=64)=true from decide_eq_true (by omega),cond_true,e8,Bi,cond_true];show some (((0:Int),(AL .u64 ((n/2^64:Nat):Int) ((k-64:Nat):Int),())),())=_;rw[D6 _ (k-64) (by omega)];have v1:n/2^k=n/2^64/2^(k-64):=by
    rw[dk,←ba];congr 2;omega
   have hs:n/2^k<2^64:=by
    rw[v1];exact aw (fg _ _) hhi
   have e1:n/2^k/2^64=0:=cj hs;have e2:n/2^k%2^64=n/2^64/2^(k-64):=by rw[←v1];exact bb hs
   unfold Wi;rw[e1,e2];rfl
 ·rw[show decide ((k:Int)>=128)=true from decide_eq_true (by omega),cond_true];have e:n/2^k=0:=cj (ao hn (aj (by decide) h128));rw[e];rfl
theorem TJ(x y c:Nat):Au.F ((x:Int),((y:Int),((c:Int),())))=(((((x+y+c)%2^64:Nat):Int)),((((x+y+c)/2^64:Nat):Int)),()):=rfl
theorem TK(x y:Int)(c:Nat)(h:c<=1):Au.pre (x,(y,((c:Int),())))=true:=by
 show(decide ((0:Int)<=(c:Int))&&decide ((c:Int)<=1))=true;rw[decide_eq_true (by omega),decide_eq_true (by omega)];rfl
theorem YS(x y c:Nat)(h:c<=1)(hx:x<2^64)(hy:y<2^64):A3.F ((x:Int),((y:Int),((c:Int),())))=(((((x+2^64-y-c)%2^64:Nat):Int)),((if x<y+c then 1 else 0:Nat):Int),()):=by
 show((((x:Int)-y-c)%18446744073709551616:Int),((if(x:Int)<y+c then 1 else 0:Int)),())=_;have e1:((x:Int)-y-c)%18446744073709551616=((x+2^64-y-c)%2^64:Nat):=by omega
 rw[e1];by_cases h:x<y+c
 ·rw[if_pos h,if_pos (by omega)];rfl
 ·rw[if_neg h,if_neg (by omega)];rfl
theorem YT(x y:Int)(c:Nat)(h:c<=1):A3.pre (x,(y,((c:Int),())))=true:=by
 show(decide ((0:Int)<=(c:Int))&&decide ((c:Int)<=1))=true;rw[decide_eq_true (by omega),decide_eq_true (by omega)];rfl
theorem aOD(n m:Nat)(h:n+m<2^128):VS (Wi n,Wi m,())=some (Wi (n+m),0,()):=by
 show iC Au.pre Au.F (Wi n) (Wi m)=_;unfold iC;have c1:(n%2^64+m%2^64+0)/2^64<=1:=by omega
 have p1:Au.pre ((Wi n).2.1,((Wi m).2.1,((0:Int),())))=true:=TK _ _ 0 (by decide);have q1:Au.F ((Wi n).2.1,((Wi m).2.1,((0:Int),())))=_:=TJ (n%2^64) (m%2^64) 0;rw[p1,q1,cond_true];have p2:Au.pre ((Wi n).1,((Wi m).1,((((n%2^64+m%2^64+0)/2^64:Nat):Int),())))=true:=TK _ _ _ c1;have q2:Au.F ((Wi n).1,((Wi m).1,((((n%2^64+m%2^64+0)/2^64:Nat):Int),())))=_:=TJ (n/2^64) (m/2^64) ((n%2^64+m%2^64+0)/2^64);dsimp only;rw[p2,q2,cond_true];have e1:(n/2^64+m/2^64+(n%2^64+m%2^64+0)/2^64)%2^64=(n+m)/2^64:=by omega
 have e2:(n%2^64+m%2^64+0)%2^64=(n+m)%2^64:=by omega
 have e3:(n/2^64+m/2^64+(n%2^64+m%2^64+0)/2^64)/2^64=0:=by omega
 rw[e1,e2,e3];rfl
theorem mN(n m:Nat)(hn:n<2^128)(h:m<=n):VX (Wi n,Wi m,())=some (Wi (n-m),0,()):=by
 show iF A3.pre A3.F (Wi n) (Wi m)=_;unfold iF;have p1:A3.pre ((Wi n).2.1,((Wi m).2.1,((0:Int),())))=true:=YT _ _ 0 (by decide);have q1:A3.F ((Wi n).2.1,((Wi m).2.1,((0:Int),())))=_:=YS (n%2^64) (m%2^64) 0 (by decide) (by omega) (by omega);rw[p1,q1,cond_true];have c1:(if n%2^64<m%2^64+0 then 1 else 0)<=1:=by split<;>omega
 have p2:A3.pre ((Wi n).1,((Wi m).1,(((if n%2^64<m%2^64+0 then 1 else 0:Nat):Int),())))=true:=YT _ _ _ c1;have q2:A3.F ((Wi n).1,((Wi m).1,(((if n%2^64<m%2^64+0 then 1 else 0:Nat):Int),())))=_:=YS (n/2^64) (m/2^64) _ c1 (by omega) (by omega);dsimp only;rw[p2,q2,cond_true];have e2:(n%2^64+2^64-m%2^64-0)%2^64=(n-m)%2^64:=by omega
 rw[e2];by_cases hb:n%2^64<m%2^64+0
 ·rw[if_pos hb,if_neg (by omega)];have e1:(n/2^64+2^64-m/2^64-1)%2^64=(n-m)/2^64:=by omega
  rw[e1];rfl
 ·rw[if_neg hb,if_neg (by omega)];have e1:(n/2^64+2^64-m/2^64-0)%2^64=(n-m)/2^64:=by omega
  rw[e1];rfl
theorem aOE(n m:Nat):VW (Wi n,Wi m,())=some (if n=m then 0 else if n<m then -1 else 1,()):=by
 show iE (Wi n) (Wi m)=_;unfold iE;show(bif(((n/2^64:Nat):Int)==((m/2^64:Nat):Int)&&((n%2^64:Nat):Int)==((m%2^64:Nat):Int))then some ((0:Int),())
  else bif(decide (((n/2^64:Nat):Int)<((m/2^64:Nat):Int))||(((n/2^64:Nat):Int)==((m/2^64:Nat):Int)&&decide (((n%2^64:Nat):Int)<((m%2^64:Nat):Int))))then some ((-1:Int),())else some ((1:Int),()):Option (Int×Unit))=_
 rw[Sn,Sn,tP,tP];rcases gl n m with h|h|h
 ·have e1:(n/2^64==m/2^64&&n%2^64==m%2^64)=false:=by
   rw[lr,beq_eq_false_iff_ne,beq_eq_false_iff_ne];omega
  have e2:(decide (n/2^64<m/2^64)||(n/2^64==m/2^64&&decide (n%2^64<m%2^64)))=true:=by
   rw[Bool.or_eq_true,ae,decide_eq_true_eq,decide_eq_true_eq,beq_iff_eq];omega
  rw[e1,e2,if_neg (by omega),if_pos h];rfl
 ·subst h;rw[if_pos rfl];simp
 ·have e1:(n/2^64==m/2^64&&n%2^64==m%2^64)=false:=by
   rw[lr,beq_eq_false_iff_ne,beq_eq_false_iff_ne];omega
  have e2:(decide (n/2^64<m/2^64)||(n/2^64==m/2^64&&decide (n%2^64<m%2^64)))=false:=by
   rw[kl,lr,decide_eq_false_iff_not,decide_eq_false_iff_not,beq_eq_false_iff_ne];omega
  rw[e1,e2,if_neg (by omega),if_neg (by omega)];rfl
end VL
namespace VL
open Go Vx
def Dh(m:Int)(neg odd:Bool)(rest:Nat):Bool:=if m=4 then neg else if m=3 then !neg else if m=0 then(if rest=2 then odd else decide (2<=rest))else if m=1 then decide (2<=rest)else if m=5 then !odd else false
theorem Uw(a b:Int)(h:a≠b):(a==b)=false:=by simp[h]
theorem Tc(m:Int)(neg odd:Bool)(rest:Nat):RH (m,neg,odd,(rest:Int),())=some (Dh m neg odd rest,()):=by
 show iX m neg odd (rest:Int)=_;have e2:decide ((rest:Int)>=2)=decide (2<=rest):=by rw[ff,decide_eq_true_eq,decide_eq_true_eq];omega
 have e3:((rest:Int)==2)=decide (rest=2):=by rw[ff,decide_eq_true_eq,beq_iff_eq];omega
 unfold iX Dh;rw[e2,e3];by_cases h4:m=4
 ·subst h4;cases neg<;>rfl
 rw[Uw m 4 h4,cond_false,if_neg h4];by_cases h3:m=3
 ·subst h3;rfl
 rw[Uw m 3 h3,cond_false,if_neg h3];by_cases h0:m=0
 ·subst h0;by_cases hr:rest=2
  ·subst hr;rfl
  ·rw[decide_eq_false hr,if_pos rfl,if_neg hr];rfl
 rw[Uw m 0 h0,cond_false,if_neg h0];by_cases h1:m=1
 ·subst h1;rfl
 rw[Uw m 1 h1,cond_false,if_neg h1];by_cases h5:m=5
 ·subst h5;rfl
 rw[Uw m 5 h5,cond_false,if_neg h5]
def GK(n:Nat)(e q:Int):Nat:=if q<=e then n*2^(e-q).toNat else n/2^(q-e).toNat
def CG(r s:Nat):Nat:=if r=0 then 0 else if r<2^(s-1)then 1 else if r=2^(s-1)then 2 else 3
def Rl(n:Nat)(e q:Int):Nat:=if q<=e then 0 else CG (n%2^(q-e).toNat) (q-e).toNat
def j4(n:Nat)(e q:Int):Nat:=if 2<=q-e then Mk n (q-e-2).toNat else n*2^(2-(q-e)).toNat
theorem aTQ(n:Nat)(e q:Int):j4 n e q/4=GK n e q/\j4 n e q%4=Rl n e q:=by
 unfold j4 GK Rl;by_cases h2:2<=q-e
 ·rw[if_pos h2,if_neg (by omega),if_neg (by omega)];have es:(q-e).toNat=(q-e-2).toNat+2:=by omega
  rw[es];generalize(q-e-2).toNat=s;have hp:=ah s;have e1:2^(s+2)=2^s*4:=by rw[ba]
  have e2:2^(s+2-1)=2^s*2:=by rw[show s+2-1=s+1 by omega,dm]
  unfold Mk CG;rw[e2,e1,←dk,nc];have hr:=bo n hp;generalize n%2^s=r at *
  generalize n/2^s=u at *
  have h4:u%4=0∨u%4=1∨u%4=2∨u%4=3:=by omega
  constructor
  ·split<;>omega
  ·rcases h4 with h|h|h|h<;>rw[h]<;>by_cases hz:r=0
   ·rw[if_pos hz,if_pos (by omega)];exact h
   ·rw[if_neg hz,if_neg (by omega),if_pos (by omega)];omega
   ·rw[if_pos hz,if_neg (by omega),if_pos (by omega)];exact h
   ·rw[if_neg hz,if_neg (by omega),if_pos (by omega)];omega
   ·rw[if_pos hz,if_neg (by omega),if_neg (by omega),if_pos (by omega)];exact h
   ·rw[if_neg hz,if_neg (by omega),if_neg (by omega),if_neg (by omega)];omega
   ·rw[if_pos hz,if_neg (by omega),if_neg (by omega),if_neg (by omega)];exact h
   ·rw[if_neg hz,if_neg (by omega),if_neg (by omega),if_neg (by omega)];omega
 ·rw[if_neg h2];by_cases h1:q<=e
  ·rw[if_pos h1,if_pos h1,show(2-(q-e)).toNat=(e-q).toNat+2 by omega,ba,←ax];generalize n*2^(e-q).toNat=x;omega
  ·rw[if_neg h1,if_neg h1,show(2-(q-e)).toNat=1 by omega,show(q-e).toNat=1 by omega];unfold CG;rcases mm n with h|h
   ·rw[show n%2^1=0 from h,if_pos rfl];omega
   ·rw[show n%2^1=1 from h,if_neg (by omega),if_neg (by decide),if_pos (by decide)];omega
def DA(n:Nat)(e q:Int)(more:Bool):Nat:=if more then Rl n e q/2*2+1 else Rl n e q
def BC(m:Int)(neg:Bool)(n:Nat)(e q:Int)(more:Bool):Nat:=if DA n e q more≠0/\Dh m neg (decide (GK n e q%2=1)) (DA n e q more)=true then GK n e q+1 else GK n e q
theorem EO:Dw 0=[]:=by unfold Dw;rw[D1];rfl
theorem Zt{n:Nat}(h:n≠0):0<(Dw n).length:=by
 unfold Dw;rw[AI,FQ (by decide) (by omega)];simp
theorem MD{n:Nat}(h:n≠0):decide ((((Dw n).length:Nat):Int)>0)=true:=decide_eq_true (by have:=Zt h;omega)
theorem Vj{n:Nat}(h:n≠0):decide ((0:Int)<(((Dw n).length:Nat):Int))=true:=decide_eq_true (by have:=Zt h;omega)
theorem Rq(n:Nat):(Dw n).getD 0 0=((n%2^64:Nat):Int):=by
 unfold Dw;rw[CP];rcases bc n with rfl|h
 ·rw[D1];rfl
 ·rw[FQ (by decide) h];rfl
theorem aLm:Dw 1=(1:Int)::[]:=by
 unfold Dw;rw[FQ (by decide) (by decide),D1];rfl
theorem MC(n:Nat):(decide ((0:Int)<(((Dw n).length:Nat):Int))||!decide ((((Dw n).length:Nat):Int)>0))=true:=by
 by_cases h:0<(Dw n).length
 ·rw[decide_eq_true (by omega)];rfl
 ·rw[decide_eq_false (p:=(((Dw n).length:Nat):Int)>0) (by omega)];simp
theorem dP(n:Nat):BA .u64 ((n%2^64:Nat):Int) 3=((n%4:Nat):Int):=by
 have:=Xs (m:=n%2^64) (n:=2) (bo _ (by decide)) (by decide);rw[show n%2^64%2^2=n%4 by omega]at this;exact this
theorem aRA(n:Nat):BA .u64 ((n%2^64:Nat):Int) 1=((n%2:Nat):Int):=by
 have:=Xs (m:=n%2^64) (n:=1) (bo _ (by decide)) (by decide);rw[show n%2^64%2^1=n%2 by omega]at this;exact this
theorem or1(n:Nat)(h:n<2^64):Ap .u64 (n:Int) 1=((n/2*2+1:Nat):Int):=by
 have:=Yr (a:=n) (b:=1) h (by decide);rw[aId]at this;exact this
theorem aIb:Ap .u64 0 1=1:=by decide
theorem UG(u:Nat):(decide ((((Dw u).length:Nat):Int)>0)&&(BA .u64 ((Dw u).getD 0 0) 1==1))=decide (u%2=1):=by
 rw[Rq,aRA];rcases bc u with rfl|h
 ·rw[EO];rfl
 ·rw[MD (by omega),bi,ff,decide_eq_true_eq,beq_iff_eq];omega
theorem Dq{n:Nat}(h:n<(2^64)^5000):Ws (dg (2^64) n):=by
 have:=D0 (B:=2^64) (by decide) 5000 n h;exact aSj n (by omega)
theorem CL(n:Nat):nv (2^64) (dg (2^64) n)=n:=fV (by decide) n
theorem aJo{j:Nat}(hj:Ws (dg (2^64) j)):QG (Dw j,(2:Int),())=some (Dw (j/4),0,()):=by
 have:=aOG (dg (2^64) j) hj 2 (by decide);rw[CL]at this;exact this
theorem aE4{u:Nat}(hu:Ws (dg (2^64) u))(hl:(dg (2^64) u).length<1000000):RD (Dw u,((1:Int)::[]),())=some (Dw (u+1),()):=by
 have:=aAl (dg (2^64) u) [1] hu ⟨by simp,by simp⟩ (by rw[QW (by decide)];exact hl) (by simp[Al]);rw[CL,show nv (2^64) [1]=1 by rfl]at this;exact this
end VL
namespace VL
open Go Vx
theorem fH:decide ((0:Int)>0)=false:=rfl
theorem aOL(m:Int)(neg:Bool)(n:Nat)(e q:Int)(more:Bool)(hn:n<(2^64)^2000)(hq:q-e<=10000000)(he:-1000000000<=e/\e<=1000000000)(hqb:-1000000000<=q/\q<=1000000000)
  (hs:q-e<2->2-(q-e)<=65536/\n*2^(2-(q-e)).toNat<(2^64)^1024) :
  S7 ((neg,Dw n,e,more,()),m,q,())=some (Dw (BC m neg n e q more),decide (DA n e q more≠0),()):=by
 show iP _ _ _ _ _ _ _ _ _ _ (neg,Dw n,e,more,()) m q=_;unfold iP;have hnw:Ws (dg (2^64) n):=Dq (je hn (fe (by decide) (by decide)));have e0:aa .i64 (q-e)=q-e:=AB (by omega);have hj4:=aTQ n e q;dsimp only;rw[e0];by_cases h2:2<=q-e
 ·rw[show decide (q-e>=2)=true from decide_eq_true h2,cond_true];obtain⟨s,hs⟩:=cy (show 0<=q-e-2 by omega);have e1:aa .i64 (q-e-2)=(s:Int):=by rw[AB (by omega)];exact hs
  have hj:j4 n e q=Mk n s:=by unfold j4;rw[if_pos h2];congr 1;omega
  rw[hj]at hj4;have hjn:Mk n s<=n+1:=by
   unfold Mk;have:=fg n (2^s);split<;>omega
  have p0:=aOP (dg (2^64) n) hnw s (by omega);rw[CL]at p0;have hjl:Mk n s<(2^64)^5000:=by
   have h1:(2^64)^2000<(2^64)^5000:=fe (by decide) (by decide);generalize(2^64)^2000=A at *
   generalize(2^64)^5000=B at *
   omega
  clear hj;generalize Mk n s=j at *
  have hj:Ws (dg (2^64) j):=Dq hjl;rw[e1];have p0:Tb (Dw n,(s:Int),())=some (Dw j,0,()):=p0;have p1:=aJo hj;have hu:Ws (dg (2^64) (j/4)):=Dq (aw (fg _ _) hjl);have hul:=D0 (B:=2^64) (by decide) 5000 (j/4) (aw (fg _ _) hjl);have p3:=aE4 hu (by omega);have h4:j%4<4:=bo _ (by decide);unfold BC DA;rw[←hj4.1,←hj4.2];rcases bc j with hj0|hj0
  ·subst hj0;have pz:QG ([],(2:Int),())=some (Dw (0/4),0,()):=by rw[←EO];exact p1
   cases more with
   |true=>
    have p2:RH (m,neg,decide (0/4%2=1),(1:Int),())=some (Dh m neg (decide (0/4%2=1)) 1,()):=Tc m neg _ 1;simp only[f9 p0,eX p0,cond_true,EO,iu,Cb,gx,cond_false,be,fH,aIb,Re pz,Q5 pz,MC,UG,UR p2,T5 p2,bf,cd,bi];cases hf:Dh m neg (decide (0/4%2=1)) 1 with
    |true=>simp only[cond_true,Ms p3,Mg p3];have hf:Dh m neg false 1=true:=hf;simp[hf]
    |false=>simp only[cond_false];have hf:Dh m neg false 1=false:=hf;simp[hf]
   |false=>
    simp only[f9 p0,eX p0,cond_true,EO,iu,gx,cond_false,be,fH,Re pz,Q5 pz,MC,cd];simp
  ·have hjn:j≠0:=by omega
   cases more with
   |true=>
    have p2:=Tc m neg (decide (j/4%2=1)) (j%4/2*2+1);have hr:j%4/2*2+1≠0:=by omega
    simp only[f9 p0,eX p0,cond_true,MD hjn,Vj hjn,be,Rq j,dP,or1 (j%4) (by omega),Re p1,Q5 p1,MC,UG,UR p2,T5 p2,bf,cd,BD _ hr,bi];cases hf:Dh m neg (decide (j/4%2=1)) (j%4/2*2+1)with
    |true=>simp only[cond_true,Ms p3,Mg p3];simp[hf]
    |false=>simp only[cond_false];simp[hf]
   |false=>
    have p2:=Tc m neg (decide (j/4%2=1)) (j%4);simp only[f9 p0,eX p0,cond_true,cond_false,MD hjn,Vj hjn,be,Rq j,dP,Re p1,Q5 p1,MC,UG,UR p2,T5 p2,bf,cd];rcases bc (j%4)with hz|hz
    ·rw[Ca _ hz,az,cond_false];simp[hz]
    ·have hr:j%4≠0:=by omega
     rw[BD _ hr,bi];cases hf:Dh m neg (decide (j/4%2=1)) (j%4)with
     |true=>simp only[cond_true,Ms p3,Mg p3];simp[hf,hr]
     |false=>simp only[cond_false];simp[hf,hr]
 ·rw[show decide (q-e>=2)=false from decide_eq_false h2,cond_false];obtain⟨s,hse⟩:=cy (show 0<=2-(q-e) by omega);have e1:aa .i64 (2-(q-e))=(s:Int):=by rw[AB (by omega)];exact hse
  have hj:j4 n e q=n*2^s:=by unfold j4;rw[if_neg h2];congr 2;omega
  rw[hj]at hj4;obtain⟨hs1,hs2⟩:=hs (by omega);rw[show(2-(q-e)).toNat=s by omega]at hs2;have p0:=aAr (dg (2^64) n) hnw s (by omega) (by rw[CL];exact hs2);rw[CL]at p0;have hjl:n*2^s<(2^64)^5000:=je hs2 (fe (by decide) (by decide));clear hj;generalize n*2^s=j at *
  have hj:Ws (dg (2^64) j):=Dq hjl;rw[e1];have p0:RG (Dw n,(s:Int),())=some (Dw j,0,()):=p0;have p1:=aJo hj;have hu:Ws (dg (2^64) (j/4)):=Dq (aw (fg _ _) hjl);have hul:=D0 (B:=2^64) (by decide) 5000 (j/4) (aw (fg _ _) hjl);have p3:=aE4 hu (by omega);have h4:j%4<4:=bo _ (by decide);unfold BC DA;rw[←hj4.1,←hj4.2];rcases bc j with hj0|hj0
  ·subst hj0;have pz:QG ([],(2:Int),())=some (Dw (0/4),0,()):=by rw[←EO];exact p1
   cases more with
   |true=>
    have p2:RH (m,neg,decide (0/4%2=1),(1:Int),())=some (Dh m neg (decide (0/4%2=1)) 1,()):=Tc m neg _ 1;simp only[Yv p0,XU p0,cond_true,EO,iu,Cb,gx,cond_false,be,fH,aIb,Re pz,Q5 pz,MC,UG,UR p2,T5 p2,bf,cd,bi];cases hf:Dh m neg (decide (0/4%2=1)) 1 with
    |true=>simp only[cond_true,Ms p3,Mg p3];have hf:Dh m neg false 1=true:=hf;simp[hf]
    |false=>simp only[cond_false];have hf:Dh m neg false 1=false:=hf;simp[hf]
   |false=>
    simp only[Yv p0,XU p0,cond_true,EO,iu,gx,cond_false,be,fH,Re pz,Q5 pz,MC,cd];simp
  ·have hjn:j≠0:=by omega
   cases more with
   |true=>
    have p2:=Tc m neg (decide (j/4%2=1)) (j%4/2*2+1);have hr:j%4/2*2+1≠0:=by omega
    simp only[Yv p0,XU p0,cond_true,MD hjn,Vj hjn,be,Rq j,dP,or1 (j%4) (by omega),Re p1,Q5 p1,MC,UG,UR p2,T5 p2,bf,cd,BD _ hr,bi];cases hf:Dh m neg (decide (j/4%2=1)) (j%4/2*2+1)with
    |true=>simp only[cond_true,Ms p3,Mg p3];simp[hf]
    |false=>simp only[cond_false];simp[hf]
   |false=>
    have p2:=Tc m neg (decide (j/4%2=1)) (j%4);simp only[Yv p0,XU p0,cond_true,cond_false,MD hjn,Vj hjn,be,Rq j,dP,Re p1,Q5 p1,MC,UG,UR p2,T5 p2,bf,cd];rcases bc (j%4)with hz|hz
    ·rw[Ca _ hz,az,cond_false];simp[hz]
    ·have hr:j%4≠0:=by omega
     rw[BD _ hr,bi];cases hf:Dh m neg (decide (j/4%2=1)) (j%4)with
     |true=>simp only[cond_true,Ms p3,Mg p3];simp[hf,hr]
     |false=>simp only[cond_false];simp[hf,hr]
end VL
namespace VL
open Go Vx
def Bw(f:Int)(neg:Bool):Nat:=if neg then 2^(fW f-1)else 0
def DU(f:Int)(neg:Bool):Nat:=(2^(fW f-fP f)-1)*2^(fP f-1)+Bw f neg
def MB(m:Int)(neg:Bool):Bool:=((m==0||m==1)||(m==3&&!neg))||(m==4&&neg)
def TP(f m:Int)(neg:Bool):Nat:=if MB m neg then DU f neg else DU f neg-1
theorem mX{f:Int}(h:Fm f)(neg:Bool):WT (f,neg,())=some ((DU f neg:Int),0,()):=by
 rcases C4 h with rfl|rfl|rfl|rfl<;>cases neg<;>kernel_rfl
theorem aO7{f:Int}(h:Fm f)(neg:Bool):Wz (f,neg,())=some (((DU f neg-1:Nat):Int),0,()):=by
 rcases C4 h with rfl|rfl|rfl|rfl<;>cases neg<;>kernel_rfl
theorem VR{f:Int}(h:Fm f)(neg:Bool):VQ (f,neg,())=some ((Bw f neg:Int),0,()):=by
 rcases C4 h with rfl|rfl|rfl|rfl<;>cases neg<;>kernel_rfl
theorem aOK{f:Int}(h:Fm f)(m:Int)(neg:Bool):V4 (f,m,neg,())=some ((TP f m neg:Int),()):=by
 show iO CC.pre CC.F Jd.pre Jd.F f m neg=_;have p0:=mX h neg;have p1:=aO7 h neg;unfold iO TP;show(bif MB m neg then(bif CC.pre (f,neg,())then some ((CC.F (f,neg,())).1,())else none)else(bif Jd.pre (f,neg,())then some ((Jd.F (f,neg,())).1,())else none))=_;rw[uK p0,sK p0,aVY p1,aTn p1];cases MB m neg<;>rfl
def AE(n:Nat)(e:Int):Int:=e+(Ag n:Int)-1
theorem Dz{n k:Nat}(h:n<2^k):Ag n<=k:=by
 rcases bc n with rfl|hn
 ·exact dv _
 ·have:=LX (n:=n) (by omega);have:Ag n-1<k:=(cm (a:=2) (by decide)).1 (aw this h);omega
theorem dS{n:Nat}(h:n≠0):1<=Ag n:=by unfold Ag;rw[if_neg h];omega
theorem dR{n:Nat}(h:n<(2^64)^2000):Ag n<=128000:=by
 apply Dz;rw[Di]at h;exact h
theorem RE{n:Nat}(h:n<(2^64)^5000):S8 (Dw n,())=some ((Ag n:Int),()):=by
 have:=aOM _ (Dq h);rw[CL]at this;exact this
theorem aHt{n:Nat}(h:n<(2^64)^2000):n<(2^64)^5000:=je h (fe (by decide) (by decide))
theorem aOJ(neg:Bool)(n:Nat)(e:Int)(more:Bool)(hn:n<(2^64)^2000)(he:-1000000<=e/\e<=1000000):V3 ((neg,Dw n,e,more,()),())=some (AE n e,()):=by
 show iN BS.pre BS.F (neg,Dw n,e,more,())=_;unfold iN;have p0:=RE (aHt hn);have hb:=dR hn;simp only[Sv p0,Se p0,cond_true];rw[AB (n:=e+(Ag n:Int)) (by omega),AB (by omega)];rfl
theorem aWj{n:Nat}{e q:Int}{p:Nat}(h:AE n e-p+1<=q):GK n e q<2^p:=by
 unfold AE at h;unfold GK;have hb:=FM n;by_cases hq:q<=e
 ·rw[if_pos hq];have h1:n*2^(e-q).toNat<2^Ag n*2^(e-q).toNat:=de hb (ah _);rw[←ba]at h1;exact ao h1 (aj (by decide) (by omega))
 ·rw[if_neg hq,bg (ah _),←ba];exact ao hb (aj (by decide) (by omega))
theorem rB{m:Int}{neg:Bool}{n:Nat}{e q:Int}{more:Bool}{p:Nat}(h:AE n e-p+1<=q):BC m neg n e q more<=2^p:=by
 have:=aWj h;unfold BC;split<;>omega
theorem aAm(m:Int)(neg:Bool)(n:Nat)(e q:Int)(more:Bool)(hn:n<(2^64)^2000)(he:-1000000<=e/\e<=1000000){p:Nat}(hp:p<=60)(h1:AE n e-p+1<=q)(h2:q<=AE n e∨q<=1000):
  S7 ((neg,Dw n,e,more,()),m,q,())=some (Dw (BC m neg n e q more),decide (DA n e q more≠0),()):=by
 have hb:=dR hn;unfold AE at h1 h2;refine aOL m neg n e q more hn (by omega) (by omega) (by omega) fun hs=>?_;refine⟨by omega,?_⟩;have hl:=FM n;have h3:n*2^(2-(q-e)).toNat<2^Ag n*2^(2-(q-e)).toNat:=de hl (ah _);rw[←ba]at h3;rw[Di];exact ao h3 (aj (by decide) (by omega))
theorem aON(neg:Bool)(n:Nat)(e:Int)(more:Bool)(f m:Int)(hf:Fm f)(hn:n<(2^64)^2000)(he:-1000000<=e/\e<=1000000):
  V5 ((neg,Dw n,e,more,()),BZ f,m,AE n e,())=some (decide (AE n e<1-(fX f:Int)/\AE n e-fP f+Ag (BC m neg n e (AE n e-fP f+1) more)<1-(fX f:Int)),()):=by
 show iR Hy.pre Hy.F BS.pre BS.F (neg,Dw n,e,more,()) ((fW f:Int),((fP f:Int),((1-(fX f:Int)),((fX f:Int),())))) m (AE n e)=_;unfold iR;have hb:=dR hn;have hp:=Fe hf;have hw:=FS hf;have hx:=Sa hf;have hp8:=CZ hf;have ht:AE n e=e+(Ag n:Int)-1:=rfl;have p0:=aAm m neg n e (AE n e-fP f+1) more hn he (p:=fP f) (by omega) (by omega) (by omega);have hc:=rB (m:=m) (neg:=neg) (more:=more) (n:=n) (e:=e) (q:=AE n e-fP f+1) (p:=fP f) (by omega);generalize BC m neg n e (AE n e-fP f+1) more=u at *
 have hu:u<(2^64)^5000:=by
  rw[Di];exact aw hc (fe (by decide) (by omega))
 have hub:Ag u<=fP f+1:=Dz (aw hc (fe (by decide) (by omega)));have p1:=RE hu;have e1:aa .i64 (AE n e-(fP f:Int))=AE n e-(fP f:Int):=AB (by omega);have e2:aa .i64 (AE n e-(fP f:Int)+1)=AE n e-(fP f:Int)+1:=AB (by omega);have e3:aa .i64 (AE n e-(fP f:Int)+(Ag u:Int))=AE n e-(fP f:Int)+(Ag u:Int):=AB (by omega);dsimp only;rw[e1,e2];by_cases h:AE n e>=1-(fX f:Int)
 ·rw[decide_eq_true h,cond_true,decide_eq_false (by omega)]
 ·rw[decide_eq_false h,cond_false];simp only[aIv p0,aGI p0,cond_true,Sv p1,Se p1,e3];have:(AE n e<1-(fX f:Int)):=by omega
  simp only[this,true_and]
end VL
namespace VL
open Go Vx
def Cc(f:Int)(t:Int):Int:=(if 1-(fX f:Int)>t then 1-(fX f:Int)else t)-fP f+1
def DD(f m:Int)(neg:Bool)(n:Nat)(e:Int)(more:Bool):Prop:=AE n e<1-(fX f:Int)/\AE n e-fP f+Ag (BC m neg n e (AE n e-fP f+1) more)<1-(fX f:Int)
instance (f m:Int) (neg:Bool) (n:Nat) (e:Int) (more:Bool):Decidable (DD f m neg n e more):=by unfold DD;infer_instance
def AO(f m:Int)(neg:Bool)(n:Nat)(e:Int)(more:Bool):Nat×Nat:=
 if AE n e>fX f then(TP f m neg,20)
 else
  let q:=Cc f (AE n e)
  let u:=BC m neg n e q more
  if q+Ag u-1>fX f then(TP f m neg,20)
  else((q-(1-(fX f:Int)-fP f+1)).toNat*2^(fP f-1)+u+Bw f neg,
   if DA n e q more=0 then 0 else if DD f m neg n e more then 24 else 16)
theorem aTK{f:Int}(hf:Fm f):(2*fX f-1)*2^(fP f-1)+2^fP f+2^(fP f-1)=2^(fW f-1):=by
 rcases C4 hf with rfl|rfl|rfl|rfl<;>decide
theorem Ma{f:Int}(hf:Fm f):15<=fX f:=by
 rcases C4 hf with rfl|rfl|rfl|rfl<;>decide
theorem aAb(neg:Bool)(n:Nat)(e:Int)(more:Bool)(f m:Int)(hf:Fm f)(hn:n<(2^64)^2000)(he:-1000000<=e/\e<=1000000):
  VK ((neg,Dw n,e,more,()),f,BZ f,m,())=some (((AO f m neg n e more).1:Int),((AO f m neg n e more).2:Int),()):=by
 show gY _ _ _ _ _ _ _ _ _ _ (neg,Dw n,e,more,()) f ((fW f:Int),((fP f:Int),((1-(fX f:Int)),((fX f:Int),())))) m=_;unfold gY AO;have hb:=dR hn;have hp:=Fe hf;have hp8:=CZ hf;have hw:=FS hf;have hx:=Sa hf;have hx15:=Ma hf;have ht:AE n e=e+(Ag n:Int)-1:=rfl;have pt:=aOJ neg n e more hn he;have pb:=aOK hf m neg;have py:=aON neg n e more f m hf hn he;have hrow:BZ f=((fW f:Int),((fP f:Int),((1-(fX f:Int)),((fX f:Int),())))):=rfl;rw[hrow]at py;simp only[aVI pt,aS7 pt,cond_true];by_cases h1:AE n e>(fX f:Int)
 ·rw[if_pos h1,decide_eq_true h1,cond_true];simp only[uD pb,sC pb,cond_true];rfl
 rw[if_neg h1,decide_eq_false h1,cond_false];have hM:∃M:Int,(if 1-(fX f:Int)>AE n e then 1-(fX f:Int)else AE n e)=M/\AE n e<=M/\1-(fX f:Int)<=M/\M<=fX f/\(M=AE n e∨M=1-(fX f:Int)):=by
  refine⟨_,rfl,?_⟩;split<;>omega
 obtain⟨M,hMe,m1,m2,m3,m4⟩:=hM;have hq:Cc f (AE n e)=M-fP f+1:=by unfold Cc;rw[hMe]
 simp only[hMe,hq];have e1:aa .i64 (M-(fP f:Int))=M-(fP f:Int):=AB (by omega);have e2:aa .i64 (M-(fP f:Int)+1)=M-(fP f:Int)+1:=AB (by omega);simp only[e1,e2];have p0:=aAm m neg n e (M-(fP f:Int)+1) more hn he (p:=fP f) (by omega) (by omega) (by omega);have hc:=rB (m:=m) (neg:=neg) (more:=more) (n:=n) (e:=e) (q:=M-(fP f:Int)+1) (p:=fP f) (by omega);generalize BC m neg n e (M-(fP f:Int)+1) more=u at *
 generalize DA n e (M-(fP f:Int)+1) more=r at *
 have hP60:2^fP f<=2^60:=aj (by decide) (by omega);have hu:u<(2^64)^5000:=by
  rw[Di];exact aw hc (fe (by decide) (by omega))
 have hub:Ag u<=fP f+1:=Dz (aw hc (fe (by decide) (by omega)));have p1:=RE hu;have e3:aa .i64 ((fP f:Int)-1)=((fP f-1:Nat):Int):=BQ _ (by omega);have e4:aa .i64 ((fW f:Int)-1)=((fW f-1:Nat):Int):=BQ _ (by omega);have e5:aa .i64 (M-(fP f:Int)+1+(Ag u:Int))=M-(fP f:Int)+1+(Ag u:Int):=AB (by omega);have e6:aa .i64 (M-(fP f:Int)+1+(Ag u:Int)-1)=M-(fP f:Int)+1+(Ag u:Int)-1:=AB (by omega);have e7:aa .i64 (1-(fX f:Int)-(fP f:Int))=1-(fX f:Int)-(fP f:Int):=AB (by omega);have e8:aa .i64 (1-(fX f:Int)-(fP f:Int)+1)=1-(fX f:Int)-(fP f:Int)+1:=AB (by omega);obtain⟨k,hk⟩:=cy (show 0<=M-(fP f:Int)+1-(1-(fX f:Int)-(fP f:Int)+1) by omega);have e9:aa .i64 (M-(fP f:Int)+1-(1-(fX f:Int)-(fP f:Int)+1))=(k:Int):=by rw[AB (by omega)];exact hk
 have e10:aa .u64 (k:Int)=(k:Int):=EN (by omega);have hkn:(M-(fP f:Int)+1-(1-(fX f:Int)-(fP f:Int)+1)).toNat=k:=by omega
 have hhalf:=aTK hf;have hk2:k<=2*fX f-1:=by omega
 have hk3:=al (2^(fP f-1)) hk2;have hW64:2^(fW f-1)<=2^63:=aj (by decide) (by omega);have hpp:=ah (fP f-1);have e11:Bb .u64 (k:Int) ((fP f-1:Nat):Int)=((k*2^(fP f-1):Nat):Int):=by
  rw[H1 _ _ (by omega),bb (by omega)]
 have e12:Bb .u64 1 ((fW f-1:Nat):Int)=((1*2^(fW f-1):Nat):Int):=by rw[YM (by omega),fh]
 generalize hA:k*2^(fP f-1)=A at *
 have hbits:A+u<2^(fW f-1):=by omega
 have e13:aa .u64 ((A:Int)+((u%2^64:Nat):Int))=((A+u:Nat):Int):=by
  rw[bb (by omega),EN (by omega)];omega
 have hor:∀b:Nat,b<2^(fW f-1)->Ap .u64 (b:Int) ((1*2^(fW f-1):Nat):Int)=((b+2^(fW f-1):Nat):Int):=fun b hb=>by
  have:=Mq (a:=b) (b:=1) (k:=fW f-1) hb (by omega);rw[fh]at this⊢;exact this
 have hsg:Bw f neg=if neg then 2^(fW f-1)else 0:=rfl;have htd:decide (AE n e<1-(fX f:Int)/\AE n e-fP f+Ag (BC m neg n e (AE n e-fP f+1) more)<1-(fX f:Int))=decide (DD f m neg n e more):=by
  unfold DD;rfl
 rw[htd]at py;simp only[aIv p0,aGI p0,cond_true,e3,Bi,Sv p1,Se p1,e5,e6,e7,e8,e9,e10,e11,e4,e12,hkn,hA];rcases bc u with hu0|hu0
 ·subst hu0;have hl0:decide ((((Dw 0).length:Nat):Int)>0)=false:=by rw[EO];rfl
  rw[hl0,cond_false];by_cases h2:M-(fP f:Int)+1+(Ag 0:Int)-1>(fX f:Int)
  ·rw[decide_eq_true h2,cond_true,if_pos h2];simp only[uD pb,sC pb,cond_true];rfl
  ·rw[decide_eq_false h2,cond_false,if_neg h2];have hbi:=hor (A) (by omega);rw[hbi];by_cases hr:r=0
   ·rw[if_pos hr,decide_eq_false (p:=r≠0) (by omega)];simp only[bw,cond_true];cases neg<;>rfl
   ·rw[if_neg hr,decide_eq_true (p:=r≠0) hr];simp only[ck,cond_false,aIw py,aGJ py,cond_true];by_cases hti:DD f m neg n e more
    ·rw[if_pos hti,decide_eq_true hti];cases neg<;>rfl
    ·rw[if_neg hti,decide_eq_false hti];cases neg<;>rfl
 ·have hun:u≠0:=by omega
  simp only[MD hun,Vj hun,cond_true,be,Rq,e13];by_cases h2:M-(fP f:Int)+1+(Ag u:Int)-1>(fX f:Int)
  ·rw[decide_eq_true h2,cond_true,if_pos h2];simp only[uD pb,sC pb,cond_true];rfl
  ·rw[decide_eq_false h2,cond_false,if_neg h2];have hbi:=hor (A+u) (by omega);rw[hbi];by_cases hr:r=0
   ·rw[if_pos hr,decide_eq_false (p:=r≠0) (by omega)];simp only[bw,cond_true];cases neg<;>rfl
   ·rw[if_neg hr,decide_eq_true (p:=r≠0) hr];simp only[ck,cond_false,aIw py,aGJ py,cond_true];by_cases hti:DD f m neg n e more
    ·rw[if_pos hti,decide_eq_true hti];cases neg<;>rfl
    ·rw[if_neg hti,decide_eq_false hti];cases neg<;>rfl
theorem zZ{f m:Int}(hf:Fm f)(hm:0<=m/\m<=5):VJ (f,m,())=some (BZ f,0,()):=by
 show gX An.pre An.F P8.pre P8.F f m=_;unfold gX;have p0:=HC hf;have p1:V2 (m,())=some (0,()):=by
  show iM m=_;unfold iM;rw[decide_eq_false (show ¬m<0 by omega),decide_eq_false (show ¬m>5 by omega)];rfl
 simp only[CM p0,CJ p0,cond_true,aVH p1,aS6 p1];rfl
theorem aOO{f:Int}(h:Fm f)(neg:Bool):V6 (f,neg,())=some ((Bw f neg:Int),0,0,()):=by
 show iS Bx.pre Bx.F f neg=_;unfold iS;have p0:=VR h neg;simp only[Yt p0,XS p0,cond_true]
theorem bA0(s:Nat)(hs:s<2^128):(Wi s).2.1::(Wi s).1::[]=Wd [s%2^64,s/2^64]/\Ws [s%2^64,s/2^64]/\nv (2^64) [s%2^64,s/2^64]=s:=by
 refine⟨rfl,⟨?_,by simp⟩,?_⟩
 ·intro x hx;have:x=s%2^64∨x=s/2^64:=by simpa using hx
  omega
 ·simp only[nv];omega
theorem VU{f m:Int}(hf:Fm f)(hm:0<=m/\m<=5)(neg:Bool)(s:Nat)(hs:s<2^128)(e:Int)(he:-40000<=e/\e<=40000)(more:Bool)(hmore:more=true->fP f+2<=Ag s):
  VT (f,m,neg,Wi s,e,more,())=some (if s=0 then((Bw f neg:Int),0,0,())else(((AO f m neg s e more).1:Int),((AO f m neg s e more).2:Int),0,())):=by
 show iD _ _ _ _ _ _ _ _ _ _ f m neg (Wi s) e more=_;unfold iD;obtain⟨w1,w2,w3⟩:=bA0 s hs;have hP:=Fe hf;have hW:=FS hf;have p0:=zZ hf hm;have p1:=zW _ w2;rw[←w1,w3]at p1;have hs2:s<(2^64)^2000:=by
  rw[Di];exact ao hs (aj (by decide) (by decide))
 have p2:=RE (aHt hs2);have p3:=aOO hf neg;have p4:=aAb neg s e more f m hf hs2 (by omega);have e1:decide (e < -40000)=false:=decide_eq_false (by omega);have e2:decide (e>40000)=false:=decide_eq_false (by omega);have e3:aa .i64 ((BZ f).2.1+2)=((fP f+2:Nat):Int):=by
  show aa .i64 ((fP f:Int)+2)=_;rw[AB (by omega)];rfl
 have e4:(more&&decide ((Ag s:Int)<((fP f+2:Nat):Int)))=false:=by
  cases more with
  |false=>rfl
  |true=>rw[decide_eq_false (by have:=hmore rfl;omega)];rfl
 have z0:((0:Int)!=0)=false:=rfl;simp only[aIr p0,aGE p0,cond_true,z0,cond_false,t9 p1,r8 p1,e1,e2,bt,Sv p2,Se p2,bf,e3,e4];by_cases h0:s=0
 ·rw[if_pos h0];subst h0;rw[show((((Dw 0).length:Nat):Int)==0)=true by rw[EO];rfl,cond_true];simp only[aVJ p3,aS8 p3,cond_true]
 ·rw[if_neg h0,Bn _ (by have:=Zt h0;omega),cond_false];simp only[aIs p4,aGF p4,cond_true]
end VL
namespace VL
open Go Vx
theorem aR3{r k s ρ:Nat}(hρ:0<ρ)(hρ2:ρ<2^k)(hs:1<=s):CG (ρ+2^k*r) (k+s)=CG r s/2*2+1:=by
 unfold CG;have hp:2^(k+s-1)=2^k*2^(s-1):=by rw[←ba];congr 1;omega
 rw[hp];have hh:=ah (s-1);generalize 2^(s-1)=h at *
 generalize 2^k=K at *
 rw[if_neg (by omega)];rcases gl r h with h1|h1|h1
 ·have:K*(r+1)<=K*h:=bm _ h1;rw[br,fx]at this;rw[if_pos (by omega)];by_cases hr:r=0
  ·rw[if_pos hr]
  ·rw[if_neg hr,if_pos h1]
 ·subst h1;rw[if_neg (by omega),if_neg (by omega),if_neg (by omega),if_neg (by omega),if_pos rfl]
 ·have:K*(h+1)<=K*r:=bm _ h1;rw[br,fx]at this;rw[if_neg (by omega),if_neg (by omega),if_neg (by omega),if_neg (by omega),if_neg (by omega)]
theorem aFJ{r k s:Nat}(hs:1<=s):CG (2^k*r) (k+s)=CG r s:=by
 unfold CG;have hp:2^(k+s-1)=2^k*2^(s-1):=by rw[←ba];congr 1;omega
 rw[hp];have hk:=ah k;generalize 2^(s-1)=h at *
 generalize 2^k=K at *
 have h1:K*r=0↔r=0:=by
  constructor
  ·intro h;rcases nt.1 h with h|h<;>omega
  ·intro h;rw[h,dw]
 have h2:K*r<K*h↔r<h:=Nat.mul_lt_mul_left hk;have h3:K*r=K*h↔r=h:=Nat.mul_right_inj (by omega);simp only[h1,h2,h3]
theorem aUm(N k s:Nat):N%2^(k+s)=N%2^k+2^k*(N/2^k%2^s):=by
 rw[ba,nc]
theorem YC{n:Nat}{e q:Int}(h:q<=e):GK n e q=n*2^(e-q).toNat:=if_pos h
theorem YB{n:Nat}{e q:Int}(h:e<q):GK n e q=n/2^(q-e).toNat:=if_neg (by omega)
theorem YH{n:Nat}{e q:Int}(h:q<=e):Rl n e q=0:=if_pos h
theorem YG{n:Nat}{e q:Int}(h:e<q):Rl n e q=CG (n%2^(q-e).toNat) (q-e).toNat:=if_neg (by omega)
theorem QT(n:Nat)(e q:Int):DA n e q false=Rl n e q:=rfl
theorem aSa(n:Nat)(e q:Int):DA n e q true=Rl n e q/2*2+1:=rfl
theorem rC{N k:Nat}{E q:Int}(hq:N%2^k≠0->E+k<q):
  GK (N/2^k) (E+k) q=GK N E q/\DA (N/2^k) (E+k) q (decide (N%2^k≠0))=DA N E q false:=by
 have hk:=ah k;have hdm:=cg N (2^k);by_cases h1:E+k<q
 ·have es:(q-E).toNat=k+(q-(E+k)).toNat:=by omega
  have hs:1<=(q-(E+k)).toNat:=by omega
  rw[YB h1,YB (by omega),QT,YG (e:=E) (by omega),es];have hrs:=YG (n:=N/2^k) h1;generalize(q-(E+k)).toNat=s at *
  refine⟨by rw[dk,←ba],?_⟩;rw[aUm];by_cases hr:N%2^k=0
  ·rw[hr,cz,aFJ hs,show decide ((0:Nat)≠0)=false by decide,QT,hrs]
  ·have hρ:0<N%2^k:=by omega
   rw[aR3 hρ (bo _ hk) hs,decide_eq_true hr,aSa,hrs]
 ·have hr:N%2^k=0:=by
   by_cases h:N%2^k=0
   ·exact h
   ·exact absurd (hq h) h1
  rw[hr,cu]at hdm;rw[hr];clear hq hr;generalize N/2^k=n at *
  subst hdm;have hz:decide ((0:Nat)≠0)=false:=by decide
  rw[hz,YC (by omega),QT,QT,YH (by omega)];by_cases h2:q<=E
  ·rw[YC h2,YH h2,show(E+k-q).toNat=k+(E-q).toNat by omega,ba,ar (2^k) n,ax];exact⟨rfl,rfl⟩
  ·rw[YB (by omega),YG (by omega)];have ek:k=(q-E).toNat+(E+k-q).toNat:=by omega
   generalize(q-E).toNat=s at *
   generalize(E+k-q).toNat=t at *
   have:2^k*n=2^s*(2^t*n):=by rw[ek,ba,ax]
   rw[this,gq _ (ah s),lj];exact⟨ar _ _,rfl⟩
theorem eC{m:Int}{neg:Bool}{N k:Nat}{E q:Int}(hq:N%2^k≠0->E+k<q):BC m neg (N/2^k) (E+k) q (decide (N%2^k≠0))=BC m neg N E q false:=by
 obtain⟨h1,h2⟩:=rC hq;unfold BC;rw[h1,h2]
theorem aK9{N k:Nat}{E:Int}(hn:N/2^k≠0):AE (N/2^k) (E+k)=AE N E:=by
 have hk:=ah k;have h1:2^k<=N:=by
  rcases aq N (2^k)with h|h
  ·exact absurd (cj h) hn
  ·exact h
 have:=qF h1;unfold AE;omega
theorem uZ{f m:Int}{neg:Bool}{N k:Nat}{E:Int}(hf:Fm f)(hn:N/2^k≠0)(hm:N%2^k≠0->fP f+2<=Ag (N/2^k)):AO f m neg (N/2^k) (E+k) (decide (N%2^k≠0))=AO f m neg N E false:=by
 have ht:=aK9 (E:=E) hn;have htd:AE (N/2^k) (E+k)=E+k+(Ag (N/2^k):Int)-1:=rfl;have hq1:N%2^k≠0->E+k<Cc f (AE N E):=fun h=>by
  have:=hm h;unfold Cc;split<;>omega
 have hq2:N%2^k≠0->E+k<AE N E-fP f+1:=fun h=>by
  have:=hm h;omega
 have hti:DD f m neg (N/2^k) (E+k) (decide (N%2^k≠0))=DD f m neg N E false:=by
  unfold DD;rw[ht,eC hq2]
 unfold AO;simp only[ht,eC hq1,(rC hq1).2,hti]
theorem UY{f m:Int}{neg:Bool}(hf:Fm f){n:Nat}(hn:n≠0)(k:Nat)(e:Int):AO f m neg (n*2^k) e false=AO f m neg n (e+k) false:=by
 have hk:=ah k;have:=uZ (f:=f) (m:=m) (neg:=neg) (N:=n*2^k) (k:=k) (E:=e) hf (by rw[ig _ hk];exact hn) (by rw[lx];omega);rw[ig _ hk,lx]at this;exact this.symm
end VL
namespace VL
open Go Vx
def U6(f m:Int)(nx:Bool)(X ex:Int)(ny:Bool)(Y ey:Int):Option (DenS IX):=bif(AH.pre (((0:Int),(X,())),((if((70:Int)<(aa .i64 (ex-ey)))then(70:Int)else(aa .i64 (ex-ey))),())))then(bif(AJ.pre (((0:Int),(Y,())),((aa .i64 ((aa .i64 (ex-(if((70:Int)<(aa .i64 (ex-ey)))then(70:Int)else(aa .i64 (ex-ey)))))-ey)),())))then(bif(AH.pre ((AJ.F (((0:Int),(Y,())),((aa .i64 ((aa .i64 (ex-(if((70:Int)<(aa .i64 (ex-ey)))then(70:Int)else(aa .i64 (ex-ey)))))-ey)),()))).1,((aa .i64 ((aa .i64 (ex-(if((70:Int)<(aa .i64 (ex-ey)))then(70:Int)else(aa .i64 (ex-ey)))))-ey)),())))then(bif(AJ.pre (((0:Int),(Y,())),((aa .i64 ((aa .i64 (ex-(if((70:Int)<(aa .i64 (ex-ey)))then(70:Int)else(aa .i64 (ex-ey)))))-ey)),())))then(bif(nx==ny)then(bif(Lc.pre ((AH.F (((0:Int),(X,())),((if((70:Int)<(aa .i64 (ex-ey)))then(70:Int)else(aa .i64 (ex-ey))),()))).1,(AJ.F (((0:Int),(Y,())),((aa .i64 ((aa .i64 (ex-(if((70:Int)<(aa .i64 (ex-ey)))then(70:Int)else(aa .i64 (ex-ey)))))-ey)),())))))then(bif(BP.pre (f,(m,(nx,((Lc.F ((AH.F (((0:Int),(X,())),((if((70:Int)<(aa .i64 (ex-ey)))then(70:Int)else(aa .i64 (ex-ey))),()))).1,(AJ.F (((0:Int),(Y,())),((aa .i64 ((aa .i64 (ex-(if((70:Int)<(aa .i64 (ex-ey)))then(70:Int)else(aa .i64 (ex-ey)))))-ey)),()))))).1,((aa .i64 (ex-(if((70:Int)<(aa .i64 (ex-ey)))then(70:Int)else(aa .i64 (ex-ey))))),(((!(((AH.F ((AJ.F (((0:Int),(Y,())),((aa .i64 ((aa .i64 (ex-(if((70:Int)<(aa .i64 (ex-ey)))then(70:Int)else(aa .i64 (ex-ey)))))-ey)),()))).1,((aa .i64 ((aa .i64 (ex-(if((70:Int)<(aa .i64 (ex-ey)))then(70:Int)else(aa .i64 (ex-ey)))))-ey)),()))).1.1==(0:Int))&&((AH.F ((AJ.F (((0:Int),(Y,())),((aa .i64 ((aa .i64 (ex-(if((70:Int)<(aa .i64 (ex-ey)))then(70:Int)else(aa .i64 (ex-ey)))))-ey)),()))).1,((aa .i64 ((aa .i64 (ex-(if((70:Int)<(aa .i64 (ex-ey)))then(70:Int)else(aa .i64 (ex-ey)))))-ey)),()))).1.2.1==Y)))||((decide ((aa .i64 ((aa .i64 (ex-(if((70:Int)<(aa .i64 (ex-ey)))then(70:Int)else(aa .i64 (ex-ey)))))-ey))>(63:Int)))&&(Y !=(0:Int)))),())))))))then(some (BP.F (f,(m,(nx,((Lc.F ((AH.F (((0:Int),(X,())),((if((70:Int)<(aa .i64 (ex-ey)))then(70:Int)else(aa .i64 (ex-ey))),()))).1,(AJ.F (((0:Int),(Y,())),((aa .i64 ((aa .i64 (ex-(if((70:Int)<(aa .i64 (ex-ey)))then(70:Int)else(aa .i64 (ex-ey)))))-ey)),()))))).1,((aa .i64 (ex-(if((70:Int)<(aa .i64 (ex-ey)))then(70:Int)else(aa .i64 (ex-ey))))),(((!(((AH.F ((AJ.F (((0:Int),(Y,())),((aa .i64 ((aa .i64 (ex-(if((70:Int)<(aa .i64 (ex-ey)))then(70:Int)else(aa .i64 (ex-ey)))))-ey)),()))).1,((aa .i64 ((aa .i64 (ex-(if((70:Int)<(aa .i64 (ex-ey)))then(70:Int)else(aa .i64 (ex-ey)))))-ey)),()))).1.1==(0:Int))&&((AH.F ((AJ.F (((0:Int),(Y,())),((aa .i64 ((aa .i64 (ex-(if((70:Int)<(aa .i64 (ex-ey)))then(70:Int)else(aa .i64 (ex-ey)))))-ey)),()))).1,((aa .i64 ((aa .i64 (ex-(if((70:Int)<(aa .i64 (ex-ey)))then(70:Int)else(aa .i64 (ex-ey)))))-ey)),()))).1.2.1==Y)))||((decide ((aa .i64 ((aa .i64 (ex-(if((70:Int)<(aa .i64 (ex-ey)))then(70:Int)else(aa .i64 (ex-ey)))))-ey))>(63:Int)))&&(Y !=(0:Int)))),()))))))))else none)else none)else bif(DX.pre ((AH.F (((0:Int),(X,())),((if((70:Int)<(aa .i64 (ex-ey)))then(70:Int)else(aa .i64 (ex-ey))),()))).1,(AJ.F (((0:Int),(Y,())),((aa .i64 ((aa .i64 (ex-(if((70:Int)<(aa .i64 (ex-ey)))then(70:Int)else(aa .i64 (ex-ey)))))-ey)),())))))then(bif(decide ((DX.F ((AH.F (((0:Int),(X,())),((if((70:Int)<(aa .i64 (ex-ey)))then(70:Int)else(aa .i64 (ex-ey))),()))).1,(AJ.F (((0:Int),(Y,())),((aa .i64 ((aa .i64 (ex-(if((70:Int)<(aa .i64 (ex-ey)))then(70:Int)else(aa .i64 (ex-ey)))))-ey)),()))))).1<(0:Int)))then(bif(BB.pre ((AJ.F (((0:Int),(Y,())),((aa .i64 ((aa .i64 (ex-(if((70:Int)<(aa .i64 (ex-ey)))then(70:Int)else(aa .i64 (ex-ey)))))-ey)),()))).1,(AH.F (((0:Int),(X,())),((if((70:Int)<(aa .i64 (ex-ey)))then(70:Int)else(aa .i64 (ex-ey))),())))))then(bif((!(((AH.F ((AJ.F (((0:Int),(Y,())),((aa .i64 ((aa .i64 (ex-(if((70:Int)<(aa .i64 (ex-ey)))then(70:Int)else(aa .i64 (ex-ey)))))-ey)),()))).1,((aa .i64 ((aa .i64 (ex-(if((70:Int)<(aa .i64 (ex-ey)))then(70:Int)else(aa .i64 (ex-ey)))))-ey)),()))).1.1==(0:Int))&&((AH.F ((AJ.F (((0:Int),(Y,())),((aa .i64 ((aa .i64 (ex-(if((70:Int)<(aa .i64 (ex-ey)))then(70:Int)else(aa .i64 (ex-ey)))))-ey)),()))).1,((aa .i64 ((aa .i64 (ex-(if((70:Int)<(aa .i64 (ex-ey)))then(70:Int)else(aa .i64 (ex-ey)))))-ey)),()))).1.2.1==Y)))||((decide ((aa .i64 ((aa .i64 (ex-(if((70:Int)<(aa .i64 (ex-ey)))then(70:Int)else(aa .i64 (ex-ey)))))-ey))>(63:Int)))&&(Y !=(0:Int))))then(bif(BB.pre ((BB.F ((AJ.F (((0:Int),(Y,())),((aa .i64 ((aa .i64 (ex-(if((70:Int)<(aa .i64 (ex-ey)))then(70:Int)else(aa .i64 (ex-ey)))))-ey)),()))).1,(AH.F (((0:Int),(X,())),((if((70:Int)<(aa .i64 (ex-ey)))then(70:Int)else(aa .i64 (ex-ey))),()))))).1,(((0:Int),((1:Int),())),())))then(bif((((BB.F ((BB.F ((AJ.F (((0:Int),(Y,())),((aa .i64 ((aa .i64 (ex-(if((70:Int)<(aa .i64 (ex-ey)))then(70:Int)else(aa .i64 (ex-ey)))))-ey)),()))).1,(AH.F (((0:Int),(X,())),((if((70:Int)<(aa .i64 (ex-ey)))then(70:Int)else(aa .i64 (ex-ey))),()))))).1,(((0:Int),((1:Int),())),()))).1.1==(0:Int))&&((BB.F ((BB.F ((AJ.F (((0:Int),(Y,())),((aa .i64 ((aa .i64 (ex-(if((70:Int)<(aa .i64 (ex-ey)))then(70:Int)else(aa .i64 (ex-ey)))))-ey)),()))).1,(AH.F (((0:Int),(X,())),((if((70:Int)<(aa .i64 (ex-ey)))then(70:Int)else(aa .i64 (ex-ey))),()))))).1,(((0:Int),((1:Int),())),()))).1.2.1==(0:Int)))&&(!((!(((AH.F ((AJ.F (((0:Int),(Y,())),((aa .i64 ((aa .i64 (ex-(if((70:Int)<(aa .i64 (ex-ey)))then(70:Int)else(aa .i64 (ex-ey)))))-ey)),()))).1,((aa .i64 ((aa .i64 (ex-(if((70:Int)<(aa .i64 (ex-ey)))then(70:Int)else(aa .i64 (ex-ey)))))-ey)),()))).1.1==(0:Int))&&((AH.F ((AJ.F (((0:Int),(Y,())),((aa .i64 ((aa .i64 (ex-(if((70:Int)<(aa .i64 (ex-ey)))then(70:Int)else(aa .i64 (ex-ey)))))-ey)),()))).1,((aa .i64 ((aa .i64 (ex-(if((70:Int)<(aa .i64 (ex-ey)))then(70:Int)else(aa .i64 (ex-ey)))))-ey)),()))).1.2.1==Y)))||((decide ((aa .i64 ((aa .i64 (ex-(if((70:Int)<(aa .i64 (ex-ey)))then(70:Int)else(aa .i64 (ex-ey)))))-ey))>(63:Int)))&&(Y !=(0:Int))))))then(bif(Bx.pre (f,((m==(4:Int)),())))then(some ((Bx.F (f,((m==(4:Int)),()))).1,((0:Int),((0:Int),()))))else none)else bif(BP.pre (f,(m,(ny,((BB.F ((BB.F ((AJ.F (((0:Int),(Y,())),((aa .i64 ((aa .i64 (ex-(if((70:Int)<(aa .i64 (ex-ey)))then(70:Int)else(aa .i64 (ex-ey)))))-ey)),()))).1,(AH.F (((0:Int),(X,())),((if((70:Int)<(aa .i64 (ex-ey)))then(70:Int)else(aa .i64 (ex-ey))),()))))).1,(((0:Int),((1:Int),())),()))).1,((aa .i64 (ex-(if((70:Int)<(aa .i64 (ex-ey)))then(70:Int)else(aa .i64 (ex-ey))))),(((!(((AH.F ((AJ.F (((0:Int),(Y,())),((aa .i64 ((aa .i64 (ex-(if((70:Int)<(aa .i64 (ex-ey)))then(70:Int)else(aa .i64 (ex-ey)))))-ey)),()))).1,((aa .i64 ((aa .i64 (ex-(if((70:Int)<(aa .i64 (ex-ey)))then(70:Int)else(aa .i64 (ex-ey)))))-ey)),()))).1.1==(0:Int))&&((AH.F ((AJ.F (((0:Int),(Y,())),((aa .i64 ((aa .i64 (ex-(if((70:Int)<(aa .i64 (ex-ey)))then(70:Int)else(aa .i64 (ex-ey)))))-ey)),()))).1,((aa .i64 ((aa .i64 (ex-(if((70:Int)<(aa .i64 (ex-ey)))then(70:Int)else(aa .i64 (ex-ey)))))-ey)),()))).1.2.1==Y)))||((decide ((aa .i64 ((aa .i64 (ex-(if((70:Int)<(aa .i64 (ex-ey)))then(70:Int)else(aa .i64 (ex-ey)))))-ey))>(63:Int)))&&(Y !=(0:Int)))),())))))))then(some (BP.F (f,(m,(ny,((BB.F ((BB.F ((AJ.F (((0:Int),(Y,())),((aa .i64 ((aa .i64 (ex-(if((70:Int)<(aa .i64 (ex-ey)))then(70:Int)else(aa .i64 (ex-ey)))))-ey)),()))).1,(AH.F (((0:Int),(X,())),((if((70:Int)<(aa .i64 (ex-ey)))then(70:Int)else(aa .i64 (ex-ey))),()))))).1,(((0:Int),((1:Int),())),()))).1,((aa .i64 (ex-(if((70:Int)<(aa .i64 (ex-ey)))then(70:Int)else(aa .i64 (ex-ey))))),(((!(((AH.F ((AJ.F (((0:Int),(Y,())),((aa .i64 ((aa .i64 (ex-(if((70:Int)<(aa .i64 (ex-ey)))then(70:Int)else(aa .i64 (ex-ey)))))-ey)),()))).1,((aa .i64 ((aa .i64 (ex-(if((70:Int)<(aa .i64 (ex-ey)))then(70:Int)else(aa .i64 (ex-ey)))))-ey)),()))).1.1==(0:Int))&&((AH.F ((AJ.F (((0:Int),(Y,())),((aa .i64 ((aa .i64 (ex-(if((70:Int)<(aa .i64 (ex-ey)))then(70:Int)else(aa .i64 (ex-ey)))))-ey)),()))).1,((aa .i64 ((aa .i64 (ex-(if((70:Int)<(aa .i64 (ex-ey)))then(70:Int)else(aa .i64 (ex-ey)))))-ey)),()))).1.2.1==Y)))||((decide ((aa .i64 ((aa .i64 (ex-(if((70:Int)<(aa .i64 (ex-ey)))then(70:Int)else(aa .i64 (ex-ey)))))-ey))>(63:Int)))&&(Y !=(0:Int)))),()))))))))else none)else none)else bif((((BB.F ((AJ.F (((0:Int),(Y,())),((aa .i64 ((aa .i64 (ex-(if((70:Int)<(aa .i64 (ex-ey)))then(70:Int)else(aa .i64 (ex-ey)))))-ey)),()))).1,(AH.F (((0:Int),(X,())),((if((70:Int)<(aa .i64 (ex-ey)))then(70:Int)else(aa .i64 (ex-ey))),()))))).1.1==(0:Int))&&((BB.F ((AJ.F (((0:Int),(Y,())),((aa .i64 ((aa .i64 (ex-(if((70:Int)<(aa .i64 (ex-ey)))then(70:Int)else(aa .i64 (ex-ey)))))-ey)),()))).1,(AH.F (((0:Int),(X,())),((if((70:Int)<(aa .i64 (ex-ey)))then(70:Int)else(aa .i64 (ex-ey))),()))))).1.2.1==(0:Int)))&&(!((!(((AH.F ((AJ.F (((0:Int),(Y,())),((aa .i64 ((aa .i64 (ex-(if((70:Int)<(aa .i64 (ex-ey)))then(70:Int)else(aa .i64 (ex-ey)))))-ey)),()))).1,((aa .i64 ((aa .i64 (ex-(if((70:Int)<(aa .i64 (ex-ey)))then(70:Int)else(aa .i64 (ex-ey)))))-ey)),()))).1.1==(0:Int))&&((AH.F ((AJ.F (((0:Int),(Y,())),((aa .i64 ((aa .i64 (ex-(if((70:Int)<(aa .i64 (ex-ey)))then(70:Int)else(aa .i64 (ex-ey)))))-ey)),()))).1,((aa .i64 ((aa .i64 (ex-(if((70:Int)<(aa .i64 (ex-ey)))then(70:Int)else(aa .i64 (ex-ey)))))-ey)),()))).1.2.1==Y)))||((decide ((aa .i64 ((aa .i64 (ex-(if((70:Int)<(aa .i64 (ex-ey)))then(70:Int)else(aa .i64 (ex-ey)))))-ey))>(63:Int)))&&(Y !=(0:Int))))))then(bif(Bx.pre (f,((m==(4:Int)),())))then(some ((Bx.F (f,((m==(4:Int)),()))).1,((0:Int),((0:Int),()))))else none)else bif(BP.pre (f,(m,(ny,((BB.F ((AJ.F (((0:Int),(Y,())),((aa .i64 ((aa .i64 (ex-(if((70:Int)<(aa .i64 (ex-ey)))then(70:Int)else(aa .i64 (ex-ey)))))-ey)),()))).1,(AH.F (((0:Int),(X,())),((if((70:Int)<(aa .i64 (ex-ey)))then(70:Int)else(aa .i64 (ex-ey))),()))))).1,((aa .i64 (ex-(if((70:Int)<(aa .i64 (ex-ey)))then(70:Int)else(aa .i64 (ex-ey))))),(((!(((AH.F ((AJ.F (((0:Int),(Y,())),((aa .i64 ((aa .i64 (ex-(if((70:Int)<(aa .i64 (ex-ey)))then(70:Int)else(aa .i64 (ex-ey)))))-ey)),()))).1,((aa .i64 ((aa .i64 (ex-(if((70:Int)<(aa .i64 (ex-ey)))then(70:Int)else(aa .i64 (ex-ey)))))-ey)),()))).1.1==(0:Int))&&((AH.F ((AJ.F (((0:Int),(Y,())),((aa .i64 ((aa .i64 (ex-(if((70:Int)<(aa .i64 (ex-ey)))then(70:Int)else(aa .i64 (ex-ey)))))-ey)),()))).1,((aa .i64 ((aa .i64 (ex-(if((70:Int)<(aa .i64 (ex-ey)))then(70:Int)else(aa .i64 (ex-ey)))))-ey)),()))).1.2.1==Y)))||((decide ((aa .i64 ((aa .i64 (ex-(if((70:Int)<(aa .i64 (ex-ey)))then(70:Int)else(aa .i64 (ex-ey)))))-ey))>(63:Int)))&&(Y !=(0:Int)))),())))))))then(some (BP.F (f,(m,(ny,((BB.F ((AJ.F (((0:Int),(Y,())),((aa .i64 ((aa .i64 (ex-(if((70:Int)<(aa .i64 (ex-ey)))then(70:Int)else(aa .i64 (ex-ey)))))-ey)),()))).1,(AH.F (((0:Int),(X,())),((if((70:Int)<(aa .i64 (ex-ey)))then(70:Int)else(aa .i64 (ex-ey))),()))))).1,((aa .i64 (ex-(if((70:Int)<(aa .i64 (ex-ey)))then(70:Int)else(aa .i64 (ex-ey))))),(((!(((AH.F ((AJ.F (((0:Int),(Y,())),((aa .i64 ((aa .i64 (ex-(if((70:Int)<(aa .i64 (ex-ey)))then(70:Int)else(aa .i64 (ex-ey)))))-ey)),()))).1,((aa .i64 ((aa .i64 (ex-(if((70:Int)<(aa .i64 (ex-ey)))then(70:Int)else(aa .i64 (ex-ey)))))-ey)),()))).1.1==(0:Int))&&((AH.F ((AJ.F (((0:Int),(Y,())),((aa .i64 ((aa .i64 (ex-(if((70:Int)<(aa .i64 (ex-ey)))then(70:Int)else(aa .i64 (ex-ey)))))-ey)),()))).1,((aa .i64 ((aa .i64 (ex-(if((70:Int)<(aa .i64 (ex-ey)))then(70:Int)else(aa .i64 (ex-ey)))))-ey)),()))).1.2.1==Y)))||((decide ((aa .i64 ((aa .i64 (ex-(if((70:Int)<(aa .i64 (ex-ey)))then(70:Int)else(aa .i64 (ex-ey)))))-ey))>(63:Int)))&&(Y !=(0:Int)))),()))))))))else none)else none)else bif(BB.pre ((AH.F (((0:Int),(X,())),((if((70:Int)<(aa .i64 (ex-ey)))then(70:Int)else(aa .i64 (ex-ey))),()))).1,(AJ.F (((0:Int),(Y,())),((aa .i64 ((aa .i64 (ex-(if((70:Int)<(aa .i64 (ex-ey)))then(70:Int)else(aa .i64 (ex-ey)))))-ey)),())))))then(bif((!(((AH.F ((AJ.F (((0:Int),(Y,())),((aa .i64 ((aa .i64 (ex-(if((70:Int)<(aa .i64 (ex-ey)))then(70:Int)else(aa .i64 (ex-ey)))))-ey)),()))).1,((aa .i64 ((aa .i64 (ex-(if((70:Int)<(aa .i64 (ex-ey)))then(70:Int)else(aa .i64 (ex-ey)))))-ey)),()))).1.1==(0:Int))&&((AH.F ((AJ.F (((0:Int),(Y,())),((aa .i64 ((aa .i64 (ex-(if((70:Int)<(aa .i64 (ex-ey)))then(70:Int)else(aa .i64 (ex-ey)))))-ey)),()))).1,((aa .i64 ((aa .i64 (ex-(if((70:Int)<(aa .i64 (ex-ey)))then(70:Int)else(aa .i64 (ex-ey)))))-ey)),()))).1.2.1==Y)))||((decide ((aa .i64 ((aa .i64 (ex-(if((70:Int)<(aa .i64 (ex-ey)))then(70:Int)else(aa .i64 (ex-ey)))))-ey))>(63:Int)))&&(Y !=(0:Int))))then(bif(BB.pre ((BB.F ((AH.F (((0:Int),(X,())),((if((70:Int)<(aa .i64 (ex-ey)))then(70:Int)else(aa .i64 (ex-ey))),()))).1,(AJ.F (((0:Int),(Y,())),((aa .i64 ((aa .i64 (ex-(if((70:Int)<(aa .i64 (ex-ey)))then(70:Int)else(aa .i64 (ex-ey)))))-ey)),()))))).1,(((0:Int),((1:Int),())),())))then(bif((((BB.F ((BB.F ((AH.F (((0:Int),(X,())),((if((70:Int)<(aa .i64 (ex-ey)))then(70:Int)else(aa .i64 (ex-ey))),()))).1,(AJ.F (((0:Int),(Y,())),((aa .i64 ((aa .i64 (ex-(if((70:Int)<(aa .i64 (ex-ey)))then(70:Int)else(aa .i64 (ex-ey)))))-ey)),()))))).1,(((0:Int),((1:Int),())),()))).1.1==(0:Int))&&((BB.F ((BB.F ((AH.F (((0:Int),(X,())),((if((70:Int)<(aa .i64 (ex-ey)))then(70:Int)else(aa .i64 (ex-ey))),()))).1,(AJ.F (((0:Int),(Y,())),((aa .i64 ((aa .i64 (ex-(if((70:Int)<(aa .i64 (ex-ey)))then(70:Int)else(aa .i64 (ex-ey)))))-ey)),()))))).1,(((0:Int),((1:Int),())),()))).1.2.1==(0:Int)))&&(!((!(((AH.F ((AJ.F (((0:Int),(Y,())),((aa .i64 ((aa .i64 (ex-(if((70:Int)<(aa .i64 (ex-ey)))then(70:Int)else(aa .i64 (ex-ey)))))-ey)),()))).1,((aa .i64 ((aa .i64 (ex-(if((70:Int)<(aa .i64 (ex-ey)))then(70:Int)else(aa .i64 (ex-ey)))))-ey)),()))).1.1==(0:Int))&&((AH.F ((AJ.F (((0:Int),(Y,())),((aa .i64 ((aa .i64 (ex-(if((70:Int)<(aa .i64 (ex-ey)))then(70:Int)else(aa .i64 (ex-ey)))))-ey)),()))).1,((aa .i64 ((aa .i64 (ex-(if((70:Int)<(aa .i64 (ex-ey)))then(70:Int)else(aa .i64 (ex-ey)))))-ey)),()))).1.2.1==Y)))||((decide ((aa .i64 ((aa .i64 (ex-(if((70:Int)<(aa .i64 (ex-ey)))then(70:Int)else(aa .i64 (ex-ey)))))-ey))>(63:Int)))&&(Y !=(0:Int))))))then(bif(Bx.pre (f,((m==(4:Int)),())))then(some ((Bx.F (f,((m==(4:Int)),()))).1,((0:Int),((0:Int),()))))else none)else bif(BP.pre (f,(m,(nx,((BB.F ((BB.F ((AH.F (((0:Int),(X,())),((if((70:Int)<(aa .i64 (ex-ey)))then(70:Int)else(aa .i64 (ex-ey))),()))).1,(AJ.F (((0:Int),(Y,())),((aa .i64 ((aa .i64 (ex-(if((70:Int)<(aa .i64 (ex-ey)))then(70:Int)else(aa .i64 (ex-ey)))))-ey)),()))))).1,(((0:Int),((1:Int),())),()))).1,((aa .i64 (ex-(if((70:Int)<(aa .i64 (ex-ey)))then(70:Int)else(aa .i64 (ex-ey))))),(((!(((AH.F ((AJ.F (((0:Int),(Y,())),((aa .i64 ((aa .i64 (ex-(if((70:Int)<(aa .i64 (ex-ey)))then(70:Int)else(aa .i64 (ex-ey)))))-ey)),()))).1,((aa .i64 ((aa .i64 (ex-(if((70:Int)<(aa .i64 (ex-ey)))then(70:Int)else(aa .i64 (ex-ey)))))-ey)),()))).1.1==(0:Int))&&((AH.F ((AJ.F (((0:Int),(Y,())),((aa .i64 ((aa .i64 (ex-(if((70:Int)<(aa .i64 (ex-ey)))then(70:Int)else(aa .i64 (ex-ey)))))-ey)),()))).1,((aa .i64 ((aa .i64 (ex-(if((70:Int)<(aa .i64 (ex-ey)))then(70:Int)else(aa .i64 (ex-ey)))))-ey)),()))).1.2.1==Y)))||((decide ((aa .i64 ((aa .i64 (ex-(if((70:Int)<(aa .i64 (ex-ey)))then(70:Int)else(aa .i64 (ex-ey)))))-ey))>(63:Int)))&&(Y !=(0:Int)))),())))))))then(some (BP.F (f,(m,(nx,((BB.F ((BB.F ((AH.F (((0:Int),(X,())),((if((70:Int)<(aa .i64 (ex-ey)))then(70:Int)else(aa .i64 (ex-ey))),()))).1,(AJ.F (((0:Int),(Y,())),((aa .i64 ((aa .i64 (ex-(if((70:Int)<(aa .i64 (ex-ey)))then(70:Int)else(aa .i64 (ex-ey)))))-ey)),()))))).1,(((0:Int),((1:Int),())),()))).1,((aa .i64 (ex-(if((70:Int)<(aa .i64 (ex-ey)))then(70:Int)else(aa .i64 (ex-ey))))),(((!(((AH.F ((AJ.F (((0:Int),(Y,())),((aa .i64 ((aa .i64 (ex-(if((70:Int)<(aa .i64 (ex-ey)))then(70:Int)else(aa .i64 (ex-ey)))))-ey)),()))).1,((aa .i64 ((aa .i64 (ex-(if((70:Int)<(aa .i64 (ex-ey)))then(70:Int)else(aa .i64 (ex-ey)))))-ey)),()))).1.1==(0:Int))&&((AH.F ((AJ.F (((0:Int),(Y,())),((aa .i64 ((aa .i64 (ex-(if((70:Int)<(aa .i64 (ex-ey)))then(70:Int)else(aa .i64 (ex-ey)))))-ey)),()))).1,((aa .i64 ((aa .i64 (ex-(if((70:Int)<(aa .i64 (ex-ey)))then(70:Int)else(aa .i64 (ex-ey)))))-ey)),()))).1.2.1==Y)))||((decide ((aa .i64 ((aa .i64 (ex-(if((70:Int)<(aa .i64 (ex-ey)))then(70:Int)else(aa .i64 (ex-ey)))))-ey))>(63:Int)))&&(Y !=(0:Int)))),()))))))))else none)else none)else bif((((BB.F ((AH.F (((0:Int),(X,())),((if((70:Int)<(aa .i64 (ex-ey)))then(70:Int)else(aa .i64 (ex-ey))),()))).1,(AJ.F (((0:Int),(Y,())),((aa .i64 ((aa .i64 (ex-(if((70:Int)<(aa .i64 (ex-ey)))then(70:Int)else(aa .i64 (ex-ey)))))-ey)),()))))).1.1==(0:Int))&&((BB.F ((AH.F (((0:Int),(X,())),((if((70:Int)<(aa .i64 (ex-ey)))then(70:Int)else(aa .i64 (ex-ey))),()))).1,(AJ.F (((0:Int),(Y,())),((aa .i64 ((aa .i64 (ex-(if((70:Int)<(aa .i64 (ex-ey)))then(70:Int)else(aa .i64 (ex-ey)))))-ey)),()))))).1.2.1==(0:Int)))&&(!((!(((AH.F ((AJ.F (((0:Int),(Y,())),((aa .i64 ((aa .i64 (ex-(if((70:Int)<(aa .i64 (ex-ey)))then(70:Int)else(aa .i64 (ex-ey)))))-ey)),()))).1,((aa .i64 ((aa .i64 (ex-(if((70:Int)<(aa .i64 (ex-ey)))then(70:Int)else(aa .i64 (ex-ey)))))-ey)),()))).1.1==(0:Int))&&((AH.F ((AJ.F (((0:Int),(Y,())),((aa .i64 ((aa .i64 (ex-(if((70:Int)<(aa .i64 (ex-ey)))then(70:Int)else(aa .i64 (ex-ey)))))-ey)),()))).1,((aa .i64 ((aa .i64 (ex-(if((70:Int)<(aa .i64 (ex-ey)))then(70:Int)else(aa .i64 (ex-ey)))))-ey)),()))).1.2.1==Y)))||((decide ((aa .i64 ((aa .i64 (ex-(if((70:Int)<(aa .i64 (ex-ey)))then(70:Int)else(aa .i64 (ex-ey)))))-ey))>(63:Int)))&&(Y !=(0:Int))))))then(bif(Bx.pre (f,((m==(4:Int)),())))then(some ((Bx.F (f,((m==(4:Int)),()))).1,((0:Int),((0:Int),()))))else none)else bif(BP.pre (f,(m,(nx,((BB.F ((AH.F (((0:Int),(X,())),((if((70:Int)<(aa .i64 (ex-ey)))then(70:Int)else(aa .i64 (ex-ey))),()))).1,(AJ.F (((0:Int),(Y,())),((aa .i64 ((aa .i64 (ex-(if((70:Int)<(aa .i64 (ex-ey)))then(70:Int)else(aa .i64 (ex-ey)))))-ey)),()))))).1,((aa .i64 (ex-(if((70:Int)<(aa .i64 (ex-ey)))then(70:Int)else(aa .i64 (ex-ey))))),(((!(((AH.F ((AJ.F (((0:Int),(Y,())),((aa .i64 ((aa .i64 (ex-(if((70:Int)<(aa .i64 (ex-ey)))then(70:Int)else(aa .i64 (ex-ey)))))-ey)),()))).1,((aa .i64 ((aa .i64 (ex-(if((70:Int)<(aa .i64 (ex-ey)))then(70:Int)else(aa .i64 (ex-ey)))))-ey)),()))).1.1==(0:Int))&&((AH.F ((AJ.F (((0:Int),(Y,())),((aa .i64 ((aa .i64 (ex-(if((70:Int)<(aa .i64 (ex-ey)))then(70:Int)else(aa .i64 (ex-ey)))))-ey)),()))).1,((aa .i64 ((aa .i64 (ex-(if((70:Int)<(aa .i64 (ex-ey)))then(70:Int)else(aa .i64 (ex-ey)))))-ey)),()))).1.2.1==Y)))||((decide ((aa .i64 ((aa .i64 (ex-(if((70:Int)<(aa .i64 (ex-ey)))then(70:Int)else(aa .i64 (ex-ey)))))-ey))>(63:Int)))&&(Y !=(0:Int)))),())))))))then(some (BP.F (f,(m,(nx,((BB.F ((AH.F (((0:Int),(X,())),((if((70:Int)<(aa .i64 (ex-ey)))then(70:Int)else(aa .i64 (ex-ey))),()))).1,(AJ.F (((0:Int),(Y,())),((aa .i64 ((aa .i64 (ex-(if((70:Int)<(aa .i64 (ex-ey)))then(70:Int)else(aa .i64 (ex-ey)))))-ey)),()))))).1,((aa .i64 (ex-(if((70:Int)<(aa .i64 (ex-ey)))then(70:Int)else(aa .i64 (ex-ey))))),(((!(((AH.F ((AJ.F (((0:Int),(Y,())),((aa .i64 ((aa .i64 (ex-(if((70:Int)<(aa .i64 (ex-ey)))then(70:Int)else(aa .i64 (ex-ey)))))-ey)),()))).1,((aa .i64 ((aa .i64 (ex-(if((70:Int)<(aa .i64 (ex-ey)))then(70:Int)else(aa .i64 (ex-ey)))))-ey)),()))).1.1==(0:Int))&&((AH.F ((AJ.F (((0:Int),(Y,())),((aa .i64 ((aa .i64 (ex-(if((70:Int)<(aa .i64 (ex-ey)))then(70:Int)else(aa .i64 (ex-ey)))))-ey)),()))).1,((aa .i64 ((aa .i64 (ex-(if((70:Int)<(aa .i64 (ex-ey)))then(70:Int)else(aa .i64 (ex-ey)))))-ey)),()))).1.2.1==Y)))||((decide ((aa .i64 ((aa .i64 (ex-(if((70:Int)<(aa .i64 (ex-ey)))then(70:Int)else(aa .i64 (ex-ey)))))-ey))>(63:Int)))&&(Y !=(0:Int)))),()))))))))else none)else none)else none)else none)else none)else none)else none
theorem bAP(f m:Int)(nx:Bool)(X ex:Int)(ny:Bool)(Y ey:Int):Tr (f,m,(nx,X,ex,()),(ny,Y,ey,()),()) =
 (bif((X==0)&&(Y==0))&&(nx==ny)then(bif Bx.pre (f,nx,())then some ((Bx.F (f,nx,())).1,0,0,())else none)
 else bif(X==0)||((Y !=0)&&decide (ex<ey))then(bif X==0 then U6 f m ny Y ey nx X ey else U6 f m ny Y ey nx X ex)
 else bif Y==0 then U6 f m nx X ex ny Y ex else U6 f m nx X ex ny Y ey):=by kernel_rfl
theorem aB3{n:Nat}(h:n<2^64):((0:Int),((n:Int),()))=Wi n:=by
 unfold Wi;rw[cj h,bb h];rfl
theorem aPD:((0:Int),((1:Int),()))=Wi 1:=rfl
theorem aB4{n:Nat}(h:n<2^128):(((Wi n).1==0)&&((Wi n).2.1==0))=decide (n=0):=by
 show(((n/2^64:Nat):Int)==0&&((n%2^64:Nat):Int)==0)=_;rw[JL,JL,ff,ae,beq_iff_eq,beq_iff_eq,decide_eq_true_eq];omega
theorem aUn{Y dn:Nat}(hY:Y<2^64):((!(((Wi (Y/2^dn*2^dn)).1==0)&&((Wi (Y/2^dn*2^dn)).2.1==(Y:Int))))||(decide ((dn:Int)>63)&&((Y:Int)!=0)))=decide (Y%2^dn≠0):=by
 have hdm:=cg Y (2^dn);rw[ar]at hdm;generalize hL:Y/2^dn*2^dn=L at *
 show((!(((L/2^64:Nat):Int)==0&&((L%2^64:Nat):Int)==(Y:Int)))||(decide ((dn:Int)>63)&&((Y:Int)!=0)))=_;rw[JL,Sn,UE];by_cases h:Y%2^dn=0
 ·rw[decide_eq_false (p:=Y%2^dn≠0) (by omega)];rw[show(L/2^64==0)=true by rw[beq_iff_eq];omega,show(L%2^64==Y)=true by rw[beq_iff_eq];omega];by_cases hy:Y=0
  ·rw[hy];simp
  ·have:¬(dn:Int)>63:=fun hd=>by
    have h1:Y<2^dn:=ao hY (aj (by decide) (by omega));rw[bb h1]at h;exact hy h
   rw[decide_eq_false this];rfl
 ·rw[decide_eq_true (p:=Y%2^dn≠0) h];rw[show(L%2^64==Y)=false by rw[beq_eq_false_iff_ne];omega];simp
theorem LW{n k:Nat}(h:2^k<=n):k+1<=Ag n:=by
 have h1:=FM n;have:k<Ag n:=(cm (a:=2) (by decide)).1 (aw h h1);omega
def DK(f m:Int)(nx:Bool)(X:Nat)(ex:Int)(ny:Bool)(Y:Nat)(ey:Int):Nat×Nat:=let e:=if ex<=ey then ex else ey;let a:=X*2^(ex-e).toNat;let b:=Y*2^(ey-e).toNat;if nx=ny then(if a+b=0 then(Bw f nx,0)else AO f m nx (a+b) e false)else if a=b then(Bw f (m==4),0)else if b<a then AO f m nx (a-b) e false else AO f m ny (b-a) e false
theorem vK{f m:Int}{nx:Bool}{X:Nat}{ey:Int}{ny:Bool}{Y:Nat}(D:Nat):
  DK f m nx X (ey+D) ny Y ey=if nx=ny then(if X*2^D+Y=0 then(Bw f nx,0)else AO f m nx (X*2^D+Y) ey false)
   else if X*2^D=Y then(Bw f (m==4),0)else if Y<X*2^D then AO f m nx (X*2^D-Y) ey false else AO f m ny (Y-X*2^D) ey false:=by
 unfold DK;have he:(if ey+(D:Int)<=ey then ey+(D:Int)else ey)=ey:=by split<;>omega
 simp only[he];rw[show(ey+(D:Int)-ey).toNat=D by omega,show(ey-ey).toNat=0 by omega,go,fx]
theorem vL(f m:Int)(nx:Bool)(X:Nat)(ex:Int)(ny:Bool)(Y:Nat)(ey:Int):DK f m nx X ex ny Y ey=DK f m ny Y ey nx X ex:=by
 unfold DK;have he:(if ex<=ey then ex else ey)=(if ey<=ex then ey else ex):=by split<;>split<;>omega
 simp only[he];generalize(if ey<=ex then ey else ex)=e;generalize X*2^(ex-e).toNat=a;generalize Y*2^(ey-e).toNat=b;by_cases hn:nx=ny
 ·subst hn;rw[if_pos rfl,if_pos rfl,gv]
 ·rw[if_neg hn,if_neg (Ne.symm hn)];rcases gl a b with h|h|h
  ·rw[if_neg (by omega),if_neg (by omega),if_neg (by omega),if_pos h]
  ·rw[if_pos h,if_pos h.symm]
  ·rw[if_neg (by omega),if_pos h,if_neg (by omega),if_neg (by omega)]
theorem YU{f m:Int}(hf:Fm f)(nx:Bool)(X:Nat)(ex:Int)(ny:Bool)(ey:Int):DK f m nx X ex ny 0 ey=if X=0 then(if nx=ny then(Bw f nx,0)else(Bw f (m==4),0))else AO f m nx X ex false:=by
 rcases Int.le_total ex ey with h|h
 ·obtain⟨D,hD⟩:=cy (show 0<=ey-ex by omega);have:ey=ex+D:=by omega
  subst this;rw[vL,vK,dp,cz];by_cases hn:nx=ny
  ·subst hn;simp only[↓reduceIte]
  ·rw[if_neg (Ne.symm hn),if_neg hn];by_cases hx:X=0
   ·subst hx;simp only[↓reduceIte]
   ·rw[if_neg (by omega),if_neg (by omega),if_neg hx,mp]
 ·obtain⟨D,hD⟩:=cy (show 0<=ex-ey by omega);have:ex=ey+D:=by omega
  subst this;rw[vK,cu];by_cases hx:X=0
  ·subst hx;rw[if_pos rfl,dp,if_pos rfl,if_pos rfl]
  ·have hp:=ah D;have hpos:0<X*2^D:=ii (by omega) hp;rw[if_neg hx];by_cases hn:nx=ny
   ·rw[if_pos hn,if_neg (by omega),UY hf hx]
   ·rw[if_neg hn,if_neg (by omega),if_pos hpos,mp,UY hf hx]
theorem kK{f m:Int}(hf:Fm f)(hm:0<=m/\m<=5)(nx:Bool)(X D:Nat)(ny:Bool)(Y:Nat)(ey:Int)(hX:X<2^53)(hY:Y<2^53)(he:-2000<=ey/\ey+D<=2000)(h0:X≠0∨(Y=0/\nx≠ny)):
  U6 f m nx X (ey+D) ny Y ey=some (((DK f m nx X (ey+D) ny Y ey).1:Int),((DK f m nx X (ey+D) ny Y ey).2:Int),0,()):=by
 rw[vK];have hW:=FS hf;have hP:=Fe hf;have hU:∃U dn:Nat,(if(70:Int)<(D:Int)then(70:Int)else(D:Int))=(U:Int)/\D=U+dn/\U<=70/\(dn≠0->U=70):=by
  by_cases h:70<D
  ·exact⟨70,D-70,by rw[if_pos (by omega)];rfl,by omega,by omega,fun _=>rfl⟩
  ·exact⟨D,0,by rw[if_neg (by omega)],by omega,by omega,fun h=>absurd rfl h⟩
 obtain⟨U,dn,hU1,hU2,hU3,hU4⟩:=hU;have e1:aa .i64 (ey+(D:Int)-ey)=(D:Int):=by rw[AB (by omega)];omega
 have e2:aa .i64 (ey+(D:Int)-(U:Int))=ey+(dn:Int):=by rw[AB (by omega)];omega
 have e3:aa .i64 (ey+(dn:Int)-ey)=(dn:Int):=by rw[AB (by omega)];omega
 have hpU:=ah U;have hpd:=ah dn;have hU70:2^U<=2^70:=aj (by decide) hU3;have hH:X*2^U<2^123:=by
  have h1:X*2^U<=X*2^70:=bm _ hU70;have h2:X*2^70<2^53*2^70:=de hX (by decide);omega
 have hXD:X*2^D=X*2^U*2^dn:=by rw[hU2,ba,ax]
 have hbig:Y%2^dn≠0->2^70<=X*2^U/\X≠0:=fun h=>by
  have hd:dn≠0:=fun h1=>by rw[h1,go,Nat.mod_one]at h;exact h rfl
  have hy:Y≠0:=fun h1=>by rw[h1,lm]at h;exact h rfl
  have hx:X≠0:=by
   rcases h0 with h|h
   ·exact h
   ·exact absurd h.1 hy
  refine⟨?_,hx⟩;rw[hU4 hd];exact lh _ (by omega)
 have hYL:Y/2^dn<=Y:=fg _ _;have hLd:Y/2^dn*2^dn<=Y:=Nat.div_mul_le_self _ _;have p1:RC (((0:Int),((X:Int),())),((U:Int),()))=some (Wi (X*2^U),()):=by
  rw[aB3 (by omega),aAh _ _ (by omega),bb (by omega)]
 have p2:S6 (((0:Int),((Y:Int),())),((dn:Int),()))=some (Wi (Y/2^dn),()):=by
  rw[aB3 (by omega),aOC _ _ (by omega)]
 have p3:RC (Wi (Y/2^dn),((dn:Int),()))=some (Wi (Y/2^dn*2^dn),()):=by
  rw[aAh _ _ (by omega),bb (by omega)]
 have p4:=aOD (X*2^U) (Y/2^dn) (by omega);have p5:=aOE (X*2^U) (Y/2^dn);have pz:=VR hf (m==4);unfold U6;simp only[e1,hU1,e2,e3,aIu p1,aGH p1,aVB p2,aS0 p2,aIu p3,aGH p3,cond_true,aVC p4,aS1 p4,aVD p5,aS2 p5,aUn (show Y<2^64 by omega)];have hdm:=cg Y (2^dn);have hml:=bo Y hpd;have hX0H:X=0->X*2^U=0:=fun h=>by rw[h,dp]
 have hXb:X≠0->dn≠0->2^70<=X*2^U:=fun h1 h2=>by rw[hU4 h2];exact lh _ (by omega)
 have hHp:X≠0->0<X*2^U:=fun h=>ii (by omega) hpU;clear e1 e2 e3 p1 p2 p3;rw[ar]at hdm;generalize hHe:X*2^U=H at *
 generalize hLe:Y/2^dn=L at *
 generalize hRe:Y%2^dn=R at *
 by_cases hn:nx=ny
 ·subst hn;rw[if_pos rfl,show(nx==nx)=true by cases nx<;>rfl,cond_true];have hX0:X≠0:=by
   rcases h0 with h|h
   ·exact h
   ·exact absurd rfl h.2
  have hHp:=hHp hX0;have hN:X*2^D+Y=Y+H*2^dn:=by rw[hXD,gv]
  have hNd:(X*2^D+Y)/2^dn=H+L:=by rw[hN,nz _ _ hpd,hLe,gv]
  have hNm:(X*2^D+Y)%2^dn=R:=by rw[hN,kg,hRe]
  have hbl:R≠0->fP f+2<=Ag (H+L):=fun h=>by
   have h1:=(hbig h).1;have:=LW (n:=H+L) (k:=70) (by omega);omega
  have p6:=VU hf hm nx (H+L) (by omega) (ey+(dn:Int)) (by omega) (decide (R≠0)) (fun h=>hbl (by simpa using h));rw[if_neg (by omega)]at p6;simp only[Yu p6,XT p6,cond_true];have htr:=uZ (f:=f) (m:=m) (neg:=nx) (N:=X*2^D+Y) (k:=dn) (E:=ey) hf (by rw[hNd];omega) (by rw[hNd,hNm];exact hbl);rw[hNd,hNm]at htr;have hpp:0<H*2^dn:=ii hHp hpd;rw[htr,if_neg (by rw[hXD];omega)]
 ·rw[if_neg hn,show(nx==ny)=false by cases nx<;>cases ny<;>first|rfl|exact absurd rfl hn,cond_false];by_cases hlt:H<L
  ·have hm0:R=0:=by
    by_cases h:R=0
    ·exact h
    ·have:=(hbig h).1;omega
   have hdn:dn=0:=by
    by_cases h:dn=0
    ·exact h
    ·exfalso;rcases h0 with h1|h1
     ·have h2:=hXb h1 h;omega
     ·have:=h1.1;omega
   subst hdn;have hY1:Y=L:=by rw[←hLe];simp
   subst hY1;have hXD1:X*2^D=H:=by rw[hXD];simp
   rw[hm0,hXD1];have p7:=mN Y H (by omega) (by omega);have p6:=VU hf hm ny (Y-H) (by omega) (ey+((0:Nat):Int)) (by omega) false (fun h=>by cases h);rw[if_neg (by omega)]at p6;have z1:decide ((if H=Y then(0:Int)else if H<Y then -1 else 1)<0)=true:=by
    rw[if_neg (by omega),if_pos hlt];rfl
   have z2:decide ((0:Nat)≠0)=false:=by decide
   have z3:=aB4 (n:=Y-H) (by omega);rw[decide_eq_false (p:=Y-H=0) (by omega)]at z3;simp only[z1,z2,cond_true,cond_false,uB p7,sA p7,z3,az,Yu p6,XT p6];rw[if_neg (by omega),if_neg (by omega),gx,kw]
  ·have hge:L<=H:=by omega
   have p7:=mN H L (by omega) hge;have z1:decide ((if H=L then(0:Int)else if H<L then -1 else 1)<0)=false:=by
    by_cases h:H=L
    ·rw[if_pos h];rfl
    ·rw[if_neg h,if_neg hlt];rfl
   simp only[z1,cond_false,uB p7,sA p7,cond_true];by_cases hm0:R=0
   ·rw[hm0,show decide ((0:Nat)≠0)=false by decide,cond_false];have hYe:Y=L*2^dn:=by omega
    have z3:=aB4 (n:=H-L) (by omega);rw[z3];by_cases hz:H-L=0
    ·have heq:X*2^D=Y:=by rw[hXD,hYe,show H=L by omega]
     rw[decide_eq_true hz,if_pos heq];simp only[bw,bh,cond_true,Yt pz,XS pz];rfl
    ·rw[decide_eq_false hz];have p6:=VU hf hm nx (H-L) (by omega) (ey+(dn:Int)) (by omega) false (fun h=>by cases h);rw[if_neg hz]at p6;simp only[az,cond_false,Yu p6,XT p6,cond_true];have hN:X*2^D-Y=(H-L)*2^dn:=by rw[hXD,Nat.sub_mul,←hYe]
     have hpp:0<(H-L)*2^dn:=ii (by omega) hpd;have hlt2:Y<X*2^D:=by omega
     rw[if_neg (by omega),if_pos hlt2,hN,UY hf hz]
   ·rw[decide_eq_true (p:=R≠0) hm0,cond_true];obtain⟨hb1,hX0⟩:=hbig hm0;have p8:=mN (H-L) 1 (by omega) (by omega);rw[←aPD]at p8;have hbl:fP f+2<=Ag (H-L-1):=by
     have:=LW (n:=H-L-1) (k:=69) (by omega);omega
    have p6:=VU hf hm nx (H-L-1) (by omega) (ey+(dn:Int)) (by omega) true (fun _=>hbl);rw[if_neg (by omega)]at p6;simp only[uB p8,sA p8,cond_true,ck,bj,cond_false,Yu p6,XT p6];have h2:(L+1+(H-L-1))*2^dn=H*2^dn:=by rw[show L+1+(H-L-1)=H by omega]
    rw[bl,bl,fh]at h2;have hN:X*2^D-Y=(2^dn-R)+(H-L-1)*2^dn:=by rw[hXD];omega
    have hlt2:Y<X*2^D:=by omega
    have hNd:(X*2^D-Y)/2^dn=H-L-1:=by
     rw[hN,nz _ _ hpd,cj (by omega),cz]
    have hNm:(X*2^D-Y)%2^dn=2^dn-R:=by
     rw[hN,kg,bb (by omega)]
    have htr:=uZ (f:=f) (m:=m) (neg:=nx) (N:=X*2^D-Y) (k:=dn) (E:=ey) hf (by rw[hNd];omega) (fun _=>by rw[hNd];exact hbl);rw[hNd,hNm,decide_eq_true (p:=2^dn-R≠0) (by omega)]at htr;rw[htr,if_neg (by omega),if_pos hlt2]
theorem aPh{f m:Int}(hf:Fm f)(hm:0<=m/\m<=5)(nx:Bool)(X:Nat)(ex:Int)(ny:Bool)(Y:Nat)(ey:Int)(hX:X<2^53)(hY:Y<2^53)(hex:-2000<=ex/\ex<=2000)(hey:-2000<=ey/\ey<=2000):
  Tr (f,m,(nx,(X:Int),ex,()),(ny,(Y:Int),ey,()),())=some (((DK f m nx X ex ny Y ey).1:Int),((DK f m nx X ex ny Y ey).2:Int),0,()):=by
 rw[bAP];by_cases hX0:X=0
 ·subst hX0;by_cases hYn:Y=0/\nx=ny
  ·obtain⟨rfl,rfl⟩:=hYn;have p0:=VR hf nx;rw[show((((0:Nat):Int)==0)&&(((0:Nat):Int)==0)&&(nx==nx))=true by cases nx<;>rfl,cond_true];simp only[Yt p0,XS p0,cond_true];rw[YU hf,if_pos rfl,if_pos rfl];rfl
  ·have hg:((((0:Nat):Int)==0)&&(((Y:Nat):Int)==0)&&(nx==ny))=false:=by
    by_cases hy:Y=0
    ·have:nx≠ny:=fun h=>hYn ⟨hy,h⟩;subst hy;cases nx<;>cases ny<;>first|rfl|exact absurd rfl this
    ·rw[Bn Y hy,bj,az]
   have h1:(((0:Nat):Int)==0)=true:=rfl;rw[hg,cond_false,h1,bf,cond_true,cond_true];have ht:=kK hf hm ny Y 0 nx 0 ey hY hX (by omega) (by
    by_cases hy:Y=0
    ·exact .inr ⟨rfl,fun h=>hYn ⟨hy,h.symm⟩⟩
    ·exact .inl hy)
   rw[gx,kw]at ht;rw[gx,ht,vL f m nx 0 ex,YU hf,YU hf]
 ·have hx0:((X:Int)==0)=false:=Bn _ hX0;rw[hx0,az,az,cond_false,ca,cond_false];by_cases hY0:Y=0
  ·subst hY0;have ht:=kK hf hm nx X 0 ny 0 ex hX hY (by omega) (.inl hX0);rw[gx,kw]at ht;rw[show(((0:Nat):Int)!=0)=false by rfl,az,cond_false,show(((0:Nat):Int)==0)=true by rfl,cond_true,gx,ht,YU hf,YU hf]
  ·rw[BD _ hY0,bi,Bn _ hY0,cond_false];by_cases hlt:ex<ey
   ·rw[decide_eq_true hlt,cond_true];obtain⟨D,hD⟩:=cy (show 0<=ey-ex by omega);have hee:ey=ex+D:=by omega
    subst hee;rw[kK hf hm ny Y D nx X ex hY hX (by omega) (.inl hY0),vL f m ny Y]
   ·rw[decide_eq_false hlt,cond_false];obtain⟨D,hD⟩:=cy (show 0<=ex-ey by omega);have hee:ex=ey+D:=by omega
    subst hee;rw[kK hf hm nx X D ny Y ey hX hY (by omega) (.inl hX0)]
end VL
namespace VL
open Go Vx
def Hs(l:List Nat):Prop:=(∀x∈l,x<2^32)/\l.length<=1000000
theorem Hs.dg{n:Nat}(h:n<2^100000):Hs (dg (2^32) n):=by
 refine⟨QV (by decide) n,?_⟩;have:n<(2^32)^3125:=by rw[←mj];exact h
 have:=D0 (B:=2^32) (by decide) 3125 n this;omega
theorem vZ(n:Nat)(h:n<2^64):aa .u64 (n:Int)=(n:Int):=EN (by omega)
theorem v0(a b:Nat)(h:a*b<2^64):aa .u64 ((a:Int)*(b:Int))=((a*b:Nat):Int):=by
 rw[←jj,vZ _ h]
theorem kS(a b:Nat)(h:a+b<2^64):aa .u64 ((a:Int)+(b:Int))=((a+b:Nat):Int):=by
 rw[←nm,vZ _ h]
theorem Xu{B:Nat}{l:List Nat}{v:Nat}(h:∀x∈l,x<B)(hv:v<B):∀x∈l++[v],x<B:=fun x hx=>by
 rcases cr.1 hx with hx|hx
 ·exact h x hx
 ·have:x=v:=by simpa using hx
  rw[this];exact hv
theorem Yp(B:Nat)(l:List Nat)(v:Nat):nv B (l++[v])=nv B l+B^l.length*v:=by
 rw[Sq];simp[nv]
theorem aUI(B n:Nat):nv B (au n 0)=0:=by
 induction n with
 |zero=>rfl
 |succ n ih=>rw[jn];simp[nv,ih]
end VL
namespace VL
open Go Vx
theorem Yo(B:Nat)(l:List Nat)(i:Nat)(h:i<l.length):nv B (l.drop i)=l.getD i 0+B*nv B (l.drop (i+1)):=by
 rw[dr h,ak,ay h];rfl
theorem bAT{B:Nat}(hB:2<=B){l:List Nat}(h:∀x∈l,x<B)(i:Nat):nv B (l.take i)<B^i:=by
 have:=D3 hB (l.take i) fun x hx=>h x (dz hx);refine ao this (aj (by omega) ?_);rw[gk];exact la _ _
theorem bAt{P A A' X Y:Nat}(h:A<P)(hxy:X<Y):A+P*X<A'+P*Y:=by
 have:P*(X+1)<=P*Y:=bm _ hxy;rw[br,fx]at this;omega
theorem Rj{B:Nat}(hB:2<=B){a b:List Nat}(ha:∀x∈a,x<B){i:Nat}(hia:i<a.length)(hib:i<b.length)(hd:nv B (a.drop (i+1))=nv B (b.drop (i+1)))(h:a.getD i 0<b.getD i 0):nv B a<nv B b:=by
 rw[Rc B a i (by omega),Rc B b i (by omega),Yo B a i hia,Yo B b i hib,hd];exact bAt (bAT hB ha i) (by omega)
theorem rD{B:Nat}(hB:2<=B){x y:Nat}(h:(dg B x).length<(dg B y).length):x<y:=by
 have h1:=XD hB x;rcases aq x y with h2|h2
 ·exact h2
 ·have:=D0 hB (dg B x).length y (by omega);omega
theorem aUk{P B A A' O a b c c' v:Nat}(h:A+P*c=A'+O)(h2:a+B*c'=b+c+v):A+P*a+P*B*c'=A'+P*b+(O+P*v):=by
 have h3:P*(a+B*c')=P*(b+c+v):=by rw[h2]
 rw[br,br,br,←ax]at h3;omega
theorem aFW{B:Nat}(hB:2<=B){x y:Nat}(h:y<=x):(dg B y).length<=(dg B x).length:=by
 rcases aq (dg B x).length (dg B y).length with h1|h1
 ·have:=rD hB h1;omega
 ·exact h1
theorem Hs.len{n:Nat}(h:n<2^100000):(VL.dg (2^32) n).length<=3125:=by
 have:n<(2^32)^3125:=by rw[←mj];exact h
 exact D0 (B:=2^32) (by decide) 3125 n this
theorem uR(x m:Nat)(h:x<2^64)(hm:0<m):BX .u64 (x:Int) (m:Int)=((x/m:Nat):Int):=by
 unfold BX;have e:(x:Int).tdiv (m:Int)=((x/m:Nat):Int):=rfl;have:=fg x m;generalize x/m=q at *
 rw[e,EN (by omega)]
end VL
namespace VL
open Go Vx
theorem JF{f:Int}(hf:Fm f):fP f<=53:=by
 rcases C4 hf with rfl|rfl|rfl|rfl<;>decide
theorem tL{m:Int}(hm:0<=m/\m<=5):m=0∨m=1∨m=2∨m=3∨m=4∨m=5:=by omega
theorem aSb{f m:Int}(hf:Fm f){neg:Bool}{n:Nat}{e q:Int}(h:AE n e-fP f+1<=q):BC m neg n e q false<=2^fP f:=rB h
end VL
namespace VL
open Go Vx
def Am(f:Int)(a:Nat):Nat:=if eF f a=0 then mF f a else mF f a+2^(fP f-1)
def Ao(f:Int)(a:Nat):Int:=1-(fX f:Int)-(fP f:Int)+1+(if eF f a=0 then 0 else(eF f a:Int)-1)
theorem Ml(f:Int)(a:Nat):mF f a<2^(fP f-1):=bo _ (ah _)
theorem Ra{f:Int}(hf:Fm f)(a:Nat):Am f a<2^53:=by
 have h1:=Ml f a;have h2:=CZ hf;have h3:=Fe hf;have h4:=FS hf;have h5:2^(fP f-1)<=2^52:=aj (by decide) (by rcases C4 hf with rfl|rfl|rfl|rfl<;>decide);unfold Am;split<;>omega
theorem eO{f:Int}(hf:Fm f)(a:Nat):eF f a<2048:=by
 have:2^(fW f-fP f)<=2^11:=aj (by decide) (by rcases C4 hf with rfl|rfl|rfl|rfl<;>decide);have h:eF f a<2^(fW f-fP f):=bo _ (ah _);omega
theorem Va{f:Int}(hf:Fm f)(a:Nat):-2000<=Ao f a/\Ao f a<=2000:=by
 have h1:=eO hf a;have h2:=Sa hf;have h3:=JF hf;have h4:=Ma hf;have h5:=CZ hf;have h6:(eF f a:Int)<=2*fX f+1:=by
  have:eF f a<2^(fW f-fP f):=bo _ (ah _);have:=rJ hf;omega
 unfold Ao;split<;>omega
def At(f:Int)(a:Nat):Bool:=eF f a==AM f&&mF f a==0
def TL(f m:Int)(a b:Nat):Int×Int×Int×Unit:=bif Be f a||Be f b then((B5 f:Int),1,0,())else bif nan f a||nan f b then((B5 f:Int),0,0,())else bif(At f a&&At f b)&&!(sF f a==sF f b)then((B5 f:Int),1,0,())else bif At f a then((a:Int),0,0,())else bif At f b then((b:Int),0,0,())else(((DK f m (sF f a) (Am f a) (Ao f a) (sF f b) (Am f b) (Ao f b)).1:Int),((DK f m (sF f a) (Am f a) (Ao f a) (sF f b) (Am f b) (Ao f b)).2:Int),0,())
def Jx(f m:Int)(a b:Nat):Int×Int×Int×Unit:=if Fm f then(if 0<=m/\m<=5 then(if Aj f a=0/\Aj f b=0 then TL f m a b else(0,0,4,()))else(0,0,3,()))else(0,0,2,())
theorem r7{f:Int}{a:Nat}(h:eF f a=AM f):nan f a=(!(mF f a==0))/\Be f a=(!(mF f a==0)&&(mF f a/2^(fP f-2)==0))/\At f a=(mF f a==0):=by
 unfold Be nan At;rw[h];simp[bne]
theorem UL{f:Int}{a:Nat}(h:eF f a≠AM f):nan f a=false/\Be f a=false/\At f a=false:=by
 unfold Be nan At;simp[h]
def Mx(f m:Int)(a b:Nat):Int×Int×Int×Unit:=Jx f m a (if Aj f b=0 then DV f b else b)
theorem aUC{f:Int}{b:Nat}(h:Aj f b=0):DV f b<2^64:=UM (fQ (FO h).1 b)
end VL
namespace VL
open Go Vx
theorem mY{f:Int}{a:Nat}(h:Aj f a=0):WU (f,(a:Int),())=some (sF f a,(eF f a:Int),(mF f a:Int),0,()):=by
 obtain⟨hf,h0⟩:=FO h;have ha:=UM h;show kI Aq.pre Aq.F Dl.pre Dl.F f a=_;unfold kI;have p0:=Ji f a ha;have p2:=mV hf a ha;have hr1:decide (0<=f)=true:=decide_eq_true hf.1;have hr2:decide (f<((4:Nat):Int))=true:=decide_eq_true hf.2;simp only[u6 hf,hr1,hr2,HZ p0,HR p0,uI p2,sI p2,h,cond_true,bne_self_eq_false,cond_false]
theorem aBJ{f:Int}{a:Nat}(h:Aj f a=0):WP (f,BZ f,(a:Int),())=some ((sF f a,(Am f a:Int),Ao f a,()),()):=by
 obtain⟨hf,h0⟩:=FO h;show kE BT.pre BT.F f (BZ f) a=_;unfold kE;have h1:=CZ hf;have h3:=JF hf;have h4:=Sa hf;have hE:=eO hf a;have hM:=Ml f a;have hPp:2^(fP f-1)<=2^52:=aj (by decide) (by omega);have p0:=mY h;have r1:(BZ f).2.1=(fP f:Int):=rfl;have r2:(BZ f).2.2.1=1-(fX f:Int):=rfl;have e0:aa .i64 ((fP f:Int)-1)=((fP f-1:Nat):Int):=BQ _ (by omega);have e1:aa .i64 (aa .i64 ((1-(fX f:Int))-(fP f:Int))+1)=1-(fX f:Int)-(fP f:Int)+1:=by
  rw[AB (n:=_-(fP f:Int)) (by omega),AB (by omega)]
 have e2:aa .i64 (eF f a:Int)=(eF f a:Int):=AB (by omega);have e3:Bb .u64 1 ((fP f-1:Nat):Int)=((2^(fP f-1):Nat):Int):=YM (by omega);have e4:Ap .u64 (mF f a:Int) ((2^(fP f-1):Nat):Int)=((mF f a+2^(fP f-1):Nat):Int):=by
  have:=Mq (a:=mF f a) (b:=1) (k:=fP f-1) hM (by omega);rwa [fh]at this
 simp only[uL p0,sL p0,cond_true,r1,r2,e0,e1,e2,e3,e4,Bi];by_cases hz:eF f a=0
 ·have hg:decide ((eF f a:Int)>0)=false:=decide_eq_false (by omega);have hm:Am f a=mF f a:=by unfold Am;rw[if_pos hz]
  have hx:Ao f a=1-(fX f:Int)-(fP f:Int)+1:=by unfold Ao;rw[if_pos hz,kw]
  rw[hg,cond_false,hm,hx]
 ·have hg:decide ((eF f a:Int)>0)=true:=decide_eq_true (by omega);have hm:Am f a=mF f a+2^(fP f-1):=by unfold Am;rw[if_neg hz]
  have hx:aa .i64 ((1-(fX f:Int)-(fP f:Int)+1)+aa .i64 ((eF f a:Int)-1))=Ao f a:=by
   unfold Ao;rw[if_neg hz,AB (n:=(eF f a:Int)-1) (by omega),AB (by omega)]
  rw[hg,cond_true,hm,hx]
theorem qX(f:Int)(a:Nat):(BV f a==2||BV f a==9)=At f a:=by
 unfold BV At;cases eF f a==AM f<;>cases eF f a==0<;>cases mF f a==0<;>cases sF f a<;>cases mF f a/2^(fP f-2)!=0<;>rfl
theorem aR4(f:Int)(a b:Nat):((At f a&&At f b)&&(BV f a !=BV f b))=((At f a&&At f b)&&!(sF f a==sF f b)):=by
 unfold BV At;cases eF f a==AM f<;>cases mF f a==0<;>cases eF f b==AM f<;>cases mF f b==0<;>first|rfl|(cases sF f a<;>cases sF f b<;>rfl)
theorem mR(f m:Int){a b:Nat}(ha:a<2^64)(hb:b<2^64):Wa (f,m,(a:Int),(b:Int),())=some (Jx f m a b):=by
 show i3 An.pre An.F AY.pre AY.F AR.pre AR.F QF.pre QF.F QE.pre QE.F f m a b=_;unfold i3 Jx;by_cases hf:Fm f
 ·rw[if_pos hf];have p0:=HC hf;simp only[CM p0,CJ p0,cond_true,bne_self_eq_false,cond_false];by_cases hm:0<=m/\m<=5
  ·have hmm:(decide (m<0)||decide (m>5))=false:=by
    rw[decide_eq_false (p:=m<0) (by omega),decide_eq_false (p:=m>5) (by omega)];rfl
   rw[if_pos hm,hmm,cond_false];have c4:∀x:Nat,Aj f x≠0->Aj f x=4:=fun x h=>by
    unfold Aj at h⊢;rw[if_pos hf]at h⊢;split at h
    ·exact absurd rfl h
    ·rename_i h1;rw[if_neg h1]
   by_cases hca:Aj f a=0
   ·have p1:=aY ha hca;by_cases hcb:Aj f b=0
    ·have p2:=aY hb hcb;rw[if_pos ⟨hca,hcb⟩];have p3:=aZ hf;have p4:=aBJ hca;have p5:=aBJ hcb;have p6:=aPh hf hm (sF f a) (Am f a) (Ao f a) (sF f b) (Am f b) (Ao f b) (Ra hf a) (Ra hf b) (Va hf a) (Va hf b);simp only[Rf p1,Q6 p1,Rf p2,Q6 p2,cond_true,bne_self_eq_false,cond_false,gE p3,fD p3,aIN p4,aGZ p4,aIN p5,aGZ p5,aWc p6,aTB p6,qX,aR4];unfold TL;rw[←dY,←dY,←dX,←dX];generalize((At f a&&At f b)&&!(sF f a==sF f b))=w1;generalize At f a=w2;generalize At f b=w3;generalize(BV f a==0)=x1;generalize(BV f b==0)=x2;generalize(BV f a==1)=x3;generalize(BV f b==1)=x4;cases x1<;>cases x2<;>cases x3<;>cases x4<;>cases w1<;>cases w2<;>cases w3<;>rfl
    ·have p2:=mU hb hcb;rw[if_neg (fun h=>hcb h.2)];have hne:(Aj f b !=0)=true:=by simpa using hcb
     simp only[Rf p1,Q6 p1,Rf p2,Q6 p2,cond_true,bne_self_eq_false,cond_false,hne];rw[c4 b hcb]
   ·have p1:=mU ha hca;rw[if_neg (fun h=>hca h.1)];have hne:(Aj f a !=0)=true:=by simpa using hca
    simp only[Rf p1,Q6 p1,cond_true,hne];rw[c4 a hca]
  ·rw[if_neg hm];have:(decide (m<0)||decide (m>5))=true:=by
    by_cases h:m<0
    ·rw[decide_eq_true h];rfl
    ·rw[decide_eq_true (p:=m>5) (by omega),cd]
   rw[this];rfl
 ·rw[if_neg hf];have p0:=Jj hf;simp only[CM p0,CJ p0];rfl
theorem aOR(f m:Int){a b:Nat}(ha:a<2^64)(hb:b<2^64):V9 (f,m,(a:Int),(b:Int),())=some (Mx f m a b):=by
 show i2 Aq.pre Aq.F EG.pre EG.F E7.pre E7.F f m a b=_;unfold i2 Mx;have p0:=Ji f b hb;by_cases h:Aj f b=0
 ·have p1:=aPg h;have p2:=mR f m ha (aUC h);rw[if_pos h];simp only[HZ p0,HR p0,h,beq_self_eq_true,cond_true,aWb p1,aTA p1,uG p2,sG p2]
 ·have p2:=mR f m ha hb;have hne:(Aj f b==0)=false:=by simpa using h
  rw[if_neg h];simp only[HZ p0,HR p0,cond_true,hne,cond_false,uG p2,sG p2]
end VL
namespace VL
open Go Vx
theorem aHb(f:Int)(neg:Bool):DU f neg=A2 f+Bw f neg:=by
 unfold DU A2 AM;rw[ar]
theorem Xn(f:Int)(s:Bool)(x:Nat):x+Bw f s=Ch f s x:=by
 unfold Ch Bw;cases s<;>rfl
theorem fI{f:Int}(hf:Fm f):A2 f=(2*fX f+1)*2^(fP f-1):=by
 unfold A2 AM;rw[←rJ hf,ar]
theorem aUv{f:Int}(hf:Fm f){a:Nat}(h:BU f a<=A2 f):nan f a=false:=by
 unfold nan;rw[rG hf,tH hf];by_cases he:BU f a/2^(fP f-1)=AM f
 ·have hdm:=cg (BU f a) (2^(fP f-1));rw[he]at hdm;unfold A2 at h;have:BU f a%2^(fP f-1)=0:=by omega
  rw[this];simp
 ·simp[he]
def C3(f m:Int)(neg:Bool)(n:Nat)(e:Int):Nat×Nat:=
 if AE n e>fX f then((if MB m neg then A2 f else A2 f-1),20)
 else
  let q:=Cc f (AE n e)
  let u:=BC m neg n e q false
  if q+Ag u-1>fX f then((if MB m neg then A2 f else A2 f-1),20)
  else((q-(1-(fX f:Int)-fP f+1)).toNat*2^(fP f-1)+u,
   if DA n e q false=0 then 0 else if DD f m neg n e false then 24 else 16)
theorem sU{f:Int}(hf:Fm f):1<=A2 f:=by
 rw[fI hf];exact ii (by omega) (ah _)
theorem aFk{f m:Int}(hf:Fm f)(neg:Bool):TP f m neg=Ch f neg (if MB m neg then A2 f else A2 f-1):=by
 have:=sU hf;unfold TP;rw[aHb,←Xn];split<;>omega
theorem Ri{f:Int}(hf:Fm f)(m:Int)(neg:Bool)(n:Nat)(e:Int):AO f m neg n e false=(Ch f neg (C3 f m neg n e).1,(C3 f m neg n e).2):=by
 unfold AO C3;by_cases h:AE n e>fX f
 ·rw[if_pos h,if_pos h,aFk hf]
 ·rw[if_neg h,if_neg h];dsimp only;by_cases h2:Cc f (AE n e)+(Ag (BC m neg n e (Cc f (AE n e)) false):Int)-1>fX f
  ·rw[if_pos h2,if_pos h2,aFk hf]
  ·rw[if_neg h2,if_neg h2];dsimp only;rw[Xn]
theorem aT3(f:Int)(hf:Fm f)(t:Int)(ht:¬t>fX f):t-(fP f:Int)+1<=Cc f t/\1-(fX f:Int)-(fP f:Int)+1<=Cc f t/\Cc f t<=(fX f:Int)-(fP f:Int)+1:=by
 have:=Ma hf;unfold Cc;split<;>refine⟨?_,?_,?_⟩<;>omega
theorem aZu{f m:Int}(hf:Fm f){neg:Bool}{n:Nat}{e:Int}(h1:¬AE n e>fX f)(h2:¬Cc f (AE n e)+(Ag (BC m neg n e (Cc f (AE n e)) false):Int)-1>fX f):
  (Cc f (AE n e)-(1-(fX f:Int)-fP f+1)).toNat*2^(fP f-1)+BC m neg n e (Cc f (AE n e)) false<A2 f:=by
 obtain⟨g1,g2,g3⟩:=aT3 f hf _ h1;have hu:=aSb (m:=m) (neg:=neg) hf g1;generalize Cc f (AE n e)=q at *
 generalize BC m neg n e q false=u at *
 have hP:=CZ hf;have hX:=Ma hf;have hpp:=ah (fP f-1);have h2p:2^fP f=2*2^(fP f-1):=by rw[←im,kv,lf (by omega)]
 rw[fI hf];obtain⟨k,hk⟩:=cy (show 0<=q-(1-(fX f:Int)-(fP f:Int)+1) by omega);rw[hk,ag];rcases aq u (2^fP f)with h|h
 ·have hk2:k+2<=2*fX f+1:=by omega
  have:=al (2^(fP f-1)) hk2;rw[bl]at this;omega
 ·have hb:fP f+1<=Ag u:=LW h;have hk2:k+3<=2*fX f+1:=by omega
  have:=al (2^(fP f-1)) hk2;rw[bl]at this;omega
theorem YF{f:Int}(hf:Fm f)(m:Int)(neg:Bool)(n:Nat)(e:Int):(C3 f m neg n e).1<=A2 f:=by
 unfold C3;by_cases h:AE n e>fX f
 ·rw[if_pos h];dsimp only;split<;>omega
 ·rw[if_neg h];dsimp only;by_cases h2:Cc f (AE n e)+(Ag (BC m neg n e (Cc f (AE n e)) false):Int)-1>fX f
  ·rw[if_pos h2];dsimp only;split<;>omega
  ·rw[if_neg h2];exact Nat.le_of_lt (aZu hf h h2)
def Sm(m:Int):Int:=if m=3 then 4 else if m=4 then 3 else m
theorem aTC{m:Int}(hm:0<=m/\m<=5)(neg odd:Bool)(r:Nat):Dh (Sm m) (!neg) odd r=Dh m neg odd r:=by
 rcases tL hm with rfl|rfl|rfl|rfl|rfl|rfl<;>cases neg<;>rfl
theorem bA3{m:Int}(hm:0<=m/\m<=5)(neg:Bool):MB (Sm m) (!neg)=MB m neg:=by
 rcases tL hm with rfl|rfl|rfl|rfl|rfl|rfl<;>cases neg<;>rfl
theorem aFR{m:Int}(hm:0<=m/\m<=5)(neg:Bool)(n:Nat)(e q:Int)(more:Bool):BC (Sm m) (!neg) n e q more=BC m neg n e q more:=by
 unfold BC;rw[aTC hm]
theorem bAV{f m:Int}(hm:0<=m/\m<=5)(neg:Bool)(n:Nat)(e:Int)(more:Bool):DD f (Sm m) (!neg) n e more↔DD f m neg n e more:=by
 unfold DD;rw[aFR hm]
theorem aZv{f m:Int}(hm:0<=m/\m<=5)(neg:Bool)(n:Nat)(e:Int):C3 f (Sm m) (!neg) n e=C3 f m neg n e:=by
 unfold C3;simp only[bA3 hm,aFR hm,bAV hm]
theorem gQ(f:Int)(s:Bool):Bw f s=Ch f s 0:=by
 rw[←Xn,cz]
theorem bAK{f m:Int}(hf:Fm f)(hm:0<=m/\m<=5)(nx:Bool)(X:Nat)(ex:Int)(ny:Bool)(Y:Nat)(ey:Int):
  ∃s s' x g,DK f m nx X ex ny Y ey=(Ch f s x,g)/\DK f (Sm m) (!nx) X ex (!ny) Y ey=(Ch f s' x,g)/\x<=A2 f/\(s'=!s∨x=0):=by
 unfold DK;dsimp only;generalize(if ex<=ey then ex else ey)=e;generalize X*2^(ex-e).toNat=a;generalize Y*2^(ey-e).toNat=b;have hr:∀neg n,AO f (Sm m) (!neg) n e false=(Ch f (!neg) (C3 f m neg n e).1,(C3 f m neg n e).2):=fun neg n=>by
  rw[Ri hf,aZv hm]
 by_cases hn:nx=ny
 ·subst hn;rw[if_pos rfl,if_pos rfl];by_cases h0:a+b=0
  ·rw[if_pos h0,if_pos h0];exact⟨nx,!nx,0,0,by rw[gQ],by rw[gQ],dv _,.inr rfl⟩
  ·rw[if_neg h0,if_neg h0];exact⟨nx,!nx,_,_,Ri hf _ _ _ _,hr _ _,YF hf _ _ _ _,.inl rfl⟩
 ·have hn2:¬((!nx)=(!ny)):=fun h=>hn (by cases nx<;>cases ny<;>first|rfl|cases h);rw[if_neg hn,if_neg hn2];by_cases h1:a=b
  ·rw[if_pos h1,if_pos h1];exact⟨_,_,0,0,by rw[gQ],by rw[gQ],dv _,.inr rfl⟩
  ·rw[if_neg h1,if_neg h1];by_cases h2:b<a
   ·rw[if_pos h2,if_pos h2];exact⟨nx,!nx,_,_,Ri hf _ _ _ _,hr _ _,YF hf _ _ _ _,.inl rfl⟩
   ·rw[if_neg h2,if_neg h2];exact⟨ny,!ny,_,_,Ri hf _ _ _ _,hr _ _,YF hf _ _ _ _,.inl rfl⟩
theorem sT{f:Int}(hf:Fm f):A2 f<2^(fW f-1):=by have:=aHd hf;omega
theorem aUl{f:Int}(s:Bool){x:Nat}(hx:x<2^(fW f-1)):Av f (Ch f s x)=bif s then -(x:Int)else x:=by
 unfold Av;rw[tK s hx,aHX s hx]
theorem aZy{f m:Int}(hf:Fm f){a:Nat}(h:Aj f a=0)(hfin:eF f a≠AM f)(h0:Am f a≠0):AO f m (sF f a) (Am f a) (Ao f a) false=(a,0):=by
 have hP:=CZ hf;have hX:=Ma hf;have hpp:=ah (fP f-1);have h2p:2^fP f=2*2^(fP f-1):=by rw[←im,kv,lf (by omega)]
 have hM:=Ml f a;have hEl:eF f a<AM f:=Nat.lt_of_le_of_ne (aSw a) hfin;have hfull:AM f=2*fX f+1:=by unfold AM;rw[←rJ hf]
 have habs:=LS hf a;have hpat:=aIj h;rw[Ri hf];have key:C3 f m (sF f a) (Am f a) (Ao f a)=(BU f a,0):=by
  have hbits:∃t,AE (Am f a) (Ao f a)=t/\t<=fX f/\Cc f t=Ao f a/\Ao f a+(Ag (Am f a):Int)-1=t:=by
   refine⟨_,rfl,?_,?_,rfl⟩
   ·unfold AE Ao;by_cases he:eF f a=0
    ·have hm:Am f a=mF f a:=by unfold Am;rw[if_pos he]
     have:=Dz (n:=Am f a) (k:=fP f-1) (by rw[hm];exact hM);rw[if_pos he];omega
    ·have hm:Am f a=mF f a+2^(fP f-1):=by unfold Am;rw[if_neg he]
     have:=Dz (n:=Am f a) (k:=fP f) (by rw[hm];omega);rw[if_neg he];omega
   ·unfold Cc AE Ao;by_cases he:eF f a=0
    ·have hm:Am f a=mF f a:=by unfold Am;rw[if_pos he]
     have hb:=Dz (n:=Am f a) (k:=fP f-1) (by rw[hm];exact hM);rw[if_pos he,if_pos (by omega)];omega
    ·have hm:Am f a=mF f a+2^(fP f-1):=by unfold Am;rw[if_neg he]
     have hb:=Dz (n:=Am f a) (k:=fP f) (by rw[hm];omega);have hb2:=LW (n:=Am f a) (k:=fP f-1) (by rw[hm];omega);rw[if_neg he];by_cases h1:eF f a=1
     ·rw[h1];split<;>omega
     ·rw[if_neg (by omega)];omega
  obtain⟨t,ht,ht2,hlow,htb⟩:=hbits;have hcut:DA (Am f a) (Ao f a) (Ao f a) false=0:=by rw[QT,YH (mh _)]
  have hcn:BC m (sF f a) (Am f a) (Ao f a) (Ao f a) false=Am f a:=by
   unfold BC;rw[if_neg (fun hh=>hh.1 hcut),YC (mh _),mq];simp
  unfold C3;rw[ht,if_neg (by omega),hlow];dsimp only;rw[hcn,if_neg (by omega),hcut,if_pos rfl];congr 1;rw[habs];unfold Ao Am;by_cases he:eF f a=0
  ·rw[if_pos he,if_pos he,he,dw,kw,mq];simp
  ·rw[if_neg he,if_neg he];rw[show(1-(fX f:Int)-(fP f:Int)+1+((eF f a:Int)-1)-(1-(fX f:Int)-(fP f:Int)+1)).toNat=eF f a-1 by omega];obtain⟨k,hk⟩:∃k,eF f a=k+1:=⟨eF f a-1,by omega⟩
   rw[hk,Nat.add_sub_cancel,br,fx,ar k];omega
 rw[key];dsimp only;rw[←hpat]
end VL
namespace VL
open Go Vx
def qm(f:Int):Int:=1-(fX f:Int)-(fP f:Int)+1
def CH(m:Int)(neg:Bool)(n j:Nat):Nat:=if CG (n%2^j) j≠0/\Dh m neg (decide (n/2^j%2=1)) (CG (n%2^j) j)=true then n/2^j+1 else n/2^j
def EK(f m:Int)(neg:Bool)(n:Nat):Nat:=if n<2^fP f then n else(Ag n-fP f)*2^(fP f-1)+CH m neg n (Ag n-fP f)
def Yi(f m:Int)(neg:Bool):Nat:=if MB m neg then A2 f else A2 f-1
theorem R3(m:Int)(neg:Bool)(n j:Nat):n/2^j<=CH m neg n j/\CH m neg n j<=n/2^j+1:=by
 unfold CH;split<;>omega
theorem gH{f:Int}(hf:Fm f){n:Nat}(h:¬n<2^fP f):1<=Ag n-fP f/\2^(fP f-1)<=n/2^(Ag n-fP f)/\n/2^(Ag n-fP f)<2^fP f:=by
 have hP:=CZ hf;have hb:=LW (n:=n) (k:=fP f) (by omega);obtain⟨j,hj⟩:∃j,Ag n=fP f+j:=⟨Ag n-fP f,by omega⟩
 have h1:=FM n;have h2:=LX (n:=n) (by have:=ah (fP f);omega);rw[hj]at h1 h2⊢;rw[io];refine⟨by omega,?_,?_⟩
 ·rw[gn (ah _),←ba];refine Nat.le_trans (aj (by decide) ?_) h2;omega
 ·rw[bg (ah _),←ba];exact h1
theorem vU{f:Int}(hf:Fm f):2^fP f=2*2^(fP f-1):=by
 have hP:=CZ hf;rw[←im,kv,lf (by omega)]
theorem uX{f:Int}(hf:Fm f)(m:Int)(neg:Bool){n:Nat}(h0:n≠0):
  C3 f m neg n (qm f)=if A2 f<=EK f m neg n then(Yi f m neg,20)else(EK f m neg n,if n<2^fP f then 0 else if CG (n%2^(Ag n-fP f)) (Ag n-fP f)=0 then 0 else 16):=by
 have hP:=CZ hf;have hX:=Ma hf;have h2p:=vU hf;have hpp:=ah (fP f-1);have hinf:=fI hf;have hb1:=dS h0;have htop:AE n (qm f)=qm f+(Ag n:Int)-1:=rfl;have hqm:qm f=1-(fX f:Int)-(fP f:Int)+1:=rfl;unfold C3;by_cases h:n<2^fP f
 ·have hb:=Dz h;have hlow:Cc f (AE n (qm f))=qm f:=by unfold Cc;split<;>omega
  have hmu:EK f m neg n=n:=by unfold EK;rw[if_pos h]
  have hcut:DA n (qm f) (qm f) false=0:=by rw[QT,YH (mh _)]
  have hcn:BC m neg n (qm f) (qm f) false=n:=by
   unfold BC;rw[if_neg (fun hh=>hh.1 hcut),YC (mh _),mq];simp
  have hlt:2*2^(fP f-1)<=(2*fX f+1)*2^(fP f-1):=al _ (by omega);rw[if_neg (show ¬AE n (qm f)>fX f by omega),hlow,hmu,if_neg (show ¬A2 f<=n by omega)];dsimp only;rw[hcn,if_neg (show ¬qm f+(Ag n:Int)-1>fX f by omega),hcut,if_pos rfl,if_pos h,←hqm,mq];simp
 ·obtain⟨hj1,hq1,hq2⟩:=gH hf h;have hblen:(Ag n:Int)=(fP f:Int)+((Ag n-fP f:Nat):Int):=by omega
  obtain⟨hc1,hc2⟩:=R3 m neg n (Ag n-fP f);have hmu:EK f m neg n=(Ag n-fP f)*2^(fP f-1)+CH m neg n (Ag n-fP f):=by unfold EK;rw[if_neg h]
  rw[hmu,if_neg h];have hlow:Cc f (AE n (qm f))=qm f+((Ag n-fP f:Nat):Int):=by unfold Cc;rw[if_neg (by omega)];omega
  have htiny:¬DD f m neg n (qm f) false:=fun hh=>by have:=hh.1;omega
  have hcr:DA n (qm f) (qm f+((Ag n-fP f:Nat):Int)) false=CG (n%2^(Ag n-fP f)) (Ag n-fP f):=by
   rw[QT,YG (by omega),show(qm f+((Ag n-fP f:Nat):Int)-qm f).toNat=Ag n-fP f by omega]
  have hcn:BC m neg n (qm f) (qm f+((Ag n-fP f:Nat):Int)) false=CH m neg n (Ag n-fP f):=by
   unfold BC CH;rw[hcr,YB (by omega),show(qm f+((Ag n-fP f:Nat):Int)-qm f).toNat=Ag n-fP f by omega]
  rw[hlow];dsimp only;rw[hcn,hcr,show(qm f+((Ag n-fP f:Nat):Int)-(1-(fX f:Int)-(fP f:Int)+1)).toNat=Ag n-fP f by omega];generalize Ag n-fP f=j at *
  generalize CH m neg n j=u at *
  generalize n/2^j=Q at *
  by_cases ht:AE n (qm f)>fX f
  ·have hj2:2*fX f+1<=j+1:=by omega
   have:=al (2^(fP f-1)) hj2;rw[bl j,fh]at this;rw[if_pos ht,if_pos (show A2 f<=j*2^(fP f-1)+u by omega)];rfl
  ·rw[if_neg ht];rcases aq u (2^fP f)with hu|hu
   ·have hbu:=Dz hu;have hj2:j+2<=2*fX f+1:=by omega
    have:=al (2^(fP f-1)) hj2;rw[bl]at this;rw[if_neg (show ¬qm f+(j:Int)+(Ag u:Int)-1>fX f by omega),if_neg (show ¬A2 f<=j*2^(fP f-1)+u by omega),if_neg htiny]
   ·have hbu:=LW hu;have hbu2:=Dz (n:=u) (k:=fP f+1) (by rw[dm];omega);by_cases hj2:j+3<=2*fX f+1
    ·have:=al (2^(fP f-1)) hj2;rw[bl]at this;rw[if_neg (show ¬qm f+(j:Int)+(Ag u:Int)-1>fX f by omega),if_neg (show ¬A2 f<=j*2^(fP f-1)+u by omega),if_neg htiny]
    ·have hj3:2*fX f+1<=j+2:=by omega
     have:=al (2^(fP f-1)) hj3;rw[bl j]at this;rw[if_pos (show qm f+(j:Int)+(Ag u:Int)-1>fX f by omega),if_pos (show A2 f<=j*2^(fP f-1)+u by omega)];rfl
theorem aRO{n k:Nat}(h:n<=k):Ag n<=Ag k:=Dz (aw h (FM k))
theorem aR2{r r' j:Nat}(h:r<=r'):CG r j<=CG r' j:=by
 unfold CG;generalize 2^(j-1)=H;by_cases h0:r=0
 ·rw[if_pos h0];exact dv _
 rw[if_neg h0,if_neg (show ¬r'=0 by omega)];by_cases h1:r'<H
 ·rw[if_pos (show r<H by omega),if_pos h1];exact bd _
 rw[if_neg h1];by_cases h2:r'=H
 ·rw[if_pos h2];split
  ·decide
  ·rw[if_pos (by omega)];exact bd _
 ·rw[if_neg h2];split
  ·decide
  ·split<;>decide
theorem aR1(r j:Nat):CG r j<=3:=by
 unfold CG;split
 ·decide
 ·split
  ·decide
  ·split<;>decide
theorem bA2{m:Int}(hm:0<=m/\m<=5)(neg odd:Bool){c c':Nat}(h:c<=c')(hc':c'<=3)(hu:c≠0/\Dh m neg odd c=true):c'≠0/\Dh m neg odd c'=true:=by
 obtain⟨h0,h1⟩:=hu;refine⟨by omega,?_⟩;rcases(show c=1∨c=2∨c=3 by omega)with rfl|rfl|rfl<;>rcases(show c'=1∨c'=2∨c'=3 by omega)with rfl|rfl|rfl<;>rcases tL hm with rfl|rfl|rfl|rfl|rfl|rfl<;>cases neg<;>cases odd<;>first|rfl|(exfalso;omega)|(revert h1;decide)
theorem aR8{m:Int}(hm:0<=m/\m<=5)(neg:Bool){n k j:Nat}(h:n<=k):CH m neg n j<=CH m neg k j:=by
 have hq:n/2^j<=k/2^j:=Nat.div_le_div_right h;have h1:=R3 m neg n j;have h2:=R3 m neg k j;rcases aq (n/2^j) (k/2^j)with hlt|hge
 ·omega
 ·have he:n/2^j=k/2^j:=by omega
  have hr:n%2^j<=k%2^j:=by
   have a1:=cg n (2^j);have a2:=cg k (2^j);rw[he]at a1;omega
  unfold CH;rw[he];have hu:=bA2 hm neg (decide (k/2^j%2=1)) (aR2 (j:=j) hr) (aR1 _ _);split
  ·rename_i hh;rw[if_pos (hu hh)];omega
  ·split<;>omega
theorem aUo{f m:Int}(hf:Fm f)(hm:0<=m/\m<=5)(neg:Bool){n k:Nat}(h:n<=k):EK f m neg n<=EK f m neg k:=by
 have h2p:=vU hf;unfold EK;by_cases h1:n<2^fP f
 ·by_cases h2:k<2^fP f
  ·rw[if_pos h1,if_pos h2];exact h
  ·obtain⟨hj1,hq1,_⟩:=gH hf h2;have hc:=(R3 m neg k (Ag k-fP f)).1;have:=al (2^(fP f-1)) hj1;rw[if_pos h1,if_neg h2];omega
 ·have h2:¬k<2^fP f:=by omega
  obtain⟨hj1,hq1,hq2⟩:=gH hf h1;obtain⟨hj1',hq1',hq2'⟩:=gH hf h2;have hc:=R3 m neg n (Ag n-fP f);have hc':=R3 m neg k (Ag k-fP f);have hb:=aRO h;rw[if_neg h1,if_neg h2];rcases aq (Ag n-fP f) (Ag k-fP f)with hlt|hge
  ·have:=al (2^(fP f-1)) hlt;rw[kv,bl]at this;omega
  ·have he:Ag n-fP f=Ag k-fP f:=by omega
   rw[he];have:=aR8 hm neg (j:=Ag k-fP f) h;omega
def Sl(f m:Int)(neg:Bool)(n:Nat):Nat:=if n=0 then 0 else(C3 f m neg n (qm f)).1
def Su(f m:Int)(S:Int):Int:=if S<0 then -(Sl f m true S.natAbs:Int)else(Sl f m false S.natAbs:Int)
theorem aHT{f m:Int}(hf:Fm f)(hm:0<=m/\m<=5)(neg:Bool){n k:Nat}(h:n<=k):Sl f m neg n<=Sl f m neg k:=by
 unfold Sl;by_cases h0:n=0
 ·rw[if_pos h0];exact dv _
 ·rw[if_neg h0,if_neg (by omega),uX hf m neg h0,uX hf m neg (by omega)];have hmm:=aUo hf hm neg h;have hp:=sU hf;unfold Yi;by_cases h1:A2 f<=EK f m neg n
  ·rw[if_pos h1,if_pos (show A2 f<=EK f m neg k by omega)];exact bd _
  ·rw[if_neg h1];by_cases h2:A2 f<=EK f m neg k
   ·rw[if_pos h2];dsimp only;split<;>omega
   ·rw[if_neg h2];exact hmm
theorem aVv{f m:Int}(hf:Fm f)(hm:0<=m/\m<=5){S T:Int}(h:S<=T):Su f m S<=Su f m T:=by
 unfold Su;by_cases hS:S<0
 ·rw[if_pos hS];by_cases hT:T<0
  ·rw[if_pos hT];have:=aHT hf hm true (n:=T.natAbs) (k:=S.natAbs) (by omega);omega
  ·rw[if_neg hT];omega
 ·rw[if_neg hS,if_neg (by omega)];have:=aHT hf hm false (n:=S.natAbs) (k:=T.natAbs) (by omega);omega
end VL
namespace VL
open Go Vx
def Xm(f m:Int)(a b:Nat):Nat×Nat:=bif Be f a||Be f b then(B5 f,1)else bif nan f a||nan f b then(B5 f,0)else bif(At f a&&At f b)&&!(sF f a==sF f b)then(B5 f,1)else bif At f a then(a,0)else bif At f b then(b,0)else DK f m (sF f a) (Am f a) (Ao f a) (sF f b) (Am f b) (Ao f b)
theorem aRx(f m:Int)(a b:Nat):TL f m a b=(((Xm f m a b).1:Int),((Xm f m a b).2:Int),0,()):=by
 unfold TL Xm;cases Be f a||Be f b<;>cases nan f a||nan f b<;>cases(At f a&&At f b)&&!(sF f a==sF f b)<;>cases At f a<;>cases At f b<;>rfl
theorem bAN{f m:Int}(hf:Fm f)(hm:0<=m/\m<=5)(nx:Bool)(X:Nat)(ex:Int)(ny:Bool)(Y:Nat)(ey:Int):
  ∃s x g,DK f m nx X ex ny Y ey=(Ch f s x,g)/\x<=A2 f:=by
 obtain⟨s,_,x,g,h,_,h2,_⟩:=bAK hf hm nx X ex ny Y ey;exact⟨s,x,g,h,h2⟩
theorem aRw{f m:Int}(hf:Fm f)(hm:0<=m/\m<=5){a b:Nat}(ha:Aj f a=0)(hb:Aj f b=0):Aj f (Xm f m a b).1=0:=by
 have hn:=(Ym hf).2;unfold Xm;cases Be f a||Be f b
 ·cases nan f a||nan f b
  ·cases(At f a&&At f b)&&!(sF f a==sF f b)
   ·cases At f a
    ·cases At f b
     ·obtain⟨s,x,g,h,hx⟩:=bAN hf hm (sF f a) (Am f a) (Ao f a) (sF f b) (Am f b) (Ao f b);simp only[cond_false];rw[h];exact fL hf _ (aw hx (sT hf))
     ·exact hb
    ·exact ha
   ·exact hn
  ·exact hn
 ·exact hn
theorem aVt{f:Int}(hf:Fm f){a:Nat}(h:Av f a≠0):Am f a≠0:=fun hm=>by
 have habs:BU f a≠0:=fun h0=>h (by unfold Av;rw[h0];cases sF f a<;>rfl)
 have hpp:=ah (fP f-1)
 unfold Am at hm
 split at hm
 ·rename_i he
  exact habs ((aLj hf a).2 ⟨he,hm⟩)
 ·omega
end VL
namespace VL
open Go Vx
def vI(f:Int)(neg:Bool)(X:Nat)(e:Int):Int:=bif neg then -((X*2^(e-qm f).toNat:Nat):Int)else((X*2^(e-qm f).toNat:Nat):Int)
theorem aI3{f:Int}(hf:Fm f)(m:Int)(neg:Bool){N:Nat}(hN:N≠0){e:Int}(he:qm f<=e):
  AO f m neg N e false=(Ch f neg (C3 f m neg (N*2^(e-qm f).toNat) (qm f)).1,(C3 f m neg (N*2^(e-qm f).toNat) (qm f)).2):=by
 have h:=UY (f:=f) (m:=m) (neg:=neg) hf hN (e-qm f).toNat (qm f);rw[show qm f+((e-qm f).toNat:Int)=e by omega]at h;rw[←h,Ri hf]
end VL
namespace VL
open Go Vx
theorem YZ(f:Int)(a:Nat):qm f<=Ao f a:=by
 unfold Ao qm;split<;>omega
def sl(V:Nat->Int)(i:Nat):List Int:=[if 0<i then V 0 else 0,if 1<i then V 1 else 0,if 2<i then V 2 else 0,if 3<i then V 3 else 0,if 4<i then V 4 else 0,if 5<i then V 5 else 0]
end VL
namespace VL
open Go Vx
def vA(f:Int)(a:Nat):Int:=vI f (sF f a) (Am f a) (Ao f a)
theorem aVw(f m:Int):Su f m 0=0:=by
 unfold Su Sl;rw[if_neg (by omega)];rfl
theorem aE3{f:Int}(hf:Fm f){a:Nat}(h:BU f a=0):Am f a=0:=by
 have h0:=(aLj hf a).1 h;unfold Am;rw[if_pos h0.1];exact h0.2
theorem aJk{f:Int}(hf:Fm f){a:Nat}(ha:Aj f a=0)(fa:eF f a≠AM f):Av f a=Su f 0 (vA f a):=by
 by_cases h0:Am f a=0
 ·have hv:vA f a=0:=by
   unfold vA vI;rw[h0,dp];cases sF f a<;>rfl
  rw[hv,aVw];by_cases hp:Av f a=0
  ·exact hp
  ·exact absurd h0 (aVt hf hp)
 ·have hr:=aZy (m:=0) hf ha fa h0;rw[aI3 hf 0 (sF f a) h0 (YZ f a)]at hr;have h1:Ch f (sF f a) (C3 f 0 (sF f a) (Am f a*2^(Ao f a-qm f).toNat) (qm f)).1=a:=congrArg Prod.fst hr;have hn0:Am f a*2^(Ao f a-qm f).toNat≠0:=jx (ii (by omega) (ah _));have hle:=YF hf 0 (sF f a) (Am f a*2^(Ao f a-qm f).toNat) (qm f);have h2:Av f a=Av f (Ch f (sF f a) (C3 f 0 (sF f a) (Am f a*2^(Ao f a-qm f).toNat) (qm f)).1):=by rw[h1]
  rw[h2,aUl _ (aw hle (sT hf))];unfold vA vI Su Sl;generalize Am f a*2^(Ao f a-qm f).toNat=n at *
  cases sF f a
  ·simp only[cond_false];rw[if_neg (show ¬((n:Int)<0) by omega),oo,if_neg hn0]
  ·simp only[cond_true];rw[if_pos (show(-(n:Int)<0) by omega),Int.natAbs_neg,oo,if_neg hn0]
theorem aIo(f:Int)(a:Nat):(Av f a).natAbs=BU f a:=by
 unfold Av;cases sF f a<;>simp
theorem bAj{f:Int}(hf:Fm f){a b:Nat}(h:Av f a=Av f b):vA f a=vA f b:=by
 have habs:BU f a=BU f b:=by rw[←aIo,←aIo,h]
 by_cases h0:BU f a=0
 ·have e1:=aE3 hf h0;have e2:=aE3 hf (habs▸h0);unfold vA vI;rw[e1,e2,dp,dp];cases sF f a<;>cases sF f b<;>rfl
 ·have hs:sF f a=sF f b:=by
   unfold Av at h;rw[habs]at h h0;cases h1:sF f a<;>cases h2:sF f b<;>rw[h1,h2]at h<;>simp only[cond_true,cond_false]at h<;>first|rfl|omega
  have he:eF f a=eF f b:=by rw[rG hf,rG hf,habs]
  have hm:mF f a=mF f b:=by rw[tH hf,tH hf,habs]
  unfold vA Am Ao;rw[hs,he,hm]
end VL
namespace VL
open Go Vx
def tz(n:Nat):Nat:=if n=0 then 0 else if n%2=1 then 0 else tz (n/2)+1
termination_by n
decreasing_by omega
theorem aLf:∀(t k:Nat),tz (2^t*(2*k+1))=t
 |0,k=>by
  rw[tz,go,fh,if_neg (by omega),if_pos (by omega)]
 |t+1,k=>by
  have e:2^(t+1)*(2*k+1)=2*(2^t*(2*k+1)):=by rw[dm,ar (2^t) 2,ax]
  have hp:0<2^t*(2*k+1):=ii (ah t) (by omega)
  have ih:=aLf t k
  rw[e]
  generalize 2^t*(2*k+1)=n at *
  rw[tz,if_neg (by omega),if_neg (by omega),show 2*n/2=n by omega,ih]
theorem kO{n:Nat}(h:n≠0):∃k,n=2^tz n*(2*k+1):=by
 obtain⟨t,k,e⟩:=aLd (x:=n) (by omega);refine⟨k,?_⟩;have:=aLf t k;rw[←e]at this;rw[this];exact e
abbrev v5:=Ab (.pair (.bool) (.pair (.slice (.int .u64)) (.pair (.int .i64) (.unit))))
def dy(s:Bool)(n:Nat)(e:Int):v5:=(s,Dw n,e,())
theorem aSv:dy false 0 0=(false,[],0,()):=by unfold dy;rw[EO]
end VL
namespace VL
open Go Vx
theorem aPn(a b:List Nat)(ha:∀x∈a,x<2^64)(hb:∀x∈b,x<2^64)(hla:a.length<=1000000)(hab:a.length=b.length):
  bD ((Wd a,(Wd b,((a.length:Int)-1,()))),())=some (if nv (2^64) a=nv (2^64) b then .inl ((),())else .inr (((if nv (2^64) a<nv (2^64) b then(-1:Int)else 1),()),())):=by
 have key:=EJ (aHz Ai.pre Ai.F) (fun x=>(x.1.2.2.1+1).toNat)
  (fun x=>∃j:Nat,j<=a.length/\nv (2^64) (a.drop j)=nv (2^64) (b.drop j)/\x=((Wd a,(Wd b,((j:Int)-1,()))),()))
  (fun _=>if nv (2^64) a=nv (2^64) b then .inl ((),())else .inr (((if nv (2^64) a<nv (2^64) b then(-1:Int)else 1),()),())) ?_ ((Wd a,(Wd b,((a.length:Int)-1,()))),())
  ⟨a.length,bd _,by rw[jq,hab,jq],rfl⟩
 ·exact key
 intro L x hx hL;obtain⟨j,hj,hd,rfl⟩:=hx;unfold Ue;rcases j with _|i
 ·have e1:decide ((((0:Nat):Int)-1)>=0)=false:=rfl;rw[lk,lk]at hd;simp only[e1,cond_false,if_pos hd]
 ·have e0:(((i+1:Nat):Int)-1)=(i:Int):=by omega
  have e2:aa .i64 ((i:Int)-1)=(i:Int)-1:=AB (by omega);have e3:decide ((i:Int)>=0)=true:=decide_eq_true (by omega);simp(disch:=omega) only[e0,e2,e3,Cx,Ck,Cy,Cl,BQ,Cz,Cg,Cf,Ct,Cs,Cr,Cq,Co,Cn,Cv,Cu,Cp,Cb,Bi,B3,Bn,BD,Ca,ag,be,cond_true,cond_false,bh,bi,cq,az,bj,ck,bw,bt,bf,cd,ca,cv,AI,CP];rcases gl (a.getD i 0) (b.getD i 0)with h|h|h
  ·have hr:=Rj (by decide) ha (by omega) (by omega) hd h;simp(disch:=omega) only[Cx,Ck,Cy,Cl,BQ,Cz,Cg,Cf,Ct,Cs,Cr,Cq,Co,Cn,Cv,Cu,Cp,Cb,Bi,B3,Bn,BD,Ca,ag,be,cond_true,cond_false,bh,bi,cq,az,bj,ck,bw,bt,bf,cd,ca,cv];rw[if_neg (by omega),if_pos hr]
  ·simp(disch:=omega) only[Cx,Ck,Cy,Cl,BQ,Cz,Cg,Cf,Ct,Cs,Cr,Cq,Co,Cn,Cv,Cu,Cp,Cb,Bi,B3,Bn,BD,Ca,ag,be,cond_true,cond_false,bh,bi,cq,az,bj,ck,bw,bt,bf,cd,ca,cv];refine hL _ ⟨i,by omega,?_,rfl⟩ (by simp only[ag];omega);rw[Yo _ a i (by omega),Yo _ b i (by omega),hd,h]
  ·have hr:=Rj (by decide) hb (by omega) (by omega) hd.symm h;simp(disch:=omega) only[Cx,Ck,Cy,Cl,BQ,Cz,Cg,Cf,Ct,Cs,Cr,Cq,Co,Cn,Cv,Cu,Cp,Cb,Bi,B3,Bn,BD,Ca,ag,be,cond_true,cond_false,bh,bi,cq,az,bj,ck,bw,bt,bf,cd,ca,cv];rw[if_neg (by omega),if_neg (by omega)]
theorem Ta{x:Nat}(hx:x<(2^64)^5000):RF (Dw x,())=some (Dw x,()):=by
 have:=DZ (dg (2^64) x) (Dq hx).2;rw[QW (by decide)]at this;exact this
theorem mP{x y:Nat}(hx:x<(2^64)^5000)(hy:y<(2^64)^5000):VZ (Dw x,Dw y,())=some (if x=y then 0 else if x<y then -1 else 1,()):=by
 show iJ Ai.pre Ai.F bD (Dw x) (Dw y)=_;unfold iJ;have p0:=Ta hx;have p1:=Ta hy;have hX:=Dq hx;have hY:=Dq hy;have hlx:=hX.2;simp only[C9 p0,C7 p0,C9 p1,C7 p1,cond_true];clear p0 p1;rcases gl (dg (2^64) x).length (dg (2^64) y).length with h|h|h
 ·have hr:=rD (by decide) h;unfold Dw;simp(disch:=omega) only[Cx,Ck,Cy,Cl,BQ,Cz,Cg,Cf,Ct,Cs,Cr,Cq,Co,Cn,Cv,Cu,Cp,Cb,Bi,B3,Bn,BD,Ca,ag,be,cond_true,cond_false,bh,bi,cq,az,bj,ck,bw,bt,bf,cd,ca,cv,AI];rw[if_neg (by omega),if_pos hr]
 ·have hw:=aPn _ _ hX.1 hY.1 hlx h;rw[CL,CL]at hw;have e2:aa .i64 (((dg (2^64) x).length:Int)-1)=((dg (2^64) x).length:Int)-1:=AB (by omega);unfold Dw;simp(disch:=omega) only[Cx,Ck,Cy,Cl,BQ,Cz,Cg,Cf,Ct,Cs,Cr,Cq,Co,Cn,Cv,Cu,Cp,Cb,Bi,B3,Bn,BD,Ca,ag,be,cond_true,cond_false,bh,bi,cq,az,bj,ck,bw,bt,bf,cd,ca,cv,AI,e2,hw];by_cases he:x=y
  ·rw[if_pos he,if_pos he];first|rfl|skip
  ·rw[if_neg he,if_neg he];first|rfl|skip
 ·have hr:=rD (by decide) h;unfold Dw;simp(disch:=omega) only[Cx,Ck,Cy,Cl,BQ,Cz,Cg,Cf,Ct,Cs,Cr,Cq,Co,Cn,Cv,Cu,Cp,Cb,Bi,B3,Bn,BD,Ca,ag,be,cond_true,cond_false,bh,bi,cq,az,bj,ck,bw,bt,bf,cd,ca,cv,AI];rw[if_neg (by omega),if_neg (by omega)]
theorem YK{out a:List Nat}{i v:Nat}(hol:out.length=i)(h:i<a.length):(out++a.drop i).set i v=(out++[v])++a.drop (i+1):=by
 rw[ga _ _ (by omega),hol,gw,dr h,jt,ee];rfl
theorem aTG{out a:List Nat}{i:Nat}(hol:out.length=i):(out++a.drop i).getD i 0=a.getD i 0:=by
 rw[ak,List.getElem?_append_right (by omega),hol,gw,di,cu,←ak]
theorem aPk(a b:List Nat)(ha:∀x∈a,x<2^64)(hb:∀x∈b,x<2^64)(hla:a.length<=1000000)(hba:b.length<=a.length)(hv:nv (2^64) b<=nv (2^64) a):
  WV (((a.length:Int),(Wd b,((0:Int),((0:Int),((),()))))),(Wd a,()))=some (.inl (((),()),(Wd (pd (2^64) a.length (nv (2^64) a-nv (2^64) b)),()))):=by
 have key:=EJ (aHw BO.pre BO.F A3.pre A3.F Ai.pre Ai.F) (fun x=>a.length-x.1.2.2.2.1.toNat)
  (fun x=>∃(i:Nat) (out:List Nat) (c:Nat),i<=a.length/\out.length=i/\(∀x∈out,x<2^64)/\c<=1/\nv (2^64) (a.take i)+(2^64)^i*c=nv (2^64) (b.take i)+nv (2^64) out /\
   x=(((a.length:Int),(Wd b,((c:Int),((i:Int),((),()))))),(Wd (out++a.drop i),())))
  (fun _=>.inl (((),()),(Wd (pd (2^64) a.length (nv (2^64) a-nv (2^64) b)),()))) ?_ (((a.length:Int),(Wd b,((0:Int),((0:Int),((),()))))),(Wd a,()))
  ⟨0,[],0,dv _,rfl,(fun x hx=>by simp at hx),by decide,by simp[nv],rfl⟩
 ·exact key
 intro L x hx hL;obtain⟨i,out,c,hi,hol,hod,hc,hov,rfl⟩:=hx;unfold Ub;rcases aq i a.length with hlt|hge
 ·have hxa:=CS (by decide) ha i;have hxb:=CS (by decide) hb i;have hna:=EL (2^64) a i;have hnb:=EL (2^64) b i;have hzb:b.length<=i->b.getD i 0=0:=fun h=>by rw[ak,dq h];rfl
  have hset:=fun v=>YK (v:=v) hol hlt;have hlen:(out++a.drop i).length=a.length:=by simp;omega
  have hget:=aTG (a:=a) hol;generalize hda:a.getD i 0=da at *
  generalize hdb:b.getD i 0=db at *
  have hgo:∀c' v:Nat,c'<=1->v<2^64->da+2^64*c'=db+c+v->L (((a.length:Int),(Wd b,((c':Int),(((i+1:Nat):Int),((),()))))),(Wd (out++[v]++a.drop (i+1)),()))=_:=fun c' v h1 h2 h3=>
   hL _ ⟨i+1,out++[v],c',by omega,by simp;omega,Xu hod h2,h1,by
    rw[hna,hnb,Yp,hol,dm];exact aUk hov h3,rfl⟩ (by simp only[ag];omega)
  have hgo2:=hgo (if da<db+c then 1 else 0) ((da+2^64-db-c)%2^64) (by split<;>omega) (bo _ (by decide)) (by split<;>omega);have hF:=YS da db c hc hxa hxb;have hP:=YT (da:Int) (db:Int) c hc;rcases aq i b.length with hib|hib
  ·simp(disch:=omega) only[Cx,Ck,Cy,Cl,BQ,Cz,Cg,Cf,Ct,Cs,Cr,Cq,Co,Cn,Cv,Cu,Cp,Cb,Bi,B3,Bn,BD,Ca,ag,be,cond_true,cond_false,bh,bi,cq,az,bj,ck,bw,bt,bf,cd,ca,cv,AI,CP,hdb,hget,hF,hP,hlen,Fa,hset];exact hgo2
  ·have h0:=hzb hib;rw[h0]at hF hP;simp(disch:=omega) only[Cx,Ck,Cy,Cl,BQ,Cz,Cg,Cf,Ct,Cs,Cr,Cq,Co,Cn,Cv,Cu,Cp,Cb,Bi,B3,Bn,BD,Ca,ag,be,cond_true,cond_false,bh,bi,cq,az,bj,ck,bw,bt,bf,cd,ca,cv,AI,CP,hget];have hF':A3.F ((da:Int),((0:Int),((c:Int),())))=_:=hF;have hP':A3.pre ((da:Int),((0:Int),((c:Int),())))=true:=hP;rw[h0]at hgo2;simp(disch:=omega) only[Cx,Ck,Cy,Cl,BQ,Cz,Cg,Cf,Ct,Cs,Cr,Cq,Co,Cn,Cv,Cu,Cp,Cb,Bi,B3,Bn,BD,Ca,ag,be,cond_true,cond_false,bh,bi,cq,az,bj,ck,bw,bt,bf,cd,ca,cv,hF',hP',hlen,Fa,hset];exact hgo2
 ·have e:i=a.length:=by omega
  subst e;rw[ej,co hba]at hov;have hlt:=D3 (B:=2^64) (by decide) out hod;rw[hol]at hlt;have hc0:(2^64)^a.length*c=0:=by
   rcases(show c=0∨c=1 by omega)with h|h
   ·rw[h,dw]
   ·rw[h,fx]at hov;omega
  have ho:=t6 (B:=2^64) (v:=nv (2^64) a-nv (2^64) b) (by decide) hod hol (by omega);rw[jq,df];simp(disch:=omega) only[Cx,Ck,Cy,Cl,BQ,Cz,Cg,Cf,Ct,Cs,Cr,Cq,Co,Cn,Cv,Cu,Cp,Cb,Bi,B3,Bn,BD,Ca,ag,be,cond_true,cond_false,bh,bi,cq,az,bj,ck,bw,bt,bf,cd,ca,cv,AI];rw[←ho]
theorem aAd(l:List Nat)(hl:Ws l):RB (Wd l,())=some (Dw (nv (2^64) l),()):=by
 show gZ Ai.pre Ai.F (Wd l)=_;unfold gZ;have p0:=DZ l hl.2;have hle:=(DW l).1;have h2:=hl.2;have e3:decide ((((Al l).length:Nat):Int)*8<=140737488355328)=true:=decide_eq_true (by omega);simp(disch:=omega) only[Cx,Ck,Cy,Cl,BQ,Cz,Cg,Cf,Ct,Cs,Cr,Cq,Co,Cn,Cv,Cu,Cp,Cb,Bi,B3,Bn,BD,Ca,ag,be,cond_true,cond_false,bh,bi,cq,az,bj,ck,bw,bt,bf,cd,ca,cv,C9 p0,C7 p0,AI,e3,fj,ku,gw];rw[co (by rw[AI];exact bd _),kt,df,GQ (by decide) l hl.1];rfl
theorem aOH{x y:Nat}(hx:x<(2^64)^5000)(h:y<=x):V0 (Dw x,Dw y,())=some (Dw (x-y),0,()):=by
 show iK P7.pre P7.F Dc.pre Dc.F By.pre By.F CA.pre CA.F Ai.pre Ai.F S2.pre S2.F (Dw x) (Dw y)=_;unfold iK;have hy:y<(2^64)^5000:=aw h hx;have p0:=mP hx hy;have p1:=aAd (dg (2^64) x) (Dq hx);rw[CL]at p1;have p1:RB (Dw x,())=some (Dw x,()):=p1;have p2:=Ta hy;have z1:decide ((if x=y then(0:Int)else if x<y then -1 else 1)<0)=false:=by
  by_cases he:x=y
  ·rw[if_pos he];rfl
  ·rw[if_neg he,if_neg (by omega)];rfl
 have hX:=Dq hx;have hY:=Dq hy;have hlx:=hX.2;have p3:VP (Dw x,Dw y,())=some (Dw (x-y),()):=by
  show h9 BO.pre BO.F A3.pre A3.F Ai.pre Ai.F WV (Dw x) (Dw y)=_;unfold h9;have hw:=aPk (dg (2^64) x) (dg (2^64) y) hX.1 hY.1 hlx (aFW (by decide) h) (by rw[CL,CL];exact h);rw[CL,CL]at hw;have q1:=aAg (pd (2^64) (dg (2^64) x).length (x-y)) (by rw[FX];exact hlx);have hlt:=XD (B:=2^64) (by decide) x;rw[GQ (by decide) _ (UN (by decide) _ _),UO (by decide) _ _ (by omega)]at q1;rw[show(Dw x).length=(dg (2^64) x).length from AI _];rw[show WV ((((dg (2^64) x).length:Int),(Dw y,((0:Int),((0:Int),((),()))))),(Dw x,()))=_ from hw];show(bif BO.pre (Wd (pd (2^64) (dg (2^64) x).length (x-y)),())then some (BO.F (Wd (pd (2^64) (dg (2^64) x).length (x-y)),()))else none)=_;simp only[aIt q1,aGG q1,cond_true];rfl
 simp only[uC p0,sB p0,cond_true,z1,cond_false,uA p1,r9 p1,C9 p2,C7 p2,aVA p3,aSZ p3]
def od(s:Bool)(n:Nat)(e:Int):Bool×Nat×Int:=if n=0 then(false,0,0)else(s,n/2^tz n,e+tz n)
def TU(t:Bool×Nat×Int):v5:=dy t.1 t.2.1 t.2.2
theorem Sr(s:Bool)(n:Nat)(e:Int):(od s n e=(false,0,0)/\n=0)∨((od s n e).1=s/\(od s n e).2.1%2=1/\n≠0/\n=2^tz n*(od s n e).2.1/\(od s n e).2.2=e+tz n):=by
 unfold od;by_cases h:n=0
 ·rw[if_pos h];exact .inl ⟨rfl,h⟩
 ·right;rw[if_neg h];obtain⟨k,hk⟩:=kO h;have hd:n/2^tz n=2*k+1:=by
   have:=gq (2*k+1) (ah (tz n));rw[←hk]at this;exact this
  dsimp only;rw[hd];exact⟨rfl,by omega,h,hk,rfl⟩
theorem vV{n k:Nat}(h:n<2^k)(h0:n≠0):tz n<k:=by
 obtain⟨j,hj⟩:=kO h0;have h1:2^tz n*1<=2^tz n*(2*j+1):=bm _ (by omega);exact(cm (a:=2) (by decide)).1 (by omega)
theorem aRK{n k:Nat}(h:n<2^k)(hk:k<=64*2000):n<(2^64)^2000:=by
 rw[Di];exact ao h (aj (by decide) hk)
theorem mO{x y:Nat}(hx:x<(2^64)^5000)(hy:y<(2^64)^5000):RD (Dw x,Dw y,())=some (Dw (x+y),()):=by
 have h1:(dg (2^64) x).length<=5000:=D0 (by decide) _ _ hx;have h2:(dg (2^64) y).length<=5000:=D0 (by decide) _ _ hy;have:=aAl (dg (2^64) x) (dg (2^64) y) (Dq hx) (Dq hy) (by rw[QW (by decide)];omega) (by rw[QW (by decide)];omega);rw[CL,CL]at this;exact this
end VL
namespace VL
open Go Vx
theorem Zu{x:Nat}(h0:x≠0)(h:x<2^64):Dw x=(x:Int)::[]:=by
 unfold Dw;rw[FQ (by decide) (by omega),bb h,cj h,D1];rfl
theorem aA5{f:Int}{a:Nat}(h:Aj f a=0)(hfin:eF f a≠AM f):Wy (f,(a:Int),())=some (TU (od (sF f a) (Am f a) (Ao f a)),0,()):=by
 obtain⟨hf,h0⟩:=FO h;have ha:=UM h;show jM Aq.pre Aq.F Dl.pre Dl.F Bu.pre Bu.F B2.pre B2.F f a=_;unfold jM;have h1:=CZ hf;have h2:=Fe hf;have h3:=FS hf;have h4:=Sa hf;have h5:=JF hf;have h6:=Ma hf;have hE:=eO hf a;have hM:=Ml f a;have hPp:2^(fP f-1)<=2^52:=aj (by decide) (by omega);have hpp:=ah (fP f-1);have p0:=Ji f a ha;have p1:=bA (fW f-fP f) (by omega);have p2:=mV hf a ha;have hr1:decide (0<=f)=true:=decide_eq_true hf.1;have hr2:decide (f<((4:Nat):Int))=true:=decide_eq_true hf.2;have r1:(BZ f).1=(fW f:Int):=rfl;have r2:(BZ f).2.1=(fP f:Int):=rfl;have r3:(BZ f).2.2.1=1-(fX f:Int):=rfl;have e1:aa .i64 ((fW f:Int)-(fP f:Int))=((fW f-fP f:Nat):Int):=Cl _ _ (by omega);have e2:aa .i64 ((fP f:Int)-1)=((fP f-1:Nat):Int):=BQ _ (by omega);have e3:Bb .u64 1 ((fP f-1:Nat):Int)=((2^(fP f-1):Nat):Int):=YM (by omega);have e4:Ap .u64 (mF f a:Int) ((2^(fP f-1):Nat):Int)=((mF f a+2^(fP f-1):Nat):Int):=by
  have:=Mq (a:=mF f a) (b:=1) (k:=fP f-1) hM (by omega);rwa [fh]at this
 have hfl:(((eF f a:Nat):Int)==((2^(fW f-fP f)-1:Nat):Int))=false:=by
  rw[Sn];exact beq_eq_false_iff_ne.2 hfin
 have ew:∀z:Int,-1000000<=z/\z<=1000000->aa .i64 z=z:=fun z hz=>AB (by omega);simp only[u6 hf,r1,r2,r3,hr1,hr2,HZ p0,HR p0,uI p2,sI p2,h,cond_true,bne_self_eq_false,cond_false,e1,e2,e3,e4,gF p1,fE p1,hfl,Bi];by_cases hz:eF f a=0
 ·have hg:(((eF f a:Nat):Int)==0)=true:=B3 _ hz;have hm:Am f a=mF f a:=by unfold Am;rw[if_pos hz]
  have hx:Ao f a=1-(fX f:Int)-(fP f:Int)+1:=by unfold Ao;rw[if_pos hz,kw]
  rw[hg,cond_true,hm,hx];by_cases hm0:mF f a=0
  ·rw[B3 _ hm0,cond_true];unfold od TU;rw[if_pos hm0,aSv]
  ·obtain⟨k,hk⟩:=kO hm0;have htl:=vV (n:=mF f a) (k:=53) (by omega) hm0;have p3:=mW (t:=tz (mF f a)) (k:=k) (by omega);rw[←hk]at p3;have hq:mF f a/2^tz (mF f a)≠0:=by
    have:=gq (2*k+1) (ah (tz (mF f a)));rw[←hk]at this;omega
   have hql:=fg (mF f a) (2^tz (mF f a));rw[Bn _ hm0,cond_false];simp only[uJ p3,sJ p3,cond_true,Bi,D6 (mF f a) (tz (mF f a)) (by omega)];rw[←Zu hq (by omega)];unfold od TU dy;rw[if_neg hm0];rw[ew 1 (by omega),ew (1-1) (by omega),ew (1-1+_) (by omega),ew (1-1+_-_) (by omega),ew (1-1+_-_+1) (by omega),ew _ (by omega)];rw[show(1:Int)-1+(1-(fX f:Int))-(fP f:Int)+1+(tz (mF f a):Int)=1-(fX f:Int)-(fP f:Int)+1+(tz (mF f a):Int) by omega]
 ·have hg:(((eF f a:Nat):Int)==0)=false:=Bn _ hz;have hm:Am f a=mF f a+2^(fP f-1):=by unfold Am;rw[if_neg hz]
  have hx:Ao f a=1-(fX f:Int)-(fP f:Int)+1+((eF f a:Int)-1):=by unfold Ao;rw[if_neg hz]
  rw[hg,cond_false,hm,hx];have hm0:mF f a+2^(fP f-1)≠0:=by omega
  have hml:mF f a+2^(fP f-1)<2^54:=by omega
  generalize mF f a+2^(fP f-1)=n at *
  obtain⟨k,hk⟩:=kO hm0;have htl:=vV hml hm0;have p3:=mW (t:=tz n) (k:=k) (by rw[←hk];omega);rw[←hk]at p3;have hq:n/2^tz n≠0:=by
   have:=gq (2*k+1) (ah (tz n));rw[←hk]at this;omega
  have hql:=fg n (2^tz n);rw[Bn _ hm0,cond_false];simp only[uJ p3,sJ p3,cond_true,Bi,D6 n (tz n) (by omega)];rw[←Zu hq (by omega)];unfold od TU dy;rw[if_neg hm0];rw[ew (eF f a:Int) (by omega),ew ((eF f a:Int)-1) (by omega),ew ((eF f a:Int)-1+_) (by omega),ew ((eF f a:Int)-1+_-_) (by omega),ew ((eF f a:Int)-1+_-_+1) (by omega),ew _ (by omega)];rw[show(eF f a:Int)-1+(1-(fX f:Int))-(fP f:Int)+1+(tz n:Int)=1-(fX f:Int)-(fP f:Int)+1+((eF f a:Int)-1)+(tz n:Int) by omega]
theorem aH5(s:Bool){n:Nat}(e:Int)(hn:n<2^53)(he:-2000<=e/\e<=2000):(od s n e).2.1<2^53/\-2500<=(od s n e).2.2/\(od s n e).2.2<=2500:=by
 rcases Sr s n e with⟨h,_⟩|⟨_,h2,h3,h4,h5⟩
 ·rw[h];exact⟨ah _,by dsimp only;omega,by dsimp only;omega⟩
 ·have hle:(od s n e).2.1<=n:=by
   have:=lh (od s n e).2.1 (ah (tz n));omega
  have:=vV hn h3;refine⟨by omega,by omega,by omega⟩
end VL
namespace VL
open Go Vx
theorem aIT{f:Int}(hf:Fm f):qm f<=0:=by
 have:=Ma hf;have:=CZ hf;unfold qm;omega
end VL
namespace VL
open Go Vx
def Bd(f:Int)(n:Nat)(e:Int):Prop:=qm f<=e/\e<=6000/\n*2^(e-qm f).toNat<2^5000
theorem Bd.lt{f:Int}{n:Nat}{e:Int}(h:Bd f n e):n<2^5000:=by
 have:=fq n (ah (e-qm f).toNat);exact aw this h.2.2
theorem Bd.od{f:Int}(hf:Fm f){n:Nat}{e:Int}(s:Bool)(h:Bd f n e):Bd f (VL.od s n e).2.1 (VL.od s n e).2.2:=by
 rcases Sr s n e with⟨hz,_⟩|⟨_,h2,h3,h4,h5⟩
 ·rw[hz];exact⟨aIT hf,by dsimp only;omega,by dsimp only;rw[dp];exact ah _⟩
 ·have hle:2^(tz n+(e-qm f).toNat)<=n*2^(e-qm f).toNat:=by
   rw[ba];refine al _ ?_;have:=fq (2^tz n) (show 0<(VL.od s n e).2.1 by omega);omega
  have hlt:=(cm (a:=2) (by decide)).1 (aw hle h.2.2);have hq:=aIT hf;have h1:=h.1;refine⟨by omega,by omega,?_⟩;have e1:(VL.od s n e).2.1*2^((VL.od s n e).2.2-qm f).toNat=n*2^(e-qm f).toNat:=by
   rw[h5,show(e+(tz n:Int)-qm f).toNat=tz n+(e-qm f).toNat by omega,ba,←ax,ar _ (2^tz n),←h4]
  rw[e1];exact h.2.2
end VL
namespace VL
open Go Vx
structure Hid (p:Prop):Prop where
 out:p
end VL
namespace VL
open Go Vx
theorem YL{l:List Nat}{j v:Nat}(hj:j<l.length)(h:l.getD j 0=v):l.set j v=l:=by
 rw[ak,ay hj,Option.getD_some]at h;subst h;exact List.set_getElem_self hj
end VL
namespace VL
open Go Vx
theorem HL{n k:Nat}(h:n<2^k)(hk:k<=64*5000):n<(2^64)^5000:=by
 rw[Di];exact ao h (aj (by decide) hk)
theorem aLl(n:Nat):((((Dw n).length:Nat):Int)==0)=decide (n=0):=by
 by_cases h:n=0
 ·subst h;rw[EO];rfl
 ·rw[decide_eq_false h];exact Bn _ (by have:=Zt h;omega)
end VL
namespace VL
open Go Vx
def aFI(far n:Int):Int:=if(if far<n then far else n)>-far then(if far<n then far else n)else -far
def bAk(f m:Int)(a:Nat)(n:Int):DenS Ku:=if ¬Fm f then(0,0,2,())else if m<0∨m>5 then(0,0,3,())else if Aj f a≠0 then(0,0,Aj f a,())else bif nan f a then((B5 f:Int),(bif Be f a then 1 else 0),0,())else if eF f a=AM f∨BU f a=0 then((a:Int),0,0,())else(((AO f m (sF f a) (Am f a) (Ao f a+aFI 5000 n) false).1:Int),((AO f m (sF f a) (Am f a) (Ao f a+aFI 5000 n) false).2:Int),0,())
end VL
namespace VL
open Go Vx
theorem Xl{x:Nat}(h:x<2^64):BA .u64 (x:Int) 4294967295=((x%2^32:Nat):Int):=Xs (n:=32) h (by decide)
theorem SA(x:Nat):AL .u64 (x:Int) 32=((x/2^32:Nat):Int):=by
 have h:=aJp (a:=(x:Int)) 32 (by decide);rw[show((32:Nat):Int)=32 from rfl]at h;rw[h];norm_cast
theorem aUq{x0 x1 y0 y1:Nat}(h0:x0<2^32)(h1:x1<2^32)(k0:y0<2^32)(k1:y1<2^32):
  ((x1*y1%2^64+(x1*y0%2^64+x0*y0%2^64/2^32)%2^64/2^32)%2^64+((x1*y0%2^64+x0*y0%2^64/2^32)%2^64%2^32+x0*y1%2^64)%2^64/2^32)%2^64=(x0+2^32*x1)*(y0+2^32*y1)/2^64:=by
 have b00:x0*y0<=(2^32-1)*(2^32-1):=jf (by omega) (by omega);have b01:x0*y1<=(2^32-1)*(2^32-1):=jf (by omega) (by omega);have b10:x1*y0<=(2^32-1)*(2^32-1):=jf (by omega) (by omega);have b11:x1*y1<=(2^32-1)*(2^32-1):=jf (by omega) (by omega);have e1:x0*(2^32*y1)=2^32*(x0*y1):=iq _ _ _;have e2:2^32*x1*y0=2^32*(x1*y0):=ax _ _ _;have e3:2^32*x1*(2^32*y1)=2^64*(x1*y1):=by
  rw[ax,iq x1,←ax]
 rw[bl,br,br,e1,e2,e3];generalize x0*y0=a at *
 generalize x0*y1=b at *
 generalize x1*y0=c at *
 generalize x1*y1=d at *
 have ha:a%2^64=a:=bb (by omega);have hb:b%2^64=b:=bb (by omega);have hc:c%2^64=c:=bb (by omega);have hd:d%2^64=d:=bb (by omega);rw[ha,hb,hc,hd];have ht:(c+a/2^32)%2^64=c+a/2^32:=bb (by omega);rw[ht];generalize hT:c+a/2^32=t;have hw:(t%2^32+b)%2^64=t%2^32+b:=bb (by omega);rw[hw];have hq:(d+t/2^32)%2^64=d+t/2^32:=bb (by omega);rw[hq];omega
theorem mS{x y:Nat}(hx:x<2^64)(hy:y<2^64):Wb ((x:Int),(y:Int),())=some (((x*y/2^64:Nat):Int),((x*y%2^64:Nat):Int),()):=by
 show i4 (x:Int) (y:Int)=_;unfold i4;dsimp only;rw[Xl hx,Xl hy,SA x,SA y];have hm:∀z:Nat,z%2^64<2^64:=fun z=>bo _ (by decide);have am:∀z:Nat,BA .u64 ((z%2^64:Nat):Int) 4294967295=((z%2^64%2^32:Nat):Int):=fun z=>Xl (hm z);have wm:∀a b:Nat,aa .u64 ((a:Int)*(b:Int))=((a*b%2^64:Nat):Int):=fun a b=>by rw[←jj];exact kR _
 have wa:∀a b:Nat,aa .u64 ((a:Int)+(b:Int))=(((a+b)%2^64:Nat):Int):=fun a b=>by rw[←nm];exact kR _
 simp only[wm,wa,SA,am];have e:=aUq (x0:=x%2^32) (x1:=x/2^32) (y0:=y%2^32) (y1:=y/2^32) (by omega) (by omega) (by omega) (by omega);rw[lg,lg]at e;rw[e]
theorem aOS{x y:Nat}(hx:x<2^64)(hy:y<2^64):Wc ((x:Int),(y:Int),())=some (Wi (x*y),()):=by
 show i5 AQ.pre AQ.F (x:Int) (y:Int)=_;unfold i5;have p:=mS hx hy;simp only[uH p,sH p,cond_true];rfl
def AV(f:Int)(a:Nat):Bool:=eF f a==0&&mF f a==0
theorem aFK{f:Int}(hf:Fm f)(a:Nat):(BV f a==5||BV f a==6)=AV f a:=by
 have hp:=XR hf;have hne:(eF f a==AM f&&eF f a==0)=false:=by
  cases h:eF f a==AM f
  ·rfl
  ·have:=beq_iff_eq.1 h;rw[bi,this];exact beq_eq_false_iff_ne.2 (by omega)
 unfold BV AV;cases h1:eF f a==AM f<;>cases h2:eF f a==0<;>rw[h1,h2]at hne<;>cases mF f a==0<;>cases sF f a<;>cases mF f a/2^(fP f-2)!=0<;>first|rfl|cases hne
theorem bBe{f:Int}(hf:Fm f){a:Nat}(h:eF f a=0):
  aa .i64 (aa .i64 (aa .i64 (aa .i64 (aa .i64 (1:Int)-1)+(1-(fX f:Int)))-(fP f:Int))+1)=Ao f a:=by
 have h3:=JF hf;have h4:=Sa hf;unfold Ao;rw[if_pos h,show aa .i64 (1:Int)=1 from rfl,AB (n:=(1:Int)-1) (by omega),AB (n:=(1:Int)-1+(1-(fX f:Int))) (by omega),AB (n:=(1:Int)-1+(1-(fX f:Int))-(fP f:Int)) (by omega),AB (by omega)];omega
theorem bBd{f:Int}(hf:Fm f){a:Nat}(h:eF f a≠0):
  aa .i64 (aa .i64 (aa .i64 (aa .i64 (aa .i64 (eF f a:Int)-1)+(1-(fX f:Int)))-(fP f:Int))+1)=Ao f a:=by
 have h3:=JF hf;have h4:=Sa hf;have hE:=eO hf a;unfold Ao;rw[if_neg h,AB (n:=(eF f a:Int)) (by omega),AB (n:=(eF f a:Int)-1) (by omega),AB (n:=(eF f a:Int)-1+(1-(fX f:Int))) (by omega),AB (n:=(eF f a:Int)-1+(1-(fX f:Int))-(fP f:Int)) (by omega),AB (by omega)];omega
theorem aUj{f:Int}(hf:Fm f)(a:Nat):Ap .u64 (mF f a:Int) (Bb .u64 1 (aa .i64 ((fP f:Int)-1)))=((mF f a+2^(fP f-1):Nat):Int):=by
 have h1:=CZ hf;have h3:=JF hf;have hM:=Ml f a;have hPp:2^(fP f-1)<=2^52:=aj (by decide) (by omega);have e0:aa .i64 ((fP f:Int)-1)=((fP f-1:Nat):Int):=BQ _ (by omega);have e3:Bb .u64 1 ((fP f-1:Nat):Int)=((2^(fP f-1):Nat):Int):=YM (by omega);rw[e0,e3];have:=Mq (a:=mF f a) (b:=1) (k:=fP f-1) hM (by omega);rwa [fh]at this
theorem aAJ{f:Int}{a:Nat}(h:Aj f a=0):Td (f,BZ f,(a:Int),())=some ((BV f a,sF f a,(Am f a:Int),Ao f a,()),0,()):=by
 obtain⟨hf,h0⟩:=FO h;have ha:=UM h;show U3 AY.pre AY.F BT.pre BT.F f (BZ f) a=_;unfold U3;have p1:=aY ha h;have p2:=mY h;have h1:=CZ hf;have h3:=JF hf;have r1:(BZ f).2.1=(fP f:Int):=rfl;have r2:(BZ f).2.2.1=1-(fX f:Int):=rfl;have e0:decide (0<=aa .i64 ((fP f:Int)-1))=true:=by
  rw[BQ _ (by omega)];exact Bi _
 simp only[Rf p1,Q6 p1,uL p2,sL p2,cond_true,bne_self_eq_false,cond_false,r1,r2,e0];by_cases hz:eF f a=0
 ·rw[B3 _ hz,cond_true,bBe hf hz];have hm:Am f a=mF f a:=by unfold Am;rw[if_pos hz]
  rw[hm]
 ·rw[Bn _ hz,cond_false,bBd hf hz,aUj hf];have hm:Am f a=mF f a+2^(fP f-1):=by unfold Am;rw[if_neg hz]
  rw[hm]
theorem aAI{f:Int}{a:Nat}(ha:a<2^64)(h:Aj f a≠0):Td (f,BZ f,(a:Int),())=some ((0,false,0,0,()),Aj f a,()):=by
 show U3 AY.pre AY.F BT.pre BT.F f (BZ f) a=_;unfold U3;have p1:=mU ha h;have e:(Aj f a !=0)=true:=bne_iff_ne.2 h;simp only[Rf p1,Q6 p1,cond_true,e]
def Yl(f m:Int)(a b:Nat):Int×Int×Int×Unit:=bif nan f a||nan f b then((B5 f:Int),(bif Be f a||Be f b then 1 else 0),0,())else bif(At f a&&AV f b)||(AV f a&&At f b)then((B5 f:Int),1,0,())else bif At f a||At f b then((DU f (!(sF f a==sF f b)):Int),0,0,())else bif AV f a||AV f b then((Bw f (!(sF f a==sF f b)):Int),0,0,())else(((AO f m (!(sF f a==sF f b)) (Am f a*Am f b) (Ao f a+Ao f b) false).1:Int),((AO f m (!(sF f a==sF f b)) (Am f a*Am f b) (Ao f a+Ao f b) false).2:Int),0,())
def Mo(f m:Int)(a b:Nat):Int×Int×Int×Unit:=if ¬Fm f then(0,0,2,())else if m<0∨m>5 then(0,0,3,())else if Aj f a≠0 then(0,0,Aj f a,())else if Aj f b≠0 then(0,0,Aj f b,())else Yl f m a b
theorem FY{f:Int}{a:Nat}(h:AV f a=false):Am f a≠0:=by
 unfold AV at h;unfold Am;by_cases hz:eF f a=0
 ·rw[if_pos hz];intro hm;rw[hz,hm]at h;cases h
 ·rw[if_neg hz];have:=ah (fP f-1);omega
theorem aOY(f m:Int){a b:Nat}(ha:a<2^64)(hb:b<2^64):Wp (f,m,(a:Int),(b:Int),())=some (Mo f m a b):=by
 show jE An.pre An.F Qb.pre Qb.F Qc.pre Qc.F AR.pre AR.F Qd.pre Qd.F CC.pre CC.F Qe.pre Qe.F Bx.pre Bx.F DY.pre DY.F BP.pre BP.F f m a b=_;unfold jE Mo;dsimp only;by_cases hf:¬Fm f
 ·have p0:=Jj hf;rw[if_pos hf];simp only[CM p0,CJ p0,cond_true];rfl
 have hf:=ir.1 hf;have p0:=HC hf;rw[if_neg (show ¬¬Fm f from fun h=>h hf)];simp only[CM p0,CJ p0,cond_true,bne_self_eq_false,cond_false];by_cases hm:m<0∨m>5
 ·rw[if_pos hm];have:(decide (m<0)||decide (m>5))=true:=by rcases hm with h|h<;>simp[h]
  rw[this,cond_true]
 rw[if_neg hm];have hm':0<=m/\m<=5:=by omega
 have:(decide (m<0)||decide (m>5))=false:=by simp;omega
 rw[this,cond_false];by_cases hca:Aj f a≠0
 ·have p1:=aAI ha hca;have e:(Aj f a !=0)=true:=bne_iff_ne.2 hca;rw[if_pos hca];simp only[gA p1,eY p1,cond_true,e]
 have hca:=ir.1 hca;have p1:=aAJ hca;rw[if_neg (show ¬Aj f a≠0 from fun h=>h hca)];simp only[gA p1,eY p1,cond_true,bne_self_eq_false,cond_false];by_cases hcb:Aj f b≠0
 ·have p2:=aAI hb hcb;have e:(Aj f b !=0)=true:=bne_iff_ne.2 hcb;rw[if_pos hcb];simp only[gA p2,eY p2,cond_true,e]
 have hcb:=ir.1 hcb;have p2:=aAJ hcb;rw[if_neg (show ¬Aj f b≠0 from fun h=>h hcb)];have n351:∀(c:Int) (s:Bool) (n e:Int),Wm ((c,s,n,e,()),())=some ((c==1||c==0),()):=fun _ _ _ _=>rfl;have n352:∀(c:Int) (s:Bool) (n e:Int),Wn ((c,s,n,e,()),())=some ((c==2||c==9),()):=fun _ _ _ _=>rfl;have n353:∀(c:Int) (s:Bool) (n e:Int),Wo ((c,s,n,e,()),())=some ((c==5||c==6),()):=fun _ _ _ _=>rfl;have q1:=n351 (BV f a) (sF f a) (Am f a:Int) (Ao f a);have q2:=n351 (BV f b) (sF f b) (Am f b:Int) (Ao f b);have q3:=n352 (BV f a) (sF f a) (Am f a:Int) (Ao f a);have q4:=n352 (BV f b) (sF f b) (Am f b:Int) (Ao f b);have q5:=n353 (BV f a) (sF f a) (Am f a:Int) (Ao f a);have q6:=n353 (BV f b) (sF f b) (Am f b:Int) (Ao f b);rw[dX]at q1 q2;rw[qX]at q3 q4;rw[aFK hf]at q5 q6;have s:=!(sF f a==sF f b);have p3:=aZ hf;have p4:=mX hf (!(sF f a==sF f b));have p5:=VR hf (!(sF f a==sF f b));have ma:=Ra hf a;have mb:=Ra hf b;have xa:=Va hf a;have xb:=Va hf b;have hprod:Am f a*Am f b<2^128:=ao (Nat.mul_lt_mul'' ma mb) (by decide);have p6:=aOS (x:=Am f a) (y:=Am f b) (je ma (by decide)) (je mb (by decide));have p7:=VU hf hm' (!(sF f a==sF f b)) (Am f a*Am f b) hprod (Ao f a+Ao f b) (by omega) false (fun h=>by cases h);have ew:aa .i64 (Ao f a+Ao f b)=Ao f a+Ao f b:=AB (by omega);simp only[gA p2,eY p2,cond_true,bne_self_eq_false,cond_false,aIB q1,aGO q1,aIB q2,aGO q2,aIC q3,aGP q3,aIC q4,aGP q4,aID q5,aGQ q5,aID q6,aGQ q6,gE p3,fD p3,uK p4,sK p4,Yt p5,XS p5,aVM p6,aTb p6,ew,Yu p7,XT p7,bf,dY];unfold Yl;cases h1:nan f a||nan f b
 ·simp only[cond_false];cases h2:At f a&&AV f b||AV f a&&At f b
  ·simp only[cond_false];cases h3:At f a||At f b
   ·simp only[cond_false];cases h4:AV f a||AV f b
    ·simp only[cond_false];simp only[kl]at h4;rw[if_neg (Nat.mul_ne_zero (FY h4.1) (FY h4.2))]
    ·simp only[cond_true]
   ·simp only[cond_true]
  ·simp only[cond_true]
 ·simp only[cond_true];cases Be f a||Be f b<;>rfl
end VL
namespace VL
open Go Vx
theorem aSE(n:Nat):∃r,r*r<=n/\n<(r+1)*(r+1):=by
 induction n with
 |zero=>exact⟨0,by decide,by decide⟩
 |succ n ih=>
  obtain⟨r,h1,h2⟩:=ih;by_cases h:n+1<(r+1)*(r+1)
  ·exact⟨r,by omega,h⟩
  ·refine⟨r+1,by omega,?_⟩;have:(r+1+1)*(r+1+1)=(r+1)*(r+1)+2*(r+1)+1:=by
    rw[br (r+1+1),bl (r+1) 1 (r+1)];omega
   omega
def fK(n:Nat):Nat:=Classical.choose (aSE n)
def aI6(f m:Int)(X:Nat)(E:Int):Nat×Nat:=if fK X*fK X=X then AO f m false (fK X) E false else AO f m false (2*fK X+1) (E-1) false
end VL
namespace VL
open Go Vx
def Mp(f:Int)(l:List Nat):Bool:=l.all fun a=>Aj f a==0
theorem qT{f:Int}(hf:Fm f)(a:Nat):Aj f a=0∨Aj f a=4:=by
 unfold Aj;rw[if_pos hf];split<;>simp
def EI(f m:Int)(l:List Nat):Int:=if ¬Fm f then 2 else if m<0∨m>5 then 3 else bif Mp f l then 0 else 4
def aI7(f m:Int)(n:Nat)(e:Int):Nat×Nat:=if e%2=1 then aI6 f m (n*2*2^200) ((e-1)/2-100)else aI6 f m (n*2^200) (e/2-100)
def bAu(f m:Int)(a:Nat):Int×Int×Int×Unit:=if EI f m [a]≠0 then(0,0,EI f m [a],())else bif nan f a then((B5 f:Int),(bif Be f a then 1 else 0),0,())else bif sF f a&&!AV f a then((B5 f:Int),1,0,())else bif AV f a||At f a then((a:Int),0,0,())else(((aI7 f m (Am f a) (Ao f a)).1:Int),((aI7 f m (Am f a) (Ao f a)).2:Int),0,())
end VL
end
