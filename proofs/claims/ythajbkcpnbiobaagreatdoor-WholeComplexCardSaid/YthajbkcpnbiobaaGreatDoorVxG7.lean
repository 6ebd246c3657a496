/- Part 7 of the proof. What is proved: symbolic execution of the functions, proved sound; what each function of the program computes, and that every run ends with it; what these functions compute, in plain numbers. Conditions: each theorem bears its own. -/
import Derived.Test.YthajbkcpnbiobaaGreatDoorVxG6
import Ieee.Arith
import Derived.ProofKit
import Derived.LaidMore
import Derived.OpenShut
import Derived.Stop.Joined
import GoSem.ClaimJoined
set_option linter.all false
set_option exponentiation.threshold 1000000
noncomputable section
open Array renaming getElem?_eq_some_iff->ct
open BitVec renaming ofInt->cw
open Bool renaming and_eq_true->ae,and_false->bj,and_self->bh,and_true->cq,eq_iff_iff->ff,false_and->az,false_or->ca,or_comm->qi,or_eq_false_iff->kl,or_eq_true->du,or_false->cv,or_self->bt,or_true->cd,true_and->bi,true_or->bf
open Classical renaming not_not->ir
open Go.IntKind renaming wrap->aa
open Go.Value renaming okWide->oa
open Go.World renaming cell?->pj,cells?_some->pe
open Int renaming eq_ofNat_of_zero_le->cy,lt_or_le->qk,natCast_mul->jj,toNat->ai,toNat_natCast->ag,toNat_zero->be
open List renaming all_cons->md,all_nil->qj,append_assoc->ee,append_nil->df,drop_drop->qd,drop_eq_getElem_cons->dr,drop_length->jq,drop_of_length_le->iy,drop_zero->lk,getD_eq_getElem?_getD->ak,getElem?_append_left->bv,getElem?_append_right->bq,getElem?_drop->di,getElem?_eq_getElem->ay,getElem?_eq_some_iff->ap,getElem_mem->jo,length_map->kx,length_replicate->fj,mem_append->cr,mem_cons->cp,mem_of_mem_drop->kj,mem_of_mem_take->dz,mem_singleton->ky,replicate->au,set_append_left->mc,set_append_right->ga,take_append_drop->ka,take_length->ej,take_of_length_le->co,take_succ_eq_append_getElem->jg
open Nat renaming add_comm->gv,add_mul->bl,add_sub_cancel_left->io,add_zero->cu,div_add_mod->cg,div_div_eq_div_mul->dk,div_eq_of_lt->cj,div_le_self->fg,div_lt_iff_lt_mul->bg,div_mul_le_self->ml,div_one->nd,eq_zero_or_pos->bc,le_div_iff_mul_le->gn,le_mul_of_pos_right->fq,le_of_lt_succ->oz,le_refl->bd,le_trans->fw,lt_of_le_of_lt->aw,lt_of_lt_of_le->ao,lt_of_mul_lt_mul_right->kh,lt_or_ge->aq,lt_trans->je,min_eq_left->gb,min_eq_right->kq,mod_eq_of_lt->bb,mod_lt->bo,mod_one->qa,mul_add->br,mul_add_div->kc,mul_add_mod->kd,mul_assoc->ax,mul_comm->ar,mul_div_cancel->ig,mul_div_cancel_left->gq,mul_div_mul_right->kf,mul_le_mul->jf,mul_le_mul_left->bm,mul_le_mul_right->al,mul_left_comm->iq,mul_lt_mul_of_pos_right->de,mul_mod_mul_right->fc,mul_ne_zero->kb,mul_one->fx,mul_pos->ii,mul_right_comm->jd,mul_zero->dw,ne_of_gt->jx,one_mul->fh,pos_of_ne_zero->mr,pow_add->ba,pow_le_pow_right->aj,pow_lt_pow_iff_right->cm,pow_mul->mj,pow_one->qq,pow_pos->iw,pow_succ->dm,pow_zero->go,shiftLeft_eq->ja,two_pow_pos->ah,zero_add->cz,zero_le->dv,zero_mul->dp
open Option.some renaming inj->jv,injEq->ab
open Prod.mk renaming injEq->cn
namespace VL
open Go Vx
theorem aF1{q r yn1 yn0 u u1:Nat}(hq:q*yn1+r=u):(2^32*r+u1<q*yn0)↔u*2^32+u1<q*(yn1*2^32+yn0):=by
 rw[br,←ax,←hq,bl];omega
theorem aFY{q r yn1 yn0 u u1:Nat}(hq:q*yn1+r=u)(hr:r<2^32)(h0:yn0<2^32)(hu1:u1<2^32)(hlt:u<yn1*2^32+yn0):
  (decide ((q:Int)>=4294967296)||decide (aa .u64 ((q:Int)*(yn0:Int))>aa .u64 (aa .u64 ((4294967296:Int)*(r:Int))+(u1:Int))))=decide (u*2^32+u1<q*(yn1*2^32+yn0)):=by
 rcases aq q (2^32)with h|h
 ·have hm:q*yn0<=(2^32-1)*(2^32-1):=jf (by omega) (by omega);have e1:aa .u64 ((q:Int)*(yn0:Int))=((q*yn0:Nat):Int):=v0 _ _ (by omega);have e2:aa .u64 ((4294967296:Int)*(r:Int))=((2^32*r:Nat):Int):=v0 (2^32) r (by omega);have e3:aa .u64 (((2^32*r:Nat):Int)+(u1:Int))=((2^32*r+u1:Nat):Int):=kS _ _ (by omega);have e4:decide ((q:Int)>=4294967296)=false:=decide_eq_false (by omega);rw[e1,e2,e3,e4,ca,ff,decide_eq_true_eq,decide_eq_true_eq,←aF1 hq];omega
 ·have e4:decide ((q:Int)>=4294967296)=true:=decide_eq_true (by omega);have hm:2^32*(yn1*2^32+yn0)<=q*(yn1*2^32+yn0):=al _ h;rw[e4,bf,decide_eq_true (by omega)]
theorem aF0{yn1 yn0 u u1:Nat}(hy:0<yn1)(hu1:u1<2^32):u*2^32+u1<(u/yn1+1)*(yn1*2^32+yn0):=by
 have h1:u<(u/yn1+1)*yn1:=by
  have:=Nat.lt_div_mul_add hy (a:=u);rw[bl,fh];exact this
 rw[br,←ax];omega
theorem aFZ{q r yn1 yn0 u u1:Nat}(hq:q*yn1+r=u)(h:u*2^32+u1<q*(yn1*2^32+yn0)):1<=q/\(q-1)*yn1+(r+yn1)=u:=by
 have h1:1<=q:=by
  rcases bc q with h0|h0
  ·rw[h0,dp]at h;omega
  ·exact h0
 refine⟨h1,?_⟩;obtain⟨p,rfl⟩:∃p,q=p+1:=⟨q-1,by omega⟩
 rw[bl,fh]at hq;rw[show p+1-1=p by omega];omega
theorem aFX{q r yn1 yn0 u u1:Nat}(hq:q*yn1+r=u)(hr:2^32<=r)(h0:yn0<2^32)(hlt:u<yn1*2^32+yn0):q*(yn1*2^32+yn0)<=u*2^32+u1:=by
 have h1:q*yn1<2^32*yn1:=by omega
 have h2:q<2^32:=kh h1;have h3:q*yn0<=2^32*(2^32-1):=jf (by omega) (by omega);have h4:¬2^32*r+u1<q*yn0:=by omega
 rw[aF1 hq]at h4;omega
theorem eG{a b q:Nat}(h1:q*b<=a)(h2:a<(q+1)*b):a/b=q:=Nat.div_eq_of_lt_le h1 h2
theorem aPt{u u1 yn0 yn1:Nat}(h0:yn0<2^32)(h1:yn1<2^32)(hy:0<yn1)(hu1:u1<2^32)(hlt:u<yn1*2^32+yn0)(u0 y s:Int):
  bJ ((((u%yn1:Nat):Int),((u:Int),((u1:Int),((yn0:Int),((yn1:Int),(((u/yn1:Nat):Int),(u0,(y,(s,()))))))))),()) =
   some (.inl (((u:Int),((u1:Int),((yn0:Int),((yn1:Int),((((u*2^32+u1)/(yn1*2^32+yn0):Nat):Int),(u0,(y,(s,())))))))),())):=by
 have key:=EJ (aHF Bz.pre Bz.F) (fun x=>x.1.2.2.2.2.2.1.toNat)
  (fun x=>∃q r:Nat,q*yn1+r=u/\r<2^32/\u*2^32+u1<(q+1)*(yn1*2^32+yn0)/\x=(((r:Int),((u:Int),((u1:Int),((yn0:Int),((yn1:Int),((q:Int),(u0,(y,(s,()))))))))),()))
  (fun _=>.inl (((u:Int),((u1:Int),((yn0:Int),((yn1:Int),((((u*2^32+u1)/(yn1*2^32+yn0):Nat):Int),(u0,(y,(s,())))))))),())) ?_ _
  ⟨u/yn1,u%yn1,by rw[ar];exact cg u yn1,je (bo _ hy) h1,aF0 hy hu1,rfl⟩
 ·exact key
 intro L x hx hL;obtain⟨q,r,hq,hr,hup,rfl⟩:=hx;unfold Uk;have hqu:q<=u:=by
  have:=fq q hy;omega
 dsimp only;rw[aFY hq hr h0 hu1 hlt];by_cases hc:u*2^32+u1<q*(yn1*2^32+yn0)
 ·obtain⟨d1,d2⟩:=aFZ hq hc;have e1:aa .u64 ((q:Int)-1)=((q-1:Nat):Int):=by rw[EN (by omega)];omega
  have e2:aa .u64 ((r:Int)+(yn1:Int))=((r+yn1:Nat):Int):=kS _ _ (by omega);rw[decide_eq_true hc,cond_true,e1,e2];by_cases hb:2^32<=r+yn1
  ·have e3:decide (((r+yn1:Nat):Int)>=4294967296)=true:=decide_eq_true (by omega);rw[e3,cond_true];have:=aFX (u1:=u1) d2 hb h0 hlt;rw[eG this (by rw[show q-1+1=q by omega];exact hc)]
  ·have e3:decide (((r+yn1:Nat):Int)>=4294967296)=false:=decide_eq_false (by omega);rw[e3,cond_false];exact hL _ ⟨q-1,r+yn1,d2,by omega,by rw[show q-1+1=q by omega];exact hc,rfl⟩ (by simp only[ag];omega)
 ·rw[decide_eq_false hc,cond_false,eG (by omega) hup]
theorem aPu{u u1 yn0 yn1:Nat}(h0:yn0<2^32)(h1:yn1<2^32)(hy:0<yn1)(hu1:u1<2^32)(hlt:u<yn1*2^32+yn0)(q1 y s:Int):
  bK (((yn0:Int),(((u%yn1:Nat):Int),((yn1:Int),(q1,((u:Int),((u1:Int),(((u/yn1:Nat):Int),(y,(s,()))))))))),()) =
   some (.inl ((q1,((u:Int),((u1:Int),((((u*2^32+u1)/(yn1*2^32+yn0):Nat):Int),(y,(s,())))))),())):=by
 have key:=EJ (aHG Bz.pre Bz.F) (fun x=>x.1.2.2.2.2.2.2.1.toNat)
  (fun x=>∃q r:Nat,q*yn1+r=u/\r<2^32/\u*2^32+u1<(q+1)*(yn1*2^32+yn0)/\x=(((yn0:Int),((r:Int),((yn1:Int),(q1,((u:Int),((u1:Int),((q:Int),(y,(s,()))))))))),()))
  (fun _=>.inl ((q1,((u:Int),((u1:Int),((((u*2^32+u1)/(yn1*2^32+yn0):Nat):Int),(y,(s,())))))),())) ?_ _
  ⟨u/yn1,u%yn1,by rw[ar];exact cg u yn1,je (bo _ hy) h1,aF0 hy hu1,rfl⟩
 ·exact key
 intro L x hx hL;obtain⟨q,r,hq,hr,hup,rfl⟩:=hx;unfold Ul;have hqu:q<=u:=by
  have:=fq q hy;omega
 dsimp only;rw[aFY hq hr h0 hu1 hlt];by_cases hc:u*2^32+u1<q*(yn1*2^32+yn0)
 ·obtain⟨d1,d2⟩:=aFZ hq hc;have e1:aa .u64 ((q:Int)-1)=((q-1:Nat):Int):=by rw[EN (by omega)];omega
  have e2:aa .u64 ((r:Int)+(yn1:Int))=((r+yn1:Nat):Int):=kS _ _ (by omega);rw[decide_eq_true hc,cond_true,e1,e2];by_cases hb:2^32<=r+yn1
  ·have e3:decide (((r+yn1:Nat):Int)>=4294967296)=true:=decide_eq_true (by omega);rw[e3,cond_true];have:=aFX (u1:=u1) d2 hb h0 hlt;rw[eG this (by rw[show q-1+1=q by omega];exact hc)]
  ·have e3:decide (((r+yn1:Nat):Int)>=4294967296)=false:=decide_eq_false (by omega);rw[e3,cond_false];exact hL _ ⟨q-1,r+yn1,d2,by omega,by rw[show q-1+1=q by omega];exact hc,rfl⟩ (by simp only[ag];omega)
 ·rw[decide_eq_false hc,cond_false,eG (by omega) hup]
theorem aSm{A y u32 u1 u0 q1 r1 q0 r0:Nat}(hA:A=(u32*2^32+u1)*2^32+u0)(h1:u32*2^32+u1=q1*y+r1)(h2:r1*2^32+u0=q0*y+r0)(hr:r0<y):
  A/y=q1*2^32+q0/\A%y=r0:=by
 have e:A=(q1*2^32+q0)*y+r0:=by
  rw[hA,h1,bl,bl,jd];omega
 have hy:0<y:=by omega
 rw[e,ar _ y];exact⟨by rw[kc hy,cj hr,cu],by rw[kd,bb hr]⟩
theorem bAs(U X:Nat):U*2^64+X=(U*2^32+X/2^32)*2^32+X%2^32:=by omega
theorem orL{a b k:Nat}(ha:a<2^k)(h:b*2^k+a<2^64):Ap .u64 ((b*2^k:Nat):Int) (a:Int)=((b*2^k+a:Nat):Int):=by
 rw[Yr (by omega) (by omega)];congr 1;have:=Nat.two_pow_add_eq_or_of_lt ha b;rw[ar b,←this]
theorem aAF{n:Nat}(hn:n<2^64):We ((n:Int),())=some (((64-Ag n:Nat):Int),()):=by
 show i6 Cd.pre Cd.F (n:Int)=_;unfold i6;have p0:=aAs n hn;have hb:=Dz hn;have e:aa .i64 ((64:Int)-(Ag n:Int))=((64-Ag n:Nat):Int):=by rw[AB (by omega)];omega
 simp only[aIy p0,aGL p0,cond_true,e]
theorem aAG{hi lo y:Nat}(hlo:lo<2^64)(hy:y<2^64)(hlt:hi<y):
  Wf ((hi:Int),(lo:Int),(y:Int),())=some ((((hi*2^64+lo)/y:Nat):Int),(((hi*2^64+lo)%y:Nat):Int),()):=by
 have hy0:0<y:=by omega
 show i7 Bz.pre Bz.F bJ bK (hi:Int) (lo:Int) (y:Int)=_;unfold i7;have hbl:=Dz hy;have hbl1:=dS (n:=y) (by omega);have p0:=aAF hy;generalize hs:64-Ag y=s at *
 have e9:aa .u64 (s:Int)=(s:Int):=vZ _ (by omega);have e10:aa .u64 ((64:Int)-(s:Int))=((64-s:Nat):Int):=by rw[EN (by omega)];omega
 have g0:((y:Int)==0)=false:=Bn _ (by omega);have g1:decide ((y:Int)<=(hi:Int))=false:=decide_eq_false (by omega);have g2:((y:Int)!=0)=true:=BD _ (by omega);dsimp only;simp only[g0,g1,g2,cond_false,cond_true,aIz p0,aGM p0,e9,e10];by_cases hh:hi=0
 ·subst hh;have e1:(((0:Nat):Int)==0)=true:=rfl;rw[e1,cond_true,uR _ _ hlo hy0,dp,cz];rfl
 have e1:((hi:Int)==0)=false:=Bn _ hh;rw[e1,cond_false];have hp:=ah s;have hyl:=LX (n:=y) (by omega);have hyu:=FM y;have hY1:y*2^s<2^64:=by
  have:y*2^s<2^Ag y*2^s:=de hyu hp;rw[←ba,show Ag y+s=64 by omega]at this;exact this
 have hY2:2^63<=y*2^s:=by
  have:2^(Ag y-1)*2^s<=y*2^s:=al _ hyl;rw[←ba,show Ag y-1+s=63 by omega]at this;exact this
 have hH:hi*2^s<y*2^s:=de hlt hp;have hlos:lo/2^(64-s)<2^s:=by
  rw[bg (ah _),←ba,show s+(64-s)=64 by omega];exact hlo
 have e264:2^64=2^s*2^(64-s):=by rw[←ba];congr 1;omega
 have hU:hi*2^s+lo/2^(64-s)<y*2^s:=by
  have h1:(hi+1)*2^s<=y*2^s:=al _ hlt;rw[bl,fh]at h1;omega
 have hsc:(hi*2^64+lo)*2^s=(hi*2^s+lo/2^(64-s))*2^64+lo*2^s%2^64:=by
  have h1:lo*2^s=lo*2^s/2^64*2^64+lo*2^s%2^64:=by
   have:=cg (lo*2^s) (2^64);omega
  have h2:lo*2^s/2^64=lo/2^(64-s):=by
   rw[e264,ar lo,Nat.mul_div_mul_left _ _ hp]
  rw[h2]at h1;rw[bl,bl,jd];omega
 have s1:=H1 hi s (by omega);have s2:=D6 lo (64-s) (by omega);have s3:=H1 y s (by omega);have s4:=H1 lo s (by omega);rw[bb (by omega)]at s1 s3;have hY32:y*2^s/2^32*2^32+y*2^s%2^32=y*2^s:=by omega
 have hdiv:(hi*2^64+lo)*2^s/(y*2^s)=(hi*2^64+lo)/y:=kf _ _ hp;have hmod:(hi*2^64+lo)*2^s%(y*2^s)=(hi*2^64+lo)%y*2^s:=fc _ _ _;have hX:lo*2^s%2^64<2^64:=bo _ (by decide);have s5:=orL (b:=hi) hlos (by omega);rw[s1,s2,s3,s4,s5];have hq64:(hi*2^64+lo)/y<2^64:=by
  rw[bg hy0];have:(hi+1)*2^64<=y*2^64:=al _ hlt;omega
 rw[hsc]at hdiv hmod;generalize hi*2^s+lo/2^(64-s)=U at *
 generalize lo*2^s%2^64=X at *
 generalize hYd:y*2^s=Y at *
 rw[SA Y,SA X,Xl hY1,Xl hX];have hYY1:Y/2^32<2^32:=by omega
 have hYY0:Y%2^32<2^32:=by omega
 have hYp:0<Y/2^32:=by omega
 have g3:(((Y/2^32:Nat):Int)!=0)=true:=BD _ (by omega);have hrem:∀V:Nat,V<2^64->aa .u64 ((V:Int)-aa .u64 (((V/(Y/2^32):Nat):Int)*((Y/2^32:Nat):Int)))=((V%(Y/2^32):Nat):Int):=fun V hV=>by
  have hdm:=cg V (Y/2^32);rw[ar]at hdm;rw[v0 _ _ (by omega)];generalize V/(Y/2^32)*(Y/2^32)=z at *
  generalize V%(Y/2^32)=w at *
  rw[EN (by omega)];omega
 rw[g3,cond_true,uR _ _ (by omega) hYp,hrem U (by omega)];have w1:=aPt hYY0 hYY1 hYp (show X/2^32<2^32 by omega) (u:=U) (by omega) ((X%2^32:Nat):Int) (Y:Int) (s:Int);rw[w1,hY32];show(bif(((Y/2^32:Nat):Int)!=0)then _ else _)=_;rw[g3,cond_true];dsimp only;have hd1:=cg (U*2^32+X/2^32) Y;have hr1:=bo (U*2^32+X/2^32) (show 0<Y by omega);have hq1:(U*2^32+X/2^32)/Y<2^32:=by
  rw[bg (by omega)];have:(U+1)*2^32<=Y*2^32:=al _ hU;omega
 have hrem2:∀a b c q r:Nat,a*2^32+b=Y*q+r->r<Y->aa .u64 (aa .u64 (aa .u64 ((a:Int)*4294967296)+(b:Int))-aa .u64 ((q:Int)*(Y:Int)))=(r:Int):=fun a b _ q r h1 h2=>by
  have e:(q:Int)*(Y:Int)=((Y*q:Nat):Int):=by rw[jj,Int.mul_comm]
  rw[e];generalize Y*q=z at *
  show((((a:Int)*4294967296)%18446744073709551616+(b:Int))%18446744073709551616-((z:Int)%18446744073709551616))%18446744073709551616=(r:Int)
  omega
 rw[hrem2 U (X/2^32) 0 _ _ hd1.symm hr1];clear w1;obtain⟨q1,hQ1⟩:∃q,q=(U*2^32+X/2^32)/Y:=⟨_,rfl⟩
 obtain⟨r1,hR1⟩:∃q,q=(U*2^32+X/2^32)%Y:=⟨_,rfl⟩
 rw[←hQ1]at hd1 hq1;rw[←hR1]at hd1 hr1;rw[←hQ1,←hR1];rw[uR _ _ (by omega) hYp,hrem r1 (by omega)];have w2:=aPu hYY0 hYY1 hYp (show X%2^32<2^32 by omega) (u:=r1) (by omega) (q1:Int) (Y:Int) (s:Int);rw[w2,hY32];show some (_,(_,()))=_;dsimp only;have hd2:=cg (r1*2^32+X%2^32) Y;have hr2:=bo (r1*2^32+X%2^32) (show 0<Y by omega);have hq2:(r1*2^32+X%2^32)/Y<2^32:=by
  rw[bg (by omega)];have:(r1+1)*2^32<=Y*2^32:=al _ hr1;omega
 rw[hrem2 r1 (X%2^32) 0 _ _ hd2.symm hr2];obtain⟨q0,hQ0⟩:∃q,q=(r1*2^32+X%2^32)/Y:=⟨_,rfl⟩
 obtain⟨r0,hR0⟩:∃q,q=(r1*2^32+X%2^32)%Y:=⟨_,rfl⟩
 rw[←hQ0]at hd2 hq2;rw[←hR0]at hd2 hr2;rw[←hQ0,←hR0];obtain⟨f1,f2⟩:=aSm (A:=U*2^64+X) (y:=Y) (u32:=U) (u1:=X/2^32) (u0:=X%2^32) (bAs U X) (by rw[ar q1];exact hd1.symm) (by rw[ar q0];exact hd2.symm) hr2;rw[hdiv]at f1;rw[hmod]at f2;have e5:aa .u64 (aa .u64 ((q1:Int)*4294967296)+(q0:Int))=(((hi*2^64+lo)/y:Nat):Int):=by
  rw[f1];show((((q1:Int)*4294967296)%18446744073709551616)+(q0:Int))%18446744073709551616=_;omega
 have e6:AL .u64 (r0:Int) (s:Int)=(((hi*2^64+lo)%y:Nat):Int):=by
  rw[D6 _ _ (by omega),←f2,ig _ hp]
 rw[e5,e6]
end VL
namespace VL
open Go Vx
theorem Sk{D Y:Type}{Φ:{R:Type}->(D->Option R)->(Y->Option R)->D->Option R}(hp:Bm Φ)(μ:D->Nat)(I:D->Prop)(Q:Y->Prop)
  (h:∀(L:D->Option Y) x,I x->(∀x',I x'->μ x'<μ x->∃y,L x'=some y/\Q y)->∃y,Φ L some x=some y/\Q y):∀x,I x->∃y,Bg (fun L=>Φ L some) x=some y/\Q y:=by
 have key:∀m x,I x->μ x<m->∃y,CK (fun L=>Φ L some) m x=some y/\Q y:=by
  intro m;induction m with
  |zero=>intro x _ h;omega
  |succ m ih=>
   intro x hx hm;simp only[CK];exact h _ x hx fun x' hx' hlt=>ih x' hx' (by omega)
 intro x hx;obtain⟨y,hy,hQ⟩:=key (μ x+1) x hx (by omega);exact⟨y,aHm hp hy,hQ⟩
theorem JQ(i:Nat):(2^64)^(i+1)=(2^64)^i*2^64:=dm ..
theorem SG{A us C:List Nat}{i:Nat}(h:i<us.length):(Wd (A++us++C)).getD (A.length+i) 0=((us.getD i 0:Nat):Int):=by
 rw[CP];congr 1;rw[ak,ak,ee,bq (by omega),io,bv h]
theorem kP{A us C:List Nat}{i v:Nat}(h:i<us.length):(Wd (A++us++C)).set (A.length+i) (v:Int)=Wd (A++us.set i v++C):=by
 rw[Fa];congr 1;rw[ee,ga _ _ (by omega),io,mc _ _ h,←ee]
theorem eD{out us:List Nat}{i:Nat}(hol:out.length=i)(hi:i<us.length):(out++us.drop i).getD i 0=us.getD i 0:=by
 rw[ak,ak,bq (by omega),hol,Nat.sub_self,di,cu]
theorem aUs{x y c:Nat}(hx:x<2^64)(hy:y<2^64)(hc:c<2^64):
  x*y+c=2^64*(x*y/2^64+(x*y%2^64+c)/2^64)+(x*y%2^64+c)%2^64/\x*y/2^64+(x*y%2^64+c)/2^64<2^64:=by
 have:x*y<=(2^64-1)*(2^64-1):=jf (by omega) (by omega);generalize x*y=z at *
 omega
theorem aJv{d l b:Nat}(hd:d<2^64)(hl:l<2^64)(hb:b<=1):
  (d+2^64-l-b)%2^64+l+b=d+2^64*(if d<l+b then 1 else 0)/\(d+2^64-l-b)%2^64<2^64/\(if d<l+b then 1 else 0)<=1:=by
 split<;>omega
theorem bAU{P U V O x y c b d o l c' b':Nat}(h:O+x*V=U+P*(c+b))(h1:x*y+c=2^64*c'+l)(h2:o+l+b=d+2^64*b'):
  O+P*o+x*(V+P*y)=U+P*d+P*2^64*(c'+b'):=by
 have h3:P*(c+b+o+x*y)=P*(d+2^64*(c'+b')):=by
  congr 1;omega
 rw[br P,br P,br P d,←ax P (2^64)]at h3;rw[br x,iq x P y];omega
theorem aOT(A us C v:List Nat)(hlen:us.length=v.length+1)(hu:∀x∈us,x<2^64)(hv:∀x∈v,x<2^64)(hn:v.length<=1000000){x:Nat}(hx:x<2^64):
  ∃out:List Nat,out.length=us.length/\(∀z∈out,z<2^64)/\nv (2^64) out+x*nv (2^64) v=nv (2^64) us+(if nv (2^64) us<x*nv (2^64) v then(2^64)^us.length else 0) /\
   Wg ((Wd (A++us++C),(A.length,us.length)),(Wd v,((x:Int),())))=some (Wd (A++out++C),decide (nv (2^64) us<x*nv (2^64) v),()):=by
 show ∃out:List Nat,_/\_/\_/\i9 AQ.pre AQ.F Au.pre Au.F A3.pre A3.F bL (Wd (A++us++C),(A.length,us.length)) (Wd v) (x:Int)=_;have key:=Sk (aHH AQ.pre AQ.F Au.pre Au.F A3.pre A3.F) (fun s=>v.length-s.1.2.2.2.1.toNat)
  (fun s=>∃(i:Nat) (out:List Nat) (c b:Nat),i<=v.length/\out.length=i/\(∀z∈out,z<2^64)/\c<2^64/\b<=1/\nv (2^64) out+x*nv (2^64) (v.take i)=nv (2^64) (us.take i)+(2^64)^i*(c+b) /\
   s=(((v.length:Int),(Wd v,((x:Int),((i:Int),(Wd v,((A.length,us.length),((c:Int),((b:Int),())))))))),(Wd (A++(out++us.drop i)++C),())))
  (fun y=>∃(out:List Nat) (c b:Nat),out.length=v.length/\(∀z∈out,z<2^64)/\c<2^64/\b<=1/\nv (2^64) out+x*nv (2^64) v=nv (2^64) (us.take v.length)+(2^64)^v.length*(c+b) /\
   y=.inl ((Wd v,((A.length,us.length),((c:Int),((b:Int),())))),(Wd (A++(out++us.drop v.length)++C),()))) ?_
  (((v.length:Int),(Wd v,((x:Int),((0:Int),(Wd v,((A.length,us.length),((0:Int),((0:Int),())))))))),(Wd (A++us++C),()))
  ⟨0,[],0,0,dv _,rfl,(fun z hz=>by simp at hz),by decide,by decide,by simp[nv],rfl⟩
 ·obtain⟨y,hy,out,c,b,k1,k2,k3,k4,k5,rfl⟩:=key;have hy:bL (((v.length:Int),(Wd v,((x:Int),((0:Int),(Wd v,((A.length,us.length),((0:Int),((0:Int),())))))))),(Wd (A++us++C),()))=_:=hy;have hlt:v.length<us.length:=by omega
  have hwl:(out++us.drop v.length).length=us.length:=by simp[k1];omega
  have hdg:=eD (us:=us) k1 hlt;have hg:=SG (A:=A) (C:=C) (us:=out++us.drop v.length) (i:=v.length) (by omega);rw[hdg]at hg;have hst:=fun z=>kP (A:=A) (C:=C) (us:=out++us.drop v.length) (i:=v.length) (v:=z) (by omega);have hsd:=fun z=>YK (a:=us) (v:=z) k1 hlt;have hd:=CS (by decide) hu v.length;obtain⟨w1,w2,w3⟩:=aJv (d:=us.getD v.length 0) (l:=c) (b:=b) hd k3 k4;have q1:=YS (us.getD v.length 0) c b k4 hd k3;have q2:=YT ((us.getD v.length 0:Nat):Int) (c:Int) b k4;have hnx:=EL (2^64) us v.length;rw[co (show us.length<=v.length+1 by omega)]at hnx;have hnil:us.drop (v.length+1)=[]:=iy (by omega);unfold i9;dsimp only;rw[AI,hy];have e0:decide ((0:Int)<=(v.length:Int))=true:=decide_eq_true (by omega);have e1:decide ((v.length:Int)<(us.length:Int))=true:=decide_eq_true (by omega);dsimp only[Ba,A7];simp only[e0,e1,bh,cond_true,AI,ag,hg,q2,q1,hst,hsd,hnil,df];generalize us.getD v.length 0=d at *
  generalize(d+2^64-c-b)%2^64=o at *
  have hO:nv (2^64) (out++[o])+x*nv (2^64) v=nv (2^64) us+(2^64)^us.length*(if d<c+b then 1 else 0):=by
   rw[Yp,k1,hnx,hlen,JQ];have h3:(2^64)^v.length*(o+c+b)=(2^64)^v.length*(d+2^64*(if d<c+b then 1 else 0)):=by rw[w1]
   rw[br,br,br _ d,←ax _ (2^64)]at h3;rw[br]at k5;omega
  have hod:=Xu k2 w2;have hOl:=D3 (B:=2^64) (by decide) (out++[o]) hod;have hol:(out++[o]).length=us.length:=by simp[k1];omega
  rw[hol]at hOl;by_cases hb:d<c+b
  ·rw[if_pos hb,fx]at hO;have hlt2:nv (2^64) us<x*nv (2^64) v:=by omega
   refine⟨out++[o],hol,hod,by rw[if_pos hlt2];exact hO,?_⟩;rw[if_pos hb,decide_eq_true hlt2];rfl
  ·rw[if_neg hb,dw,cu]at hO;have hlt2:¬nv (2^64) us<x*nv (2^64) v:=by omega
   refine⟨out++[o],hol,hod,by rw[if_neg hlt2,cu];exact hO,?_⟩;rw[if_neg hb,decide_eq_false hlt2];rfl
 intro L s hs hL;obtain⟨i,out,c,b,hi,hol,hod,hc,hb,hinv,rfl⟩:=hs;unfold Um;rcases aq i v.length with hlt|hge
 ·have hy:=CS (by decide) hv i;have hd:=CS (by decide) hu i;have hnv:=EL (2^64) v i;have hnu:=EL (2^64) us i;have hwl:(out++us.drop i).length=us.length:=by simp[hol];omega
  have hdg:=eD (us:=us) hol (by omega);have hg:=SG (A:=A) (C:=C) (us:=out++us.drop i) (i:=i) (by omega);rw[hdg]at hg;have hst:=fun z=>kP (A:=A) (C:=C) (us:=out++us.drop i) (i:=i) (v:=z) (by omega);have hsd:=fun z=>YK (a:=us) (v:=z) hol (by omega);have hgv:(Wd v).getD i 0=((v.getD i 0:Nat):Int):=CP v i;generalize v.getD i 0=y at *
  generalize us.getD i 0=d at *
  have p0:=mS hx hy;obtain⟨m1,m2⟩:=aUs hx hy hc;have q1:=TJ (x*y%2^64) c 0;have q2:=TK ((x*y%2^64:Nat):Int) (c:Int) 0 (by decide);rw[cu]at q1;have hl:(x*y%2^64+c)%2^64<2^64:=bo _ (by decide);have e5:=kS (x*y/2^64) ((x*y%2^64+c)/2^64) m2;generalize x*y/2^64+(x*y%2^64+c)/2^64=c' at *
  generalize hlq:(x*y%2^64+c)%2^64=l at *
  obtain⟨w1,w2,w3⟩:=aJv (d:=d) (l:=l) (b:=b) hd hl hb;have r1:=YS d l b hb hd hl;have r2:=YT (d:Int) (l:Int) b hb;generalize(d+2^64-l-b)%2^64=o at *
  generalize(if d<l+b then 1 else 0)=b' at *
  have hstep:=bAU (P:=(2^64)^i) hinv m1 w1;have e0:decide ((i:Int)<(v.length:Int))=true:=decide_eq_true (by omega);have e1:decide ((0:Int)<=(i:Int))=true:=decide_eq_true (by omega);have e2:decide ((i:Int)<((us.length:Nat):Int))=true:=decide_eq_true (by omega);have e3:aa .i64 ((i:Int)+1)=((i+1:Nat):Int):=by rw[AB (by omega)];omega
  have z0:((0:Nat):Int)=0:=rfl;rw[z0]at q1 q2;dsimp only;simp only[e0,e1,e2,e3,cond_true,bh,AI,ag,hgv,hg,uH p0,sH p0,q1,q2,r1,r2,e5,hst,hsd];refine hL _ ⟨i+1,out++[o],c',b',by omega,by simp[hol],Xu hod w2,m2,w3,?_,rfl⟩ (by simp only[ag];omega);rw[Yp,hol,hnv,hnu,JQ];exact hstep
 ·have e:i=v.length:=by omega
  subst e;have e0:decide ((v.length:Int)<(v.length:Int))=false:=decide_eq_false (by omega);simp only[e0,cond_false];rw[ej]at hinv;exact⟨_,rfl,out,c,b,hol,hod,hc,hb,hinv,rfl⟩
end VL
namespace VL
open Go Vx
theorem aFi{P U V O y c d:Nat}(h:O+P*c=U+V):O+P*((d+y+c)%2^64)+P*2^64*((d+y+c)/2^64)=U+P*d+(V+P*y):=by
 have h1:P*((d+y+c)%2^64+2^64*((d+y+c)/2^64))=P*(d+y+c):=by rw[Nat.mod_add_div]
 rw[br,br P (d+y),br,←ax P (2^64)]at h1;omega
theorem aOU(A us C v:List Nat)(hlen:us.length=v.length+1)(hu:∀x∈us,x<2^64)(hv:∀x∈v,x<2^64)(hn:v.length<=1000000):
  ∃out:List Nat,out.length=us.length/\(∀z∈out,z<2^64)/\nv (2^64) out+(if(2^64)^us.length<=nv (2^64) us+nv (2^64) v then(2^64)^us.length else 0)=nv (2^64) us+nv (2^64) v /\
   Wh ((Wd (A++us++C),(A.length,us.length)),(Wd v,()))=some (Wd (A++out++C),decide ((2^64)^us.length<=nv (2^64) us+nv (2^64) v),()):=by
 show ∃out:List Nat,_/\_/\_/\jA Au.pre Au.F bM (Wd (A++us++C),(A.length,us.length)) (Wd v)=_;have key:=Sk (aHI Au.pre Au.F) (fun s=>v.length-s.1.2.2.1.toNat)
  (fun s=>∃(i:Nat) (out:List Nat) (c:Nat),i<=v.length/\out.length=i/\(∀z∈out,z<2^64)/\c<=1/\nv (2^64) out+(2^64)^i*c=nv (2^64) (us.take i)+nv (2^64) (v.take i) /\
   s=(((v.length:Int),(Wd v,((i:Int),(Wd v,((A.length,us.length),((c:Int),())))))),(Wd (A++(out++us.drop i)++C),())))
  (fun y=>∃(out:List Nat) (c:Nat),out.length=v.length/\(∀z∈out,z<2^64)/\c<=1/\nv (2^64) out+(2^64)^v.length*c=nv (2^64) (us.take v.length)+nv (2^64) v /\
   y=.inl ((Wd v,((A.length,us.length),((c:Int),()))),(Wd (A++(out++us.drop v.length)++C),()))) ?_
  (((v.length:Int),(Wd v,((0:Int),(Wd v,((A.length,us.length),((0:Int),())))))),(Wd (A++us++C),()))
  ⟨0,[],0,dv _,rfl,(fun z hz=>by simp at hz),by decide,by simp[nv],rfl⟩
 ·obtain⟨y,hy,out,c,k1,k2,k3,k5,rfl⟩:=key;have hy:bM (((v.length:Int),(Wd v,((0:Int),(Wd v,((A.length,us.length),((0:Int),())))))),(Wd (A++us++C),()))=_:=hy;have hlt:v.length<us.length:=by omega
  have hwl:(out++us.drop v.length).length=us.length:=by simp[k1];omega
  have hdg:=eD (us:=us) k1 hlt;have hg:=SG (A:=A) (C:=C) (us:=out++us.drop v.length) (i:=v.length) (by omega);rw[hdg]at hg;have hst:=fun z=>kP (A:=A) (C:=C) (us:=out++us.drop v.length) (i:=v.length) (v:=z) (by omega);have hsd:=fun z=>YK (a:=us) (v:=z) k1 hlt;have hd:=CS (by decide) hu v.length;have q1:=TJ (us.getD v.length 0) 0 c;have q2:=TK ((us.getD v.length 0:Nat):Int) ((0:Nat):Int) c k3;have z0:((0:Nat):Int)=0:=rfl;rw[z0]at q1 q2;have hnx:=EL (2^64) us v.length;rw[co (show us.length<=v.length+1 by omega)]at hnx;have hnil:us.drop (v.length+1)=[]:=iy (by omega);unfold jA;dsimp only;rw[AI,hy];have e0:decide ((0:Int)<=(v.length:Int))=true:=decide_eq_true (by omega);have e1:decide ((v.length:Int)<(us.length:Int))=true:=decide_eq_true (by omega);dsimp only[Ba,A7];simp only[e0,e1,bh,cond_true,AI,ag,hg,q2,q1,hst,hsd,hnil,df];have hstep:=aFi (P:=(2^64)^v.length) (y:=0) (d:=us.getD v.length 0) k5;generalize us.getD v.length 0=d at *
  have ho:(d+0+c)%2^64<2^64:=bo _ (by decide);have hO:nv (2^64) (out++[(d+0+c)%2^64])+(2^64)^us.length*((d+0+c)/2^64)=nv (2^64) us+nv (2^64) v:=by
   rw[Yp,k1,hnx,hlen,JQ];rw[dw]at hstep;omega
  have hod:=Xu k2 ho;have hOl:=D3 (B:=2^64) (by decide) (out++[(d+0+c)%2^64]) hod;have hol:(out++[(d+0+c)%2^64]).length=us.length:=by simp[k1];omega
  rw[hol]at hOl;by_cases hb:(d+0+c)/2^64=1
  ·rw[hb,fx]at hO;have hlt2:(2^64)^us.length<=nv (2^64) us+nv (2^64) v:=by omega
   refine⟨out++[(d+0+c)%2^64],hol,hod,by rw[if_pos hlt2];exact hO,?_⟩;rw[hb,decide_eq_true hlt2];rfl
  ·have hb0:(d+0+c)/2^64=0:=by omega
   rw[hb0,dw,cu]at hO;have hlt2:¬(2^64)^us.length<=nv (2^64) us+nv (2^64) v:=by omega
   refine⟨out++[(d+0+c)%2^64],hol,hod,by rw[if_neg hlt2,cu];exact hO,?_⟩;rw[hb0,decide_eq_false hlt2];rfl
 intro L s hs hL;obtain⟨i,out,c,hi,hol,hod,hc,hinv,rfl⟩:=hs;unfold Un;rcases aq i v.length with hlt|hge
 ·have hy:=CS (by decide) hv i;have hd:=CS (by decide) hu i;have hnv:=EL (2^64) v i;have hnu:=EL (2^64) us i;have hwl:(out++us.drop i).length=us.length:=by simp[hol];omega
  have hdg:=eD (us:=us) hol (by omega);have hg:=SG (A:=A) (C:=C) (us:=out++us.drop i) (i:=i) (by omega);rw[hdg]at hg;have hst:=fun z=>kP (A:=A) (C:=C) (us:=out++us.drop i) (i:=i) (v:=z) (by omega);have hsd:=fun z=>YK (a:=us) (v:=z) hol (by omega);have hgv:(Wd v).getD i 0=((v.getD i 0:Nat):Int):=CP v i;generalize v.getD i 0=y at *
  generalize us.getD i 0=d at *
  have q1:=TJ d y c;have q2:=TK (d:Int) (y:Int) c hc;have ho:(d+y+c)%2^64<2^64:=bo _ (by decide);have hc':(d+y+c)/2^64<=1:=by omega
  have hstep:=aFi (P:=(2^64)^i) (y:=y) (d:=d) hinv;have e0:decide ((i:Int)<(v.length:Int))=true:=decide_eq_true (by omega);have e1:decide ((0:Int)<=(i:Int))=true:=decide_eq_true (by omega);have e2:decide ((i:Int)<((us.length:Nat):Int))=true:=decide_eq_true (by omega);have e3:aa .i64 ((i:Int)+1)=((i+1:Nat):Int):=by rw[AB (by omega)];omega
  dsimp only;simp only[e0,e1,e2,e3,cond_true,bh,AI,ag,hgv,hg,q1,q2,hst,hsd];refine hL _ ⟨i+1,out++[(d+y+c)%2^64],(d+y+c)/2^64,by omega,by simp[hol],Xu hod ho,hc',?_,rfl⟩ (by simp only[ag];omega);rw[Yp,hol,hnv,hnu,JQ];exact hstep
 ·have e:i=v.length:=by omega
  subst e;have e0:decide ((v.length:Int)<(v.length:Int))=false:=decide_eq_false (by omega);simp only[e0,cond_false];rw[ej]at hinv;exact⟨_,rfl,out,c,hol,hod,hc,hinv,rfl⟩
theorem aPw(A C v:List Nat){k U:Nat}(hk:k=v.length+1)(hv:∀x∈v,x<2^64)(hn:v.length<=1000000)(us:List Nat)(g:Nat)(hlen:us.length=k)(hu:∀x∈us,x<2^64)(hg:g<2^64)
  (hinv:nv (2^64) us+g*nv (2^64) v=U+(2^64)^k) :
  ∃out:List Nat,out.length=k/\(∀z∈out,z<2^64)/\nv (2^64) out=U%nv (2^64) v /\
   WZ ((((g:Int),((A.length,k),(Wd v,()))),(Wd (A++us++C),())):Fy.D)=some (.inl ((((U/nv (2^64) v:Nat):Int),()),(Wd (A++out++C),()))):=by
 have key:=Sk (aHJ AS.pre AS.F AQ.pre AQ.F Au.pre Au.F B1.pre B1.F CO.pre CO.F) (fun s=>s.1.1.toNat)
  (fun s=>∃(us:List Nat) (g:Nat),us.length=k/\(∀x∈us,x<2^64)/\g<2^64/\nv (2^64) us+g*nv (2^64) v=U+(2^64)^k /\
   s=(((g:Int),((A.length,k),(Wd v,()))),(Wd (A++us++C),())))
  (fun y=>∃out:List Nat,out.length=k/\(∀z∈out,z<2^64)/\nv (2^64) out=U%nv (2^64) v/\y=.inl ((((U/nv (2^64) v:Nat):Int),()),(Wd (A++out++C),()))) ?_
  (((g:Int),((A.length,k),(Wd v,()))),(Wd (A++us++C),())) ⟨us,g,hlen,hu,hg,hinv,rfl⟩
 ·obtain⟨y,hy,out,k1,k2,k3,rfl⟩:=key;exact⟨out,k1,k2,k3,hy⟩
 clear hinv hg hu hlen us g;intro L s hs hL;obtain⟨us,g,hlen,hu,hg,hinv,rfl⟩:=hs;unfold Uo;obtain⟨out,o1,o2,o3,o4⟩:=aOU A us C v (by omega) hu hv hn;rw[hlen]at o1 o3 o4;have hul:=D3 (B:=2^64) (by decide) us hu;rw[hlen]at hul;have hg1:1<=g:=by
  rcases bc g with h|h
  ·rw[h,dp]at hinv;omega
  ·exact h
 obtain⟨p,rfl⟩:∃p,g=p+1:=⟨g-1,by omega⟩
 rw[bl,fh]at hinv;have e1:aa .u64 (((p+1:Nat):Int)-1)=(p:Int):=by rw[EN (by omega)];omega
 dsimp only;rw[aVO o4,aTd o4,cond_true,e1];dsimp only;by_cases hc:(2^64)^k<=nv (2^64) us+nv (2^64) v
 ·rw[if_pos hc]at o3;rw[decide_eq_true hc,cond_true];have hV:nv (2^64) out<nv (2^64) v:=by omega
  have hd:U=nv (2^64) v*p+nv (2^64) out:=by rw[ar];omega
  have hpos:0<nv (2^64) v:=by omega
  refine⟨_,rfl,out,o1,o2,?_,?_⟩
  ·rw[hd,kd,bb hV]
  ·rw[hd,kc hpos,cj hV,cu]
 ·rw[if_neg hc]at o3;rw[decide_eq_false hc,cond_false];exact hL _ ⟨out,p,o1,o2,by omega,by omega,rfl⟩ (by simp only[ag];omega)
theorem aT1{h l r w:Nat}(hl:l<2^64)(hw:w<2^64):(decide ((h:Int)<(r:Int))||(((h:Int)==(r:Int))&&decide ((l:Int)<=(w:Int))))=decide (h*2^64+l<=r*2^64+w):=by
 rw[ff,du,ae,decide_eq_true_eq,decide_eq_true_eq,decide_eq_true_eq,beq_iff_eq];omega
theorem aSA{U V P v1 v2 u2 u0 g rest:Nat}(hP:0<P)(hV:(v1*2^64+v2)*P<=V)(hU:U<(u2*2^64+u0+1)*P)(hg:g*v1+rest=u2)(h:¬g*v2<=rest*2^64+u0):U/V<g:=by
 rcases aq (U/V) g with h1|h1
 ·exact h1
 ·exfalso;have h2:g*V<=U:=fw (al V h1) (ml U V);have h3:g*((v1*2^64+v2)*P)<=g*V:=bm g hV;rw[←ax]at h3;have h4:=kh (aw (fw h3 h2) hU);rw[br,←ax]at h4;rw[←hg,bl]at h4;omega
theorem aSB{U V P v1 v2 u2 u0:Nat}(hP:0<P)(h1:0<v1)(hV:(v1*2^64+v2)*P<=V)(hU:U<(u2*2^64+u0+1)*P)(hu0:u0<2^64):U/V<=u2/v1:=by
 rw[gn h1];have h2:U/V*V<=U:=ml U V;have h3:U/V*((v1*2^64+v2)*P)<=U/V*V:=bm _ hV;rw[←ax]at h3;have h4:=kh (aw (fw h3 h2) hU);rw[br,←ax]at h4;omega
theorem aLe{v:List Nat}{n:Nat}(hn:v.length=n+2):(v.getD (n+1) 0*2^64+v.getD n 0)*(2^64)^n<=nv (2^64) v:=by
 have h1:=EL (2^64) v n;have h2:=EL (2^64) v (n+1);rw[co (by omega)]at h2;rw[h2,h1,JQ,bl,ar _ ((2^64)^n),ar (v.getD n 0),ax,ar (2^64) (v.getD (n+1) 0)];omega
theorem aK7{u:List Nat}{n:Nat}(hu:∀x∈u,x<2^64)(hn:u.length=n+3):nv (2^64) u<((u.getD (n+2) 0*2^64+u.getD (n+1) 0)*2^64+u.getD n 0+1)*(2^64)^n:=by
 have h0:=Yq hu n;have h1:=EL (2^64) u n;have h2:=EL (2^64) u (n+1);have h3:=EL (2^64) u (n+2);rw[co (show u.length<=n+2+1 by omega)]at h3;rw[h3,h2,h1];rw[show(2^64)^(n+2)=(2^64)^n*2^64*2^64 by rw[show n+2=n+1+1 by omega,JQ,JQ],JQ];generalize(2^64)^n=P at *
 generalize u.getD (n+2) 0=a;generalize u.getD (n+1) 0=b;generalize u.getD n 0=c;rw[ar (_+1) P,br,br,bl,br,fx];have e1:P*(a*2^64*2^64)=P*2^64*2^64*a:=by rw[ax P,ax P,ax a,ar a]
 have e2:P*(b*2^64)=P*2^64*b:=by rw[ax P,ar b]
 rw[e1,e2];omega
end VL
namespace VL
open Go Vx
theorem aPv(A us C v:List Nat){n:Nat}(hvl:v.length=n+2)(hlen:us.length=n+3)(hu:∀x∈us,x<2^64)(hv:∀x∈v,x<2^64)(hn:v.length<=1000000)
  (hV0:0<v.getD (n+1) 0) (g rest:Nat) (hg:g<2^64) (hr:rest<2^64) (hinv:g*v.getD (n+1) 0+rest=us.getD (n+2) 0*2^64+us.getD (n+1) 0) (hq:nv (2^64) us/nv (2^64) v<=g) :
  ∃g':Nat,g'<2^64/\nv (2^64) us/nv (2^64) v<=g' /\
   bN ((((g:Int),((rest:Int),((v.length:Int),((A.length,us.length),(Wd v,()))))),(Wd (A++us++C),())):Fz.D)=some (.inl (((A.length,us.length),(Wd v,((g':Int),()))),(Wd (A++us++C),()))):=by
 have key:=Sk (aHK AS.pre AS.F AQ.pre AQ.F Au.pre Au.F B1.pre B1.F CO.pre CO.F) (fun s=>s.1.1.toNat)
  (fun s=>∃(g rest:Nat),g<2^64/\rest<2^64/\g*v.getD (n+1) 0+rest=us.getD (n+2) 0*2^64+us.getD (n+1) 0/\nv (2^64) us/nv (2^64) v<=g /\
   s=(((g:Int),((rest:Int),((v.length:Int),((A.length,us.length),(Wd v,()))))),(Wd (A++us++C),())))
  (fun y=>∃g':Nat,g'<2^64/\nv (2^64) us/nv (2^64) v<=g'/\y=.inl (((A.length,us.length),(Wd v,((g':Int),()))),(Wd (A++us++C),()))) ?_
  (((g:Int),((rest:Int),((v.length:Int),((A.length,us.length),(Wd v,()))))),(Wd (A++us++C),())) ⟨g,rest,hg,hr,hinv,hq,rfl⟩
 ·obtain⟨y,hy,g',k1,k2,rfl⟩:=key;exact⟨g',k1,k2,hy⟩
 clear hinv hg hr hq g rest;intro L s hs hL;obtain⟨g,rest,hg,hr,hinv,hq,rfl⟩:=hs;unfold Up;have hv1:=CS (by decide) hv (n+1);have hv2:=CS (by decide) hv n;have hu0:=CS (by decide) hu n;have g1:(Wd v).getD (n+1) 0=((v.getD (n+1) 0:Nat):Int):=CP v _;have g2:(Wd v).getD n 0=((v.getD n 0:Nat):Int):=CP v _;have g3:=SG (A:=A) (C:=C) (us:=us) (i:=n) (by omega);have e11:aa .i64 ((v.length:Int)-2)=(n:Int):=by rw[AB (by omega)];omega
 have e12:aa .i64 ((v.length:Int)-1)=((n+1:Nat):Int):=by rw[AB (by omega)];omega
 have p0:=mS hg hv2;have e0:decide ((0:Int)<=(n:Int))=true:=decide_eq_true (by omega);have e1:decide ((n:Int)<(v.length:Int))=true:=decide_eq_true (by omega);have e2:decide ((n:Int)<(us.length:Int))=true:=decide_eq_true (by omega);have e3:decide ((0:Int)<=((n+1:Nat):Int))=true:=decide_eq_true (by omega);have e4:decide (((n+1:Nat):Int)<(v.length:Int))=true:=decide_eq_true (by omega);have hlo:g*v.getD n 0%2^64<2^64:=bo _ (by decide);have hlex:=aT1 (h:=g*v.getD n 0/2^64) (r:=rest) hlo hu0;rw[show g*v.getD n 0/2^64*2^64+g*v.getD n 0%2^64=g*v.getD n 0 by omega]at hlex;dsimp only;simp only[e11,e12,e0,e1,e2,e3,e4,bh,bf,cond_true,AI,ag,g1,g2,g3,uH p0,sH p0,hlex];by_cases hc:g*v.getD n 0<=rest*2^64+us.getD n 0
 ·rw[decide_eq_true hc,cond_true];exact⟨_,rfl,g,hg,hq,rfl⟩
 ·rw[decide_eq_false hc,cond_false];have hdn:=aSA (iw (by decide)) (aLe hvl) (aK7 hu hlen) hinv hc;have hg1:1<=g:=aw (dv _) hdn;obtain⟨p,rfl⟩:∃p,g=p+1:=⟨g-1,by omega⟩
  have e5:aa .u64 (((p+1:Nat):Int)-1)=(p:Int):=by rw[EN (by omega)];omega
  have q1:=TJ rest (v.getD (n+1) 0) 0;have q2:=TK (rest:Int) ((v.getD (n+1) 0:Nat):Int) 0 (by decide);have z0:((0:Nat):Int)=0:=rfl;rw[z0]at q1 q2;simp only[q1,q2,cond_true,e5];by_cases hb:(rest+v.getD (n+1) 0+0)/2^64=0
  ·have e6:((((rest+v.getD (n+1) 0+0)/2^64:Nat):Int)!=0)=false:=by rw[hb];rfl
   rw[e6,cond_false];have hs:(rest+v.getD (n+1) 0+0)%2^64=rest+v.getD (n+1) 0:=by omega
   rw[hs];refine hL _ ⟨p,rest+v.getD (n+1) 0,by omega,by omega,?_,oz hdn,rfl⟩ (by simp only[ag];omega);rw[bl,fh]at hinv;omega
  ·have e6:((((rest+v.getD (n+1) 0+0)/2^64:Nat):Int)!=0)=true:=BD _ hb;rw[e6,cond_true];exact⟨_,rfl,p,by omega,oz hdn,rfl⟩
theorem aOV(A us C v:List Nat){n:Nat}(hvl:v.length=n+2)(hlen:us.length=n+3)(hu:∀x∈us,x<2^64)(hv:∀x∈v,x<2^64)(hn:v.length<=1000000)
  (hlt:nv (2^64) us<nv (2^64) v*2^64) :
  ∃out:List Nat,out.length=us.length/\(∀z∈out,z<2^64)/\nv (2^64) out=nv (2^64) us%nv (2^64) v /\
   Wj ((Wd (A++us++C),(A.length,us.length)),(Wd v,()))=some (Wd (A++out++C),((nv (2^64) us/nv (2^64) v:Nat):Int),()):=by
 show ∃out:List Nat,_/\_/\_/\jB AS.pre AS.F AQ.pre AQ.F Au.pre Au.F B1.pre B1.F CO.pre CO.F bN WZ (Wd (A++us++C),(A.length,us.length)) (Wd v)=_;have hVp:0<nv (2^64) v:=by omega
 have hq64:nv (2^64) us/nv (2^64) v<2^64:=by rw[bg hVp,ar];exact hlt
 have hv1:=CS (by decide) hv (n+1);have hu2:=CS (by decide) hu (n+2);have hu1:=CS (by decide) hu (n+1);have hu0:=CS (by decide) hu n;have Cm:∀g:Nat,g<2^64->nv (2^64) us/nv (2^64) v<=g ->
   ∃out:List Nat,out.length=us.length/\(∀z∈out,z<2^64)/\nv (2^64) out=nv (2^64) us%nv (2^64) v /\
    (bif B1.pre ((Wd (A++us++C),(A.length,us.length)),(Wd v,((g:Int),())))then
     (bif(B1.F ((Wd (A++us++C),(A.length,us.length)),(Wd v,((g:Int),())))).2.1 then
      (Vx.Ba (WZ (((g:Int),((A.length,us.length),(Wd v,()))),((B1.F ((Wd (A++us++C),(A.length,us.length)),(Wd v,((g:Int),())))).1,()))) fun y5=>
      Vx.A7 y5 (fun y6=>some (y6.2.1,y6.1)) (fun _=>none))
     else some ((B1.F ((Wd (A++us++C),(A.length,us.length)),(Wd v,((g:Int),())))).1,((g:Int),())))
    else none)=(some (Wd (A++out++C),(((nv (2^64) us/nv (2^64) v:Nat):Int),())):Option (LK.B ET×DenS IM)):=by
  intro g hg hq;obtain⟨out,o1,o2,o3,o4⟩:=aOT A us C v (by omega) hu hv hn hg;have hpr:B1.pre ((Wd (A++us++C),(A.length,us.length)),(Wd v,((g:Int),())))=true:=aVN o4;have hfr:B1.F ((Wd (A++us++C),(A.length,us.length)),(Wd v,((g:Int),())))=(Wd (A++out++C),decide (nv (2^64) us<g*nv (2^64) v),()):=aTc o4;rw[hpr,hfr];rw[cond_true];by_cases hb:nv (2^64) us<g*nv (2^64) v
  ·rw[if_pos hb]at o3;obtain⟨out2,u1,u2,u3,u4⟩:=aPw A C v (k:=us.length) (U:=nv (2^64) us) (by omega) hv hn out g o1 o2 hg o3;refine⟨out2,u1,u2,u3,?_⟩;dsimp only;rw[decide_eq_true hb,cond_true,u4]
  ·rw[if_neg hb,cu]at o3;have h1:nv (2^64) us/nv (2^64) v=g:=by
    have:g<=nv (2^64) us/nv (2^64) v:=by rw[gn hVp];omega
    exact Nat.le_antisymm hq this
   have h2:nv (2^64) out=nv (2^64) us%nv (2^64) v:=by
    have:=cg (nv (2^64) us) (nv (2^64) v);rw[h1,ar]at this;omega
   refine⟨out,o1,o2,h2,?_⟩;dsimp only;rw[decide_eq_false hb,cond_false,h1]
 have g1:(Wd v).getD (n+1) 0=((v.getD (n+1) 0:Nat):Int):=CP v _;have g2:=SG (A:=A) (C:=C) (us:=us) (i:=n+2) (by omega);have g3:=SG (A:=A) (C:=C) (us:=us) (i:=n+1) (by omega);have e10:aa .i64 ((v.length:Int)-1)=((n+1:Nat):Int):=by rw[AB (by omega)];omega
 have e0:decide ((0:Int)<=(v.length:Int))=true:=decide_eq_true (by omega);have e1:decide ((v.length:Int)<(us.length:Int))=true:=decide_eq_true (by omega);have e2:decide ((0:Int)<=((n+1:Nat):Int))=true:=decide_eq_true (by omega);have e3:decide (((n+1:Nat):Int)<(v.length:Int))=true:=decide_eq_true (by omega);have e4:decide (((n+1:Nat):Int)<(us.length:Int))=true:=decide_eq_true (by omega);have evl:v.length=n+2:=hvl;have g2':(Wd (A++us++C)).getD (A.length+v.length) 0=((us.getD (n+2) 0:Nat):Int):=by rw[evl];exact g2
 unfold jB;dsimp only;simp only[AI,ag,e10,g1,g2',g3,e0,e1,e2,e3,e4,bh,cond_true];by_cases hc:us.getD (n+2) 0<v.getD (n+1) 0
 ·have e5:decide (((us.getD (n+2) 0:Nat):Int)<((v.getD (n+1) 0:Nat):Int))=true:=decide_eq_true (by omega);have p0:=aAG hu1 hv1 hc;simp only[e5,cond_true,aIA p0,aGN p0];have hgl:(us.getD (n+2) 0*2^64+us.getD (n+1) 0)/v.getD (n+1) 0<2^64:=by
   rw[bg (by omega)];have:(us.getD (n+2) 0+1)*2^64<=v.getD (n+1) 0*2^64:=al _ hc;rw[bl,fh]at this;rw[ar (2^64)];omega
  have hrl:(us.getD (n+2) 0*2^64+us.getD (n+1) 0)%v.getD (n+1) 0<2^64:=je (bo _ (by omega)) hv1;have hst:=aSB (iw (n:=n) (show 0<2^64 by decide)) (show 0<v.getD (n+1) 0 by omega) (aLe hvl) (aK7 hu hlen) hu0;obtain⟨g',k1,k2,k3⟩:=aPv A us C v hvl hlen hu hv hn (by omega) _ _ hgl hrl (by rw[ar];exact cg _ _) hst;rw[k3];obtain⟨out,o1,o2,o3,o4⟩:=Cm g' k1 k2;exact⟨out,o1,o2,o3,o4⟩
 ·have e5:decide (((us.getD (n+2) 0:Nat):Int)<((v.getD (n+1) 0:Nat):Int))=false:=decide_eq_false (by omega);simp only[e5,cond_false];obtain⟨out,o1,o2,o3,o4⟩:=Cm (2^64-1) (by decide) (Nat.le_pred_of_lt hq64);exact⟨out,o1,o2,o3,o4⟩
end VL
namespace VL
open Go Vx
theorem aRS{X Q d r a B:Nat}(hX:X=Q*d+r):X*B+a=(Q*B+(r*B+a)/d)*d+(r*B+a)%d:=by
 have h1:=cg (r*B+a) d;rw[hX,bl,bl,jd,ar ((r*B+a)/d) d];omega
theorem aPl(l:List Nat)(hl:∀x∈l,x<2^64)(hn:l.length<=1000000){d:Nat}(hd:0<d)(hd2:d<2^64):
  ∃qs:List Nat,qs.length=l.length/\(∀x∈qs,x<2^64)/\nv (2^64) qs=nv (2^64) l/d /\
   WW ((((d:Int),(((l.length:Int)-1),((),((0:Int),())))),(Wd l,())):Fx.D)=some (.inl (((),(((nv (2^64) l%d:Nat):Int),())),(Wd qs,()))):=by
 have key:=Sk (aHx AS.pre AS.F Ai.pre Ai.F) (fun s=>(s.1.2.1+1).toNat)
  (fun s=>∃(k:Nat) (qs:List Nat) (r:Nat),k<=l.length/\qs.length+k=l.length/\(∀x∈qs,x<2^64)/\r<d/\nv (2^64) (l.drop k)=nv (2^64) qs*d+r /\
   s=(((d:Int),(((k:Int)-1),((),((r:Int),())))),(Wd (l.take k++qs),())))
  (fun y=>∃qs:List Nat,qs.length=l.length/\(∀x∈qs,x<2^64)/\nv (2^64) qs=nv (2^64) l/d/\y=.inl (((),(((nv (2^64) l%d:Nat):Int),())),(Wd qs,()))) ?_
  (((d:Int),(((l.length:Int)-1),((),((0:Int),())))),(Wd l,()))
  ⟨l.length,[],0,bd _,by simp,(fun z hz=>by simp at hz),hd,by simp[nv],by simp⟩
 ·obtain⟨y,hy,qs,k1,k2,k3,rfl⟩:=key;exact⟨qs,k1,k2,k3,hy⟩
 intro L s hs hL;obtain⟨k,qs,r,hk,hql,hqd,hr,hinv,rfl⟩:=hs;unfold Uc;rcases k with _|i
 ·have e0:decide ((((0:Nat):Int)-1)>=0)=false:=rfl;dsimp only;rw[e0,cond_false];rw[lk]at hinv;have hdv:nv (2^64) l/d=nv (2^64) qs:=by rw[hinv,ar,kc hd,cj hr,cu]
  have hmd:nv (2^64) l%d=r:=by rw[hinv,ar,kd,bb hr]
  exact⟨_,rfl,qs,by omega,hqd,hdv.symm,by rw[hmd,List.take_zero,List.nil_append]⟩
 ·have ei:(((i+1:Nat):Int)-1)=(i:Int):=by omega
  have ha:=CS (by decide) hl i;have hg:(Wd (l.take (i+1)++qs)).getD i 0=((l.getD i 0:Nat):Int):=by
   rw[CP];congr 1;rw[ak,ak,bv (by simp;omega),List.getElem?_take_of_lt (by omega)]
  have hdn:=Yo (2^64) l i (by omega);have hset:∀z:Nat,(Wd (l.take (i+1)++qs)).set i (z:Int)=Wd (l.take i++(z::qs)):=fun z=>by
   rw[Fa,mc _ _ (by simp;omega),jg (show i<l.length by omega),ga _ _ (by simp;omega)];have:i-(l.take i).length=0:=by simp;omega
   rw[this];simp
  have hlen:(Wd (l.take (i+1)++qs)).length=l.length:=by rw[AI];simp;omega
  generalize l.getD i 0=a at *
  have p0:=aAG (hi:=r) ha hd2 hr;have e0:decide ((i:Int)>=0)=true:=decide_eq_true (by omega);have e1:decide ((0:Int)<=(i:Int))=true:=decide_eq_true (by omega);have e2:decide ((i:Int)<(l.length:Int))=true:=decide_eq_true (by omega);have e3:aa .i64 ((i:Int)-1)=(i:Int)-1:=AB (by omega);dsimp only;simp only[ei,e0,e1,e2,e3,hlen,bh,cond_true,ag,hg,aIA p0,aGN p0,hset];have hq:(r*2^64+a)/d<2^64:=by
   rw[bg hd];have:(r+1)*2^64<=d*2^64:=al _ hr;rw[ar (2^64)];omega
  refine hL _ ⟨i,(r*2^64+a)/d::qs,(r*2^64+a)%d,by omega,by simp;omega,?_,bo _ hd,?_,rfl⟩ (by dsimp only;omega)
  ·intro x hx;rcases cp.1 hx with rfl|hx
   ·exact hq
   ·exact hqd x hx
  ·have:=aRS (B:=2^64) (a:=a) hinv;rw[hdn];show a+2^64*_=((r*2^64+a)/d+2^64*nv (2^64) qs)*d+_;rw[ar (2^64) (nv (2^64) qs),gv ((r*2^64+a)/d),←this];omega
theorem vS{l:List Nat}(h:∀x∈l,x<2^64):Wd (Al l)=Dw (nv (2^64) l):=by
 unfold Dw;rw[GQ (by decide) l h]
theorem aOF{a:Nat}(ha:a<(2^64)^5000){d:Nat}(hd:0<d)(hd2:d<2^64):VY (Dw a,(d:Int),())=some (Dw (a/d),((a%d:Nat):Int),()):=by
 show iG AS.pre AS.F Ai.pre Ai.F WW (Dw a) (d:Int)=_;unfold iG;have hw:=Dq ha;obtain⟨qs,k1,k2,k3,k4⟩:=aPl (dg (2^64) a) hw.1 hw.2 hd hd2;rw[CL]at k3 k4;have hl:(dg (2^64) a).length<=1000000:=hw.2;have e0:aa .i64 (((Dw a).length:Int)-1)=(((dg (2^64) a).length:Int)-1):=by
  unfold Dw;rw[AI,AB (by omega)]
 have p0:=DZ qs (by omega);rw[e0];have k4:WW ((((d:Int),((((dg (2^64) a).length:Int)-1),((),((0:Int),())))),(Dw a,())):Fx.D)=_:=k4;rw[k4];show(bif Ai.pre (Wd qs,())then some ((Ai.F (Wd qs,())).1,(((a%d:Nat):Int),()))else none)=_;simp only[C9 p0,C7 p0,cond_true,vS k2,k3]
theorem aPx(v:List Nat){n:Nat}(hvl:v.length=n+2)(hv:∀x∈v,x<2^64)(hn:v.length<=900000){X:Nat}(Q:Nat)(hQ:Q<=50000)(s:Int)(us:List Nat)(hus:us.length=Q+n+2)
  (hud:∀x∈us,x<2^64) (hX:nv (2^64) us=X) (hlt:X<nv (2^64) v*(2^64)^Q) :
  ∃qs us':List Nat,qs.length=Q/\(∀x∈qs,x<2^64)/\nv (2^64) qs=X/nv (2^64) v/\us'.length=Q+n+2/\(∀x∈us',x<2^64)/\nv (2^64) us'=X%nv (2^64) v /\
   W0 (((Wd v,(((Q:Int)-1),((),((),((v.length:Int),(s,())))))),(Wd us,(Wd (au Q 0),()))):FA.D)=some (.inl (((),((),((v.length:Int),(s,())))),(Wd us',(Wd qs,())))):=by
 have hV0:0<nv (2^64) v:=by
  rcases bc (nv (2^64) v)with h|h
  ·rw[h,dp]at hlt;omega
  ·exact h
 have hVl:=D3 (B:=2^64) (by decide) v hv;have key:=Sk (aHL Dc.pre Dc.F Eh.pre Eh.F By.pre By.F CA.pre CA.F E8.pre E8.F Bz.pre Bz.F Dd.pre Dd.F Ej.pre Ej.F Ai.pre Ai.F CB.pre CB.F) (fun s=>(s.1.2.1+1).toNat)
  (fun x=>∃(k:Nat) (qs us:List Nat),k<=Q/\qs.length+k=Q/\(∀x∈qs,x<2^64)/\us.length=Q+n+2/\(∀x∈us,x<2^64)/\nv (2^64) us<nv (2^64) v*(2^64)^k /\
   X=nv (2^64) qs*(2^64)^k*nv (2^64) v+nv (2^64) us /\
   x=((Wd v,(((k:Int)-1),((),((),((v.length:Int),(s,())))))),(Wd us,(Wd (au k 0++qs),()))))
  (fun y=>∃qs us':List Nat,qs.length=Q/\(∀x∈qs,x<2^64)/\nv (2^64) qs=X/nv (2^64) v/\us'.length=Q+n+2/\(∀x∈us',x<2^64)/\nv (2^64) us'=X%nv (2^64) v /\
   y=.inl (((),((),((v.length:Int),(s,())))),(Wd us',(Wd qs,())))) ?_
  ((Wd v,(((Q:Int)-1),((),((),((v.length:Int),(s,())))))),(Wd us,(Wd (au Q 0),())))
  ⟨Q,[],us,bd _,by simp,(fun z hz=>by simp at hz),hus,hud,by rw[hX];exact hlt,by simp[nv,hX],by simp⟩
 ·obtain⟨y,hy,qs,us',k1,k2,k3,k4,k5,k6,rfl⟩:=key;exact⟨qs,us',k1,k2,k3,k4,k5,k6,hy⟩
 clear hlt hX hud hus us;intro L x hx hL;obtain⟨k,qs,us,hk,hql,hqd,hus,hud,hlt,hinv,rfl⟩:=hx;unfold Uq;rcases k with _|j
 ·have e0:decide ((((0:Nat):Int)-1)>=0)=false:=rfl;dsimp only;rw[e0,cond_false];rw[go,fx]at hlt hinv;have hdv:X/nv (2^64) v=nv (2^64) qs:=by rw[hinv,ar,kc hV0,cj hlt,cu]
  have hmd:X%nv (2^64) v=nv (2^64) us:=by rw[hinv,ar,kd,bb hlt]
  exact⟨_,rfl,qs,us,by omega,hqd,hdv.symm,hus,hud,hmd.symm,by simp⟩
 ·have ei:(((j+1:Nat):Int)-1)=(j:Int):=by omega
  have hjl:j+(n+3)<=us.length:=by omega
  have hsplit:us=us.take j++(us.drop j).take (n+3)++us.drop (j+(n+3)):=by
   rw[ee,←qd,ka,ka]
  have hAl:(us.take j).length=j:=by simp;omega
  have hwl:((us.drop j).take (n+3)).length=n+3:=by simp;omega
  have hAd:∀x∈us.take j,x<2^64:=fun x hx=>hud x (dz hx);have hwd:∀x∈(us.drop j).take (n+3),x<2^64:=fun x hx=>hud x (kj (dz hx));have hCd:∀x∈us.drop (j+(n+3)),x<2^64:=fun x hx=>hud x (kj hx);have hCl:(us.drop (j+(n+3))).length+j+(n+3)=us.length:=by simp;omega
  generalize us.take j=A at *
  generalize(us.drop j).take (n+3)=w at *
  generalize us.drop (j+(n+3))=C at *
  subst hsplit;have hAlt:=D3 (B:=2^64) (by decide) A hAd;have hval:∀w:List Nat,w.length=n+3->nv (2^64) (A++w++C)=nv (2^64) A+(2^64)^j*nv (2^64) w+(2^64)^(j+(n+3))*nv (2^64) C:=fun w hw=>by
   rw[Sq,Sq,hAl,show(A++w).length=j+(n+3) by simp[hAl,hw]]
  have hPj:=iw (n:=j) (show 0<2^64 by decide);have hv1:=hval w hwl;rw[hAl]at hAlt;have hC0:nv (2^64) C=0:=by
   rcases bc (nv (2^64) C)with h|h
   ·exact h
   ·exfalso;have h1:(2^64)^(j+(n+3))*1<=(2^64)^(j+(n+3))*nv (2^64) C:=bm _ h;have h2:nv (2^64) v*(2^64)^(j+1)<=(2^64)^(n+2)*(2^64)^(j+1):=al _ (by rw[hvl]at hVl;omega);rw[←ba,show n+2+(j+1)=j+(n+3) by omega]at h2;omega
  rw[hC0,dw,cu]at hv1;have hwlt:nv (2^64) w<nv (2^64) v*2^64:=by
   have h1:(2^64)^j*nv (2^64) w<(2^64)^j*(nv (2^64) v*2^64):=by
    rw[JQ,←ax]at hlt;rw[iq,←ax];omega
   exact Nat.lt_of_mul_lt_mul_left h1
  obtain⟨out,o1,o2,o3,o4⟩:=aOV A w C v hvl hwl hwd hv (by omega) hwlt;rw[hAl,hwl]at o4;have hout:out.length=n+3:=by omega
  have hv2:=hval out hout;rw[hC0,dw,cu,o3]at hv2;have hdm:=cg (nv (2^64) w) (nv (2^64) v);have hml:=bo (nv (2^64) w) hV0;have hq64:nv (2^64) w/nv (2^64) v<2^64:=by rw[bg hV0,ar];exact hwlt
  have e0:decide ((j:Int)>=0)=true:=decide_eq_true (by omega);have e1:decide ((0:Int)<=(j:Int))=true:=decide_eq_true (by omega);have e3:aa .i64 (aa .i64 ((j:Int)+(v.length:Int))+1)=((j+(n+3):Nat):Int):=by
   rw[AB (n:=(j:Int)+_) (by omega),AB (by omega)];omega
  have e4:decide ((j:Int)<=((j+(n+3):Nat):Int))=true:=decide_eq_true (by omega);have e5:decide ((((j+(n+3):Nat):Int))<=((Wd (A++w++C)).length:Int))=true:=decide_eq_true (by rw[AI];simp;omega);have e6:decide ((j:Int)<((Wd (au (j+1) 0++qs)).length:Int))=true:=decide_eq_true (by rw[AI];simp;omega);have e7:aa .i64 ((j:Int)-1)=(j:Int)-1:=AB (by omega);have hset:∀z:Nat,(Wd (au (j+1) 0++qs)).set j (z:Int)=Wd (au j 0++(z::qs)):=fun z=>by
   rw[Fa,mc _ _ (by simp),List.replicate_succ',ga _ _ (by simp)];simp
  have e8:j+(n+3)-j=n+3:=by omega
  dsimp only;simp only[ei,e0,e1,e3,e4,e5,e6,e7,bh,cond_true,ag,e8];rw[aVP o4,aTe o4,cond_true];dsimp only;rw[hset];refine hL _ ⟨j,nv (2^64) w/nv (2^64) v::qs,A++out++C,by omega,by simp;omega,?_,by simp;omega,?_,?_,?_,rfl⟩ (by dsimp only;omega)
  ·intro x hx;rcases cp.1 hx with rfl|hx
   ·exact hq64
   ·exact hqd x hx
  ·intro x hx;rcases cr.1 hx with hx|hx
   ·rcases cr.1 hx with hx|hx
    ·exact hAd x hx
    ·exact o2 x hx
   ·exact hCd x hx
  ·rw[hv2];have:(2^64)^j*(nv (2^64) w%nv (2^64) v+1)<=(2^64)^j*nv (2^64) v:=bm _ hml;rw[br,fx]at this;rw[ar (nv (2^64) v)];omega
  ·rw[hv2,hinv,hv1];show _=(nv (2^64) w/nv (2^64) v+2^64*nv (2^64) qs)*(2^64)^j*nv (2^64) v+_;have h1:(2^64)^j*nv (2^64) w=(2^64)^j*(nv (2^64) v*(nv (2^64) w/nv (2^64) v))+(2^64)^j*(nv (2^64) w%nv (2^64) v):=by rw[←br,hdm]
   rw[h1,JQ,bl,bl];generalize nv (2^64) w/nv (2^64) v=q;generalize nv (2^64) v=V;generalize(2^64)^j=P;have h2:nv (2^64) qs*(P*2^64)*V=2^64*nv (2^64) qs*P*V:=by rw[ar P,←ax,ar (nv (2^64) qs)]
   have h3:P*(V*q)=q*P*V:=by rw[ar V,←ax,ar P]
   rw[h2,h3];omega
end VL
namespace VL
open Go Vx
theorem aSh{x k:Nat}(h:(2^64)^k<=x):k<(dg (2^64) x).length:=by
 have:=XD (B:=2^64) (by decide) x;exact(cm (a:=2^64) (by decide)).1 (aw h this)
theorem aSi{x:Nat}(h0:x≠0):∃t,(dg (2^64) x).getD ((dg (2^64) x).length-1) 0=t/\t≠0/\t<2^64/\Ag x=64*((dg (2^64) x).length-1)+Ag t/\0<(dg (2^64) x).length:=by
 have hl:0<(dg (2^64) x).length:=by rw[FQ (by decide) (by omega)];simp
 have ht:=QW (B:=2^64) (by decide) x;have h1:=YX (dg (2^64) x) (by rw[ht];exact hl);have h2:=aFn (QV (B:=2^64) (by decide) x) (by rw[ht];exact hl);rw[ht]at h1 h2;rw[CL]at h2;exact⟨_,rfl,h1,CS (by decide) (QV (by decide) x) _,h2,hl⟩
theorem UP(k:Nat):(2^64)^k=2^(64*k):=(mj ..).symm
theorem aOW{a b:Nat}(ha:a<(2^64)^4000)(hb:b<(2^64)^4000)(h0:b≠0):Wk (Dw a,Dw b,())=some (Dw (a/b),Dw (a%b),()):=by
 have up:∀{x:Nat},x<(2^64)^4000->x<(2^64)^5000:=fun h=>ao h (aj (by decide) (by decide));show jC Dc.pre Dc.F Eh.pre Eh.F By.pre By.F CA.pre CA.F E8.pre E8.F Bz.pre Bz.F Dd.pre Dd.F Ej.pre Ej.F Ai.pre Ai.F CB.pre CB.F W0 (Dw a) (Dw b)=_;unfold jC;have pa:=Ta (up ha);have pb:=Ta (up hb);have pc:=mP (up ha) (up hb);have wa:=Dq (up ha);have wb:=Dq (up hb);have hla:(dg (2^64) a).length<=4000:=D0 (by decide) _ _ ha;have hlb:(dg (2^64) b).length<=4000:=D0 (by decide) _ _ hb;have pcopy:=aAd (dg (2^64) a) wa;rw[CL]at pcopy;have pcopy:RB (Dw a,())=some (Dw a,()):=pcopy;obtain⟨t,ht,ht0,ht64,hbt,hlp⟩:=aSi h0;have hLen:∀x:Nat,(Dw x).length=(dg (2^64) x).length:=fun x=>AI _;have hGet:∀(x i:Nat),(Dw x).getD i 0=(((dg (2^64) x).getD i 0:Nat):Int):=fun x i=>CP _ _;dsimp only;simp only[C9 pa,C7 pa,C9 pb,C7 pb,uC pc,sB pc,cond_true];by_cases hlt:a<b
 ·have e0:decide ((if a=b then(0:Int)else if a<b then -1 else 1)<0)=true:=by rw[if_neg (by omega),if_pos hlt];rfl
  simp only[e0,cond_true,uA pcopy,r9 pcopy];rw[cj hlt,bb hlt,EO]
 have e0:decide ((if a=b then(0:Int)else if a<b then -1 else 1)<0)=false:=by
  rw[if_neg hlt];split<;>rfl
 simp only[e0,cond_false];by_cases h1:(dg (2^64) b).length=1
 ·have e1:(((Dw b).length:Int)==1)=true:=by rw[hLen,h1];rfl
  have hb64:b<2^64:=by
   have:=XD (B:=2^64) (by decide) b;rw[h1,qq]at this;exact this
  have e2:decide ((0:Int)<((Dw b).length:Int))=true:=by rw[hLen,h1];rfl
  have e3:(Dw b).getD (ai 0) 0=(b:Int):=by rw[be,Rq,bb hb64]
  have p0:=aOF (up ha) (mr h0) hb64;have hr:a%b<b:=bo _ (mr h0);have p1:=DZ [a%b] (by simp);rw[vS (by intro x hx;rw[ky]at hx;omega),show nv (2^64) [a%b]=a%b by simp[nv]]at p1;have p1:RF ((((a%b:Nat):Int)::[]),())=_:=p1;simp only[e1,e2,e3,cond_true,uA pcopy,r9 pcopy,aVE p0,aS3 p0,C9 p1,C7 p1]
 have e1:(((Dw b).length:Int)==1)=false:=by
  rw[hLen];exact Uw _ _ (by omega)
 simp only[e1,cond_false];obtain⟨n,hn⟩:∃n,(dg (2^64) b).length=n+2:=⟨(dg (2^64) b).length-2,by omega⟩
 have hab:(dg (2^64) b).length<=(dg (2^64) a).length:=aFW (by decide) (by omega);obtain⟨Q,hQ⟩:∃Q,(dg (2^64) a).length+1=Q+n+2:=⟨(dg (2^64) a).length+1-(n+2),by omega⟩
 rw[show(dg (2^64) b).length-1=n+1 by omega]at ht hbt;have hbl:=Dz ht64;have hbl1:=dS ht0;generalize hs:64-Ag t=s at *
 have p327:=aAF ht64;rw[hs]at p327;have hub:=FM b;have hlob:=LX h0;have hp:=ah s;have hV1:b*2^s<2^(64*(n+2)):=by
  have h2:b*2^s<2^Ag b*2^s:=de hub hp;rw[←ba,show Ag b+s=64*(n+2) by omega]at h2;exact h2
 have hV2:2^(64*(n+2)-1)<=b*2^s:=by
  have h2:2^(Ag b-1)*2^s<=b*2^s:=al _ hlob;rw[←ba,show Ag b-1+s=64*(n+2)-1 by omega]at h2;exact h2
 have hvlen:(dg (2^64) (b*2^s)).length=n+2:=by
  have h2:(dg (2^64) (b*2^s)).length<=n+2:=D0 (by decide) _ _ (by rw[UP];exact hV1);have h3:=aSh (x:=b*2^s) (k:=n+1) (by
   rw[UP];exact fw (aj (by decide) (by omega)) hV2)
  omega
 have hA:a*2^s<2^(64*(dg (2^64) a).length+s):=by
  have h2:=XD (B:=2^64) (by decide) a;rw[UP]at h2;rw[ba];exact de h2 hp
 have hulen:(dg (2^64) (a*2^s)).length<=Q+n+2:=D0 (by decide) _ _ (by
  rw[UP];exact ao hA (aj (by decide) (by omega)))
 have hstart:a*2^s<b*2^s*(2^64)^Q:=by
  have h2:2^(64*(n+2)-1)*2^(64*Q)<=b*2^s*2^(64*Q):=al _ hV2;rw[←ba]at h2;rw[UP];exact ao (ao hA (aj (by decide) (by omega))) h2
 have pv:=mQ (dg (2^64) b) wb s (by rw[QW (by decide)];omega);have pu:=mQ (dg (2^64) a) wa s (by rw[QW (by decide)];omega);rw[CL]at pv pu;have pv:RI (Dw b,(s:Int),())=some (Dw (b*2^s),()):=pv;have pu:RI (Dw a,(s:Int),())=some (Dw (a*2^s),()):=pu;have e17:aa .i64 (((Dw b).length:Int)-1)=((n+1:Nat):Int):=by rw[hLen,AB (by omega)];omega
 have e18:aa .i64 (((Dw a).length:Int)+1)=((Q+n+2:Nat):Int):=by rw[hLen,AB (by omega)];omega
 have eg:(Dw b).getD (ai ((n+1:Nat):Int)) 0=(t:Int):=by rw[ag,hGet,ht]
 have e2:(decide ((0:Int)<=((n+1:Nat):Int))&&decide (((n+1:Nat):Int)<((Dw b).length:Int)))=true:=by
  rw[hLen,decide_eq_true (by omega),decide_eq_true (by omega)];rfl
 have e3:(decide ((0:Int)<=((Q+n+2:Nat):Int))&&decide (((Q+n+2:Nat):Int)*8<=140737488355328))=true:=by
  rw[decide_eq_true (by omega),decide_eq_true (by omega)];rfl
 generalize hud:dg (2^64) (a*2^s)++au (Q+n+2-(dg (2^64) (a*2^s)).length) 0=us;have husl:us.length=Q+n+2:=by rw[←hud,List.length_append,fj];omega
 have hus:∀x∈us,x<2^64:=by
  rw[←hud];intro x hx;rcases cr.1 hx with hx|hx
  ·exact QV (by decide) _ x hx
  ·have:=(List.mem_replicate.1 hx).2;omega
 have husv:nv (2^64) us=a*2^s:=by rw[←hud,Sq,aUI,dw,cu,CL]
 have hrow:(Dw (a*2^s)).take (au (ai ((Q+n+2:Nat):Int)) (0:Int)).length++(au (ai ((Q+n+2:Nat):Int)) (0:Int)).drop (Dw (a*2^s)).length=Wd us:=by
  rw[ag,fj,W2,hLen,aPC,List.drop_replicate];unfold Dw;rw[bR,co hulen,←hud];unfold Wd;rw[List.map_append]
 have e11:aa .i64 (((Wd us).length:Int)-((Dw (b*2^s)).length:Int))=(Q:Int):=by
  rw[AI,husl,hLen,hvlen,AB (by omega)];omega
 have e4:(decide ((0:Int)<=(Q:Int))&&decide ((Q:Int)*8<=140737488355328))=true:=by
  rw[decide_eq_true (by omega),decide_eq_true (by omega)];rfl
 have e5:aa .i64 (((au (ai (Q:Int)) (0:Int)).length:Int)-1)=(Q:Int)-1:=by
  rw[ag,fj,AB (by omega)]
 obtain⟨qs,us',k1,k2,k3,k4,k5,k6,k7⟩:=aPx (dg (2^64) (b*2^s)) hvlen (QV (by decide) _) (by omega) (X:=a*2^s) Q (by omega) (s:Int) us husl hus husv (by rw[CL];exact hstart);rw[CL]at k3 k6;rw[kf _ _ hp]at k3;rw[fc]at k6;have k7:W0 (((Dw (b*2^s),(((Q:Int)-1),((),((),(((Dw (b*2^s)).length:Int),((s:Int),())))))),(Wd us,((au (ai (Q:Int)) (0:Int)),()))):FA.D)=some (.inl (((),((),(((n+2:Nat):Int),((s:Int),())))),(Wd us',(Wd qs,())))):=by
  rw[ag,W2,hLen];rw[hvlen]at k7⊢;exact k7
 simp only[e17,eg,aIz p327,aGM p327,uF pv,sE pv,uF pu,sE pu,e18,e2,e3,cond_true,hrow,e11,e4,e5];rw[k7];dsimp only[Ba,A7];have pq:=DZ qs (by omega);rw[vS k2,k3]at pq;have hnl:nv (2^64) (us'.take (n+2))=a%b*2^s:=by
  have h2:=Rc (2^64) us' (n+2) (by omega);have h3:nv (2^64) (us'.drop (n+2))=0:=by
   rcases bc (nv (2^64) (us'.drop (n+2)))with h|h
   ·exact h
   ·exfalso;have h4:(2^64)^(n+2)*1<=(2^64)^(n+2)*nv (2^64) (us'.drop (n+2)):=bm _ h;have h5:a%b*2^s<b*2^s:=de (bo _ (mr h0)) hp;rw[UP]at h4 h2;omega
  rw[h3,dw,cu]at h2;rw[←h2,k6]
 have pr:=aAo (us'.take (n+2)) ⟨fun x hx=>k5 x (dz hx),by simp;omega⟩ s (by omega);rw[hnl,ig _ hp]at pr;have pr:S9 (Wd (us'.take (n+2)),(s:Int),())=some (Dw (a%b),()):=pr;have e6:(decide ((0:Int)<=((n+2:Nat):Int))&&decide (((n+2:Nat):Int)<=((Wd us').length:Int)))=true:=by
  rw[AI,k4,decide_eq_true (by omega),decide_eq_true (by omega)];rfl
 have e7:((Wd us').take (ai ((n+2:Nat):Int))).drop (ai 0)=Wd (us'.take (n+2)):=by
  rw[ag,be,bR,lk]
 simp only[C9 pq,C7 pq,e6,e7,aIx pr,aGK pr,cond_true]
theorem aTJ{l:List (List Nat)}(hl:∀x∈l,x.length<=1024)(hn:l.length<=1000000):QH (l.map Wd,())=some (false,()):=by
 have:=aAt l (fun x hx=>by have:=hl x hx;omega) hn;rw[this,decide_eq_true (fun x hx=>fw (DW x).1 (hl x hx))];rfl
theorem aOX{a b:Nat}(ha:a<(2^64)^1024)(hb:b<(2^64)^1024)(h0:b≠0):Wl (Dw a,Dw b,())=some (Dw (a/b),Dw (a%b),0,()):=by
 have up:∀{x:Nat},x<(2^64)^1024->x<(2^64)^4000:=fun h=>ao h (aj (by decide) (by decide));have up5:∀{x:Nat},x<(2^64)^1024->x<(2^64)^5000:=fun h=>ao h (aj (by decide) (by decide));show jD Ei.pre Ei.F Ai.pre Ai.F Qa.pre Qa.F (Dw a) (Dw b)=_;unfold jD;have p0:=aTJ (l:=[dg (2^64) a,dg (2^64) b]) (by
  intro x hx;rcases cp.1 hx with rfl|hx
  ·exact D0 (by decide) _ _ ha
  ·rw[ky]at hx;rw[hx];exact D0 (by decide) _ _ hb) (by simp)
 have p0:QH ((Dw a::Dw b::[]),())=some (false,()):=p0;have p1:=Ta (up5 hb);have p2:=aOW (up ha) (up hb) h0;have e0:(((Dw b).length:Int)==0)=false:=by rw[aLl,decide_eq_false h0]
 simp only[uE p0,sD p0,C9 p1,C7 p1,aVQ p2,aTf p2,cond_true,cond_false,e0]
end VL
namespace VL
open Go Vx
theorem kV(f:Int)(a:Nat):((Am f a:Int)==0)=AV f a:=by
 cases hz:AV f a
 ·exact Bn _ (FY hz)
 ·unfold AV at hz;rw[ae,beq_iff_eq,beq_iff_eq]at hz;unfold Am;rw[if_pos hz.1,hz.2];rfl
end VL
namespace VL
open Go Vx
def UA(f m:Int)(neg:Bool)(d n:Nat):Nat:=(Ag n-fP f-d)*2^(fP f-1)+CH m neg n (Ag n-fP f-d+d)
theorem aWk{f:Int}(hf:Fm f)(d n:Nat):n/2^(Ag n-fP f-d+d)<2^fP f:=by
 rw[bg (ah _),←ba];exact ao (FM n) (aj (by decide) (by omega))
theorem aWi{f:Int}(hf:Fm f){d n:Nat}(h0:n≠0)(hJ:fP f+d<=Ag n):2^(fP f-1)<=n/2^(Ag n-fP f-d+d):=by
 have hP:=CZ hf;rw[gn (ah _),←ba];exact fw (aj (by decide) (by omega)) (LX h0)
theorem aZw{f:Int}(hf:Fm f)(m:Int)(neg:Bool){n:Nat}(h0:n≠0)(d:Nat):
  C3 f m neg n (qm f-d)=if A2 f<=UA f m neg d n then(Yi f m neg,20)else(UA f m neg d n,if CG (n%2^(Ag n-fP f-d+d)) (Ag n-fP f-d+d)=0 then 0 else if DD f m neg n (qm f-d) false then 24 else 16):=by
 have hP:=CZ hf;have hX:=Ma hf;have h2p:=vU hf;have hpp:=ah (fP f-1);have hinf:=fI hf;have hb1:=dS h0;have htop:AE n (qm f-d)=qm f-d+(Ag n:Int)-1:=rfl;have hqm:qm f=1-(fX f:Int)-(fP f:Int)+1:=rfl;have hqt:=aWk hf d n;have hql:=aWi hf (d:=d) h0;have hlow:Cc f (AE n (qm f-d))=qm f+((Ag n-fP f-d:Nat):Int):=by unfold Cc;split<;>omega
 obtain⟨hc1,hc2⟩:=R3 m neg n (Ag n-fP f-d+d);have hcr:DA n (qm f-d) (qm f+((Ag n-fP f-d:Nat):Int)) false=CG (n%2^(Ag n-fP f-d+d)) (Ag n-fP f-d+d):=by
  rw[QT];rcases bc (Ag n-fP f-d+d)with hz|hz
  ·rw[YH (by omega),hz,go,qa];rfl
  ·rw[YG (by omega),show(qm f+((Ag n-fP f-d:Nat):Int)-(qm f-d)).toNat=Ag n-fP f-d+d by omega]
 have hcn:BC m neg n (qm f-d) (qm f+((Ag n-fP f-d:Nat):Int)) false=CH m neg n (Ag n-fP f-d+d):=by
  have hqe:GK n (qm f-d) (qm f+((Ag n-fP f-d:Nat):Int))=n/2^(Ag n-fP f-d+d):=by
   rcases bc (Ag n-fP f-d+d)with hz|hz
   ·rw[YC (by omega),hz,show(qm f-(d:Int)-(qm f+((Ag n-fP f-d:Nat):Int))).toNat=0 by omega,go,fx,nd]
   ·rw[YB (by omega),show(qm f+((Ag n-fP f-d:Nat):Int)-(qm f-d)).toNat=Ag n-fP f-d+d by omega]
  unfold BC CH;rw[hcr,hqe]
 unfold C3;rw[hlow];dsimp only;rw[hcn,hcr,show(qm f+((Ag n-fP f-d:Nat):Int)-(1-(fX f:Int)-(fP f:Int)+1)).toNat=Ag n-fP f-d by omega];have hmu:UA f m neg d n=(Ag n-fP f-d)*2^(fP f-1)+CH m neg n (Ag n-fP f-d+d):=rfl;rw[hmu];have hJd:fP f+d<=Ag n∨Ag n-fP f-d=0:=by omega
 have hJb:(Ag n:Int)-fP f-d<=((Ag n-fP f-d:Nat):Int):=by omega
 have hJe:fP f+d<=Ag n->(Ag n:Int)=fP f+d+((Ag n-fP f-d:Nat):Int):=by omega
 generalize CH m neg n (Ag n-fP f-d+d)=u at *
 generalize n/2^(Ag n-fP f-d+d)=Q at *
 generalize CG (n%2^(Ag n-fP f-d+d)) (Ag n-fP f-d+d)=c at *
 generalize Ag n-fP f-d=j at *
 by_cases ht:AE n (qm f-d)>fX f
 ·have hj2:2*fX f+1<=j+1:=by omega
  have:=al (2^(fP f-1)) hj2;rw[bl j,fh]at this;have hql:=hql (by omega);rw[if_pos ht,if_pos (show A2 f<=j*2^(fP f-1)+u by omega)];rfl
 ·rw[if_neg ht];have hj0:j+1<=2*fX f:=by
   rcases hJd with h|h
   ·have:=hJe h;omega
   ·omega
  rcases aq u (2^fP f)with hu|hu
  ·have hbu:=Dz hu;have hj2:j+2<=2*fX f+1:=by omega
   have:=al (2^(fP f-1)) hj2;rw[bl]at this;rw[if_neg (show ¬qm f+(j:Int)+(Ag u:Int)-1>fX f by omega),if_neg (show ¬A2 f<=j*2^(fP f-1)+u by omega)]
  ·have hbu:=LW hu;have hbu2:=Dz (n:=u) (k:=fP f+1) (by rw[dm];omega);by_cases hj2:j+3<=2*fX f+1
   ·have:=al (2^(fP f-1)) hj2;rw[bl]at this;rw[if_neg (show ¬qm f+(j:Int)+(Ag u:Int)-1>fX f by omega),if_neg (show ¬A2 f<=j*2^(fP f-1)+u by omega)]
   ·have hj3:2*fX f+1<=j+2:=by omega
    have:=al (2^(fP f-1)) hj3;rw[bl j]at this;rw[if_pos (show qm f+(j:Int)+(Ag u:Int)-1>fX f by omega),if_pos (show A2 f<=j*2^(fP f-1)+u by omega)];rfl
def pv(f:Int)(x:Nat):Nat:=Am f x*2^(Ao f x-qm f).toNat
end VL
namespace VL
open Go Vx
def VV(f:Int)(x:Nat):Nat:=Am f x*2^(Ao f x+2600).toNat
end VL
namespace VL
open Go Vx
theorem aI4{f m:Int}{neg:Bool}{N k:Nat}{E:Int}(hf:Fm f)(hn:N/2^k≠0)(hm:N%2^k≠0->fP f+1<=Ag (N/2^k)):AO f m neg (N/2^k) (E+k) (decide (N%2^k≠0))=AO f m neg N E false:=by
 have ht:=aK9 (E:=E) hn;have htd:AE (N/2^k) (E+k)=E+k+(Ag (N/2^k):Int)-1:=rfl;have hq1:N%2^k≠0->E+k<Cc f (AE N E):=fun h=>by
  have:=hm h;unfold Cc;split<;>omega
 have hq2:N%2^k≠0->E+k<AE N E-fP f+1:=fun h=>by
  have:=hm h;omega
 have hti:DD f m neg (N/2^k) (E+k) (decide (N%2^k≠0))=DD f m neg N E false:=by
  unfold DD;rw[ht,eC hq2]
 unfold AO;simp only[ht,eC hq1,(rC hq1).2,hti]
theorem aI1{f m:Int}{neg:Bool}{N k:Nat}{E:Int}(hf:Fm f)(hb:fP f+1<=Ag (N/2^k)):AO f m neg (N/2^k) E true=AO f m neg (2*N+1) (E-k-1) false:=by
 have hP:=CZ hf;have e1:(2*N+1)/2^(k+1)=N/2^k:=by
  rw[dm,ar (2^k),←dk,show(2*N+1)/2=N by omega]
 have e2:(2*N+1)%2^(k+1)≠0:=by
  rw[dm,ar (2^k),Nat.mod_mul];omega
 have h0:N/2^k≠0:=fun h=>by
  rw[h]at hb;have:Ag 0=0:=rfl;omega
 have:=aI4 (f:=f) (m:=m) (neg:=neg) (N:=2*N+1) (k:=k+1) (E:=E-k-1) hf (by rw[e1];exact h0) (fun _=>by rw[e1];exact hb);rw[e1,decide_eq_true e2,show E-k-1+((k+1:Nat):Int)=E by omega]at this;exact this
def JU(f m:Int)(neg:Bool)(R:Nat)(E:Int)(more:Bool):Nat×Nat:=if more=true then AO f m neg (2*R+1) (E-1) false else AO f m neg R E false
theorem aI0{f m:Int}{neg:Bool}(hf:Fm f){R:Nat}{E:Int}{more:Bool}(hb:more=true->fP f+1<=Ag R):AO f m neg R E more=JU f m neg R E more:=by
 unfold JU;cases more
 ·rw[if_neg (by decide)]
 ·have:=aI1 (f:=f) (m:=m) (neg:=neg) (N:=R) (k:=0) (E:=E) hf (by rw[go,nd];exact hb rfl);rw[go,nd]at this;rw[if_pos rfl,this];congr 1;omega
theorem aZx{f m:Int}{neg:Bool}(hf:Fm f){R k:Nat}{E:Int}{more:Bool}(hb:fP f+1<=Ag (R/2^k)):JU f m neg (R/2^k) (E+k) (more||decide (R%2^k≠0))=JU f m neg R E more:=by
 have h0:R/2^k≠0:=fun h=>by
  rw[h]at hb;have:Ag 0=0:=rfl;omega
 rw[←aI0 hf (fun _=>hb)];unfold JU;cases more
 ·rw[if_neg (by decide),ca];exact aI4 hf h0 fun _=>hb
 ·rw[if_pos rfl,bf];have:=aI1 (f:=f) (m:=m) (neg:=neg) (N:=R) (k:=k) (E:=E+k) hf hb;rw[this,show E+(k:Int)-(k:Int)-1=E-1 by omega]
def GH(f m:Int)(neg:Bool)(n k:Nat)(e:Int):Nat×Nat:=JU f m neg (n*2^300/k) (e-300) (decide (n*2^300%k≠0))
theorem aWm{n k:Nat}(hk:0<k)(t:Nat):(n*2^t/k)/2^t=n/k/\(n%k≠0↔(n*2^t%k≠0∨(n*2^t/k)%2^t≠0)):=by
 have hpp:=ah t;have h1:(n*2^t/k)/2^t=n/k:=by
  rw[dk,ar k,←dk,ig _ hpp]
 refine⟨h1,?_⟩;have a1:=cg (n*2^t) k;have a2:=cg (n*2^t/k) (2^t);have a3:=cg n k;rw[h1]at a2;generalize n*2^t%k=r at *
 generalize hQ:n*2^t/k=Q at *
 generalize Q%2^t=u at *
 generalize n%k=w at *
 generalize n/k=q at *
 have e:k*u+r=w*2^t:=by
  have h2:(k*q+w)*2^t=k*(2^t*q+u)+r:=by rw[a3,a2,a1]
  rw[bl,br,jd,ax k,←ax k]at h2;omega
 constructor
 ·intro hw;rcases bc r with hr|hr
  ·right;intro hu;rw[hu,hr,dw]at e;have:=ii (show 0<w by omega) hpp;omega
  ·left;omega
 ·intro h hw;rw[hw,dp]at e;rcases h with h|h
  ·omega
  ·have:=ii hk (show 0<u by omega);omega
theorem eE{f m:Int}{neg:Bool}(hf:Fm f){n k:Nat}(hn:n≠0)(hk:0<k)(e:Int){s:Nat}(hs:s<=300)(h:n*2^s%k≠0->fP f+1<=Ag (n*2^s/k)):
  JU f m neg (n*2^s/k) (e-s) (decide (n*2^s%k≠0))=GH f m neg n k e:=by
 obtain⟨t,ht⟩:∃t,s+t=300:=⟨300-s,by omega⟩
 have e300:n*2^300=n*2^s*2^t:=by rw[ax,←ba,ht]
 obtain⟨q1,q2⟩:=aWm (n:=n*2^s) hk t;unfold GH;rw[e300];by_cases hex:n*2^s%k=0
 ·have hq:n*2^s=k*(n*2^s/k):=by have:=cg (n*2^s) k;omega
  have hq0:n*2^s/k≠0:=fun h0=>by
   rw[h0,dw]at hq;exact kb hn (jx (ah s)) hq
  have h1:n*2^s*2^t/k=(n*2^s/k)*2^t:=by
   rw[hq,ax k,gq _ hk,gq _ hk]
  have h2:n*2^s*2^t%k=0:=by
   rw[hq,ax k,Nat.mul_mod_right]
  rw[h1,h2,hex];unfold JU;rw[if_neg (by decide),if_neg (by decide),UY hf hq0];congr 1;omega
 ·have hb:=h hex;have:=aZx (f:=f) (m:=m) (neg:=neg) hf (R:=n*2^s*2^t/k) (k:=t) (E:=e-300) (more:=decide (n*2^s*2^t%k≠0)) (by rw[q1];exact hb);rw[←this,q1,show e-300+(t:Int)=e-s by omega];congr 1;rw[ff,du,decide_eq_true_eq,decide_eq_true_eq,decide_eq_true_eq];exact q2
def XE(f m:Int)(a b:Nat):Int×Int×Int×Unit:=bif nan f a||nan f b then((B5 f:Int),(bif Be f a||Be f b then 1 else 0),0,())else bif(At f a&&At f b)||(AV f a&&AV f b)then((B5 f:Int),1,0,())else bif At f a then((DU f (!(sF f a==sF f b)):Int),0,0,())else bif AV f b then((DU f (!(sF f a==sF f b)):Int),2,0,())else bif At f b||AV f a then((Bw f (!(sF f a==sF f b)):Int),0,0,())else(((GH f m (!(sF f a==sF f b)) (Am f a) (Am f b) (Ao f a-Ao f b)).1:Int),((GH f m (!(sF f a==sF f b)) (Am f a) (Am f b) (Ao f a-Ao f b)).2:Int),0,())
def L6(f m:Int)(a b:Nat):Int×Int×Int×Unit:=if ¬Fm f then(0,0,2,())else if m<0∨m>5 then(0,0,3,())else if Aj f a≠0 then(0,0,Aj f a,())else if Aj f b≠0 then(0,0,Aj f b,())else XE f m a b
end VL
namespace VL
open Go Vx
def Bc(c:Int)(n:Nat)(e:Int):Prop:=c<=e/\e<=6000/\n*2^(e-c).toNat<2^5000
theorem Bc.lt{c:Int}{n:Nat}{e:Int}(h:Bc c n e):n<2^5000:=by
 have:=fq n (ah (e-c).toNat);exact aw this h.2.2
theorem Bc.od{c:Int}(hc:-4000<=c/\c<=0){n:Nat}{e:Int}(s:Bool)(h:Bc c n e):Bc c (VL.od s n e).2.1 (VL.od s n e).2.2:=by
 rcases Sr s n e with⟨hz,_⟩|⟨_,h2,h3,h4,h5⟩
 ·rw[hz];exact⟨hc.2,by dsimp only;omega,by dsimp only;rw[dp];exact ah _⟩
 ·have hle:2^(tz n+(e-c).toNat)<=n*2^(e-c).toNat:=by
   rw[ba];refine al _ ?_;have:=fq (2^tz n) (show 0<(VL.od s n e).2.1 by omega);omega
  have hlt:=(cm (a:=2) (by decide)).1 (aw hle h.2.2);have hq:=hc.2;have h1:=h.1;refine⟨by omega,by omega,?_⟩;have e1:(VL.od s n e).2.1*2^((VL.od s n e).2.2-c).toNat=n*2^(e-c).toNat:=by
   rw[h5,show(e+(tz n:Int)-c).toNat=tz n+(e-c).toNat by omega,ba,←ax,ar _ (2^tz n),←h4]
  rw[e1];exact h.2.2
end VL
namespace VL
open Go Vx
structure Beside (f:Int) (R d:Nat) (more:Bool) (B:Nat) (inex:Bool) (r:Int->Nat×Nat):Prop where
 Cm:B+1<A2 f
 pos:B≠0
 low:pv f B*2^d<=R
 high:R<pv f (B+1)*2^d
 ex:inex=(more||decide (pv f B*2^d≠R))
 any:∀m,0<=m/\m<=5->((r m).1=B∨(inex=true/\(r m).1=B+1))/\(r m).2=(bif inex then 16 else 0)
 down:(r 4).1=B
 up:(r 3).1=B+(bif inex then 1 else 0)
end VL
namespace VL
open Go Vx
theorem aPy{f:Int}(hf:Fm f)(l:List Nat)(hl:∀a∈l,a<2^64)(hlen:l.length<1000):
  bO (((l.length:Int),(Wd l,(f,((0:Int),())))),())=some (bif Mp f l then .inl ((),())else .inr (((4:Int),()),())):=by
 have key:=EJ (aHM An.pre An.F Aq.pre Aq.F) (fun x=>l.length-x.1.2.2.2.1.toNat)
  (fun x=>∃i:Nat,i<=l.length/\Mp f (l.take i)=true/\x=(((l.length:Int),(Wd l,(f,((i:Int),())))),()))
  (fun _=>bif Mp f l then .inl ((),())else .inr (((4:Int),()),())) ?_ _ ⟨0,dv _,rfl,rfl⟩
 ·exact key
 intro L x hx hL;obtain⟨i,hi,hok,rfl⟩:=hx;unfold Ur;rcases aq i l.length with hlt|hge
 ·have hg:l.getD i 0=l[i]:=by simp[ak,hlt]
  have hmem:l[i]∈l:=jo hlt;have ha:=hl _ hmem;have p0:=Ji f l[i] ha;have e0:decide ((i:Int)<(l.length:Int))=true:=decide_eq_true (by omega);have e1:(decide ((0:Int)<=(i:Int))&&decide ((i:Int)<((Wd l).length:Int)))=true:=by rw[AI,decide_eq_true (by omega),decide_eq_true (by omega)];rfl
  have e2:(Wd l).getD (ai (i:Int)) 0=((l[i]:Nat):Int):=by rw[ag,CP,hg]
  have e3:aa .i64 ((i:Int)+1)=((i+1:Nat):Int):=by rw[AB (by omega)];omega
  have htk:l.take (i+1)=l.take i++[l[i]]:=by rw[jg hlt]
  dsimp only;simp only[e0,e1,e2,e3,cond_true,HZ p0,HR p0];by_cases hc:Aj f l[i]=0
  ·rw[hc,bne_self_eq_false,cond_false];refine hL _ ⟨i+1,by omega,?_,rfl⟩ (by simp only[ag];omega);unfold Mp at hok⊢;rw[htk,List.all_append,hok,md,hc];rfl
  ·have h4:Aj f l[i]=4:=(qT hf _).resolve_left hc;have hno:Mp f l=false:=by
    unfold Mp;rw[List.all_eq_false];exact⟨l[i],hmem,by rw[h4];decide⟩
   rw[h4,hno];rfl
 ·have e:i=l.length:=by omega
  subst e;rw[ej]at hok;have e0:decide ((l.length:Int)<(l.length:Int))=false:=decide_eq_false (by omega);simp only[e0,cond_false];rw[hok];rfl
theorem aOZ(f m:Int)(l:List Nat)(hl:∀a∈l,a<2^64)(hlen:l.length<1000):Te (f,m,Wd l,())=some (EI f m l,()):=by
 show jF An.pre An.F Aq.pre Aq.F bO f m (Wd l)=_;unfold jF EI;by_cases hf:Fm f
 ·have p0:=HC hf;rw[if_neg (show ¬¬Fm f from fun h=>h hf)];simp only[CM p0,CJ p0,cond_true,bne_self_eq_false,cond_false];by_cases hm:m<0∨m>5
  ·rw[if_pos hm];have:(decide (m<0)||decide (m>5))=true:=by rcases hm with h|h<;>simp[h]
   rw[this,cond_true]
  ·rw[if_neg hm];have:(decide (m<0)||decide (m>5))=false:=by
    rw[decide_eq_false (by omega),decide_eq_false (by omega)];rfl
   rw[this,cond_false,AI,aPy hf l hl hlen];cases Mp f l<;>rfl
 ·have p0:=Jj hf;rw[if_pos hf];simp only[CM p0,CJ p0,cond_true];rfl
theorem aAL{f:Int}{a:Nat}(h:Aj f a=0):Wq (f,(a:Int),())=some ((nan f a,Be f a,At f a,AV f a,sF f a,()),()):=by
 show jG AY.pre AY.F BT.pre BT.F f a=_;unfold jG;obtain⟨hf,_⟩:=FO h;have p0:=aY (UM h) h;have p1:=mY h;simp only[Rf p0,Q6 p0,uL p1,sL p1,cond_true];rw[dX,dY,qi (BV f a==9),qX,qi (BV f a==6),aFK hf]
theorem aAM{f:Int}(hf:Fm f)(x:Int):Wt (f,x,())=some ((B5 f:Int),x,0,()):=by
 show jH AR.pre AR.F f x=_;unfold jH;have p0:=aZ hf;simp only[gE p0,fD p0,cond_true]
theorem aSd(N:Nat){k:Nat}(hk:0<k):(k<=2*(N%k)->2*N/k=2*(N/k)+1/\2*N%k=2*(N%k)-k)/\(2*(N%k)<k->2*N/k=2*(N/k)/\2*N%k=2*(N%k)):=by
 have h1:=cg N k;have h2:=bo N hk;generalize N/k=q at *
 generalize N%k=r at *
 constructor
 ·intro h;have e:2*N=k*(2*q+1)+(2*r-k):=by
   rw[br,fx,iq k 2 q];omega
  rw[e,kc hk,kd,cj (by omega),bb (by omega)];exact⟨rfl,rfl⟩
 ·intro h;have e:2*N=k*(2*q)+2*r:=by
   rw[iq k 2 q];omega
  rw[e,kc hk,kd,cj (by omega),bb (by omega)];exact⟨rfl,rfl⟩
theorem aWh{n k D s:Nat}(hk0:0<k)(hk:k<2^64)(hn0:n≠0)(h:Ag (n*2^s/k)<D):s<64+D/\n*2^s<2^(64+D):=by
 have h1:n*2^s/k<2^D:=ao (FM _) (aj (by decide) (by omega));have h2:n*2^s<2^D*k:=(bg hk0).1 h1;have h3:2^D*k<=2^D*2^64:=bm _ (by omega);rw[←ba]at h3;have h4:1*2^s<=n*2^s:=al _ (by omega);rw[fh]at h4;have h5:2^s<2^(D+64):=by omega
 have h6:=(cm (a:=2) (by decide)).1 h5;rw[gv 64 D];exact⟨h6,by omega⟩
theorem aPz{n k D s0:Nat}(hk0:0<k)(hk:k<2^64)(hn0:n≠0)(hn:n<2^64)(hD:D<=100)(hs0:s0<=64):
  ∃s:Nat,s<=64+D/\(n*2^s%k≠0->D<=Ag (n*2^s/k)) /\
   bP (((D:Int),(Dw k,(Dw (n*2^s0%k),((),((),()))))),((false,([],((0:Int),(false,())))),((false,(Dw (n*2^s0/k),(-(s0:Int),(false,())))),()))) =
    some (.inl ((Dw (n*2^s%k),((),((),()))),((false,([],((0:Int),(false,())))),((false,(Dw (n*2^s/k),(-(s:Int),(false,())))),())))):=by
 have key:=Sk (aHN Dv.pre Dv.F Ek.pre Ek.F BS.pre BS.F By.pre By.F Du.pre Du.F C5.pre C5.F) (fun x=>(300+x.2.2.1.2.2.1).toNat)
  (fun x=>∃s:Nat,s<=64+D/\x=(((D:Int),(Dw k,(Dw (n*2^s%k),((),((),()))))),((false,([],((0:Int),(false,())))),((false,(Dw (n*2^s/k),(-(s:Int),(false,())))),()))))
  (fun y=>∃s:Nat,s<=64+D/\(n*2^s%k≠0->D<=Ag (n*2^s/k))/\y=.inl ((Dw (n*2^s%k),((),((),()))),((false,([],((0:Int),(false,())))),((false,(Dw (n*2^s/k),(-(s:Int),(false,())))),())))) ?_
  _ ⟨s0,by omega,rfl⟩
 ·obtain⟨y,hy,s,k1,k2,rfl⟩:=key;exact⟨s,k1,k2,hy⟩
 intro L x hx hL;obtain⟨s,hs,rfl⟩:=hx;unfold Us;have hr:=bo (n*2^s) hk0;have hN:n*2^s<2^(64+(64+D)):=by
  rw[ba];exact ao (de hn (ah s)) (bm _ (aj (by decide) hs))
 have hq:n*2^s/k<2^(64+(64+D)):=aw (fg _ _) hN;have hqb:=HL hq (by omega);have hrb:=HL (je hr hk) (by decide);have hkb:=HL hk (by decide);have p0:=RE hqb;have e2s:2*(n*2^s)=n*2^(s+1):=by rw[dm];ac_rfl
 obtain⟨d1,d2⟩:=aSd (n*2^s) hk0;rw[e2s]at d1 d2;have hstop:=aWh (n:=n) (k:=k) (D:=D) (s:=s) hk0 hk hn0;have gen:=hL;dsimp only at gen⊢;generalize hQ:n*2^s/k=q at *
 generalize hR:n*2^s%k=r at *
 simp only[Sv p0,Se p0,cond_true];by_cases hgo:Ag q<D/\r≠0
 ·obtain⟨g1,g2⟩:=hgo;have hs1:=(hstop g1).1;rw[decide_eq_true (show(Ag q:Int)<(D:Int) by omega),MD g2];have p1:=mO hqb hqb;have p2:=mO hrb hrb;have h65:r+r<2^65:=by
   have:(2:Nat)^65=2*2^64:=by decide
   omega
  have hrr:=HL h65 (by decide);have hqq:q+q<2^(65+(64+D)):=by
   have:(2:Nat)^(65+(64+D))=2*2^(64+(64+D)):=by rw[show 65+(64+D)=(64+(64+D))+1 by omega,dm,ar]
   omega
  have p3:=mP hrr hkb;have ew:aa .i64 (-(s:Int)-1)=-((s+1:Nat):Int):=by rw[AB (by omega)];omega
  simp only[bh,cond_true,Ms p1,Mg p1,Ms p2,Mg p2,uC p3,sB p3,ew];have hμ:(300 + -((s+1:Nat):Int)).toNat<(300 + -(s:Int)).toNat:=by omega
  by_cases hge:k<=2*r
  ·obtain⟨f1,f2⟩:=d1 hge;have p4:=aOH hrr (show k<=r+r by omega);have p5:=mO (HL hqq (by omega)) (show 1<(2^64)^5000 from HL (k:=1) (by decide) (by decide));rw[aLm]at p5;have eg:decide ((if r+r=k then(0:Int)else if r+r<k then -1 else 1)>=0)=true:=by
    by_cases h:r+r=k
    ·rw[if_pos h];rfl
    ·rw[if_neg h,if_neg (by omega)];rfl
   rw[eg];simp only[cond_true,aVF p4,aS4 p4,Ms p5,Mg p5];refine gen _ ⟨s+1,by omega,?_⟩ hμ;rw[f1,f2,show 2*q+1=q+q+1 by omega,show 2*r-k=r+r-k by omega]
  ·obtain⟨f1,f2⟩:=d2 (by omega);have eg:decide ((if r+r=k then(0:Int)else if r+r<k then -1 else 1)>=0)=false:=by
    rw[if_neg (by omega),if_pos (by omega)];rfl
   rw[eg];simp only[cond_false];refine gen _ ⟨s+1,by omega,?_⟩ hμ;rw[f1,f2,show 2*q=q+q by omega,show 2*r=r+r by omega]
 ·have e:(decide ((Ag q:Int)<(D:Int))&&decide (((Dw r).length:Int)>0))=false:=by
   by_cases g1:Ag q<D
   ·have g2:r=0:=ir.1 fun h=>hgo ⟨g1,h⟩;rw[g2,EO];exact bj _
   ·rw[decide_eq_false (show ¬(Ag q:Int)<(D:Int) by omega),az]
  rw[e,cond_false];refine⟨_,rfl,s,hs,?_,?_⟩
  ·intro h;rw[hR]at h;rw[hQ];by_cases g1:Ag q<D
   ·exact absurd ⟨g1,h⟩ hgo
   ·omega
  ·rw[hQ,hR]
theorem aO0{n k D:Nat}(hk0:k≠0)(hk:k<2^64)(hn0:n≠0)(hn:n<2^64)(hD:D<=100):
  ∃s:Nat,s<=64+D/\(n*2^s%k≠0->D<=Ag (n*2^s/k)) /\
   Wu (Dw n,Dw k,(D:Int),())=some ((false,Dw (n*2^s/k),(-(s:Int)),decide (n*2^s%k≠0),()),()):=by
 have bk:=Dz hk;have bn:=Dz hn;have p0:=RE (HL hk (by decide));have p1:=RE (HL hn (by decide));obtain⟨s0,hs0,hsl⟩:∃s0:Nat,(if(Ag k:Int)-(Ag n:Int)-1>0 then(Ag k:Int)-(Ag n:Int)-1 else 0)=(s0:Int)/\s0<=64:=by
  by_cases h:(Ag k:Int)-(Ag n:Int)-1>0
  ·exact⟨Ag k-Ag n-1,by rw[if_pos h];omega,by omega⟩
  ·exact⟨0,by rw[if_neg h];rfl,by omega⟩
 obtain⟨s,k1,k2,k3⟩:=aPz (D:=D) (s0:=s0) (by omega) hk hn0 hn hD hsl;refine⟨s,k1,k2,?_⟩;show jI Dv.pre Dv.F Ek.pre Ek.F BS.pre BS.F By.pre By.F Du.pre Du.F C5.pre C5.F bP (Dw n) (Dw k) D=_;unfold jI;have hN:n*2^s0<2^128:=by
  rw[show(128:Nat)=64+64 from rfl,ba];exact ao (de hn (ah s0)) (bm _ (aj (by decide) hsl))
 have hN':n*2^s0<(2^64)^1024:=ao hN (by rw[←mj];exact aj (by decide) (by decide));have hk':k<(2^64)^1024:=ao hk (by rw[←mj];exact aj (by decide) (by decide));have p2:=aAr (dg (2^64) n) (Dq (HL hn (by decide))) s0 (by omega) (by rw[CL];exact hN');rw[CL]at p2;have p2:RG (Dw n,(s0:Int),())=_:=p2;have p3:=aOX hN' hk' hk0;have w1:aa .i64 ((Ag k:Int)-(Ag n:Int))=(Ag k:Int)-(Ag n:Int):=AB (by omega);have w2:aa .i64 ((Ag k:Int)-(Ag n:Int)-1)=(Ag k:Int)-(Ag n:Int)-1:=AB (by omega);have w3:aa .i64 (0-(s0:Int))=-(s0:Int):=by rw[AB (by omega)];omega
 simp only[Sv p0,Se p0,Sv p1,Se p1,cond_true,w1,w2,hs0,Yv p2,XU p2,aVR p3,aTg p3,w3,k3];show some _=_;congr 4;by_cases h:n*2^s%k=0
 ·rw[h,EO];rfl
 ·rw[MD h,decide_eq_true h]
theorem zV{n:Nat}(hn:n<(2^64)^5000):S5 (Dw n,())=some (Dw n,()):=by
 have p0:=zW (dg (2^64) n) (Dq hn);rw[CL]at p0;exact p0
theorem aO1{f m:Int}(hf:Fm f)(hm:0<=m/\m<=5)(neg:Bool){n k:Nat}(hk0:k≠0)(hk:k<2^64)(hn0:n≠0)(hn:n<2^64){e:Int}(he:-40000<=e/\e<=40000):
  Wv (f,m,neg,Dw n,Dw k,e,())=some (((GH f m neg n k e).1:Int),((GH f m neg n k e).2:Int),0,()):=by
 show jJ E4.pre E4.F BR.pre BR.F Hz.pre Hz.F Qi.pre Qi.F E5.pre E5.F f m neg (Dw n) (Dw k) e=_;unfold jJ;have hP:=Fe hf;have hP2:=JF hf;have p0:=zZ hf hm;have p1:=zV (HL hk (by decide));have p2:=zV (HL hn (by decide));obtain⟨s,k1,k2,p3⟩:=aO0 (D:=fP f+3) hk0 hk hn0 hn (by omega);have hN:n*2^s<2^(64+s):=by
  rw[ba];exact de hn (ah s)
 have hq:n*2^s/k<2^(64+s):=aw (fg _ _) hN;have p4:=aAb neg (n*2^s/k) (e-s) (decide (n*2^s%k≠0)) f m hf (aRK hq (by omega)) (by omega);rw[aI0 hf (fun h=>by have:=k2 (of_decide_eq_true h);omega),eE hf hn0 (by omega) e (by omega) (fun h=>by have:=k2 h;omega)]at p4;have r1:(BZ f).2.1=(fP f:Int):=rfl;have w1:aa .i64 ((fP f:Int)+3)=((fP f+3:Nat):Int):=by rw[AB (by omega)];omega
 have w2:aa .i64 (-(s:Int)+e)=e-s:=by rw[AB (by omega)];omega
 have l1:(Dw n).length=1:=by rw[Zu hn0 hn];rfl
 have l2:(Dw k).length=1:=by rw[Zu hk0 hk];rfl
 have w3:decide (aa .i64 (((1:Nat):Int)+((1:Nat):Int))>1024)=false:=by decide
 have w4:(decide (e<(-(40000:Int)))||decide (e>(40000:Int)))=false:=by rw[decide_eq_false (by omega),decide_eq_false (by omega)];rfl
 have w5:((((1:Nat):Int))==(0:Int))=false:=by decide
 simp only[aIr p0,aGE p0,bne_self_eq_false,cond_true,cond_false,t9 p1,r8 p1,t9 p2,r8 p2,l1,l2,w3,w4,w5,r1,w1,aVU p3,aTj p3,w2,aIs p4,aGF p4]
theorem aSl{f m:Int}{neg:Bool}(hf:Fm f){n k t u:Nat}(hn0:n≠0)(hk0:k≠0)(hn:n*2^t<2^53)(hk:k*2^u<2^53)(e:Int):
  GH f m neg (n*2^t) (k*2^u) e=GH f m neg n k (e+t-u):=by
 have hP:=JF hf;have ht:t<53:=by
  have:1*2^t<=n*2^t:=al _ (by omega);exact(cm (a:=2) (by decide)).1 (by omega)
 have hu:u<53:=by
  have:1*2^u<=k*2^u:=al _ (by omega);exact(cm (a:=2) (by decide)).1 (by omega)
 obtain⟨s,hs⟩:∃s,s+u=120+t:=⟨120+t-u,by omega⟩
 have hk1:0<k:=by omega
 have hup:=ah u;have e1:n*2^t*2^120=n*2^s*2^u:=by
  rw[ax,ax,←ba,←ba,hs,gv]
 have hbig:fP f+1<=Ag (n*2^s/k):=by
  apply LW;rw[gn hk1];have h1:2^fP f*(k*2^u)<=2^53*2^53:=jf (aj (by decide) hP) (by omega);have h2:1*2^(120+t)<=n*2^(120+t):=al _ (by omega);have h3:(2:Nat)^53*2^53<=2^(120+t):=by rw[←ba];exact aj (by decide) (by omega)
  have h4:2^fP f*k*2^u<=n*2^s*2^u:=by
   rw[ax,ax n,←ba,hs];omega
  exact Nat.le_of_mul_le_mul_right h4 hup
 have a1:=eE (f:=f) (m:=m) (neg:=neg) hf (n:=n*2^t) (k:=k*2^u) (kb hn0 (jx (ah t))) (ii hk1 hup) e (s:=120) (by decide)
  (by rw[e1,kf _ _ hup];exact fun _=>hbig)
 have a2:=eE (f:=f) (m:=m) (neg:=neg) hf hn0 hk1 (e+t-u) (s:=s) (by omega) (fun _=>hbig);rw[←a1,←a2,e1,kf _ _ hup,fc,show e-((120:Nat):Int)=e+(t:Int)-(u:Int)-(s:Int) by omega];congr 1;rw[ff,decide_eq_true_eq,decide_eq_true_eq];constructor
 ·intro h hc;rw[hc,dp]at h;exact h rfl
 ·intro h;exact kb h (by omega)
theorem aSk{f m:Int}{neg:Bool}(hf:Fm f)(s s':Bool){n k:Nat}(hn0:n≠0)(hk0:k≠0)(hn:n<2^53)(hk:k<2^53)(x y:Int):
  GH f m neg (od s n x).2.1 (od s' k y).2.1 ((od s n x).2.2-(od s' k y).2.2)=GH f m neg n k (x-y):=by
 rcases Sr s n x with⟨_,h⟩|⟨_,h2,_,h4,h5⟩
 ·exact absurd h hn0
 rcases Sr s' k y with⟨_,h⟩|⟨_,g2,_,g4,g5⟩
 ·exact absurd h hk0
 generalize(od s n x).2.1=n1 at *
 generalize(od s' k y).2.1=k1 at *
 rw[h5,g5];rw[ar]at h4 g4;have:=aSl (f:=f) (m:=m) (neg:=neg) hf (n:=n1) (k:=k1) (t:=tz n) (u:=tz k) (by omega) (by omega) (by rw[←h4];exact hn) (by rw[←g4];exact hk) (x-y);rw[←h4,←g4]at this;rw[this];congr 1;omega
theorem aJr{f:Int}{a:Nat}(h:Be f a=true):nan f a=true:=by
 cases hn:nan f a
 ·rw[SE hn]at h;exact absurd h (by decide)
 ·rfl
theorem aGe{f:Int}{a:Nat}(h1:nan f a=false)(h2:At f a=false):eF f a≠AM f:=fun he=>by
 unfold nan at h1
 unfold At at h2
 rw[he]at h1 h2
 simp at h1 h2
 exact h2 h1
theorem aO2(f m:Int){a b:Nat}(ha:a<2^64)(hb:b<2^64):Ww (f,m,(a:Int),(b:Int),())=some (L6 f m a b):=by
 show jK Qf.pre Qf.F Qg.pre Qg.F Qh.pre Qh.F CC.pre CC.F Bx.pre Bx.F Dj.pre Dj.F Qj.pre Qj.F f m a b=_;unfold jK L6;have p0:=aOZ f m [a,b] (fun c hc=>by
  rcases cp.1 hc with rfl|hc
  ·exact ha
  ·rw[ky]at hc;omega) (show(2:Nat)<1000 by decide)
 have p0:Te (f,m,((a:Int)::((b:Int)::[])),())=_:=p0;simp only[aVT p0,aTi p0,cond_true];clear p0;unfold EI;by_cases hf:¬Fm f
 ·rw[if_pos hf,if_pos hf];rfl
 have hf:=ir.1 hf;rw[if_neg (show ¬¬Fm f from fun h=>h hf),if_neg (show ¬¬Fm f from fun h=>h hf)];by_cases hm:m<0∨m>5
 ·rw[if_pos hm,if_pos hm];rfl
 rw[if_neg hm,if_neg hm];have hm':0<=m/\m<=5:=by omega
 have ho:Mp f [a,b]=(Aj f a==0&&(Aj f b==0&&true)):=rfl;rw[ho];by_cases hca:Aj f a≠0
 ·have h4:=(qT hf a).resolve_left hca;rw[if_pos hca,h4];rfl
 have hca:=ir.1 hca;rw[if_neg (fun h=>h hca),hca];by_cases hcb:Aj f b≠0
 ·have h4:=(qT hf b).resolve_left hcb;rw[if_pos hcb,h4];rfl
 have hcb:=ir.1 hcb;rw[if_neg (fun h=>h hcb),hcb];have e0:((bif((0:Int)==0&&((0:Int)==0&&true))then(0:Int)else 4)!=0)=false:=rfl;rw[e0,cond_false];have p1:=aAL hca;have p2:=aAL hcb;have p3:=aAM hf 0;have p4:=aAM hf 1;have p5:=mX hf (!(sF f a==sF f b));have p6:=VR hf (!(sF f a==sF f b));have ma:=Ra hf a;have mb:=Ra hf b;have xa:=Va hf a;have xb:=Va hf b;simp only[aIE p1,aGR p1,aIE p2,aGR p2,cond_true,aIF p3,aGS p3,aIF p4,aGS p4,uK p5,sK p5,Yt p6,XS p6];unfold XE;cases sa:Be f a
 ·cases sb:Be f b
  ·simp only[bt,cond_false];cases na:nan f a
   ·cases nb:nan f b
    ·simp only[bt,cond_false];cases hi:At f a&&At f b||AV f a&&AV f b
     ·simp only[cond_false];cases ia:At f a
      ·simp only[cond_false];cases zb:AV f b
       ·simp only[cond_false];cases iz:At f b||AV f a
        ·simp only[cond_false];rw[kl]at iz;have q1:=aA5 hca (aGe na ia);have q2:=aA5 hcb (aGe nb iz.1);have mza:=FY iz.2;have mzb:=FY zb;obtain⟨o1,o2,o3⟩:=aH5 (sF f a) (n:=Am f a) (Ao f a) ma xa;obtain⟨o4,o5,o6⟩:=aH5 (sF f b) (n:=Am f b) (Ao f b) mb xb;have n1:(od (sF f a) (Am f a) (Ao f a)).2.1≠0:=by
          rcases Sr (sF f a) (Am f a) (Ao f a)with⟨_,h⟩|⟨_,h2,_,_,_⟩
          ·exact absurd h mza
          ·omega
         have n2:(od (sF f b) (Am f b) (Ao f b)).2.1≠0:=by
          rcases Sr (sF f b) (Am f b) (Ao f b)with⟨_,h⟩|⟨_,h2,_,_,_⟩
          ·exact absurd h mzb
          ·omega
         have q3:=aO1 hf hm' (!(sF f a==sF f b)) (n:=(od (sF f a) (Am f a) (Ao f a)).2.1) (k:=(od (sF f b) (Am f b) (Ao f b)).2.1) n2 (by omega) n1 (by omega) (e:=(od (sF f a) (Am f a) (Ao f a)).2.2-(od (sF f b) (Am f b) (Ao f b)).2.2) (by omega);rw[aSk hf _ _ mza mzb ma mb]at q3;have w1:aa .i64 ((od (sF f a) (Am f a) (Ao f a)).2.2-(od (sF f b) (Am f b) (Ao f b)).2.2)=(od (sF f a) (Am f a) (Ao f a)).2.2-(od (sF f b) (Am f b) (Ao f b)).2.2:=AB (by omega);have d1:∀t:Bool×Nat×Int,(TU t).2.1=Dw t.2.1:=fun _=>rfl;have d2:∀t:Bool×Nat×Int,(TU t).2.2.1=t.2.2:=fun _=>rfl;simp only[aIG q1,aGT q1,aIG q2,aGT q2,cond_true,d1,d2,w1,aVV q3,aTk q3]
        ·rfl
       ·rfl
      ·rfl
     ·rfl
    ·rfl
   ·cases nb:nan f b<;>rfl
  ·have nb:=aJr sb;rw[nb,cd,cd];rfl
 ·have na:=aJr sa;rw[na];rfl
end VL
namespace VL
open Go Vx
theorem sV{w:Int}(hw:Fm w)(s:Bool):Aj w (DU w s)=0/\nan w (DU w s)=false/\At w (DU w s)=true/\AV w (DU w s)=false/\sF w (DU w s)=s:=by
 rcases C4 hw with rfl|rfl|rfl|rfl<;>cases s<;>decide +kernel
theorem aLk{w:Int}(hw:Fm w)(s:Bool):Aj w (Bw w s)=0/\nan w (Bw w s)=false/\At w (Bw w s)=false/\AV w (Bw w s)=true/\sF w (Bw w s)=s/\Am w (Bw w s)=0:=by
 rcases C4 hw with rfl|rfl|rfl|rfl<;>cases s<;>decide +kernel
def same(f w:Int)(a x:Nat):Prop:=Aj f a=0/\Aj w x=0/\nan w x=nan f a/\At w x=At f a/\AV w x=AV f a/\(nan f a=false->sF w x=sF f a)/\(nan f a=false->At f a=false->VV w x=VV f a)
end VL
namespace VL
open Go Vx
theorem uY{w:Int}(hw:Fm w)(m:Int)(s:Bool)(N:Nat)(E:Int):Aj w (AO w m s N E false).1=0:=by
 rw[Ri hw];have h1:=YF hw m s N E;have h2:=sT hw;exact fL hw s (by omega)
end VL
namespace VL
open Go Vx
def aTN(f m:Int)(a:Nat)(tell:Bool):Int×Int×Int×Unit:=if EI f m [a]≠0 then(0,0,EI f m [a],())else bif nan f a then((B5 f:Int),(bif Be f a then 1 else 0),0,())else bif At f a||AV f a||decide (0<=Ao f a)then((a:Int),0,0,())else((if BC m (sF f a) (Am f a) (Ao f a) 0 false=0 then(Bw f (sF f a):Int)else((AO f m (sF f a) (BC m (sF f a) (Am f a) (Ao f a) 0 false) 0 false).1:Int)),(bif decide (DA (Am f a) (Ao f a) 0 false≠0)&&tell then 16 else 0),0,())
def fM(k:Int):Nat:=if k=0 then 2^31-1 else if k=1 then 2^63-1 else if k=2 then 2^32-1 else 2^64-1
def Xx(k:Int):Nat:=if k=0 then 2^31 else if k=1 then 2^63 else 0
def tO(x:Nat):Nat:=(2^64-x)%2^64
def aHh(k:Int)(neg:Bool)(u:Nat)(other:Bool):Int×Int×Int×Unit:=bif neg then(if u>Xx k then((tO (Xx k):Int),1,0,())else((tO u:Int),(bif other then 16 else 0),0,()))else(if u>fM k then((fM k:Int),1,0,())else((u:Int),(bif other then 16 else 0),0,()))
def bAX(f m k:Int)(a:Nat):Int×Int×Int×Unit:=if EI f m []≠0 then(0,0,EI f m [],())else if k<0∨k>3 then(0,0,9,())else if Aj f a≠0 then(0,0,Aj f a,())else bif nan f a||(At f a&&!sF f a)then((fM k:Int),1,0,())else bif At f a then((tO (Xx k):Int),1,0,())else if Ao f a<0 then aHh k (sF f a) (BC m (sF f a) (Am f a) (Ao f a) 0 false) (decide (DA (Am f a) (Ao f a) 0 false≠0))else aHh k (sF f a) (Am f a*2^(Ao f a).toNat) false
def aSR(f m k:Int)(x:Nat):Int×Int×Int×Unit:=
 if EI f m []≠0 then(0,0,EI f m [],())
 else if k<0∨k>3 then(0,0,9,())
 else
  let neg:=decide (0<Xx k)&&decide (2^63<=x)
  let n:=bif neg then 2^64-x else x
  if n>(bif neg then Xx k else fM k)then(0,0,7,())
  else if n=0 then(0,0,0,())else(((AO f m neg n 0 false).1:Int),((AO f m neg n 0 false).2:Int),0,())
end VL
namespace VL
open Go Vx
def fv(f:Int)(a:Nat):Int:=bif nan f a||At f a then 0 else vA f a
def aTO(f:Int)(a b:Nat):Bool:=(At f a&&AV f b)||(At f b&&AV f a)
def pv2(f:Int)(a b:Nat):Int:=bif At f a||At f b then 0 else fv f a*fv f b
def bAI(f m c:Int)(s t:Bool)(S T:Int):Int×Int×Int×Unit:=if S+T=0 then((Bw f (bif(S==0&&T==0)&&(s==t)then s else m==4):Int),0,0,())else(((AO f m (decide (S+T<0)) (S+T).natAbs c false).1:Int),((AO f m (decide (S+T<0)) (S+T).natAbs c false).2:Int),0,())
def aSI(f m:Int)(a b c:Nat):Int×Int×Int×Unit:=bif(Be f a||Be f b||Be f c)||(!(nan f a||nan f b)&&aTO f a b)then((B5 f:Int),1,0,())else bif nan f a||nan f b||nan f c then((B5 f:Int),0,0,())else bif((At f a||At f b)&&At f c)&&!((!(sF f a==sF f b))==sF f c)then((B5 f:Int),1,0,())else bif At f a||At f b then((DU f (!(sF f a==sF f b)):Int),0,0,())else bif At f c then((DU f (sF f c):Int),0,0,())else bAI f m (qm f+qm f) (!(sF f a==sF f b)) (sF f c) (pv2 f a b) (fv f c*(2^(qm f-(qm f+qm f)).toNat:Nat))
def aSH(f m:Int)(a b c:Nat):Int×Int×Int×Unit:=if EI f m [a,b,c]≠0 then(0,0,EI f m [a,b,c],())else aSI f m a b c
end VL
namespace VL
open Go Vx
def gN(f:Int)(a b:Nat):Int×Int×Bool×Int×Unit:=if EI f 0 [a,b]≠0 then(0,0,true,EI f 0 [a,b],())else bif Be f a||Be f b then((B5 f:Int),1,true,0,())else bif nan f a||nan f b then((B5 f:Int),0,true,0,())else bif At f a||AV f b then((B5 f:Int),1,true,0,())else bif At f b||AV f a then((a:Int),0,true,0,())else(0,0,false,0,())
def wA(X:Nat)(ex ey:Int):Nat:=X*2^(ex-min ex ey).toNat
def wB(Y:Nat)(ex ey:Int):Nat:=Y*2^(ey-min ex ey).toNat
def aZp(A B:Nat)(So:Bool):Bool×Nat×Nat:=if(So&&(decide (2*(A%B)>B)||(decide (2*(A%B)=B)&&decide (A/B%2=1))))=true then(true,B-A%B,A/B+1)else(false,A%B,A/B)
def aZq(f:Int)(a b:Nat)(So:Bool):Int×Int×Int×Int×Unit:=let e:=min (Ao f a) (Ao f b);let t:=aZp (wA (Am f a) (Ao f a) (Ao f b)) (wB (Am f b) (Ao f a) (Ao f b)) So;((if t.2.1=0 then(Bw f (sF f a):Int)else((AO f 2 (bif t.1 then !sF f a else sF f a) t.2.1 e false).1:Int)),((t.2.2%8:Nat):Int),0,0,())
def gM(f:Int)(a b:Nat)(So:Bool):Int×Int×Int×Int×Unit:=bif(gN f a b).2.2.1 then((gN f a b).1,0,(gN f a b).2.1,(gN f a b).2.2.2.1,())else aZq f a b So
end VL
namespace VL
open Go Vx
def aFN(f w m:Int)(a:Nat):Int:=if ¬(Fm f/\Fm w)then 2 else if m<0∨m>5 then 3 else Aj f a
def aR6(f w m:Int)(a:Nat):Int×Int×Int×Unit:=if aFN f w m a≠0 then(0,0,aFN f w m a,())else bif nan f a then((B5 w:Int),(bif Be f a then 1 else 0),0,())else bif At f a then((DU w (sF f a):Int),0,0,())else bif AV f a then((Bw w (sF f a):Int),0,0,())else(((AO w m (sF f a) (Am f a) (Ao f a) false).1:Int),((AO w m (sF f a) (Am f a) (Ao f a) false).2:Int),0,())
def aFO(f:Int)(a b:Nat):Int×Int×Unit:=if Aj f a≠0 then(0,Aj f a,())else if Aj f b≠0 then(0,Aj f b,())else((Ch f (sF f b) (BU f a):Int),0,())
end VL
namespace VL
open Go Vx
def aR0(f:Int)(a:Nat):Int×Int×Int×Unit:=if Aj f a=0 then(aa .u64 (BV f a),0,0,())else(0,0,Aj f a,())
def aUz(f:Int)(a:Nat):Int×Int×Int×Unit:=if Aj f a=0 then((DV f a:Int),0,0,())else(0,0,Aj f a,())
def aRv(f:Int)(a:Nat):Int×Int×Int×Unit:=((I9.F (f,(a:Int),())).1,0,(I9.F (f,(a:Int),())).2.1,())
def Ez(m op f:Int)(a b c:Nat):Int×Int×Int×Unit:=if op=1 then Jx f m a b else if op=2 then Mx f m a b else if op=3 then Mo f m a b else if op=4 then L6 f m a b else if op=5 then bAu f m a else if op=6 then aSH f m a b c else if op=7 then((gM f a b true).1,(gM f a b true).2.2)else if op=8 then((gM f a b false).1,(gM f a b false).2.2)else if op=9 then aTN f m a true else if op=10 then aR6 f (aa .i64 (c:Int)) m a else if op=11 then bAX f m (aa .i64 (c:Int)) a else if op=12 then aSR f m (aa .i64 (c:Int)) a else if op=13 then aIn f a b false else if op=14 then aIn f a b true else if op=15 then(aa .u64 (dZ f a b false).1,(dZ f a b false).2)else if op=16 then(aa .u64 (dZ f a b true).1,(dZ f a b true).2)else if op=17 then bAz f a 1 else if op=18 then bAk f m a (aa .i64 (b:Int))else if op=19 then aR0 f a else if op=20 then aUz f a else if op=21 then aRv f a else if op=22 then((aFO f a b).1,0,(aFO f a b).2)else(0,0,0,())
abbrev kX:=Ab (.pair (.int .i64) (.pair (.int .i64) (.pair (.int .u64) (.pair (.int .u64) (.pair (.int .u64) .unit)))))
def Rp(w:Option (Nat×List Nat))(k:kX)(y:DenS DM):Prop:=I7.pre w (k,())=true/\I7.F w (k,())=y
theorem eH{w:Option (Nat×List Nat)}{k:kX}{y:DenS DM}{p:Bool}{v:DenS DM}(h1:I7.pre w (k,())=p)(h2:I7.F w (k,())=v)(h3:p=true)(h4:v=y):Rp w k y:=⟨h1.trans h3,h2.trans h4⟩
theorem Rk{op:Int}(h1:1<=op)(h2:op<=22){n:Int}{w:Option (Nat×List Nat)}(h:(FF.F ()).1.getD op.toNat ((0:Int),none,())=(n,w,())):Li (op,())=some ((n,w,()),0,()):=by
 show U4 FF.pre FF.F op=_;unfold U4;have hp:FF.pre ()=true:=by kernel_rfl
 have hl:(FF.F ()).1.length=23:=by kernel_rfl
 rw[hp,hl,h,decide_eq_false (show ¬op<1 by omega),decide_eq_false (show ¬op>=((23:Nat):Int) by omega),decide_eq_true (show(0:Int)<=op by omega),decide_eq_true (show op<((23:Nat):Int) by omega)];rfl
theorem aZz{op:Int}(h:op<1∨op>22):Li (op,())=some (((0:Int),none,()),190,()):=by
 show U4 FF.pre FF.F op=_;unfold U4;have hp:FF.pre ()=true:=by kernel_rfl
 have hl:(FF.F ()).1.length=23:=by kernel_rfl
 have:(decide (op<1)||decide (op>=((23:Nat):Int)))=true:=by rw[du,decide_eq_true_eq,decide_eq_true_eq];omega
 rw[hp,hl,this];rfl
theorem kN{g:Nat}{k:kX}{p:Bool}{y:DenS Kw}(h1:P5.pre (some (g,[])) (k.2.1,k.1,k.2.2.1,k.2.2.2.1,())=p)(h2:P5.F (some (g,[])) (k.2.1,k.1,k.2.2.1,k.2.2.2.1,())=y)(h3:p=true):Wx (k,g,())=some y:=by
 show jL P5.pre P5.F k g=_;unfold jL;dsimp only;rw[h1,h2,h3];rfl
theorem bA7(m f:Int){a b:Nat}(ha:a<2^64)(hb:b<2^64)(c:Int):
  Rp (some (192,[158+2])) (m,f,(a:Int),(b:Int),c,()) (Jx f m a b)/\Rp (some (192,[159+2])) (m,f,(a:Int),(b:Int),c,()) (Mx f m a b) /\
  Rp (some (192,[160+2])) (m,f,(a:Int),(b:Int),c,()) (Mo f m a b)/\Rp (some (192,[161+2])) (m,f,(a:Int),(b:Int),c,()) (L6 f m a b):=by
 have p1:=mR f m ha hb;have p2:=aOR f m ha hb;have p3:=aOY f m ha hb;have p4:=aO2 f m ha hb;have q1:=kN (g:=158) (k:=(m,f,(a:Int),(b:Int),c,())) (p:=E7.pre (f,m,(a:Int),(b:Int),())) (y:=E7.F (f,m,(a:Int),(b:Int),())) (by kernel_rfl) (by kernel_rfl) (uG p1);have q2:=kN (g:=159) (k:=(m,f,(a:Int),(b:Int),c,())) (p:=Ld.pre (f,m,(a:Int),(b:Int),())) (y:=Ld.F (f,m,(a:Int),(b:Int),())) (by kernel_rfl) (by kernel_rfl) (aVL p2);have q3:=kN (g:=160) (k:=(m,f,(a:Int),(b:Int),c,())) (p:=Le.pre (f,m,(a:Int),(b:Int),())) (y:=Le.F (f,m,(a:Int),(b:Int),())) (by kernel_rfl) (by kernel_rfl) (aVS p3);have q4:=kN (g:=161) (k:=(m,f,(a:Int),(b:Int),c,())) (p:=Lf.pre (f,m,(a:Int),(b:Int),())) (y:=Lf.F (f,m,(a:Int),(b:Int),())) (by kernel_rfl) (by kernel_rfl) (aVW p4);rw[sG p1]at q1;rw[aTa p2]at q2;rw[aTh p3]at q3;rw[aTl p4]at q4;exact⟨eH (p:=C6.pre ((m,f,(a:Int),(b:Int),c,()),158,())) (v:=C6.F ((m,f,(a:Int),(b:Int),c,()),158,())) (by kernel_rfl) (by kernel_rfl) (gB q1) (eZ q1),
  eH (p:=C6.pre ((m,f,(a:Int),(b:Int),c,()),159,())) (v:=C6.F ((m,f,(a:Int),(b:Int),c,()),159,())) (by kernel_rfl) (by kernel_rfl) (gB q2) (eZ q2),
  eH (p:=C6.pre ((m,f,(a:Int),(b:Int),c,()),160,())) (v:=C6.F ((m,f,(a:Int),(b:Int),c,()),160,())) (by kernel_rfl) (by kernel_rfl) (gB q3) (eZ q3),
  eH (p:=C6.pre ((m,f,(a:Int),(b:Int),c,()),161,())) (v:=C6.F ((m,f,(a:Int),(b:Int),c,()),161,())) (by kernel_rfl) (by kernel_rfl) (gB q4) (eZ q4)⟩
end VL
namespace VL
open Go Vx
def CQ(x:Int):Bool:=Xt .i64 x 31==0
def JJ(v:Int×Int×Int×Unit):Int:=if v.1<0∨v.1>5 then 3 else if(CQ v.2.1&&CQ v.2.2.1)=true then 0 else 7
theorem aBp(x:Int):Tf (x,())=some (CQ x,()):=rfl
theorem aO3(v:Int×Int×Int×Unit):Tg (v,())=some (JJ v,()):=by
 show jN Qo.pre Qo.F v=_;unfold jN JJ;have p:=aBp v.2.1;have q:Tf v.2.2=some (CQ v.2.2.1,()):=aBp v.2.2.1;rw[aIH p,aGU p,aIH q,aGU q];by_cases h:v.1<0∨v.1>5
 ·have:(decide (v.1<0)||decide (v.1>5))=true:=by rw[du,decide_eq_true_eq,decide_eq_true_eq];exact h
  rw[this,if_pos h];rfl
 ·have:(decide (v.1<0)||decide (v.1>5))=false:=by
   rw[decide_eq_false (show ¬v.1<0 by omega),decide_eq_false (show ¬v.1>5 by omega)];rfl
  rw[this,if_neg h];cases CQ v.2.1<;>cases CQ v.2.2.1<;>rfl
def FN(f:Int):List Nat->Int
 | []=>0
 |a::l=>if Aj f a≠0 then Aj f a else FN f l
abbrev R5:=Int×Int×Int×Int×Int×Unit
theorem aPA(R:R5)(op:Int)(l:List Nat)(hl:∀a∈l,a<2^64)(hlen:l.length<1000):
  bQ (((l.length:Int),Wd l,(0:Int),op,(),()),(),R,())=some (if FN R.2.1 l=0 then .inl ((op,(),()),(),R,())else .inr ((FN R.2.1 l,()),())):=by
 have key:=EJ (aHO An.pre An.F Aq.pre Aq.F) (fun x=>l.length-x.1.2.2.1.toNat)
  (fun x=>∃i:Nat,i<=l.length/\FN R.2.1 (l.drop i)=FN R.2.1 l/\x=(((l.length:Int),Wd l,(i:Int),op,(),()),(),R,()))
  (fun _=>if FN R.2.1 l=0 then .inl ((op,(),()),(),R,())else .inr ((FN R.2.1 l,()),())) ?_ _ ⟨0,dv _,rfl,rfl⟩
 ·exact key
 intro L x hx hL;obtain⟨i,hi,hok,rfl⟩:=hx;unfold Ut;rcases aq i l.length with hlt|hge
 ·have hg:l.getD i 0=l[i]:=by simp[ak,hlt]
  have ha:=hl _ (jo hlt);have p0:=Ji R.2.1 l[i] ha;have e0:decide ((i:Int)<(l.length:Int))=true:=decide_eq_true (by omega);have e1:(decide ((0:Int)<=(i:Int))&&decide ((i:Int)<((Wd l).length:Int)))=true:=by rw[AI,decide_eq_true (by omega),decide_eq_true (by omega)];rfl
  have e2:(Wd l).getD (ai (i:Int)) 0=((l[i]:Nat):Int):=by rw[ag,CP,hg]
  have e3:aa .i64 ((i:Int)+1)=((i+1:Nat):Int):=by rw[AB (by omega)];omega
  rw[dr hlt,FN]at hok;dsimp only;simp only[e0,e1,e2,e3,cond_true,HZ p0,HR p0];by_cases hc:Aj R.2.1 l[i]=0
  ·rw[if_neg (fun h=>h hc)]at hok;rw[hc,bne_self_eq_false,cond_false];exact hL _ ⟨i+1,by omega,hok,rfl⟩ (by simp only[ag];omega)
  ·rw[if_pos hc]at hok;have:(Aj R.2.1 l[i]!=0)=true:=by rw[bne_iff_ne];exact hc
   rw[this,←hok,if_neg hc];rfl
 ·have e:i=l.length:=by omega
  subst e;rw[jq]at hok;have e0:decide ((l.length:Int)<(l.length:Int))=false:=decide_eq_false (by omega);simp only[e0,cond_false];rw[←hok];rfl
def qE(a c:Int):Bool:=(((aa .i64 c)==0)&&((aa .u64 (aa .i64 (aa .i32 a)))!=a))||(((aa .i64 c)==2)&&((AL .u64 a 32)!=0))
def L5(f op:Int)(n a b c:Nat):Int:=if ¬Fm f then 2 else if op=10/\c>3 then 2 else if(op=11∨op=12)/\c>3 then 9 else if FN f ([a,b,c].take n)≠0 then FN f ([a,b,c].take n)else if(op==12&&qE a c)=true then 4 else 0
theorem aFG(op:Int)(c:Nat){d:Bool}(hd:d=decide ((c:Int)>3))(t:Int)(v:Option (Int×Unit))(hv:v=some (t,())):
  (bif op==10 then(bif d then some (2,())else v)else bif op==11 then(bif op==11 then(bif d then some (9,())else v)else v)else bif op==12 then(bif d then some (9,())else v)else v) =
  some (if op=10/\c>3 then 2 else if(op=11∨op=12)/\c>3 then 9 else t,()):=by
 rw[hd,hv];by_cases h:c>3
 ·rw[decide_eq_true (show(c:Int)>3 by omega)];by_cases h1:op=10
  ·subst h1;rw[if_pos ⟨rfl,h⟩];rfl
  ·rw[beq_false_of_ne h1,if_neg (fun x=>h1 x.1)];by_cases h2:op=11
   ·subst h2;rw[if_pos ⟨.inl rfl,h⟩];rfl
   ·by_cases h3:op=12
    ·subst h3;rw[if_pos ⟨.inr rfl,h⟩];rfl
    ·rw[beq_false_of_ne h2,beq_false_of_ne h3,if_neg (fun x=>x.1.elim h2 h3)];rfl
 ·rw[decide_eq_false (show ¬(c:Int)>3 by omega),if_neg (fun x=>h x.2),if_neg (fun x=>h x.2)];cases op==10<;>cases op==11<;>cases op==12<;>rfl
theorem aO4(m f op:Int)(w:Option (Nat×List Nat)){n a b c:Nat}(hn:n<=3)(ha:a<2^64)(hb:b<2^64)(hc:c<2^64):
  WA (op,((n:Int),w,()),(m,f,(a:Int),(b:Int),(c:Int),()),())=some (L5 f op n a b c,()):=by
 show jO An.pre An.F Aq.pre Aq.F bQ op ((n:Int),w,()) (m,f,(a:Int),(b:Int),(c:Int),())=_;have e3:((((a:Int)::((b:Int)::((c:Int)::[]))).take (ai (n:Int))).drop (ai (0:Int)))=Wd ([a,b,c].take n):=by
  have:n=0∨n=1∨n=2∨n=3:=by omega
  rcases this with rfl|rfl|rfl|rfl<;>rfl
 have e2:((decide ((0:Int)<=(n:Int)))&&(decide ((n:Int)<=((((a:Int)::((b:Int)::((c:Int)::[]))).length:Nat):Int))))=true:=by
  rw[decide_eq_true (show(0:Int)<=(n:Int) by omega),decide_eq_true (show((n:Int)<=((((a:Int)::((b:Int)::((c:Int)::[]))).length:Nat):Int))from by show(n:Int)<=3;omega)];rfl
 have hW:=aPA (m,f,(a:Int),(b:Int),(c:Int),()) op ([a,b,c].take n) (by intro x hx;have:=dz hx;simp at this;omega) (by rw[List.length_take];show min n 3<1000;omega);unfold jO L5;dsimp only;by_cases hA:FN f ([a,b,c].take n)=0
 ·rw[if_pos hA]at hW;rw[e3,e2,AI,hW];by_cases hf:Fm f
  ·have p0:=HC hf;rw[CM p0,CJ p0,if_neg (show ¬¬Fm f from fun h=>h hf)];refine aFG op c rfl _ (bif op==12 then(bif qE a c then some (4,())else some (0,()))else some (0,())) ?_;rw[if_neg (fun h=>h hA)];cases op==12<;>cases qE (a:Int) c<;>rfl
  ·have p0:=Jj hf;rw[CM p0,CJ p0,if_pos hf];rfl
 ·rw[if_neg hA]at hW;rw[e3,e2,AI,hW];by_cases hf:Fm f
  ·have p0:=HC hf;rw[CM p0,CJ p0,if_neg (show ¬¬Fm f from fun h=>h hf)];refine aFG op c rfl _ (some (FN f ([a,b,c].take n),())) ?_;rw[if_pos hA]
  ·have p0:=Jj hf;rw[CM p0,CJ p0,if_pos hf];rfl
def Sx(op:Int):Nat:=(Lg.F (op,())).1.1.toNat
def JB(v:Int×Int×Int×Unit)(op f:Int)(a b c:Nat):Int:=if JJ v≠0 then JJ v else if op<1∨op>22 then 190 else if L5 f op (Sx op) a b c≠0 then L5 f op (Sx op) a b c else(Ez v.1 op f a b c).2.2.1
abbrev lN:=Int×Int×Int×(Int×Int×Int×Unit)×Unit
def bBg:lN:=(0,0,0,(0,0,0,()),())
def qL(v:Int×Int×Int×Unit)(y:Int×Int×Int×Unit):lN:=if BA .i64 y.2.1 v.2.2.1≠0 then(0,y.2.1,BA .i64 (BA .i64 y.2.1 v.2.2.1) (aa .i64 (0-BA .i64 y.2.1 v.2.2.1)),v,())else(y.1,y.2.1,0,(v.1,Ap .i64 v.2.1 y.2.1,v.2.2),())
def Sy(v:Int×Int×Int×Unit)(op f:Int)(a b c:Nat):lN×Int×Unit:=if JB v op f a b c≠0 then(bBg,JB v op f a b c,())else(qL v (Ez v.1 op f a b c),0,())
theorem aO6(v:Int×Int×Int×Unit)(op f:Int){a b c:Nat}(ha:a<2^64)(hb:b<2^64)(hc:c<2^64)
  (hw:1<=op->op<=22->∃n w,Li (op,())=some ((n,w,()),0,())/\0<=n/\n<=3/\Rp w (v.1,f,(a:Int),(b:Int),(c:Int),()) (Ez v.1 op f a b c)) :
  QI (v,op,f,(a:Int),(b:Int),(c:Int),())=some (Sy v op f a b c):=by
 show jP Qp.pre Qp.F Lg.pre Lg.F Qq.pre Qq.F I7.pre I7.F v op f a b c=_;unfold jP Sy;dsimp only;have p0:Tg ((v.1,v.2),())=some (JJ v,()):=aO3 v;rw[aVX p0,aTm p0,cond_true];by_cases hg:JJ v=0
 ·have hz:((JJ v:Int)!=0)=false:=by rw[hg];rfl
  rw[hz,cond_false];by_cases ho:op<1∨op>22
  ·have p1:=aZz ho;have he:JB v op f a b c=190:=by unfold JB;rw[if_neg (fun h=>h hg),if_pos ho]
   rw[aII p1,fA p1,he];rfl
  ·obtain⟨n,w,p1,hn0,hn3,hd1,hd2⟩:=hw (by omega) (by omega);obtain⟨k,rfl⟩:=cy hn0;have hk:Sx op=k:=by unfold Sx;rw[fA p1];rfl
   have p2:=aO4 v.1 f op w (n:=k) (Int.ofNat_le.1 hn3) ha hb hc;have he:JB v op f a b c=if L5 f op k a b c≠0 then L5 f op k a b c else(Ez v.1 op f a b c).2.2.1:=by
    unfold JB;rw[if_neg (fun h=>h hg),if_neg ho,hk]
   rw[he,aII p1,fA p1,cond_true];dsimp only;rw[bne_self_eq_false,cond_false,aVZ p2,aTo p2,cond_true];dsimp only;by_cases hc0:L5 f op k a b c=0
   ·rw[hc0,bne_self_eq_false,cond_false,hd1,hd2,cond_true,if_neg (show ¬((0:Int)≠0) by decide)];by_cases hr:(Ez v.1 op f a b c).2.2.1=0
    ·rw[hr,bne_self_eq_false,cond_false,if_neg (show ¬((0:Int)≠0) by decide)];unfold qL;by_cases ht:BA .i64 (Ez v.1 op f a b c).2.1 v.2.2.1=0
     ·rw[ht,bne_self_eq_false,cond_false,if_neg (show ¬((0:Int)≠0) by decide)]
     ·rw[if_pos ht,bne_iff_ne.2 ht];rfl
    ·rw[if_pos hr,bne_iff_ne.2 hr];rfl
   ·rw[if_pos hc0,if_pos hc0,bne_iff_ne.2 hc0];rfl
 ·have he:JB v op f a b c=JJ v:=by unfold JB;rw[if_pos hg]
  rw[he,if_pos hg,bne_iff_ne.2 hg];rfl
end VL
namespace VL
open Go Vx
theorem bA6(m f:Int){op:Int}(h:op=1∨op=2∨op=3∨op=4){a b c:Nat}(ha:a<2^64)(hb:b<2^64):
  ∃n w,Li (op,())=some ((n,w,()),0,())/\0<=n/\n<=3/\Rp w (m,f,(a:Int),(b:Int),(c:Int),()) (Ez m op f a b c):=by
 obtain⟨w1,w2,w3,w4⟩:=bA7 m f ha hb (c:Int);rcases h with rfl|rfl|rfl|rfl
 ·exact⟨2,some (192,[158+2]),Rk (by decide) (by decide) (by kernel_rfl),by decide,by decide,w1⟩
 ·exact⟨2,some (192,[159+2]),Rk (by decide) (by decide) (by kernel_rfl),by decide,by decide,w2⟩
 ·exact⟨2,some (192,[160+2]),Rk (by decide) (by decide) (by kernel_rfl),by decide,by decide,w3⟩
 ·exact⟨2,some (192,[161+2]),Rk (by decide) (by decide) (by kernel_rfl),by decide,by decide,w4⟩
theorem aO5(v:Int×Int×Int×Unit){op:Int}(h:op=1∨op=2∨op=3∨op=4)(f:Int){a b c:Nat}(ha:a<2^64)(hb:b<2^64)(hc:c<2^64):
  QI (v,op,f,(a:Int),(b:Int),(c:Int),())=some (Sy v op f a b c):=aO6 v op f ha hb hc (fun _ _=>bA6 v.1 f h ha hb)
theorem gK{op n:Int}{w:Option (Nat×List Nat)}(p:Li (op,())=some ((n,w,()),0,())):Sx op=n.toNat:=by
 unfold Sx;rw[fA p]
theorem aZo{op:Int}(h:op=1∨op=2∨op=3∨op=4):Sx op=2:=by
 rcases h with rfl|rfl|rfl|rfl
 ·exact gK (n:=2) (w:=some (192,[158+2])) (Rk (by decide) (by decide) (by kernel_rfl))
 ·exact gK (n:=2) (w:=some (192,[159+2])) (Rk (by decide) (by decide) (by kernel_rfl))
 ·exact gK (n:=2) (w:=some (192,[160+2])) (Rk (by decide) (by decide) (by kernel_rfl))
 ·exact gK (n:=2) (w:=some (192,[161+2])) (Rk (by decide) (by decide) (by kernel_rfl))
end VL
namespace VL
open Go Vx
def KI(f:Int)(y:Int×Int×Int×Unit):Prop:=∃x:Nat,y.1=(x:Int)/\Aj f x=0/\y.2.2.1=0
theorem KJ{f:Int}{c:Bool}{x y:Int×Int×Int×Unit}(hx:KI f x)(hy:KI f y):KI f (bif c then x else y):=by
 cases c
 ·exact hy
 ·exact hx
theorem Gn{f:Int}{x:Nat}{g:Int}(h:Aj f x=0):KI f ((x:Int),g,0,()):=⟨x,rfl,h,rfl⟩
theorem aE8{f m:Int}(hf:Fm f)(hm:0<=m/\m<=5){a b:Nat}(ha:Aj f a=0)(hb:Aj f b=0):KI f (Jx f m a b):=by
 unfold Jx;rw[if_pos hf,if_pos hm,if_pos ⟨ha,hb⟩,aRx];exact Gn (aRw hf hm ha hb)
theorem bAF{f m:Int}(hf:Fm f)(hm:0<=m/\m<=5){a b:Nat}(ha:Aj f a=0)(hb:Aj f b=0):KI f (Mx f m a b):=by
 unfold Mx;rw[if_pos hb];exact aE8 hf hm ha (fQ hf b)
theorem aUr{f m:Int}(hf:Fm f)(hm:0<=m/\m<=5){a b:Nat}(ha:Aj f a=0)(hb:Aj f b=0):KI f (Mo f m a b):=by
 unfold Mo;rw[if_neg (show ¬¬Fm f from fun h=>h hf),if_neg (by omega),if_neg (fun h=>h ha),if_neg (fun h=>h hb)];unfold Yl;exact KJ (Gn (Ym hf).2) (KJ (Gn (Ym hf).2) (KJ (Gn (sV hf _).1) (KJ (Gn (aLk hf _).1) (Gn (uY hf _ _ _ _)))))
theorem aSo{f m:Int}(hf:Fm f)(hm:0<=m/\m<=5){a b:Nat}(ha:Aj f a=0)(hb:Aj f b=0):KI f (L6 f m a b):=by
 unfold L6;rw[if_neg (show ¬¬Fm f from fun h=>h hf),if_neg (by omega),if_neg (fun h=>h ha),if_neg (fun h=>h hb)];unfold XE;refine KJ (Gn (Ym hf).2) (KJ (Gn (Ym hf).2) (KJ (Gn (sV hf _).1) (KJ (Gn (sV hf _).1) (KJ (Gn (aLk hf _).1) (Gn ?_)))));unfold GH JU;split
 ·exact uY hf _ _ _ _
 ·exact uY hf _ _ _ _
def F0(op:Int):Prop:=op=1∨op=2∨op=3∨op=4
theorem aSN{f m:Int}(hf:Fm f)(hm:0<=m/\m<=5){op:Int}(h:F0 op){a b:Nat}(ha:Aj f a=0)(hb:Aj f b=0):KI f (Ez m op f a b 0):=by
 rcases h with rfl|rfl|rfl|rfl
 ·exact aE8 hf hm ha hb
 ·exact bAF hf hm ha hb
 ·exact aUr hf hm ha hb
 ·exact aSo hf hm ha hb
theorem aFF{f:Int}(hf:Fm f){a:Nat}(ha:Aj f a=0):a<2^64:=by
 have h1:=(FO ha).2;have h2:fW f<=64:=FS hf;exact ao h1 (aj (by decide) h2)
def Aw(f m op:Int)(a b:Nat):Nat:=(Ez m op f a b 0).1.toNat
def AC(f m op:Int)(a b:Nat):Int:=(Ez m op f a b 0).2.1
theorem U2{f m:Int}(hf:Fm f)(hm:0<=m/\m<=5){op:Int}(h:F0 op){a b:Nat}(ha:Aj f a=0)(hb:Aj f b=0):
  Aj f (Aw f m op a b)=0/\(Ez m op f a b 0).1=((Aw f m op a b:Nat):Int)/\(Ez m op f a b 0).2.2.1=0:=by
 obtain⟨x,h1,h2,h3⟩:=aSN hf hm h ha hb;have e:Aw f m op a b=x:=by unfold Aw;rw[h1];rfl
 rw[e];exact⟨h2,h1,h3⟩
theorem aZD{f m:Int}(hf:Fm f)(hm:0<=m/\m<=5){op:Int}(h:F0 op){a b:Nat}(ha:Aj f a=0)(hb:Aj f b=0):
  Sy (m,0,0,()) op f a b 0=((((Aw f m op a b:Nat):Int),AC f m op a b,0,(m,Ap .i64 0 (AC f m op a b),0,()),()),0,()):=by
 obtain⟨h1,h2,h3⟩:=U2 hf hm h ha hb;have hc:L5 f op 2 a b 0=0:=by
  unfold L5;have hop:¬op=10/\¬op=11/\¬op=12:=by unfold F0 at h;omega
  have hA:FN f ([a,b,0].take 2)=0:=by
   show(if Aj f a≠0 then Aj f a else if Aj f b≠0 then Aj f b else 0)=0;rw[if_neg (fun x=>x ha),if_neg (fun x=>x hb)]
  rw[if_neg (show ¬¬Fm f from fun h=>h hf),if_neg (fun x=>hop.1 x.1),if_neg (fun x=>x.1.elim hop.2.1 hop.2.2),if_neg (fun x=>x hA),beq_false_of_ne hop.2.2];rfl
 have hg:JJ (m,0,0,())=0:=by
  unfold JJ;rw[if_neg (by show ¬(m<0∨m>5);omega)];have h0:CQ 0=true:=by decide +kernel
  show(if(CQ 0&&CQ 0)=true then(0:Int)else 7)=0;rw[h0];rfl
 have he:JB (m,0,0,()) op f a b 0=0:=by
  unfold JB;rw[if_neg (fun x=>x hg),if_neg (by unfold F0 at h;omega),aZo h,if_neg (fun x=>x hc)];exact h3
 unfold Sy;rw[if_neg (fun x=>x he)];unfold qL;have hz:BA .i64 (Ez m op f a b 0).2.1 0=0:=by
  unfold BA;have:cw 64 (0:Int)=0#64:=rfl;show aa .i64 ((cw 64 (Ez m op f a b 0).2.1 &&& cw 64 0).toNat:Int)=0;rw[this,BitVec.and_zero];rfl
 have hz':¬(BA .i64 (Ez (m,(0:Int),(0:Int),()).1 op f a b 0).2.1 (m,(0:Int),(0:Int),()).2.2.1≠0):=fun x=>x hz;rw[if_neg hz'];dsimp only;rw[h2];rfl
abbrev zS:=Int×Int×Int×Unit
theorem aW{f m:Int}(hf:Fm f)(hm:0<=m/\m<=5)(g:Int){op:Int}(h:F0 op){a b:Nat}(ha:Aj f a=0)(hb:Aj f b=0):
  WB ((f,m,g,()),op,(a:Int),(b:Int),())=some ((f,m,Ap .i64 g (AC f m op a b),()),((Aw f m op a b:Nat):Int),()):=by
 have p:QI ((m,0,0,()),op,f,(a:Int),(b:Int),((0:Nat):Int),())=_:=aO5 (m,0,0,()) h f (aFF hf ha) (aFF hf hb) (by decide);rw[aZD hf hm h ha hb]at p;have p':QI ((m,0,0,()),op,f,(a:Int),(b:Int),(0:Int),())=_:=p;show jQ Qr.pre Qr.F (f,m,g,()) op (a:Int) (b:Int)=_;unfold jQ;dsimp only;simp only[aV0 p',aTp p',cond_true]
end VL
namespace VL
open Go Vx
abbrev Bl:=Nat×Nat
def cI(x:Bl):Int×Int×Unit:=((x.1:Int),(x.2:Int),())
def HX(f:Int)(x:Bl):Prop:=Aj f x.1=0/\Aj f x.2=0
section
variable {f m:Int}(hf:Fm f)(hm:0<=m/\m<=5)(g:Int)
include hf hm
theorem Jh{a b:Nat}(ha:Aj f a=0)(hb:Aj f b=0):WC ((f,m,g,()),(a:Int),(b:Int),())=some ((f,m,Ap .i64 g (AC f m 3 a b),()),((Aw f m 3 a b:Nat):Int),()):=by
 have p:=aW hf hm g (op:=3) (.inr (.inr (.inl rfl))) ha hb;show jR CV.pre CV.F (f,m,g,()) (a:Int) (b:Int)=_;unfold jR;dsimp only;simp only[gC p,fB p,cond_true]
theorem aBw{a b:Nat}(ha:Aj f a=0)(hb:Aj f b=0):WD ((f,m,g,()),(a:Int),(b:Int),())=some ((f,m,Ap .i64 g (AC f m 2 a b),()),((Aw f m 2 a b:Nat):Int),()):=by
 have p:=aW hf hm g (op:=2) (.inr (.inl rfl)) ha hb;show jS CV.pre CV.F (f,m,g,()) (a:Int) (b:Int)=_;unfold jS;dsimp only;simp only[gC p,fB p,cond_true]
theorem WF{a b:Nat}(ha:Aj f a=0)(hb:Aj f b=0):WE ((f,m,g,()),(a:Int),(b:Int),())=some ((f,m,Ap .i64 g (AC f m 1 a b),()),((Aw f m 1 a b:Nat):Int),()):=by
 have p:=aW hf hm g (op:=1) (.inl rfl) ha hb;show jT CV.pre CV.F (f,m,g,()) (a:Int) (b:Int)=_;unfold jT;dsimp only;simp only[gC p,fB p,cond_true]
theorem aBy{a b:Nat}(ha:Aj f a=0)(hb:Aj f b=0):WH ((f,m,g,()),(a:Int),(b:Int),())=some ((f,m,Ap .i64 g (AC f m 4 a b),()),((Aw f m 4 a b:Nat):Int),()):=by
 have p:=aW hf hm g (op:=4) (.inr (.inr (.inr rfl))) ha hb;show jX CV.pre CV.F (f,m,g,()) (a:Int) (b:Int)=_;unfold jX;dsimp only;simp only[gC p,fB p,cond_true]
end
section
variable (f m:Int)
def UJ(g:Int):List (Int×Nat×Nat)->Int
 | []=>g
 |s::l=>UJ (Ap .i64 g (AC f m s.1 s.2.1 s.2.2)) l
def gU(x y:Bl):Bl:=(Aw f m 1 x.1 y.1,Aw f m 1 x.2 y.2)
def aJw(x y:Bl):List (Int×Nat×Nat):=[(1,x.1,y.1),(1,x.2,y.2)]
def Yx(x y:Bl):Bl:=(Aw f m 2 (Aw f m 3 x.1 y.1) (Aw f m 3 x.2 y.2),Aw f m 1 (Aw f m 3 x.1 y.2) (Aw f m 3 x.2 y.1))
def aIP(x y:Bl):List (Int×Nat×Nat):=[(3,x.1,y.1),(3,x.2,y.2),(3,x.1,y.2),(3,x.2,y.1),(2,Aw f m 3 x.1 y.1,Aw f m 3 x.2 y.2),(1,Aw f m 3 x.1 y.2,Aw f m 3 x.2 y.1)]
def UW(y:Bl):Nat:=Aw f m 1 (Aw f m 3 y.1 y.1) (Aw f m 3 y.2 y.2)
def uP(x y:Bl):Nat:=Aw f m 1 (Aw f m 3 x.1 y.1) (Aw f m 3 x.2 y.2)
def uQ(x y:Bl):Nat:=Aw f m 2 (Aw f m 3 x.2 y.1) (Aw f m 3 x.1 y.2)
def gG(x y:Bl):Bl:=(Aw f m 4 (uP f m x y) (UW f m y),Aw f m 4 (uQ f m x y) (UW f m y))
def aIU(x y:Bl):List (Int×Nat×Nat):=[(3,y.1,y.1),(3,y.2,y.2),(1,Aw f m 3 y.1 y.1,Aw f m 3 y.2 y.2),(3,x.1,y.1),(3,x.2,y.2),(1,Aw f m 3 x.1 y.1,Aw f m 3 x.2 y.2),(3,x.2,y.1),(3,x.1,y.2),(2,Aw f m 3 x.2 y.1,Aw f m 3 x.1 y.2),(4,uP f m x y,UW f m y),(4,uQ f m x y,UW f m y)]
end
theorem YP{f m:Int}(hf:Fm f)(hm:0<=m/\m<=5){a b:Nat}(ha:Aj f a=0)(hb:Aj f b=0):Aj f (Aw f m 1 a b)=0:=(U2 hf hm (.inl rfl) ha hb).1
theorem st2{f m:Int}(hf:Fm f)(hm:0<=m/\m<=5){a b:Nat}(ha:Aj f a=0)(hb:Aj f b=0):Aj f (Aw f m 2 a b)=0:=(U2 hf hm (.inr (.inl rfl)) ha hb).1
theorem JV{f m:Int}(hf:Fm f)(hm:0<=m/\m<=5){a b:Nat}(ha:Aj f a=0)(hb:Aj f b=0):Aj f (Aw f m 3 a b)=0:=(U2 hf hm (.inr (.inr (.inl rfl))) ha hb).1
theorem st4{f m:Int}(hf:Fm f)(hm:0<=m/\m<=5){a b:Nat}(ha:Aj f a=0)(hb:Aj f b=0):Aj f (Aw f m 4 a b)=0:=(U2 hf hm (.inr (.inr (.inr rfl))) ha hb).1
theorem aPc{f m:Int}(hf:Fm f)(hm:0<=m/\m<=5)(g:Int){x y:Bl}(hx:HX f x)(hy:HX f y):
  WJ ((f,m,g,()),cI x,cI y,())=some ((f,m,UJ f m g (aJw x y),()),cI (gU f m x y),())/\HX f (gU f m x y):=by
 refine⟨?_,YP hf hm hx.1 hy.1,YP hf hm hx.2 hy.2⟩;have p1:=WF hf hm g hx.1 hy.1;have p2:=WF hf hm (Ap .i64 g (AC f m 1 x.1 y.1)) hx.2 hy.2;show j1 DP.pre DP.F (f,m,g,()) (cI x) (cI y)=_;unfold j1 cI;dsimp only;simp only[Yw p1,XV p1,Yw p2,XV p2,cond_true];rfl
theorem aO8{f m:Int}(hf:Fm f)(hm:0<=m/\m<=5)(g:Int){x y:Bl}(hx:HX f x)(hy:HX f y):
  WG ((f,m,g,()),cI x,cI y,())=some ((f,m,UJ f m g (aIP f m x y),()),cI (Yx f m x y),())/\HX f (Yx f m x y):=by
 have q1:=JV hf hm hx.1 hy.1;have q2:=JV hf hm hx.2 hy.2;have q3:=JV hf hm hx.1 hy.2;have q4:=JV hf hm hx.2 hy.1;refine⟨?_,st2 hf hm q1 q2,YP hf hm q3 q4⟩;have p1:=Jh hf hm g hx.1 hy.1;have p2:=Jh hf hm (Ap .i64 g (AC f m 3 x.1 y.1)) hx.2 hy.2;have p3:=Jh hf hm (Ap .i64 (Ap .i64 g (AC f m 3 x.1 y.1)) (AC f m 3 x.2 y.2)) hx.1 hy.2;have p4:=Jh hf hm (Ap .i64 (Ap .i64 (Ap .i64 g (AC f m 3 x.1 y.1)) (AC f m 3 x.2 y.2)) (AC f m 3 x.1 y.2)) hx.2 hy.1;have p5:=aBw hf hm (Ap .i64 (Ap .i64 (Ap .i64 (Ap .i64 g (AC f m 3 x.1 y.1)) (AC f m 3 x.2 y.2)) (AC f m 3 x.1 y.2)) (AC f m 3 x.2 y.1)) q1 q2;have p6:=WF hf hm (Ap .i64 (Ap .i64 (Ap .i64 (Ap .i64 (Ap .i64 g (AC f m 3 x.1 y.1)) (AC f m 3 x.2 y.2)) (AC f m 3 x.1 y.2)) (AC f m 3 x.2 y.1)) (AC f m 2 (Aw f m 3 x.1 y.1) (Aw f m 3 x.2 y.2))) q3 q4;show jU FG.pre FG.F FH.pre FH.F DP.pre DP.F (f,m,g,()) (cI x) (cI y)=_;unfold jU cI;dsimp only;simp only[JR p1,JI p1,JR p2,JI p2,JR p3,JI p3,JR p4,JI p4,aIJ p5,aGV p5,Yw p6,XV p6,cond_true];rfl
end VL
namespace VL
open Go Vx
theorem aPa{f m:Int}(hf:Fm f)(hm:0<=m/\m<=5)(g:Int){x y:Bl}(hx:HX f x)(hy:HX f y):
  WI ((f,m,g,()),cI x,cI y,())=some ((f,m,UJ f m g (aIU f m x y),()),cI (gG f m x y),())/\HX f (gG f m x y):=by
 have q1:=JV hf hm hy.1 hy.1;have q2:=JV hf hm hy.2 hy.2;have q3:=YP hf hm q1 q2;have q4:=JV hf hm hx.1 hy.1;have q5:=JV hf hm hx.2 hy.2;have q6:=YP hf hm q4 q5;have q7:=JV hf hm hx.2 hy.1;have q8:=JV hf hm hx.1 hy.2;have q9:=st2 hf hm q7 q8;have q10:=st4 hf hm q6 q3;have q11:=st4 hf hm q9 q3;refine⟨?_,q10,q11⟩;have p1:=Jh hf hm g hy.1 hy.1;have p2:=Jh hf hm (Ap .i64 g (AC f m 3 y.1 y.1)) hy.2 hy.2;have p3:=WF hf hm (Ap .i64 (Ap .i64 g (AC f m 3 y.1 y.1)) (AC f m 3 y.2 y.2)) q1 q2;have p4:=Jh hf hm (Ap .i64 (Ap .i64 (Ap .i64 g (AC f m 3 y.1 y.1)) (AC f m 3 y.2 y.2)) (AC f m 1 (Aw f m 3 y.1 y.1) (Aw f m 3 y.2 y.2))) hx.1 hy.1;have p5:=Jh hf hm (Ap .i64 (Ap .i64 (Ap .i64 (Ap .i64 g (AC f m 3 y.1 y.1)) (AC f m 3 y.2 y.2)) (AC f m 1 (Aw f m 3 y.1 y.1) (Aw f m 3 y.2 y.2))) (AC f m 3 x.1 y.1)) hx.2 hy.2;have p6:=WF hf hm (Ap .i64 (Ap .i64 (Ap .i64 (Ap .i64 (Ap .i64 g (AC f m 3 y.1 y.1)) (AC f m 3 y.2 y.2)) (AC f m 1 (Aw f m 3 y.1 y.1) (Aw f m 3 y.2 y.2))) (AC f m 3 x.1 y.1)) (AC f m 3 x.2 y.2)) q4 q5;have p7:=Jh hf hm (Ap .i64 (Ap .i64 (Ap .i64 (Ap .i64 (Ap .i64 (Ap .i64 g (AC f m 3 y.1 y.1)) (AC f m 3 y.2 y.2)) (AC f m 1 (Aw f m 3 y.1 y.1) (Aw f m 3 y.2 y.2))) (AC f m 3 x.1 y.1)) (AC f m 3 x.2 y.2)) (AC f m 1 (Aw f m 3 x.1 y.1) (Aw f m 3 x.2 y.2))) hx.2 hy.1;have p8:=Jh hf hm (Ap .i64 (Ap .i64 (Ap .i64 (Ap .i64 (Ap .i64 (Ap .i64 (Ap .i64 g (AC f m 3 y.1 y.1)) (AC f m 3 y.2 y.2)) (AC f m 1 (Aw f m 3 y.1 y.1) (Aw f m 3 y.2 y.2))) (AC f m 3 x.1 y.1)) (AC f m 3 x.2 y.2)) (AC f m 1 (Aw f m 3 x.1 y.1) (Aw f m 3 x.2 y.2))) (AC f m 3 x.2 y.1)) hx.1 hy.2;have p9:=aBw hf hm (Ap .i64 (Ap .i64 (Ap .i64 (Ap .i64 (Ap .i64 (Ap .i64 (Ap .i64 (Ap .i64 g (AC f m 3 y.1 y.1)) (AC f m 3 y.2 y.2)) (AC f m 1 (Aw f m 3 y.1 y.1) (Aw f m 3 y.2 y.2))) (AC f m 3 x.1 y.1)) (AC f m 3 x.2 y.2)) (AC f m 1 (Aw f m 3 x.1 y.1) (Aw f m 3 x.2 y.2))) (AC f m 3 x.2 y.1)) (AC f m 3 x.1 y.2)) q7 q8;have p10:=aBy hf hm (Ap .i64 (Ap .i64 (Ap .i64 (Ap .i64 (Ap .i64 (Ap .i64 (Ap .i64 (Ap .i64 (Ap .i64 g (AC f m 3 y.1 y.1)) (AC f m 3 y.2 y.2)) (AC f m 1 (Aw f m 3 y.1 y.1) (Aw f m 3 y.2 y.2))) (AC f m 3 x.1 y.1)) (AC f m 3 x.2 y.2)) (AC f m 1 (Aw f m 3 x.1 y.1) (Aw f m 3 x.2 y.2))) (AC f m 3 x.2 y.1)) (AC f m 3 x.1 y.2)) (AC f m 2 (Aw f m 3 x.2 y.1) (Aw f m 3 x.1 y.2))) q6 q3;have p11:=aBy hf hm (Ap .i64 (Ap .i64 (Ap .i64 (Ap .i64 (Ap .i64 (Ap .i64 (Ap .i64 (Ap .i64 (Ap .i64 (Ap .i64 g (AC f m 3 y.1 y.1)) (AC f m 3 y.2 y.2)) (AC f m 1 (Aw f m 3 y.1 y.1) (Aw f m 3 y.2 y.2))) (AC f m 3 x.1 y.1)) (AC f m 3 x.2 y.2)) (AC f m 1 (Aw f m 3 x.1 y.1) (Aw f m 3 x.2 y.2))) (AC f m 3 x.2 y.1)) (AC f m 3 x.1 y.2)) (AC f m 2 (Aw f m 3 x.2 y.1) (Aw f m 3 x.1 y.2))) (AC f m 4 (Aw f m 1 (Aw f m 3 x.1 y.1) (Aw f m 3 x.2 y.2)) (Aw f m 1 (Aw f m 3 y.1 y.1) (Aw f m 3 y.2 y.2)))) q9 q3;show jY DP.pre DP.F FG.pre FG.F FH.pre FH.F Qu.pre Qu.F (f,m,g,()) (cI x) (cI y)=_;unfold jY cI;dsimp only;simp only[JR p1,JI p1,JR p2,JI p2,Yw p3,XV p3,JR p4,JI p4,JR p5,JI p5,Yw p6,XV p6,JR p7,JI p7,JR p8,JI p8,aIJ p9,aGV p9,aIK p10,aGW p10,aIK p11,aGW p11,cond_true];rfl
abbrev XI:=Int×Int×Unit
def C0(f:Int)(l:List Bl):Bool:=l.all fun x=>Aj f x.1==0&&Aj f x.2==0
theorem aPB(s:zS)(l:List Bl)(hl:∀x∈l,x.1<2^64/\x.2<2^64)(hlen:l.length<2^63):
  W1 (((l.length:Int),l.map cI,(),(0:Int),()),s,())=some (if C0 s.1 l=true then .inl ((),s,())else .inr (((4:Int),()),s,())):=by
 have key:=EJ (aHP Aq.pre Aq.F) (fun x=>l.length-x.1.2.2.2.1.toNat)
  (fun x=>∃i:Nat,i<=l.length/\C0 s.1 (l.drop i)=C0 s.1 l/\x=(((l.length:Int),l.map cI,(),(i:Int),()),s,()))
  (fun _=>if C0 s.1 l=true then .inl ((),s,())else .inr (((4:Int),()),s,())) ?_ _ ⟨0,dv _,rfl,rfl⟩
 ·exact key
 intro L x hx hL;obtain⟨i,hi,hok,rfl⟩:=hx;unfold Uu;rcases aq i l.length with hlt|hge
 ·have hg:(l.map cI).getD i ((0:Int),(0:Int),())=cI l[i]:=by simp[ak,hlt]
  obtain⟨h1,h2⟩:=hl _ (jo hlt);have p0:=Ji s.1 l[i].1 h1;have p1:=Ji s.1 l[i].2 h2;have e0:decide ((i:Int)<(l.length:Int))=true:=decide_eq_true (by omega);have e2:decide ((0:Int)<=(i:Int))=true:=decide_eq_true (by omega);have e1:decide ((i:Int)<(((l.map cI).length:Nat):Int))=true:=by rw[kx];exact e0
  have e3:aa .i64 ((i:Int)+1)=((i+1:Nat):Int):=by rw[AB (by omega)];omega
  have hN:L (((l.length:Int),l.map cI,(),((i+1:Nat):Int),()),s,())=some (if C0 s.1 (l.drop (i+1))=true then .inl ((),s,())else .inr (((4:Int),()),s,()))∨C0 s.1 (l.drop (i+1))≠C0 s.1 l:=by
   by_cases h:C0 s.1 (l.drop (i+1))=C0 s.1 l
   ·left;rw[h];exact hL _ ⟨i+1,by omega,h,rfl⟩ (by simp only[ag];omega)
   ·exact .inr h
  rw[dr hlt]at hok;have hok':((Aj s.1 l[i].1==0&&Aj s.1 l[i].2==0)&&C0 s.1 (l.drop (i+1)))=C0 s.1 l:=hok;dsimp only;simp only[e0,e1,e2,e3,ag,hg,cI,HZ p0,HR p0,HZ p1,HR p1,cond_true,bf,bh];by_cases c1:Aj s.1 l[i].1=0
  ·by_cases c2:Aj s.1 l[i].2=0
   ·rw[c1,c2]at hok' ⊢;have h3:C0 s.1 (l.drop (i+1))=C0 s.1 l:=hok';rcases hN with hN|hN
    ·simp only[bne_self_eq_false,bt,cond_false];rw[hN,h3]
    ·exact absurd h3 hN
   ·rw[beq_false_of_ne c2,bj,az]at hok';rw[←hok',c1,bne_self_eq_false,ca,bne_iff_ne.2 c2];rfl
  ·rw[beq_false_of_ne c1,az,az]at hok';rw[←hok',bne_iff_ne.2 c1];rfl
 ·have e:i=l.length:=by omega
  subst e;rw[jq]at hok;have e0:decide ((l.length:Int)<(l.length:Int))=false:=decide_eq_false (by omega);simp only[e0,cond_false];rw[←hok];rfl
theorem mT(s:zS)(l:List Bl)(hl:∀x∈l,x.1<2^64/\x.2<2^64)(hlen:l.length<2^63):
  QJ (s,l.map cI,())=some (s,(if C0 s.1 l=true then(0:Int)else 4),()):=by
 show jV Aq.pre Aq.F W1 s (l.map cI)=_;unfold jV;have hw:=aPB s l hl hlen;rw[kx];have hw':W1 (((l.length:Int),l.map cI,(),(0:Int),()),(s.1,s.2),())=_:=hw;rw[hw'];by_cases h:C0 s.1 l=true
 ·rw[if_pos h,if_pos h];all_goals rfl
 ·rw[if_neg h,if_neg h];all_goals rfl
def QS(w:Bl->Bl->Bl)(k:Bl->Bl->List (Int×Nat×Nat))(f m:Int)(x y:Bl):XI×Int×Int×Unit:=if ¬Fm f then((0,0,()),0,2,())else if m<0∨m>5 then((0,0,()),0,3,())else if ¬C0 f [x,y]=true then((0,0,()),0,4,())else(cI (w x y),UJ f m 0 (k x y),0,())
theorem rQ{f:Int}{x y:Bl}(h:C0 f [x,y]=true):HX f x/\HX f y:=by
 simp only[C0,md,qj,cq,ae,beq_iff_eq]at h;exact⟨h.1,h.2⟩
theorem Mn{m:Int}:(decide (m<0)||decide (m>5))=decide (m<0∨m>5):=by rw[Bool.decide_or]
theorem aPd(f m:Int){x y:Bl}(hx:x.1<2^64/\x.2<2^64)(hy:y.1<2^64/\y.2<2^64):Tj (f,m,cI x,cI y,())=some (QS (gU f m) aJw f m x y):=by
 show j2 Qx.pre Qx.F An.pre An.F DQ.pre DQ.F f m (cI x) (cI y)=_;unfold j2 QS;by_cases hf:Fm f
 ·have p0:=HC hf;rw[if_neg (show ¬¬Fm f from fun h=>h hf)];by_cases hm:m<0∨m>5
  ·rw[if_pos hm];dsimp only;simp only[CM p0,CJ p0,cond_true,bne_self_eq_false,cond_false,Mn,decide_eq_true hm]
  ·rw[if_neg hm];have p1:QJ ((f,m,0,()),(cI x::cI y::[]),())=_:=mT (f,m,0,()) [x,y] (by intro z hz;simp at hz;rcases hz with rfl|rfl<;>assumption) (by show 2<2^63;decide);by_cases hF:C0 f [x,y]=true
   ·rw[if_neg (fun h=>h hF)];rw[if_pos hF]at p1;obtain⟨ox,oy⟩:=rQ hF;obtain⟨p2,_⟩:=aPc hf (m:=m) (by omega) 0 ox oy;unfold cI at p1 p2⊢;dsimp only at p1 p2⊢;simp only[CM p0,CJ p0,cond_true,bne_self_eq_false,cond_false,Mn,decide_eq_false hm,US p1,T6 p1,aV5 p2,aTu p2]
   ·rw[if_pos hF];rw[if_neg hF]at p1;unfold cI at p1⊢;dsimp only at p1⊢;simp only[CM p0,CJ p0,cond_true,bne_self_eq_false,cond_false,Mn,decide_eq_false hm,US p1,T6 p1];rfl
 ·have p0:=Jj hf;rw[if_pos hf];dsimp only;simp only[CM p0,CJ p0,cond_true];rfl
theorem aO9(f m:Int){x y:Bl}(hx:x.1<2^64/\x.2<2^64)(hy:y.1<2^64/\y.2<2^64):Th (f,m,cI x,cI y,())=some (QS (Yx f m) (aIP f m) f m x y):=by
 show jW Qs.pre Qs.F An.pre An.F DQ.pre DQ.F f m (cI x) (cI y)=_;unfold jW QS;by_cases hf:Fm f
 ·have p0:=HC hf;rw[if_neg (show ¬¬Fm f from fun h=>h hf)];by_cases hm:m<0∨m>5
  ·rw[if_pos hm];dsimp only;simp only[CM p0,CJ p0,cond_true,bne_self_eq_false,cond_false,Mn,decide_eq_true hm]
  ·rw[if_neg hm];have p1:QJ ((f,m,0,()),(cI x::cI y::[]),())=_:=mT (f,m,0,()) [x,y] (by intro z hz;simp at hz;rcases hz with rfl|rfl<;>assumption) (by show 2<2^63;decide);by_cases hF:C0 f [x,y]=true
   ·rw[if_neg (fun h=>h hF)];rw[if_pos hF]at p1;obtain⟨ox,oy⟩:=rQ hF;obtain⟨p2,_⟩:=aO8 hf (m:=m) (by omega) 0 ox oy;unfold cI at p1 p2⊢;dsimp only at p1 p2⊢;simp only[CM p0,CJ p0,cond_true,bne_self_eq_false,cond_false,Mn,decide_eq_false hm,US p1,T6 p1,aV1 p2,aTq p2]
   ·rw[if_pos hF];rw[if_neg hF]at p1;unfold cI at p1⊢;dsimp only at p1⊢;simp only[CM p0,CJ p0,cond_true,bne_self_eq_false,cond_false,Mn,decide_eq_false hm,US p1,T6 p1];rfl
 ·have p0:=Jj hf;rw[if_pos hf];dsimp only;simp only[CM p0,CJ p0,cond_true];rfl
theorem aPb(f m:Int){x y:Bl}(hx:x.1<2^64/\x.2<2^64)(hy:y.1<2^64/\y.2<2^64):Ti (f,m,cI x,cI y,())=some (QS (gG f m) (aIU f m) f m x y):=by
 show jZ Qv.pre Qv.F An.pre An.F DQ.pre DQ.F f m (cI x) (cI y)=_;unfold jZ QS;by_cases hf:Fm f
 ·have p0:=HC hf;rw[if_neg (show ¬¬Fm f from fun h=>h hf)];by_cases hm:m<0∨m>5
  ·rw[if_pos hm];dsimp only;simp only[CM p0,CJ p0,cond_true,bne_self_eq_false,cond_false,Mn,decide_eq_true hm]
  ·rw[if_neg hm];have p1:QJ ((f,m,0,()),(cI x::cI y::[]),())=_:=mT (f,m,0,()) [x,y] (by intro z hz;simp at hz;rcases hz with rfl|rfl<;>assumption) (by show 2<2^63;decide);by_cases hF:C0 f [x,y]=true
   ·rw[if_neg (fun h=>h hF)];rw[if_pos hF]at p1;obtain⟨ox,oy⟩:=rQ hF;obtain⟨p2,_⟩:=aPa hf (m:=m) (by omega) 0 ox oy;unfold cI at p1 p2⊢;dsimp only at p1 p2⊢;simp only[CM p0,CJ p0,cond_true,bne_self_eq_false,cond_false,Mn,decide_eq_false hm,US p1,T6 p1,aV3 p2,aTs p2]
   ·rw[if_pos hF];rw[if_neg hF]at p1;unfold cI at p1⊢;dsimp only at p1⊢;simp only[CM p0,CJ p0,cond_true,bne_self_eq_false,cond_false,Mn,decide_eq_false hm,US p1,T6 p1];rfl
 ·have p0:=Jj hf;rw[if_pos hf];dsimp only;simp only[CM p0,CJ p0,cond_true];rfl
end VL
namespace VL
open Go Vx
def EA(x:Option Nat):Int:=if CI .f64 x x=some .eq then((x.getD 0:Nat):Int)else 9221120237041090560
theorem qH(x:Option Nat):((CI .f64 x x)!=(some Ordering.eq))=!(decide (CI .f64 x x=some .eq)):=by
 by_cases h:CI .f64 x x=some .eq
 ·rw[h];rfl
 ·rw[decide_eq_false h,bne_iff_ne.2 h];rfl
theorem aIe{x:Option Nat}(h:CI .f64 x x=some .eq):x.isSome=true:=by
 cases x with
 |none=>cases h
 |some _=>rfl
theorem aX(x:Option Nat):WK (x,())=some (EA x,()):=by
 show j3 AR.pre AR.F FE.pre FE.F x=_;have p:Tq (3,())=some ((9221120237041090560:Int),0,()):=aZ (f:=3) (by decide);unfold j3 EA;rw[qH];by_cases h:CI .f64 x x=some .eq
 ·rw[decide_eq_true h,if_pos h];have hp:FE.pre (x,())=true:=aIe h;rw[hp];rfl
 ·rw[decide_eq_false h,if_neg h,gE p,fD p];rfl
abbrev CF:=Option Nat×Option Nat
def AU(x:XI):CF:=(some x.1.toNat,some x.2.1.toNat)
def Es(z:CF):XI:=(EA z.1,EA z.2,())
def UB(x y:CF):CF:=(AA .sub .f64 (AA .mul .f64 x.1 y.1) (AA .mul .f64 x.2 y.2),AA .add .f64 (AA .mul .f64 x.1 y.2) (AA .mul .f64 x.2 y.1))
def TM(x y:CF):CF:=(AA .add .f64 x.1 y.1,AA .add .f64 x.2 y.2)
def JT(u v:CF):CF:=let t:=AA .add .f64 (AA .mul .f64 v.1 v.1) (AA .mul .f64 v.2 v.2);(AA .quo .f64 (AA .add .f64 (AA .mul .f64 u.1 v.1) (AA .mul .f64 u.2 v.2)) t,AA .quo .f64 (AA .sub .f64 (AA .mul .f64 u.2 v.1) (AA .mul .f64 u.1 v.2)) t)
theorem Tk(x:XI):HB (x,())=some (AU x,()):=rfl
theorem aBA(z:CF):Tl (z,())=some (Es z,()):=by
 show j5 FI.pre FI.F z=_;have p1:=aX z.1;have p2:=aX z.2;unfold j5;rw[gD p1,fC p1,gD p2,fC p2];rfl
theorem aPe(x y:XI):Tm (x,y,())=some (Es (TM (AU x) (AU y)),()):=by
 have p:=aBA (TM (AU x) (AU y));show j6 DR.pre DR.F FJ.pre FJ.F x y=_;unfold j6;have q1:HB ((x.1,x.2),())=some (AU x,()):=Tk x;have q2:HB ((y.1,y.2),())=some (AU y,()):=Tk y;have p':Tl ((AA .add .f64 (AU x).1 (AU y).1,AA .add .f64 (AU x).2 (AU y).2),())=some (Es (TM (AU x) (AU y)),()):=p;dsimp only;simp only[UT q1,T7 q1,UT q2,T7 q2,aIL p',aGX p',cond_true]
theorem aBB(x y:XI):RJ (x,y,())=some (Es (UB (AU x) (AU y)),()):=by
 have p:=aBA (UB (AU x) (AU y));show j7 DR.pre DR.F QA.pre QA.F FJ.pre FJ.F x y=_;unfold j7;have q1:HB ((x.1,x.2),())=some (AU x,()):=Tk x;have q2:HB ((y.1,y.2),())=some (AU y,()):=Tk y;have q3:WL (AU x,AU y,())=some (UB (AU x) (AU y),()):=rfl;dsimp only;simp only[UT q1,T7 q1,UT q2,T7 q2,aV8 q3,aTx q3,aIL p,aGX p,cond_true]
theorem aPf(x y:XI):Tn (x,y,())=some (Es (JT (AU x) (AU y)),()):=by
 show j8 DR.pre DR.F FI.pre FI.F x y=_;have p1:=aX (JT (AU x) (AU y)).1;have p2:=aX (JT (AU x) (AU y)).2;have q1:HB ((x.1,x.2),())=some (AU x,()):=Tk x;have q2:HB ((y.1,y.2),())=some (AU y,()):=Tk y;unfold j8;unfold JT at p1 p2;dsimp only at p1 p2⊢;simp only[UT q1,T7 q1,UT q2,T7 q2,gD p1,fC p1,gD p2,fC p2,cond_true];rfl
end VL
namespace VL
open Go Vx
def fk:FloatKind->Int
 |.f32=>2
 |.f64=>3
theorem Ff(k:FloatKind):Fm (fk k):=by cases k<;>exact⟨by decide,by decide⟩
theorem rU(k:FloatKind):k.format.signWeight=2^(fW (fk k)-1):=by cases k<;>rfl
theorem rR(k:FloatKind):k.format.binade=2^(fP (fk k)-1):=by cases k<;>rfl
theorem Sc(k:FloatKind):k.format.infRung=A2 (fk k):=by cases k<;>rfl
theorem rT(k:FloatKind):k.format.leastPlace=qm (fk k):=by cases k<;>rfl
theorem rS(k:FloatKind):k.format.fractionBits=fP (fk k)-1:=by cases k<;>rfl
theorem pY{f:Int}(hf:Fm f)(a:Nat):BU f a%2^(fP f-1)=mF f a/\BU f a/2^(fP f-1)=eF f a:=by
 rw[LS hf,Nat.add_mul_mod_self_left,bb (Ml f a),Nat.add_mul_div_left _ _ (ah _),cj (Ml f a),cz];exact⟨rfl,rfl⟩
theorem Mt(k:FloatKind){a:Nat}(h:Aj (fk k) a=0):
  k.format.read a=if eF (fk k) a=AM (fk k)then(if mF (fk k) a=0 then .infinity (sF (fk k) a)else .nan (sF (fk k) a) (mF (fk k) a))else .number (sF (fk k) a) (Am (fk k) a) (Ao (fk k) a):=by
 obtain⟨hf,h0⟩:=FO h;have hneg:(a/k.format.signWeight%2==1)=sF (fk k) a:=by rw[rU];exact bAn h
 have hab:a%k.format.signWeight=BU (fk k) a:=by rw[rU];rfl
 obtain⟨p1,p2⟩:=pY hf a;have he:=LS hf a;have hm:=Ml (fk k) a;have hpp:=ah (fP (fk k)-1);have hfull:=XR hf;have hel:eF (fk k) a<=AM (fk k):=by
  have:=bo (a/2^(fP (fk k)-1)) (ah (fW (fk k)-fP (fk k)));unfold eF AM;omega
 unfold Ieee.Format.read;dsimp only;rw[hneg,hab,rR,Sc,rT];unfold A2;by_cases h1:eF (fk k) a=AM (fk k)
 ·rw[if_pos h1];rw[h1]at he;have hge:2^(fP (fk k)-1)*1<=2^(fP (fk k)-1)*AM (fk k):=bm _ hfull;rw[if_neg (by omega),if_neg (by omega)];by_cases h2:mF (fk k) a=0
  ·rw[if_pos h2,if_pos (by omega)]
  ·rw[if_neg h2,if_neg (by omega)];congr 1;omega
 ·rw[if_neg h1];unfold Am Ao;by_cases h2:eF (fk k) a=0
  ·rw[h2,dw,cu]at he;rw[if_pos (by omega),if_pos h2,if_pos h2,he,Int.add_zero];rfl
  ·have h3:2^(fP (fk k)-1)*1<=2^(fP (fk k)-1)*eF (fk k) a:=bm _ (by omega);have h4:2^(fP (fk k)-1)*(eF (fk k) a+1)<=2^(fP (fk k)-1)*AM (fk k):=bm _ (by omega);rw[br,fx]at h4;rw[if_neg (by omega),if_pos (by omega),if_neg h2,if_neg h2,p1,p2,gv];congr 1;unfold qm;omega
theorem aVu{f:Int}(hf:Fm f){a b:Nat}(ha:Aj f a=0)(hb:Aj f b=0)(fa:eF f a≠AM f)(fb:eF f b≠AM f):(Av f a<Av f b↔vA f a<vA f b)/\(Av f a=Av f b↔vA f a=vA f b):=by
 have key:∀{a b:Nat},Aj f a=0->Aj f b=0->eF f a≠AM f->eF f b≠AM f->vA f a<=vA f b->Av f a<=Av f b:=fun {a b} ha hb fa fb h=>by
  rw[aJk hf ha fa,aJk hf hb fb];exact aVv hf (by decide) h
 have heq:Av f a=Av f b->vA f a=vA f b:=bAj hf;have h1:=fun h=>key ha hb fa fb h;have h2:=fun h=>key hb ha fb fa h;refine⟨⟨fun h=>?_,fun h=>?_⟩,⟨heq,fun h=>?_⟩⟩
 ·rcases qk (vA f a) (vA f b)with g|g
  ·exact g
  ·have:=h2 g;omega
 ·rcases qk (Av f a) (Av f b)with g|g
  ·exact g
  ·have g1:=h1 (Int.le_of_lt h);have:=heq (by omega);omega
 ·have g1:=h1 (by omega);have g2:=h2 (by omega);omega
theorem aJq(f:Int)(s:Bool)(m:Nat){e q:Int}(h1:qm f<=q)(h2:q<=e):Ieee.signed s m (e-q).toNat*(2^(q-qm f).toNat:Nat)=vI f s m e:=by
 unfold Ieee.signed vI;have hm:m*2^(e-q).toNat*2^(q-qm f).toNat=m*2^(e-qm f).toNat:=by
  rw[ax,←ba];congr 2;omega
 rw[ja];cases s
 ·rw[if_neg (by decide),cond_false,←hm];simp only[jj]
 ·rw[if_pos rfl,cond_true,←hm];simp only[jj,Int.neg_mul]
theorem aFM{x y z w:Int}(h1:x<y↔z<w)(h2:x=y↔z=w):compare x y=compare z w:=by
 show compareOfLessAndEq x y=compareOfLessAndEq z w;unfold compareOfLessAndEq;by_cases g1:x<y
 ·rw[if_pos g1,if_pos (h1.1 g1)]
 ·have g3:¬z<w:=fun h=>g1 (h1.2 h);rw[if_neg g1,if_neg g3];by_cases g2:x=y
  ·rw[if_pos g2,if_pos (h2.1 g2)]
  ·have g4:¬z=w:=fun h=>g2 (h2.2 h);rw[if_neg g2,if_neg g4]
theorem aR5(x y:Int){c:Nat}(hc:0<c):compare x y=compare (x*(c:Int)) (y*(c:Int)):=by
 have hc':(0:Int)<(c:Int):=by omega
 exact aFM ⟨fun h=>Int.mul_lt_mul_of_pos_right h hc',fun h=>Int.lt_of_mul_lt_mul_right h (by omega)⟩ ⟨fun h=>by rw[h],fun h=>Int.eq_of_mul_eq_mul_right (by omega) h⟩
theorem qZ{x y:Int}(h:x<y):compare x y=.lt:=by
 show compareOfLessAndEq x y=_;unfold compareOfLessAndEq;rw[if_pos h]
theorem aFL(x:Int):compare x x=.eq:=by
 show compareOfLessAndEq x x=_;unfold compareOfLessAndEq;rw[if_neg (Int.lt_irrefl x),if_pos rfl]
theorem qY{x y:Int}(h:y<x):compare x y=.gt:=by
 have h1:¬x<y:=by omega
 have h2:¬x=y:=by omega
 show compareOfLessAndEq x y=_;unfold compareOfLessAndEq;rw[if_neg h1,if_neg h2]
theorem t8{f:Int}(hf:Fm f){a:Nat}(h1:eF f a=AM f)(h2:mF f a=0):Av f a=bif sF f a then -(A2 f:Int)else A2 f:=by
 unfold Av A2;rw[LS hf,h1,h2,cz]
theorem aIp{f:Int}(hf:Fm f){a:Nat}(h1:eF f a≠AM f):-(A2 f:Int)<Av f a/\Av f a<A2 f:=by
 have hel:eF f a<=AM f:=by
  have:=bo (a/2^(fP f-1)) (ah (fW f-fP f));unfold eF AM;omega
 have he:=LS hf a;have hm:=Ml f a;have h4:2^(fP f-1)*(eF f a+1)<=2^(fP f-1)*AM f:=bm _ (by omega);rw[br,fx]at h4;unfold Av A2;cases sF f a<;>simp only[cond_true,cond_false]<;>omega
theorem aVm(k:FloatKind){a b:Nat}(ha:Aj (fk k) a=0)(hb:Aj (fk k) b=0):
  k.format.order a b=if nan (fk k) a||nan (fk k) b then none else some (compare (Av (fk k) a) (Av (fk k) b)):=by
 have hf:=Ff k;unfold Ieee.Format.order;rw[Mt k ha,Mt k hb];have hpos:=sU hf;by_cases fa:eF (fk k) a=AM (fk k)
 ·rw[if_pos fa];by_cases ma:mF (fk k) a=0
  ·have na:nan (fk k) a=false:=by unfold nan;simp[ma]
   have pa:=t8 hf fa ma;rw[if_pos ma,na,ca];by_cases fb:eF (fk k) b=AM (fk k)
   ·rw[if_pos fb];by_cases mb:mF (fk k) b=0
    ·have nb:nan (fk k) b=false:=by unfold nan;simp[mb]
     have pb:=t8 hf fb mb;rw[if_pos mb,nb,pa,pb];show some (compare (sF (fk k) b).toNat (sF (fk k) a).toNat)=some _;cases sF (fk k) a<;>cases sF (fk k) b<;>simp only[cond_true,cond_false]
     ·rw[aFL];rfl
     ·rw[qY (by omega)];rfl
     ·rw[qZ (by omega)];rfl
     ·rw[aFL];rfl
    ·have nb:nan (fk k) b=true:=by unfold nan;simp[mb,fb]
     rw[if_neg mb,nb];rfl
   ·have nb:nan (fk k) b=false:=(UL fb).1;have pb:=aIp hf fb;rw[if_neg fb,nb,pa];show some (if sF (fk k) a=true then Ordering.lt else .gt)=some _;cases sF (fk k) a<;>simp only[cond_true,cond_false]
    ·rw[qY pb.2];rfl
    ·rw[qZ pb.1];rfl
  ·have na:nan (fk k) a=true:=by unfold nan;simp[ma,fa]
   rw[if_neg ma,na];rfl
 ·have na:nan (fk k) a=false:=(UL fa).1;have pa:=aIp hf fa;rw[if_neg fa,na,ca];by_cases fb:eF (fk k) b=AM (fk k)
  ·rw[if_pos fb];by_cases mb:mF (fk k) b=0
   ·have nb:nan (fk k) b=false:=by unfold nan;simp[mb]
    have pb:=t8 hf fb mb;rw[if_pos mb,nb,pb];show some (if sF (fk k) b=true then Ordering.gt else .lt)=some _;cases sF (fk k) b<;>simp only[cond_true,cond_false]
    ·rw[qZ pa.2];rfl
    ·rw[qY pa.1];rfl
   ·have nb:nan (fk k) b=true:=by unfold nan;simp[mb,fb]
    rw[if_neg mb,nb];rfl
  ·have nb:nan (fk k) b=false:=(UL fb).1;rw[if_neg fb,nb];show some (compare (Ieee.signed (sF (fk k) a) (Am (fk k) a) (Ao (fk k) a-min (Ao (fk k) a) (Ao (fk k) b)).toNat) (Ieee.signed (sF (fk k) b) (Am (fk k) b) (Ao (fk k) b-min (Ao (fk k) a) (Ao (fk k) b)).toNat))=some _;congr 1;have g1:=YZ (fk k) a;have g2:=YZ (fk k) b;have hb1:qm (fk k)<=min (Ao (fk k) a) (Ao (fk k) b):=by omega
   rw[aR5 _ _ (ah (min (Ao (fk k) a) (Ao (fk k) b)-qm (fk k)).toNat),aJq (fk k) _ _ hb1 (by omega),aJq (fk k) _ _ hb1 (by omega)];obtain⟨c1,c2⟩:=aVu hf ha hb fa fb;exact(aFM c1 c2).symm
end VL
namespace VL
open Go Vx
theorem U9(k:FloatKind)(neg:Bool)(r:Nat):k.format.word neg r=Ch (fk k) neg r:=by
 unfold Ieee.Format.word Ch;rw[rU];cases neg
 ·rw[if_neg (by decide),cond_false,cu]
 ·rw[if_pos rfl,cond_true,gv]
theorem aG0(neg odd:Bool)(rest:Nat):Dh 0 neg odd rest=if rest=2 then odd else decide (2<=rest):=rfl
theorem aHr(n:Nat):n<2^(n.log2+1):=by
 by_cases h:n=0
 ·subst h;decide
 ·have:=FM n;unfold Ag at this;rw[if_neg h]at this;exact this
theorem aFS(neg:Bool)(n drop:Nat):Ieee.Toward.even.cut neg n drop=CH 0 neg n drop:=by
 unfold Ieee.Toward.cut CH;dsimp only;rw[ja,fh];by_cases hd:drop<=n.log2+2
 ·rw[gb hd,aG0];generalize hq:n/2^drop=q;have hr:=bo n (ah drop);generalize n%2^drop=r at *
  by_cases h0:drop=0
  ·subst h0;have:r=0:=by rw[go]at hr;omega
   subst this;rfl
  ·have hp:2^drop=2*2^(drop-1):=by rw[ar,←dm];congr 1;omega
   have hpp:=ah (drop-1);have hcl:CG r drop=(if r=0 then 0 else if r<2^(drop-1)then 1 else if r=2^(drop-1)then 2 else 3):=rfl;rw[hp]at hr⊢;generalize CG r drop=C at *
   generalize 2^(drop-1)=H at *
   by_cases c0:r=0
   ·rw[if_pos c0]at hcl;subst hcl;subst c0;have e1:decide (2*H<2*0)=false:=decide_eq_false (by omega);have e2:(2*H==2*0)=false:=beq_eq_false_iff_ne.2 (by omega);rw[e1,e2];rfl
   ·rw[if_neg c0]at hcl;by_cases c1:r<H
    ·rw[if_pos c1]at hcl;subst hcl;have e1:decide (2*H<2*r)=false:=decide_eq_false (by omega);have e2:(2*H==2*r)=false:=beq_eq_false_iff_ne.2 (by omega);rw[e1,e2];rfl
    ·rw[if_neg c1]at hcl;by_cases c2:r=H
     ·rw[if_pos c2]at hcl;subst hcl;subst c2;have e1:decide (2*r<2*r)=false:=decide_eq_false (by omega);rw[e1,beq_self_eq_true,if_pos rfl,ca,bi];by_cases ho:q%2=1
      ·rw[ho,if_pos ⟨by decide,by rfl⟩];rfl
      ·rw[if_neg (fun h=>by simpa[ho]using h.2),show q%2=0 by omega];rfl
     ·rw[if_neg c2]at hcl;subst hcl;have e1:decide (2*H<2*r)=true:=decide_eq_true (by omega);rw[e1,bf,if_pos ⟨by decide,by rfl⟩];rfl
 ·have hlt:=aHr n;have h1:n<2^(n.log2+2):=je hlt (Nat.pow_lt_pow_right (by decide) (by omega));have h2:n<2^(drop-1):=ao hlt (aj (by decide) (by omega));have h3:n<2^drop:=ao hlt (aj (by decide) (by omega));have h4:2*n<2^(n.log2+2):=by
   rw[show n.log2+2=(n.log2+1)+1 by omega,dm];omega
  rw[kq (by omega),cj h1,bb h1,cj h3,bb h3];have e1:decide (2^(n.log2+2)<2*n)=false:=decide_eq_false (by omega);have e2:(2^(n.log2+2)==2*n)=false:=beq_eq_false_iff_ne.2 (by omega);rw[e1,e2,aG0];unfold CG;by_cases c0:n=0
  ·subst c0;rfl
  ·rw[if_neg c0,if_pos h2];rfl
theorem aFQ(neg:Bool)(n:Nat):CH 0 neg n 0=n:=by
 unfold CH;rw[go,qa,nd];rfl
theorem aR7(m:Int)(neg:Bool)(n j:Nat):CH m neg (n*2^j) j=n:=by
 unfold CH;rw[Nat.mul_mod_left,ig _ (ah j)];rw[if_neg (fun h=>h.1 rfl)]
theorem aR9(m:Int)(neg:Bool)(n:Nat){d k:Nat}(hd:1<=d):CH m neg (n*2^k) (k+d)=CH m neg n d:=by
 unfold CH;have e1:n*2^k/2^(k+d)=n/2^d:=by
  rw[ba,←dk,ig _ (ah k)]
 have e2:n*2^k%2^(k+d)=2^k*(n%2^d):=by
  rw[ba,ar n,Nat.mul_mod_mul_left]
 rw[e1,e2,aFJ hd]
theorem aUx(k:FloatKind)(neg:Bool){mag:Nat}(h0:mag≠0){Av:Int}(hp:qm (fk k)<=Av):
  k.format.nearest neg mag Av=Ch (fk k) neg (C3 (fk k) 0 neg (mag*2^(Av-qm (fk k)).toNat) (qm (fk k))).1:=by
 have hf:=Ff k;have hP:=CZ hf;obtain⟨D,hD⟩:=cy (show 0<=Av-qm (fk k) by omega);have hN0:mag*2^D≠0:=kb h0 (jx (ah D));have hbl:Ag (mag*2^D)=mag.log2+1+D:=by
  rw[ar,←cz (2^D*mag),aFo (ah D) (by omega)];unfold Ag;rw[if_neg h0];omega
 rw[hD,ag,uX hf 0 neg hN0];have hup:Yi (fk k) 0 neg=A2 (fk k):=rfl;unfold Ieee.Format.nearest;rw[if_neg h0,U9,rT,rS,rR,Sc];congr 1;have key:(max (Av+(mag.log2:Int)-((fP (fk k)-1:Nat):Int)) (qm (fk k))-qm (fk k)).toNat*2^(fP (fk k)-1) +
   Ieee.Toward.even.cut neg (mag <<< (Av-max (Av+(mag.log2:Int)-((fP (fk k)-1:Nat):Int)) (qm (fk k))).toNat) (max (Av+(mag.log2:Int)-((fP (fk k)-1:Nat):Int)) (qm (fk k))-Av).toNat=EK (fk k) 0 neg (mag*2^D):=by
  rw[aFS,ja];unfold EK;by_cases hs:mag*2^D<2^fP (fk k)
  ·rw[if_pos hs];have hb:=Dz hs;rw[show max (Av+(mag.log2:Int)-((fP (fk k)-1:Nat):Int)) (qm (fk k))=qm (fk k) by omega,Int.sub_self,be,dp,cz,hD,ag,show(qm (fk k)-Av).toNat=0 by omega,aFQ]
  ·rw[if_neg hs];have hb:fP (fk k)<Ag (mag*2^D):=by
    rcases aq (fP (fk k)) (Ag (mag*2^D))with h|h
    ·exact h
    ·exact absurd (ao (FM _) (aj (by decide) h)) hs
   rw[hbl]at hb⊢;obtain⟨j,hj⟩:∃j,mag.log2+1+D-fP (fk k)=j:=⟨_,rfl⟩
   have hl:max (Av+(mag.log2:Int)-((fP (fk k)-1:Nat):Int)) (qm (fk k))=qm (fk k)+(j:Int):=by omega
   rw[hl,hj,show qm (fk k)+(j:Int)-qm (fk k)=(j:Int) by omega,ag];congr 1;by_cases hDj:j<=D
   ·rw[show(qm (fk k)+(j:Int)-Av).toNat=0 by omega,show(Av-(qm (fk k)+(j:Int))).toNat=D-j by omega,aFQ];have e:mag*2^D=(mag*2^(D-j))*2^j:=by rw[ax,←ba];congr 2;omega
    rw[e,aR7]
   ·rw[show(Av-(qm (fk k)+(j:Int))).toNat=0 by omega,go,fx,show(qm (fk k)+(j:Int)-Av).toNat=j-D by omega];have e:=aR9 0 neg mag (d:=j-D) (k:=D) (by omega);rw[show D+(j-D)=j by omega]at e;exact e.symm
 rw[key,hup];by_cases h:A2 (fk k)<=EK (fk k) 0 neg (mag*2^D)
 ·rw[if_pos h,kq h]
 ·rw[if_neg h,gb (by omega)]
theorem aI2(k:FloatKind)(neg:Bool){mag:Nat}(h0:mag≠0){Av:Int}(hp:qm (fk k)<=Av):k.format.nearest neg mag Av=(AO (fk k) 0 neg mag Av false).1:=by
 rw[aUx k neg h0 hp,aI3 (Ff k) 0 neg h0 hp]
theorem fO(k:FloatKind)(neg:Bool)(Av:Int):k.format.nearest neg 0 Av=Bw (fk k) neg:=by
 unfold Ieee.Format.nearest;rw[if_pos rfl,U9,←Xn,cz]
theorem So(k:FloatKind)(T:Int)(z:Bool){e:Int}(he:qm (fk k)<=e):
  k.format.nearest (if T=0 then z else decide (T<0)) T.natAbs e=if T=0 then Bw (fk k) z else(AO (fk k) 0 (decide (T<0)) T.natAbs e false).1:=by
 by_cases h:T=0
 ·rw[if_pos h,if_pos h,h];exact fO k z e
 ·rw[if_neg h,if_neg h];exact aI2 k _ (by omega) he
theorem bAO(k:FloatKind)(s:Bool)(m:Nat)(i:Int)(t:Bool)(n:Nat)(j:Int)(hi:qm (fk k)<=i)(hj:qm (fk k)<=j):
  ((Ieee.Datum.number s m i).sum (.number t n j)).map k.format.write=some (DK (fk k) 0 s m i t n j).1:=by
 have hmin:min i j=(if i<=j then i else j):=by split<;>omega
 show some (k.format.nearest (if Ieee.signed s m (i-min i j).toNat+Ieee.signed t n (j-min i j).toNat=0 then s&&t else decide (Ieee.signed s m (i-min i j).toNat+Ieee.signed t n (j-min i j).toNat<0)) (Ieee.signed s m (i-min i j).toNat+Ieee.signed t n (j-min i j).toNat).natAbs (min i j))=_;congr 1;have hq:qm (fk k)<=min i j:=by omega
 rw[So k _ _ hq];unfold DK Ieee.signed;rw[hmin];rw[ja,ja];dsimp only;generalize(if i<=j then i else j)=e at *
 generalize m*2^(i-e).toNat=A;generalize n*2^(j-e).toNat=B;have eA:∀{T:Int} {s:Bool} {r:Nat},decide (T<0)=s->T.natAbs=r->(AO (fk k) 0 (decide (T<0)) T.natAbs e false).1=(AO (fk k) 0 s r e false).1:=fun h1 h2=>by rw[h1,h2]
 cases s<;>cases t
 ·show(if(A:Int)+(B:Int)=0 then Bw (fk k) false else(AO (fk k) 0 (decide ((A:Int)+(B:Int)<0)) ((A:Int)+(B:Int)).natAbs e false).1)=(if A+B=0 then(Bw (fk k) false,0)else AO (fk k) 0 false (A+B) e false).1;by_cases h:A+B=0
  ·have h2:(A:Int)+(B:Int)=0:=by omega
   rw[if_pos h,if_pos h2]
  ·have h2:¬(A:Int)+(B:Int)=0:=by omega
   rw[if_neg h,if_neg h2];exact eA (decide_eq_false (by omega)) (by omega)
 ·show(if(A:Int) + -(B:Int)=0 then Bw (fk k) false else(AO (fk k) 0 (decide ((A:Int) + -(B:Int)<0)) ((A:Int) + -(B:Int)).natAbs e false).1)=(if A=B then(Bw (fk k) false,0)else if B<A then AO (fk k) 0 false (A-B) e false else AO (fk k) 0 true (B-A) e false).1;by_cases h:A=B
  ·have h2:(A:Int) + -(B:Int)=0:=by omega
   rw[if_pos h,if_pos h2]
  ·have h2:¬(A:Int) + -(B:Int)=0:=by omega
   rw[if_neg h,if_neg h2];by_cases h3:B<A
   ·rw[if_pos h3];exact eA (decide_eq_false (by omega)) (by omega)
   ·rw[if_neg h3];exact eA (decide_eq_true (by omega)) (by omega)
 ·show(if -(A:Int)+(B:Int)=0 then Bw (fk k) false else(AO (fk k) 0 (decide (-(A:Int)+(B:Int)<0)) (-(A:Int)+(B:Int)).natAbs e false).1)=(if A=B then(Bw (fk k) false,0)else if B<A then AO (fk k) 0 true (A-B) e false else AO (fk k) 0 false (B-A) e false).1;by_cases h:A=B
  ·have h2:-(A:Int)+(B:Int)=0:=by omega
   rw[if_pos h,if_pos h2]
  ·have h2:¬ -(A:Int)+(B:Int)=0:=by omega
   rw[if_neg h,if_neg h2];by_cases h3:B<A
   ·rw[if_pos h3];exact eA (decide_eq_true (by omega)) (by omega)
   ·rw[if_neg h3];exact eA (decide_eq_false (by omega)) (by omega)
 ·show(if -(A:Int) + -(B:Int)=0 then Bw (fk k) true else(AO (fk k) 0 (decide (-(A:Int) + -(B:Int)<0)) (-(A:Int) + -(B:Int)).natAbs e false).1)=(if A+B=0 then(Bw (fk k) true,0)else AO (fk k) 0 true (A+B) e false).1;by_cases h:A+B=0
  ·have h2:-(A:Int) + -(B:Int)=0:=by omega
   rw[if_pos h,if_pos h2]
  ·have h2:¬ -(A:Int) + -(B:Int)=0:=by omega
   rw[if_neg h,if_neg h2];exact eA (decide_eq_true (by omega)) (by omega)
def EH(f:Int)(o:Option Nat):Nat:=o.getD (B5 f)
theorem sW(k:FloatKind){a:Nat}(h:Aj (fk k) a=0)(h1:eF (fk k) a=AM (fk k))(h2:mF (fk k) a=0):k.format.word (sF (fk k) a) k.format.infRung=a:=by
 have hf:=Ff k;rw[U9,Sc];have:=aIi h;rw[LS hf,h1,h2,cz]at this;unfold Ch A2;exact this.symm
theorem aE6(k:FloatKind){a b:Nat}(ha:Aj (fk k) a=0)(hb:Aj (fk k) b=0):(Jx (fk k) 0 a b).1=(EH (fk k) (B4 .add k a b):Nat)/\(Jx (fk k) 0 a b).2.2.1=0:=by
 have hf:=Ff k;unfold Jx;rw[if_pos hf,if_pos ⟨by decide,by decide⟩,if_pos ⟨ha,hb⟩];show(TL (fk k) 0 a b).1=(EH (fk k) (((k.format.read a).sum (k.format.read b)).map k.format.write):Nat)/\_;rw[Mt k ha,Mt k hb];unfold TL;have sn:∀x,Be (fk k) x=true->nan (fk k) x=true:=fun x h=>by unfold Be at h;simp only[ae]at h;exact h.1
 by_cases na:nan (fk k) a=true
 ·have h1:eF (fk k) a=AM (fk k)/\mF (fk k) a≠0:=by unfold nan at na;simpa using na
  rw[if_pos h1.1,if_neg h1.2,na,bf];have:∀d,((Ieee.Datum.nan (sF (fk k) a) (mF (fk k) a)).sum d).map k.format.write=none:=fun d=>rfl;rw[this];cases Be (fk k) a||Be (fk k) b<;>exact⟨rfl,rfl⟩
 ·have na:nan (fk k) a=false:=by simpa using na
  rw[na,ca];by_cases nb:nan (fk k) b=true
  ·have h1:eF (fk k) b=AM (fk k)/\mF (fk k) b≠0:=by unfold nan at nb;simpa using nb
   have this:∀d:Ieee.Datum,(d.sum (Ieee.Datum.nan (sF (fk k) b) (mF (fk k) b))).map k.format.write=none:=fun d=>by cases d<;>rfl
   rw[if_pos (c:=eF (fk k) b=_) h1.1,if_neg (c:=mF (fk k) b=0) h1.2,this,nb];cases Be (fk k) a||Be (fk k) b<;>exact⟨rfl,rfl⟩
  ·have nb:nan (fk k) b=false:=by simpa using nb
   have sa:=SE na;have sb:=SE nb;rw[nb,sa,sb,bt,cond_false,cond_false];by_cases fa:eF (fk k) a=AM (fk k)
   ·have ma:mF (fk k) a=0:=by
     unfold nan at na;rw[fa]at na;simpa using na
    have ia:At (fk k) a=true:=by rw[(r7 fa).2.2,ma];rfl
    rw[if_pos fa,if_pos ma,ia,bi];by_cases fb:eF (fk k) b=AM (fk k)
    ·have mb:mF (fk k) b=0:=by
      unfold nan at nb;rw[fb]at nb;simpa using nb
     have ib:At (fk k) b=true:=by rw[(r7 fb).2.2,mb];rfl
     rw[if_pos fb,if_pos mb,ib,bi];show _/\_;by_cases hs:sF (fk k) a=sF (fk k) b
     ·have e:(Ieee.Datum.infinity (sF (fk k) a)).sum (.infinity (sF (fk k) b))=some (.infinity (sF (fk k) a)):=by
       show(if sF (fk k) a=sF (fk k) b then _ else _)=_;rw[if_pos hs]
      rw[e,beq_iff_eq.2 hs];refine⟨?_,rfl⟩;show(a:Int)=((k.format.word (sF (fk k) a) k.format.infRung:Nat):Int)
      rw[sW k ha fa ma]
     ·have e:(Ieee.Datum.infinity (sF (fk k) a)).sum (.infinity (sF (fk k) b))=none:=by
       show(if sF (fk k) a=sF (fk k) b then _ else _)=_;rw[if_neg hs]
      rw[e,beq_eq_false_iff_ne.2 hs];exact⟨rfl,rfl⟩
    ·have ib:At (fk k) b=false:=(UL fb).2.2;rw[if_neg fb,ib,az,cond_false,cond_true];refine⟨?_,rfl⟩;show(a:Int)=((k.format.word (sF (fk k) a) k.format.infRung:Nat):Int)
     rw[sW k ha fa ma]
   ·have ia:At (fk k) a=false:=(UL fa).2.2;rw[if_neg fa,ia,az,az,cond_false,cond_false];by_cases fb:eF (fk k) b=AM (fk k)
    ·have mb:mF (fk k) b=0:=by
      unfold nan at nb;rw[fb]at nb;simpa using nb
     have ib:At (fk k) b=true:=by rw[(r7 fb).2.2,mb];rfl
     rw[if_pos fb,if_pos mb,ib,cond_true];refine⟨?_,rfl⟩;show(b:Int)=((k.format.word (sF (fk k) b) k.format.infRung:Nat):Int)
     rw[sW k hb fb mb]
    ·have ib:At (fk k) b=false:=(UL fb).2.2;rw[if_neg fb,ib,cond_false,bAO k _ _ _ _ _ _ (YZ (fk k) a) (YZ (fk k) b)];exact⟨rfl,rfl⟩
theorem aUB{f:Int}(hf:Fm f)(b:Nat):eF f (DV f b)=eF f b/\mF f (DV f b)=mF f b:=by
 obtain⟨p1,p2⟩:=pY hf b;obtain⟨q1,q2⟩:=pY hf (DV f b);rw[aUA]at q1 q2;exact⟨by rw[←p2,←q2],by rw[←p1,←q1]⟩
theorem aZn(k:FloatKind){b:Nat}(hb:Aj (fk k) b=0):(k.format.read b).opposite=k.format.read (DV (fk k) b):=by
 have hf:=Ff k;have hn:=fQ hf b;obtain⟨e1,e2⟩:=aUB hf b;rw[Mt k hb,Mt k hn,e1,e2,aUD];have e3:Am (fk k) (DV (fk k) b)=Am (fk k) b:=by unfold Am;rw[e1,e2]
 have e4:Ao (fk k) (DV (fk k) b)=Ao (fk k) b:=by unfold Ao;rw[e1]
 rw[e3,e4];by_cases h1:eF (fk k) b=AM (fk k)
 ·rw[if_pos h1,if_pos h1];by_cases h2:mF (fk k) b=0
  ·rw[if_pos h2,if_pos h2];rfl
  ·rw[if_neg h2,if_neg h2];rfl
 ·rw[if_neg h1,if_neg h1];rfl
theorem bAD(k:FloatKind)(a:Nat){b:Nat}(hb:Aj (fk k) b=0):B4 .sub k a b=B4 .add k a (DV (fk k) b):=by
 show((k.format.read a).sum (k.format.read b).opposite).map k.format.write=((k.format.read a).sum (k.format.read (DV (fk k) b))).map k.format.write;rw[aZn k hb]
theorem bAE(k:FloatKind){a b:Nat}(ha:Aj (fk k) a=0)(hb:Aj (fk k) b=0):(Mx (fk k) 0 a b).1=(EH (fk k) (B4 .sub k a b):Nat)/\(Mx (fk k) 0 a b).2.2.1=0:=by
 unfold Mx;rw[if_pos hb,bAD k a hb];exact aE6 k ha (fQ (Ff k) b)
theorem bA9(k:FloatKind){d:Ieee.Datum}(h:d.isNaN=false):Aj (fk k) (k.format.write d)=0/\nan (fk k) (k.format.write d)=false:=by
 have hf:=Ff k;have key:∀s r,r<=A2 (fk k)->Aj (fk k) (k.format.word s r)=0/\nan (fk k) (k.format.word s r)=false:=fun s r hr=>by
  have hroom:=aHd hf;have hlt:r<2^(fW (fk k)-1):=by omega
  rw[U9];refine⟨fL hf s hlt,aUv hf ?_⟩;rw[tK s hlt];exact hr
 cases d with
 |nan s t=>cases h
 |infinity s=>exact key s _ (by rw[Sc];exact bd _)
 |number s m e=>
  show Aj (fk k) (k.format.nearest s m e)=0/\nan (fk k) (k.format.nearest s m e)=false;unfold Ieee.Format.nearest;split
  ·exact key s 0 (dv _)
  ·exact key s _ (by rw[Sc];exact Nat.min_le_right _ _)
theorem aJy{d e r:Ieee.Datum}(h:d.sum e=some r):r.isNaN=false:=by
 cases d<;>cases e<;>first|(cases h;done)|skip
 ·cases h;rfl
 ·cases h;rfl
 ·cases h;rfl
 ·rename_i s t;have h:(if s=t then some (Ieee.Datum.infinity s)else none)=some r:=h;split at h
  ·cases h;rfl
  ·cases h
end VL
namespace VL
open Go Vx
theorem aUy(k:FloatKind)(neg:Bool){mag:Nat}(h0:mag≠0)(d:Nat):k.format.nearest neg mag (qm (fk k)-d)=Ch (fk k) neg (C3 (fk k) 0 neg mag (qm (fk k)-d)).1:=by
 have hf:=Ff k;have hP:=CZ hf;have hbl:Ag mag=mag.log2+1:=by unfold Ag;rw[if_neg h0]
 rw[aZw hf 0 neg h0 d];have hup:Yi (fk k) 0 neg=A2 (fk k):=rfl;unfold Ieee.Format.nearest;rw[if_neg h0,U9,rT,rS,rR,Sc];congr 1;have hl:max (qm (fk k)-(d:Int)+(mag.log2:Int)-((fP (fk k)-1:Nat):Int)) (qm (fk k))=qm (fk k)+((Ag mag-fP (fk k)-d:Nat):Int):=by omega
 have key:(max (qm (fk k)-(d:Int)+(mag.log2:Int)-((fP (fk k)-1:Nat):Int)) (qm (fk k))-qm (fk k)).toNat*2^(fP (fk k)-1) +
   Ieee.Toward.even.cut neg (mag <<< (qm (fk k)-(d:Int)-max (qm (fk k)-(d:Int)+(mag.log2:Int)-((fP (fk k)-1:Nat):Int)) (qm (fk k))).toNat) (max (qm (fk k)-(d:Int)+(mag.log2:Int)-((fP (fk k)-1:Nat):Int)) (qm (fk k))-(qm (fk k)-(d:Int))).toNat=UA (fk k) 0 neg d mag:=by
  rw[aFS,ja,hl];unfold UA;generalize Ag mag-fP (fk k)-d=J;rw[show(qm (fk k)+(J:Int)-qm (fk k)).toNat=J by omega,show(qm (fk k)-(d:Int)-(qm (fk k)+(J:Int))).toNat=0 by omega,go,fx,show(qm (fk k)+(J:Int)-(qm (fk k)-(d:Int))).toNat=J+d by omega]
 rw[key,hup];by_cases h:A2 (fk k)<=UA (fk k) 0 neg d mag
 ·rw[if_pos h,kq h]
 ·rw[if_neg h,gb (by omega)]
theorem tN(k:FloatKind)(neg:Bool){mag:Nat}(h0:mag≠0)(Av:Int):k.format.nearest neg mag Av=(AO (fk k) 0 neg mag Av false).1:=by
 rcases Int.le_total (qm (fk k)) Av with h|h
 ·exact aI2 k neg h0 h
 ·obtain⟨d,hd⟩:=cy (show 0<=qm (fk k)-Av by omega);have:=aUy k neg h0 d;rw[show qm (fk k)-(d:Int)=Av by omega]at this;rw[this,Ri (Ff k)]
theorem SH(s t:Bool):(s ^^ t)=!(s==t):=by cases s<;>cases t<;>rfl
theorem fN(k:FloatKind){a:Nat}(ha:Aj (fk k) a=0)(h:nan (fk k) a=true):k.format.read a=.nan (sF (fk k) a) (mF (fk k) a):=by
 have h1:eF (fk k) a=AM (fk k)/\mF (fk k) a≠0:=by unfold nan at h;simpa using h
 rw[Mt k ha,if_pos h1.1,if_neg h1.2]
theorem Ux(k:FloatKind){a:Nat}(ha:Aj (fk k) a=0)(h:At (fk k) a=true):k.format.read a=.infinity (sF (fk k) a):=by
 have h1:eF (fk k) a=AM (fk k)/\mF (fk k) a=0:=by unfold At at h;simpa using h
 rw[Mt k ha,if_pos h1.1,if_pos h1.2]
theorem UF(k:FloatKind){a:Nat}(ha:Aj (fk k) a=0)(h:nan (fk k) a=false)(h2:At (fk k) a=false):k.format.read a=.number (sF (fk k) a) (Am (fk k) a) (Ao (fk k) a):=by
 have h1:eF (fk k) a≠AM (fk k):=fun he=>by
  unfold nan at h;unfold At at h2;rw[he]at h h2;simp at h h2;exact h2 h
 rw[Mt k ha,if_neg h1]
theorem YY(k:FloatKind)(s:Bool):k.format.word s k.format.infRung=DU (fk k) s:=by
 rw[U9,Sc,aHb,Xn]
theorem aUp(k:FloatKind){a b:Nat}(ha:Aj (fk k) a=0)(hb:Aj (fk k) b=0):(Mo (fk k) 0 a b).1=(EH (fk k) (B4 .mul k a b):Nat)/\(Mo (fk k) 0 a b).2.2.1=0:=by
 have hf:=Ff k;unfold Mo;rw[if_neg (show ¬¬Fm (fk k)from fun h=>h hf),if_neg (by decide),if_neg (fun h=>h ha),if_neg (fun h=>h hb)];show(Yl (fk k) 0 a b).1=(EH (fk k) (((k.format.read a).product (k.format.read b)).map k.format.write):Nat)/\_;unfold Yl;have za:=kV (fk k) a;have zb:=kV (fk k) b;cases na:nan (fk k) a
 ·cases nb:nan (fk k) b
  ·rw[SE na,SE nb];simp only[bt,cond_false];cases ia:At (fk k) a
   ·rw[UF k ha na ia];cases ib:At (fk k) b
    ·rw[UF k hb nb ib];simp only[bj,az,bt,cond_false];show _=((k.format.nearest (sF (fk k) a ^^ sF (fk k) b) (Am (fk k) a*Am (fk k) b) (Ao (fk k) a+Ao (fk k) b):Nat):Int)/\_;rw[SH];cases hz:AV (fk k) a||AV (fk k) b
     ·rw[kl]at hz;rw[tN k _ (kb (FY hz.1) (FY hz.2))];exact⟨rfl,by first|rfl|trivial⟩
     ·have h0:Am (fk k) a*Am (fk k) b=0:=by
       rw[du]at hz;rcases hz with hz|hz
       ·rw[hz,beq_iff_eq]at za;rw[show Am (fk k) a=0 by omega,dp]
       ·rw[hz,beq_iff_eq]at zb;rw[show Am (fk k) b=0 by omega,dw]
      rw[h0,fO];exact⟨rfl,by first|rfl|trivial⟩
    ·rw[Ux k hb ib];simp only[cq,az,ca,cond_true];show _=(EH (fk k) ((if Am (fk k) a=0 then none else some (Ieee.Datum.infinity (sF (fk k) b ^^ sF (fk k) a))).map k.format.write):Int)/\_;cases hz:AV (fk k) a
     ·rw[if_neg (FY hz),cond_false];refine⟨?_,by first|rfl|trivial⟩;show _=((k.format.word _ k.format.infRung:Nat):Int)
      rw[YY,SH];cases sF (fk k) a<;>cases sF (fk k) b<;>rfl
     ·rw[hz,beq_iff_eq]at za;rw[if_pos (by omega),cond_true];exact⟨rfl,by first|rfl|trivial⟩
   ·rw[Ux k ha ia];cases ib:At (fk k) b
    ·rw[UF k hb nb ib];simp only[bi,bj,cv,cond_true];show _=(EH (fk k) ((if Am (fk k) b=0 then none else some (Ieee.Datum.infinity (sF (fk k) a ^^ sF (fk k) b))).map k.format.write):Int)/\_;cases hz:AV (fk k) b
     ·rw[if_neg (FY hz),cond_false];refine⟨?_,by first|rfl|trivial⟩;show _=((k.format.word _ k.format.infRung:Nat):Int)
      rw[YY,SH]
     ·rw[hz,beq_iff_eq]at zb;rw[if_pos (by omega),cond_true];exact⟨rfl,by first|rfl|trivial⟩
    ·rw[Ux k hb ib];have z1:AV (fk k) b=false:=by
      cases hz:AV (fk k) b
      ·rfl
      ·exfalso;have h1:eF (fk k) b=AM (fk k)/\mF (fk k) b=0:=by unfold At at ib;simpa using ib
       have h2:eF (fk k) b=0/\mF (fk k) b=0:=by unfold AV at hz;simpa using hz
       have:=XR hf;omega
     have z2:AV (fk k) a=false:=by
      cases hz:AV (fk k) a
      ·rfl
      ·exfalso;have h1:eF (fk k) a=AM (fk k)/\mF (fk k) a=0:=by unfold At at ia;simpa using ia
       have h2:eF (fk k) a=0/\mF (fk k) a=0:=by unfold AV at hz;simpa using hz
       have:=XR hf;omega
     rw[z1,z2];simp only[bj,az,bt,cond_false,cond_true];refine⟨?_,by first|rfl|trivial⟩;show _=((k.format.word (sF (fk k) a ^^ sF (fk k) b) k.format.infRung:Nat):Int)
     rw[YY,SH]
  ·rw[fN k hb nb];have this:∀d:Ieee.Datum,(d.product (Ieee.Datum.nan (sF (fk k) b) (mF (fk k) b))).map k.format.write=none:=fun d=>by cases d<;>rfl
   rw[this];exact⟨rfl,by first|rfl|trivial⟩
 ·rw[fN k ha na];exact⟨rfl,by first|rfl|trivial⟩
theorem aHe(k:FloatKind){a:Nat}(h:At (fk k) a=true):AV (fk k) a=false:=by
 cases hz:AV (fk k) a
 ·rfl
 ·exfalso;have h1:eF (fk k) a=AM (fk k)/\mF (fk k) a=0:=by unfold At at h;simpa using h
  have h2:eF (fk k) a=0/\mF (fk k) a=0:=by unfold AV at hz;simpa using hz
  have:=XR (Ff k);omega
theorem aWl(k:FloatKind)(neg:Bool){m n:Nat}(hm0:m≠0)(hn0:n≠0)(hm:m<2^53)(hn:n<2^53)(e:Int):
  k.format.nearest neg (2*(m <<< (k.format.fractionBits+2+n.log2-m.log2)/n)+(m <<< (k.format.fractionBits+2+n.log2-m.log2)%n !=0).toNat) (e-((k.format.fractionBits+2+n.log2-m.log2:Nat):Int)-1)=(GH (fk k) 0 neg m n e).1:=by
 have hf:=Ff k;have hP:=CZ hf;have hPl:=JF hf;have l1:=Nat.log2_self_le hm0;have l2:=aHr n;have l3:n.log2<53:=(Nat.log2_lt hn0).2 hn;rw[rS,ja];obtain⟨s,hs⟩:∃s,fP (fk k)-1+2+n.log2-m.log2=s:=⟨_,rfl⟩
 rw[hs];have hlow:2^fP (fk k)<=m*2^s/n:=by
  rw[gn (by omega)];have h1:2^fP (fk k)*n<=2^fP (fk k)*2^(n.log2+1):=bm _ (Nat.le_of_lt l2);have h2:2^m.log2*2^s<=m*2^s:=al _ l1;rw[←ba]at h1 h2;have h3:2^(fP (fk k)+(n.log2+1))<=2^(m.log2+s):=aj (by decide) (by omega);omega
 have hb:=LW hlow;have hq0:m*2^s/n≠0:=by
  have:=ah (fP (fk k));omega
 rw[←eE (m:=0) (neg:=neg) hf hm0 (show 0<n by omega) e (s:=s) (by omega) (fun _=>hb)];unfold JU;by_cases hr:m*2^s%n=0
 ·rw[hr];rw[if_neg (by decide),show((0:Nat)!=0).toNat=0 from rfl,cu,tN k neg (by omega)];have:=UY (f:=fk k) (m:=0) (neg:=neg) hf hq0 1 (e-(s:Int)-1);rw[qq,ar,show e-(s:Int)-1+((1:Nat):Int)=e-s by omega]at this;rw[this]
 ·rw[decide_eq_true hr,if_pos rfl,bne_iff_ne.2 hr,show true.toNat=1 from rfl,tN k neg (by omega)]
theorem aSn(k:FloatKind){a b:Nat}(ha:Aj (fk k) a=0)(hb:Aj (fk k) b=0):(L6 (fk k) 0 a b).1=(EH (fk k) (B4 .quo k a b):Nat)/\(L6 (fk k) 0 a b).2.2.1=0:=by
 have hf:=Ff k;unfold L6;rw[if_neg (show ¬¬Fm (fk k)from fun h=>h hf),if_neg (by decide),if_neg (fun h=>h ha),if_neg (fun h=>h hb)];show(XE (fk k) 0 a b).1=(EH (fk k) (((k.format.read a).quotient (k.format.fractionBits+2) (k.format.read b)).map k.format.write):Nat)/\_;unfold XE;have za:=kV (fk k) a;have zb:=kV (fk k) b;cases na:nan (fk k) a
 ·cases nb:nan (fk k) b
  ·rw[SE na,SE nb];simp only[bt,cond_false];cases ia:At (fk k) a
   ·rw[UF k ha na ia];cases ib:At (fk k) b
    ·rw[UF k hb nb ib];simp only[az,ca,cond_false];show _=(EH (fk k) ((if Am (fk k) b=0 then(if Am (fk k) a=0 then none else some (Ieee.Datum.infinity (sF (fk k) a ^^ sF (fk k) b)))else
      some (Ieee.Datum.number (sF (fk k) a ^^ sF (fk k) b) (2*(Am (fk k) a <<< (k.format.fractionBits+2+(Am (fk k) b).log2-(Am (fk k) a).log2)/Am (fk k) b)+(Am (fk k) a <<< (k.format.fractionBits+2+(Am (fk k) b).log2-(Am (fk k) a).log2)%Am (fk k) b !=0).toNat) (Ao (fk k) a-Ao (fk k) b-((k.format.fractionBits+2+(Am (fk k) b).log2-(Am (fk k) a).log2:Nat):Int)-1))).map k.format.write):Int)/\_
     rw[SH];cases hzb:AV (fk k) b
     ·rw[if_neg (FY hzb)];simp only[bj,cond_false];show _=((k.format.nearest _ _ _:Nat):Int)/\_;cases hza:AV (fk k) a
      ·rw[aWl k _ (FY hza) (FY hzb) (Ra hf a) (Ra hf b)];exact⟨rfl,by first|rfl|trivial⟩
      ·rw[hza,beq_iff_eq]at za;rw[show Am (fk k) a=0 by omega,Nat.zero_shiftLeft,Nat.zero_div,Nat.zero_mod,dw,show((0:Nat)!=0).toNat=0 from rfl,cu,fO];exact⟨rfl,by first|rfl|trivial⟩
     ·rw[hzb,beq_iff_eq]at zb;rw[if_pos (by omega)];cases hza:AV (fk k) a
      ·rw[if_neg (FY hza)];simp only[az,cond_false,cond_true];refine⟨?_,by first|rfl|trivial⟩;show _=((k.format.word _ k.format.infRung:Nat):Int)
       rw[YY]
      ·rw[hza,beq_iff_eq]at za;rw[if_pos (by omega)];exact⟨rfl,by first|rfl|trivial⟩
    ·rw[Ux k hb ib,aHe k ib];simp only[cq,bj,az,cv,bt,cond_false,bf,cond_true];refine⟨?_,by first|rfl|trivial⟩;show _=((k.format.nearest (sF (fk k) a ^^ sF (fk k) b) 0 0:Nat):Int)
     rw[fO,SH]
   ·rw[Ux k ha ia];cases ib:At (fk k) b
    ·rw[UF k hb nb ib,aHe k ia];simp only[bj,az,bt,cond_false,cond_true];refine⟨?_,by first|rfl|trivial⟩;show _=((k.format.word (sF (fk k) a ^^ sF (fk k) b) k.format.infRung:Nat):Int)
     rw[YY,SH]
    ·rw[Ux k hb ib];simp only[bh,bf,cond_true];exact⟨rfl,by first|rfl|trivial⟩
  ·rw[fN k hb nb];have this:∀d:Ieee.Datum,(d.quotient (k.format.fractionBits+2) (Ieee.Datum.nan (sF (fk k) b) (mF (fk k) b))).map k.format.write=none:=fun d=>by cases d<;>rfl
   rw[this];exact⟨rfl,by first|rfl|trivial⟩
 ·rw[fN k ha na];exact⟨rfl,by first|rfl|trivial⟩
end VL
namespace VL
open Go Vx
theorem aWd{d e r:Ieee.Datum}(h:d.product e=some r):r.isNaN=false:=by
 unfold Ieee.Datum.product at h;split at h;all_goals first|(cases h;done)|(cases h;rfl)|(split at h<;>first|(cases h;done)|(cases h;rfl))
theorem aWn{g:Nat}{d e r:Ieee.Datum}(h:d.quotient g e=some r):r.isNaN=false:=by
 unfold Ieee.Datum.quotient at h;split at h;all_goals first|(cases h;done)|(cases h;rfl)|skip
 split at h
 ·split at h
  ·cases h
  ·cases h;rfl
 ·cases h;rfl
theorem bAY(k:FloatKind){op:BinOp}(hop:op=.add∨op=.sub∨op=.mul∨op=.quo)(a b:Nat):
  (bif CI k (AA op k (some a) (some b)) (AA op k (some a) (some b))!=some .eq then B5 (fk k)else(AA op k (some a) (some b)).getD 0)=EH (fk k) (B4 op k a b) /\
  ((CI k (AA op k (some a) (some b)) (AA op k (some a) (some b))!=some .eq)=false->(AA op k (some a) (some b)).isSome=true):=by
 have e:AA op k (some a) (some b)=B4 op k a b:=rfl;rw[e];have hnum:∀r,B4 op k a b=some r->Aj (fk k) r=0/\nan (fk k) r=false:=fun r h=>by
  have key:∀{o:Option Ieee.Datum},(∀d,o=some d->d.isNaN=false)->o.map k.format.write=some r->Aj (fk k) r=0/\nan (fk k) r=false:=fun {o} ho h=>by
   cases o with
   |none=>cases h
   |some d=>cases h;exact bA9 k (ho d rfl)
  rcases hop with rfl|rfl|rfl|rfl
  ·exact key (fun d hd=>aJy hd) h
  ·exact key (fun d hd=>aJy hd) h
  ·exact key (fun d hd=>aWd hd) h
  ·exact key (fun d hd=>aWn hd) h
 cases h:B4 op k a b with
 |none=>
  exact⟨rfl,fun h=>by cases h⟩
 |some r=>
  obtain⟨h1,h2⟩:=hnum r h;have ho:CI k (some r) (some r)=some .eq:=by
   show k.format.order r r=_;rw[aVm k h1 h1,h2,bt,if_neg (by decide)];congr 1;show compareOfLessAndEq _ _=_;unfold compareOfLessAndEq;rw[if_neg (by omega),if_pos rfl]
  rw[ho];exact⟨rfl,fun _=>rfl⟩
end VL
namespace VL
open Go Vx
theorem XA{a:Nat}(h:a<2^64):Aj 3 a=0:=qU (f:=3) (by decide) h
def ZD(o:Option Nat)(n:Nat):Prop:=Aj 3 n=0/\(match o with|some b=>n=b|none=>(FloatKind.f64.format.read n).isNaN=true)
theorem CT{a:Nat}(h:a<2^64):ZD (some a) a:=⟨XA h,rfl⟩
def Ey:Int->BinOp
 |1=>.add
 |2=>.sub
 |3=>.mul
 |_=>.quo
theorem bAv{op:Int}(h:F0 op){a b:Nat}(ha:Aj 3 a=0)(hb:Aj 3 b=0):Aw 3 0 op a b=EH 3 (B4 (Ey op) .f64 a b):=by
 have key:(Ez 0 op 3 a b 0).1=((EH 3 (B4 (Ey op) .f64 a b):Nat):Int):=by
  rcases h with rfl|rfl|rfl|rfl
  ·exact(aE6 .f64 ha hb).1
  ·exact(bAE .f64 ha hb).1
  ·exact(aUp .f64 ha hb).1
  ·exact(aSn .f64 ha hb).1
 unfold Aw;rw[key];rfl
theorem DI{op:Int}(h:F0 op){o1 o2:Option Nat}{a b:Nat}(h1:ZD o1 a)(h2:ZD o2 b):
  ZD (AA (Ey op) .f64 o1 o2) (Aw 3 0 op a b)/\EA (AA (Ey op) .f64 o1 o2)=((Aw 3 0 op a b:Nat):Int):=by
 have e:AA (Ey op) .f64 o1 o2=B4 (Ey op) .f64 a b:=Md h1.2 h2.2;have hs:=bAv h h1.1 h2.1;refine⟨⟨(U2 (f:=3) (m:=0) (by decide) (by decide) h h1.1 h2.1).1,?_⟩,?_⟩
 ·rw[e,hs];cases hr:B4 (Ey op) .f64 a b with
  |some r=>rfl
  |none=>show(FloatKind.f64.format.read (EH 3 none)).isNaN=true;kernel_rfl
 ·have ho:Ey op=.add∨Ey op=.sub∨Ey op=.mul∨Ey op=.quo:=by
   rcases h with rfl|rfl|rfl|rfl
   ·exact .inl rfl
   ·exact .inr (.inl rfl)
   ·exact .inr (.inr (.inl rfl))
   ·exact .inr (.inr (.inr rfl))
  obtain⟨t1,_⟩:=bAY .f64 ho a b;have t2:(bif CI .f64 (B4 (Ey op) .f64 a b) (B4 (Ey op) .f64 a b)!=some .eq then B5 3 else(B4 (Ey op) .f64 a b).getD 0)=EH 3 (B4 (Ey op) .f64 a b):=t1;rw[e,hs,←t2];unfold EA;generalize B4 (Ey op) .f64 a b=r;rw[qH];by_cases hq:CI .f64 r r=some .eq
  ·rw[if_pos hq,decide_eq_true hq];rfl
  ·rw[if_neg hq,decide_eq_false hq];rfl
theorem F1:F0 1:=.inl rfl
theorem F2:F0 2:=.inr (.inl rfl)
theorem F3:F0 3:=.inr (.inr (.inl rfl))
theorem F4:F0 4:=.inr (.inr (.inr rfl))
def JK(x:Bl):Prop:=x.1<2^64/\x.2<2^64
theorem aUi{x y:Bl}(hx:JK x)(hy:JK y):Es (TM (AU (cI x)) (AU (cI y)))=cI (gU 3 0 x y):=by
 have p1:=(DI F1 (CT hx.1) (CT hy.1)).2;have p2:=(DI F1 (CT hx.2) (CT hy.2)).2;show(EA (AA .add .f64 (some x.1) (some y.1)),EA (AA .add .f64 (some x.2) (some y.2)),())=_;have q1:EA (AA .add .f64 (some x.1) (some y.1))=_:=p1;have q2:EA (AA .add .f64 (some x.2) (some y.2))=_:=p2;rw[q1,q2];rfl
theorem aHQ{x y:Bl}(hx:JK x)(hy:JK y):Es (UB (AU (cI x)) (AU (cI y)))=cI (Yx 3 0 x y):=by
 have r1:=(DI F3 (CT hx.1) (CT hy.1)).1;have r2:=(DI F3 (CT hx.2) (CT hy.2)).1;have r3:=(DI F3 (CT hx.1) (CT hy.2)).1;have r4:=(DI F3 (CT hx.2) (CT hy.1)).1;have p1:EA (AA .sub .f64 (AA .mul .f64 (some x.1) (some y.1)) (AA .mul .f64 (some x.2) (some y.2)))=_:=(DI F2 r1 r2).2;have p2:EA (AA .add .f64 (AA .mul .f64 (some x.1) (some y.2)) (AA .mul .f64 (some x.2) (some y.1)))=_:=(DI F1 r3 r4).2;show(EA (AA .sub .f64 (AA .mul .f64 (some x.1) (some y.1)) (AA .mul .f64 (some x.2) (some y.2))),EA (AA .add .f64 (AA .mul .f64 (some x.1) (some y.2)) (AA .mul .f64 (some x.2) (some y.1))),())=_;rw[p1,p2];rfl
theorem aUh{x y:Bl}(hx:JK x)(hy:JK y):Es (JT (AU (cI x)) (AU (cI y)))=cI (gG 3 0 x y):=by
 have t:=(DI F1 (DI F3 (CT hy.1) (CT hy.1)).1 (DI F3 (CT hy.2) (CT hy.2)).1).1;have g:=(DI F1 (DI F3 (CT hx.1) (CT hy.1)).1 (DI F3 (CT hx.2) (CT hy.2)).1).1;have h:=(DI F2 (DI F3 (CT hx.2) (CT hy.1)).1 (DI F3 (CT hx.1) (CT hy.2)).1).1;have p1:=(DI F4 g t).2;have p2:=(DI F4 h t).2;have e1:(Es (JT (AU (cI x)) (AU (cI y)))).1=((Aw 3 0 4 (uP 3 0 x y) (UW 3 0 y):Nat):Int):=p1;have e2:(Es (JT (AU (cI x)) (AU (cI y)))).2.1=((Aw 3 0 4 (uQ 3 0 x y) (UW 3 0 y):Nat):Int):=p2;show((Es (JT (AU (cI x)) (AU (cI y)))).1,(Es (JT (AU (cI x)) (AU (cI y)))).2.1,())=_;rw[e1,e2];rfl
theorem qK(w:Bl->Bl->Bl)(k:Bl->Bl->List (Int×Nat×Nat)){x y:Bl}(hx:JK x)(hy:JK y):QS w k 3 0 x y=(cI (w x y),UJ 3 0 0 (k x y),0,()):=by
 unfold QS;have hF:C0 3 [x,y]=true:=by
  simp only[C0,md,qj,cq,XA hx.1,XA hx.2,XA hy.1,XA hy.2];rfl
 rw[if_neg (show ¬¬Fm 3 by decide),if_neg (by decide),if_neg (fun h=>h hF)]
theorem aBD(x:Option Nat):WM (x,())=some (EA x,()):=by
 show j9 FE.pre FE.F x=_;unfold j9 EA;rw[qH];by_cases h:CI .f64 x x=some .eq
 ·rw[decide_eq_true h,if_pos h];have hp:FE.pre (x,())=true:=aIe h;rw[hp];rfl
 ·rw[decide_eq_false h,if_neg h];rfl
end VL
namespace VL
open Go Vx
theorem bA4:Yx 3 0 (4607182418800017408,4611686018427387904) (4607182418800017408,4611686018427387904)=(13837309855095848960,4616189618054758400):=by kernel_rfl
theorem T517_true{a b c d:Nat}(ha:a<2^64)(hb:b<2^64)(hc:c<2^64)(hd:d<2^64):T517 (((a:Int),(b:Int),(c:Int),(d:Int),()),())=some (true,()):=by
 show kA Jb.pre Jb.F Qz.pre Qz.F QB.pre QB.F QD.pre QD.F Qy.pre Qy.F Qt.pre Qt.F Qw.pre Qw.F QC.pre QC.F ((a:Int),(b:Int),(c:Int),(d:Int),())=_;have hx:JK (a,b):=⟨ha,hb⟩
 have hy:JK (c,d):=⟨hc,hd⟩
 have m0:RJ (((4607182418800017408:Int),(4611686018427387904:Int),()),((4607182418800017408:Int),(4611686018427387904:Int),()),())=some (((13837309855095848960:Int),(4616189618054758400:Int),()),()):=by
  have p:=aBB (cI (4607182418800017408,4611686018427387904)) (cI (4607182418800017408,4611686018427387904));rw[aHQ (by constructor<;>decide) (by constructor<;>decide),bA4]at p;exact p
 have q1:Tm (((a:Int),(b:Int),()),((c:Int),(d:Int),()),())=some (Es (TM (AU (cI (a,b))) (AU (cI (c,d)))),()):=aPe (cI (a,b)) (cI (c,d));have q2:RJ (((a:Int),(b:Int),()),((c:Int),(d:Int),()),())=some (Es (UB (AU (cI (a,b))) (AU (cI (c,d)))),()):=aBB (cI (a,b)) (cI (c,d));have q3:Tn (((a:Int),(b:Int),()),((c:Int),(d:Int),()),())=some (Es (JT (AU (cI (a,b))) (AU (cI (c,d)))),()):=aPf (cI (a,b)) (cI (c,d));have c1:Tj ((3:Int),(0:Int),((a:Int),(b:Int),()),((c:Int),(d:Int),()),())=_:=aPd 3 0 (x:=(a,b)) (y:=(c,d)) hx hy;have c2:Th ((3:Int),(0:Int),((a:Int),(b:Int),()),((c:Int),(d:Int),()),())=_:=aO9 3 0 (x:=(a,b)) (y:=(c,d)) hx hy;have c3:Ti ((3:Int),(0:Int),((a:Int),(b:Int),()),((c:Int),(d:Int),()),())=_:=aPb 3 0 (x:=(a,b)) (y:=(c,d)) hx hy;rw[qK _ _ hx hy,←aUi hx hy]at c1;rw[qK _ _ hx hy,←aHQ hx hy]at c2;rw[qK _ _ hx hy,←aUh hx hy]at c3;have hF:∀n:Nat,Jb.F ((n:Int),())=(some n,()):=fun _=>rfl;have t1:=fun z=>aWa (aBD z);have t2:=fun z=>aTz (aBD z);unfold kA;dsimp only;simp only[aIM m0,aGY m0,cond_true,bne_self_eq_false,bt,cond_false,hF,aV7 q1,aTw q1,aIM q2,aGY q2,aV9 q3,aTy q3,aV6 c1,aTv c1,aV2 c2,aTr c2,aV4 c3,aTt c3,t1,t2,beq_self_eq_true,bh,bf];simp only[Es,TM,UB,AU,cI,ag,bne_self_eq_false,bt,cond_false,cond_true,beq_self_eq_true,bh,Bool.not_false,cd,Bool.not_true,bf];rfl
end VL
namespace Vx
open Go Go.RowKit Go.ChangeShapes Go.WideShapes
def wfD:(τ:Shape)->Ab τ->Prop
 |.int k,n=>k.min<=n/\n<=k.max
 |.flt _,_=>True
 |.slice e,xs=>xs.length<Bt/\∀x∈xs,wfD e x
 |.pair a b,x=>wfD a x.1/\wfD b x.2
 |.bool,_=>True
 |.str,_=>True
 |.fn,_=>True
 |.unit,_=>True
 |.box a,x=>wfD a x
 |.ifc,_=>True
 |.pfn,_=>True
 |.cx _,_=>True
theorem AK.wfD{w:World}{S:Nat->Prop}:∀{τ:Shape} {x:Ab τ} {cs:List Value},AK w S τ x cs->wfD τ x
 |.int _,_,_,h=>h.2
 |.flt _,_,_,_=>trivial
 |.bool,_,_,_=>trivial
 |.str,_,_,_=>trivial
 |.fn,_,_,_=>trivial
 |.unit,_,_,_=>trivial
 |.box _,_,_,⟨_,_,_,_,_,_,_,_,_,h,_⟩=>h.wfD
 |.ifc,_,_,_=>trivial
 |.pfn,_,_,_=>trivial
 |.cx _,_,_,_=>trivial
 |.slice _,xs,_,⟨A,c,_,h1,h2,h3⟩=>by
  refine⟨aw h1 h2,fun x hx=>?_⟩
  obtain⟨r,o,vs,T,fz,_,_,_,h⟩:=h3 (List.ne_nil_of_mem hx)
  obtain⟨i,hi⟩:=List.getElem?_of_mem hx
  obtain⟨ds,hd,_⟩:=h i x hi
  exact hd.wfD
 |.pair _ _,_,_,⟨c1,c2,_,h1,h2⟩=>⟨h1.wfD,h2.wfD⟩
def wfS:(sg:Aa)->DenS sg->Prop
 | [],_=>True
 |(_,τ)::r,x=>wfD τ x.1/\wfS r x.2
def Fk{H:Type}:(τ:Shape)->(DataW H->Option (Ab τ))×(List (DataW H)->Option (Ab τ))
 |.int k=>(fun d=>match d with|.lit (.int k' n)=>if k'=k then some n else none|_=>none,fun _=>none)
 |.bool=>(fun d=>match d with|.lit (.bool b)=>some b|_=>none,fun _=>none)
 |.unit=>(fun d=>match d with|.agg []=>some ()|_=>none,fun l=>match l with | []=>some ()|_=>none)
 |.pair a b=>
  let f:=fun l=>match l with
   |d::r=>(match(Fk a).1 d,(Fk b).2 r with|some x,some y=>some (x,y)|_,_=>none)
   | []=>none
  (fun d=>match d with|.agg l=>f l|_=>none,f)
 |.flt _=>(fun _=>none,fun _=>none)
 |.str=>(fun _=>none,fun _=>none)
 |.fn=>(fun _=>none,fun _=>none)
 |.box _=>(fun _=>none,fun _=>none)
 |.ifc=>(fun _=>none,fun _=>none)
 |.pfn=>(fun _=>none,fun _=>none)
 |.cx _=>(fun _=>none,fun _=>none)
 |.slice _=>(fun _=>none,fun _=>none)
def Sb(P:Program)(g:TypeId->Shape->Bool):List Field->Nat->Shape->Bool
 | [],_,.unit=>true
 |f::fs,o,.pair a b=>(f.offset==o)&&(P.cellsOf f.type==a.width)&&g f.type a&&Sb P g fs (o+a.width) b
 |_,_,_=>false
def CQ(P:Program):Nat->TypeId->Shape->Bool
 |0,_,_=>false
 |n+1,t,τ=>match P.underlying t with
  |some (.int k)=>(match τ with|.int k'=>decide (k=k')|_=>false)
  |some .bool=>(match τ with|.bool=>true|_=>false)
  |some (.slice e)=>(match τ with|.slice σ=>(P.cellsOf e==σ.width)&&decide (0<σ.width)&&CQ P n e σ|_=>false)
  |some (.struct fs)=>(P.cellsOf t==τ.width)&&Sb P (CQ P n) fs.toList 0 τ
  |_=>false
theorem aFH{A:Type}{Q:Nat->A->Prop}:∀(n:Nat),(∀i,i<n->∃x,Q i x)->∃xs:List A,xs.length=n/\∀i x,xs[i]? = some x->Q i x
 |0,_=>⟨[],rfl,fun i x h=>by simp at h⟩
 |n+1,h=>by
  obtain⟨xs,h1,h2⟩:=aFH n fun i hi=>h i (by omega)
  obtain⟨x,hx⟩:=h n (by omega)
  refine⟨xs++[x],by simp[h1],fun i y hy=>?_⟩
  rcases aq i n with hi|hi
  ·rw[bv (by omega)]at hy
   exact h2 i y hy
  ·rw[bq (by omega)]at hy
   have:i=n:=by
    have:=(ap.1 hy).1
    simp at this;omega
   subst this
   simp[h1]at hy
   exact hy▸hx
theorem bA5{k:IntKind}{n:Int}(h:(Lit.int k n).wf=true):k.min<=n/\n<=k.max:=by
 simpa[Lit.wf]using h
section
variable {H:Type}{enc:TypeId×Value->H}{P:Program}{W:World}{spare:Nat->Bool}{held:Bool}
theorem aGp{n:Nat}{m:Nat}{cs:List Value}(ih:∀(t:TypeId) (τ:Shape) (cs:List Value) (d:DataW H) (p:List MemPlace),CQ P n t τ=true->DataW.trod enc P W 0 spare held m t cs=some (d,p)->∃x:Ab τ,AK W (fun q=>q<W.heap.size) τ x cs/\∀y,(Fk τ).1 d=some y->x=y):
  ∀(l:List Field) (o:Nat) (τ:Shape) (xs:List (DataW H×List MemPlace)),Sb P (CQ P n) l o τ=true->xs.length=l.length->cs.length=o+τ.width ->
   (∀(i:Nat) (f:Field),l[i]? = some f->DataW.trod enc P W 0 spare held m f.type ((cs.drop f.offset).take (P.cellsOf f.type))=xs[i]?) ->
   ∃x:Ab τ,AK W (fun q=>q<W.heap.size) τ x (cs.drop o)/\∀y,(Fk τ).2 (xs.map (·.1))=some y->x=y
 | [],o,τ,xs,hf,hx,hl,_=>by
  cases τ<;>simp[Sb]at hf
  refine⟨(),?_,fun _ _=>rfl⟩
  show cs.drop o=[]
  apply List.drop_eq_nil_of_le
  simp[Shape.width]at hl
  omega
 |f::fs,o,τ,xs,hf,hx,hl,h=>by
  cases τ with
  |pair a b=>
   simp only[Sb,ae,beq_iff_eq]at hf
   obtain⟨⟨⟨ho,hc⟩,hg⟩,hr⟩:=hf
   cases xs with
   |nil=>simp at hx
   |cons x0 xs=>
    have h0:=h 0 f rfl
    rw[ho,hc]at h0
    simp only[List.getElem?_cons_zero]at h0
    obtain⟨xa,ha,hua⟩:=ih f.type a _ x0.1 x0.2 hg h0
    simp only[Shape.width]at hl
    obtain⟨xb,hb,hub⟩:=aGp ih fs (o+a.width) b xs hr (by simpa using hx) (by rw[hl];omega) fun i g hi=>by
     have:=h (i+1) g (by simpa using hi)
     simpa using this
    refine⟨(xa,xb),⟨(cs.drop o).take a.width,cs.drop (o+a.width),?_,ha,hb⟩,fun y hy=>?_⟩
    ·rw[←qd,ka]
    ·simp only[Fk,List.map_cons]at hy
     split at hy
     ·rename_i e1 e2
      have:=hua _ e1;have:=hub _ e2
      subst_vars
      exact jv hy
     ·cases hy
  |_=>simp[Sb]at hf
theorem eU:∀(n:Nat) (m:Nat) (t:TypeId) (τ:Shape) (cs:List Value) (d:DataW H) (p:List MemPlace),CQ P n t τ=true->DataW.trod enc P W 0 spare held m t cs=some (d,p) ->
  ∃x:Ab τ,AK W (fun q=>q<W.heap.size) τ x cs/\∀y,(Fk τ).1 d=some y->x=y
 |0,_,_,_,_,_,_,h,_=>by simp[CQ]at h
 |n+1,m,t,τ,cs,d,p,h,ht=>by
  unfold CQ at h
  split at h
  ·rename_i k hk
   cases τ with
   |int k' =>
    simp only[decide_eq_true_eq]at h
    subst h
    obtain⟨v,hv,hx,hw⟩:=DataW.trod_int hk ht
    simp only[cn]at hx
    refine⟨v,⟨hv,bA5 hw⟩,fun y hy=>?_⟩
    rw[hx.1]at hy
    simp only[Fk,if_true]at hy
    exact jv hy
   |_=>cases h
  ·rename_i hk
   cases τ with
   |bool=>
    obtain⟨v,hv,hx⟩:=DataW.trod_bool hk ht
    simp only[cn]at hx
    refine⟨v,hv,fun y hy=>?_⟩
    rw[hx.1]at hy
    simp only[Fk]at hy
    exact jv hy
   |_=>cases h
  ·rename_i e hk
   cases τ with
   |slice σ=>
    simp only[ae,beq_iff_eq,decide_eq_true_eq]at h
    obtain⟨⟨hc,hpos⟩,hf⟩:=h
    rcases DataW.trod_slice hk ht with⟨hcs,hx⟩|⟨a,len,cap,elems,rest,m',rfl,hcs,hx,hb,hlc,hcap,hlen,hel,_⟩
    ·exact⟨[],⟨none,0,hcs,bd _,by decide,fun h=>absurd rfl h⟩,fun y hy=>by simp[Fk]at hy⟩
    ·have each:∀i,i<len->∃x:Ab σ,∃ds,W.cells? 0 (a.add (i*P.cellsOf e)) (P.cellsOf e)=some ds/\AK W (fun q=>q<W.heap.size) σ x ds:=fun i hi=>by
      have:=hel i hi
      rw[ay (by omega),Option.bind_eq_some_iff]at this
      obtain⟨ds,h1,h2⟩:=this
      obtain⟨x,hx,_⟩:=eU n m' e σ ds (elems[i]'(by omega)).1 (elems[i]'(by omega)).2 hf h2
      exact⟨x,ds,h1,hx⟩
     obtain⟨xs,hxl,hxs⟩:=aFH len each
     refine⟨xs,⟨some a,cap,by rw[hxl];exact hcs,by omega,by unfold Bt;unfold maxLen at hcap;omega,fun hne=>?_⟩,fun y hy=>by simp[Fk]at hy⟩
     have h0:0<xs.length:=List.length_pos_iff.2 hne
     obtain⟨ds0,hd0,_⟩:=hxs 0 xs[0] (ay h0)
     obtain⟨_,hl0,hc0⟩:=pe hd0
     have hz:a.add (0*P.cellsOf e)=a:=by simp[Addr.add]
     have hz':a.add 0=a:=by simp[Addr.add]
     rw[hz]at hc0
     have hc00:=hc0 0 (by omega)
     rw[hz',ay (by omega)]at hc00
     unfold pj at hc00
     split at hc00
     ·rename_i c T fz hheap
      split at hc00
      ·cases hc00
      ·rename_i hspot
       have hs:a.spot=none:=by simpa using hspot
       have hadd:∀q,a.add q=⟨a.block,a.off+q,none⟩:=fun q=>by
        unfold Addr.add
        split
        ·subst_vars;cases a;simp at hs;simp[hs]
        ·rfl
       have ha:a=⟨a.block,a.off,none⟩:=by cases a;simp at hs;simp[hs]
       refine⟨a.block,a.off,c,T,fz,by rw[←ha],?_,hheap,fun i x hi=>?_⟩
       ·exact(ct.1 hheap).1
       ·obtain⟨ds,hd,hr⟩:=hxs i x hi
        refine⟨ds,hr,fun j v hj=>?_⟩
        obtain⟨_,hl,hcj⟩:=pe hd
        have hjl:j<P.cellsOf e:=by rw[←hl];exact(ap.1 hj).1
        have:=hcj j hjl
        rw[hadd,hj]at this
        have hadd2:(⟨a.block,a.off+i*P.cellsOf e,none⟩:Addr).add j=⟨a.block,a.off+i*P.cellsOf e+j,none⟩:=by
         unfold Addr.add
         split
         ·subst_vars;rfl
         ·rfl
        rw[hadd2]at this
        unfold pj at this
        simp only[hheap]at this
        rw[hc]at this
        exact this
     ·cases hc00
   |_=>cases h
  ·rename_i fs hk
   simp only[ae,beq_iff_eq]at h
   obtain⟨hc,hf⟩:=h
   obtain⟨xs,m',rfl,hx,hl,hxl,hel⟩:=DataW.trod_struct hk ht
   simp only[cn]at hx
   obtain⟨x,h1,h2⟩:=aGp (fun t τ cs d p=>eU n m' t τ cs d p) fs.toList 0 τ xs hf (by simpa using hxl) (by rw[hl,hc];omega) fun i f hi=>hel i f (by simpa using hi)
   refine⟨x,by simpa using h1,fun y hy=>h2 y ?_⟩
   rw[hx.1]at hy
   cases τ with
   |pair a b=>exact hy
   |unit=>
    simp only[Fk]at hy⊢
    split at hy
    ·rename_i e;simp only[DataW.agg.injEq]at e;rw[e]
    ·cases hy
   |_=>simp[Fk]at hy
  ·cases h
end
end Vx
namespace Vx
open Go Go.RowKit Go.ChangeShapes Go.WideShapes
def Sg(P:Program)(t:TypeId):Bool:=match P.underlying t with
 |some (.struct _)=>true
 |_=>false
def TY(P:Program)(n:Nat):List TypeId->Aa->Bool
 | [],[]=>true
 |t::ts,(a,τ)::r=>CQ P n t τ&&(a==Sg P t)&&TY P n ts r
 |_,_=>false
section
variable {H:Type}{enc:TypeId×Value->H}{P:Program}{W:World}
theorem aRW{n:Nat}{t:TypeId}{τ:Shape}{r:Reach}{b0:Nat}{v:Value}(hf:CQ P n t τ=true)(hs:Sg P t=false)(hv:oa P W r b0 t v):v.cells.toList=[v]:=by
 cases n with
 |zero=>simp[CQ]at hf
 |succ n=>
  unfold CQ at hf;split at hf
  ·rename_i k hk;obtain⟨_,rfl⟩:=okWide_int hk hv;rfl
  ·rename_i hk;obtain⟨_,rfl⟩:=okWide_bool hk hv;rfl
  ·rename_i e hk;obtain⟨_,_,_,rfl⟩:=okWide_slice hk hv;rfl
  ·rename_i fs hk;simp[Sg,hk]at hs
  ·cases hf
theorem aSz{S:Nat->Prop}{a:Bool}{τ:Shape}{x:Ab τ}{y:Value}(ho:JO a τ=false)(h:Dt W S a τ x y):Fo W S a τ x y []:=by
 cases τ with
 |slice e=>
  cases a with
  |true=>cases ho
  |false=>exact⟨rfl,h⟩
 |_=>exact⟨rfl,h⟩
theorem aFh{n:Nat}{sp:Nat->Bool}{held:Bool}{b0:Nat}:∀(ts:List TypeId) (I:Aa) (vs:List Value) (ds:List (DataW H)) (ps:List MemPlace),TY P n ts I=true ->
  (∀(j:Nat) (t:TypeId) (v:Value),ts[j]? = some t->vs[j]? = some v->oa P W .any b0 t v)->DataW.TrodAll enc P W 0 sp held ts vs ds ps->∃x:DenS I,B9 W (fun q=>q<W.heap.size) I x vs []/\wfS I x/\ds.length=ts.length
 | [],[],vs,ds,ps,_,_,h=>by
  cases vs<;>cases ds<;>simp[DataW.TrodAll]at h
  exact⟨(),⟨rfl,rfl⟩,trivial,rfl⟩
 | [],_::_,_,_,_,hf,_,_=>by simp[TY]at hf
 |_::_,[],_,_,_,hf,_,_=>by simp[TY]at hf
 |t::ts,(a,τ)::I,vs,ds,ps,hf,hv,h=>by
  cases vs with
  |nil=>simp[DataW.TrodAll]at h
  |cons v vs=>
   cases ds with
   |nil=>simp[DataW.TrodAll]at h
   |cons d ds=>
    obtain⟨p,q,⟨m,hp⟩,hq,_⟩:=h
    simp only[TY,ae,beq_iff_eq]at hf
    obtain⟨⟨h1,h2⟩,h3⟩:=hf
    obtain⟨x,hx,hw,hl⟩:=aFh ts I vs ds q h3 (fun j t v ht hv'=>hv (j+1) t v (by simpa using ht) (by simpa using hv')) hq
    obtain⟨y,hy,_⟩:=eU n m t τ _ d p h1 hp
    have hok:=hv 0 t v rfl rfl
    refine⟨(y,x),⟨v,vs,[],[],rfl,rfl,aSz ?_ ?_,hx⟩,⟨hy.wfD,hw⟩,by simp[hl]⟩
    ·cases τ with
     |slice σ=>
      show a=false
      rw[h2]
      cases n with
      |zero=>simp[CQ]at h1
      |succ n=>
       unfold CQ at h1
       unfold Sg
       split at h1<;>rename_i hk<;>first|(rw[hk];done)|(simp only[hk];done)|(simp[Sb]at h1;done)|skip
     |_=>rfl
    cases a with
    |true=>
     have hs:Sg P t=true:=h2.symm
     unfold Sg at hs
     split at hs
     ·rename_i fs hk
      unfold oa at hok
      rw[hk]at hok
      obtain⟨cs,rfl,_⟩:=hok
      exact⟨cs.toList,by simp,hy⟩
     ·cases hs
    |false=>
     have hs:Sg P t=false:=h2.symm
     rw[aRW h1 hs hok]at hy
     exact hy
theorem aLc(hl:laidOutB P=true){W':World}(hb:Below W.heap.size W W'):∀(ts:List TypeId) (vs:List Value) (ds:List (DataW H)) (ps:List MemPlace),(ts.all fun t=>P.readableRec t&&decide (t<P.types.size))=true ->
  DataW.TrodAll enc P W 0 (fun _=>true) true ts vs ds ps->(∀x∈ps,x.block<W.heap.size)->DataW.TrodAll enc P W' 0 (fun b=>decide (b<W.heap.size)) true ts vs ds ps
 | [],vs,ds,ps,_,h,_=>by
  cases vs<;>cases ds<;>simp[DataW.TrodAll]at h⊢
  exact h
 |t::ts,vs,ds,ps,hr,h,hlt=>by
  cases vs with
  |nil=>simp[DataW.TrodAll]at h
  |cons v vs=>
   cases ds with
   |nil=>simp[DataW.TrodAll]at h
   |cons d ds=>
    obtain⟨p,q,hp,hq,rfl⟩:=h
    simp only[md,ae,decide_eq_true_eq]at hr
    exact⟨p,q,Below.trod hl hr.1.1 hr.1.2 hp hb (fun x hx=>hlt x (cr.2 (.inl hx))),
     aLc hl hb ts vs ds q hr.2 hq (fun x hx=>hlt x (cr.2 (.inr hx))),rfl⟩
theorem glob_of{n:String}{g:Nat}{t e:TypeId}{m k:Nat}{τ:Shape}{ds:List (DataW Unit)}{xs:List (Ab τ)}{r:List (String×DataW Unit)}{ps:List MemPlace}
  (hL:DataW.LaidVars P W ((n,.agg ds)::r) ps) (hg:P.globalNamed n=some g) (ht:(P.globals[g]?).map (·.type)=some t) (hu:P.underlying t=some (.array m e)) (hc:P.cellsOf e=τ.width) (hf:CQ P k e τ=true)
  (hx:ds.map (Fk τ).1=xs.map some) :
  (g<W.heap.size/\∃vs T fz,W.heap[g]? = some (.cells vs T fz)/\Rows W (fun q=>q<W.heap.size) τ vs 0 xs)/\∃ps',DataW.LaidVars P W r ps':=by
 obtain⟨g',t',cs,fuel,p,q,h1,h2,h3,h4,h5,_⟩:=hL;rw[hg]at h1;cases h1;rw[ht]at h2;cases h2;refine⟨?_,q,h5⟩;unfold World.var? at h3;rw[hg]at h3;simp only[Option.bind_some]at h3;split at h3
 ·rename_i c T fz hh;cases h3;refine⟨(ct.1 hh).1,cs,T,fz,hh,?_⟩;obtain⟨ys,m',rfl,hy,hl,hyl,hel⟩:=DataW.trod_array hu h4;simp only[cn,DataW.agg.injEq]at hy;intro i x hi;have hxl:xs.length=m:=by
   have:=congrArg List.length hx;simp[hy.1,hyl]at this;omega
  have him:i<m:=by rw[←hxl];exact(ap.1 hi).1
  have he:=hel i him;have hyi:ys[i]? = some (ys[i]'(by omega)):=ay (by omega);rw[hyi,hc]at he;obtain⟨x',h6,h7⟩:=eU k m' e τ _ _ _ hf he;have hd:(Fk τ).1 (ys[i]'(by omega)).1=some x:=by
   have:=congrArg (·[i]?) hx;simp only[List.getElem?_map,hy.1,hyi,hi,Option.map_some]at this;exact jv this
  have:=h7 x hd;subst this;refine⟨_,h6,fun j v hj=>?_⟩;rw[List.getElem?_take]at hj;split at hj
  ·rw[di]at hj;simpa using hj
  ·cases hj
 ·cases h3
theorem aZt {G : List (Nat × Sigma fun τ => List (Ab τ))} {f : FuncId} {I : Aa} {T : DenS I -> Option (DenS [(false, .bool)])} {d : DenS [(false, .bool)]} (hS : Sound P G f (Ak I [(false, .bool)] T d)) {x : DenS I} (hT : T x = some (true, ())) (hcal : ∃ fn, P.funcs[f]? = some fn /\ fn.body.isNone = false /\ (fn.name == "runtime.NumGoroutine") = false) {W : World} {args : Array Value}
  (hG:GlobsOk G W fun q=>q<W.heap.size) (ha:B9 W (fun q=>q<W.heap.size) I x args.toList []):Calls P f args W fun e W'=>e=.returned (.bool true)/\Below W.heap.size W W':=by
 have:=hS.calls x (by show(T x).isSome=true;rw[hT];rfl) W (fun q=>q<W.heap.size) args.toList [] (fun q h=>h) hG ha List.nodup_nil (fun r h=>by simp at h)
 rw[Array.toArray_toList]at this
 have this:=this.resolve_right (fun⟨v,hv,_⟩=>by rw[gO hcal]at hv;cases hv)
 refine this.2.mono fun e W' ⟨zs,rs',he,hb,_,_,hz⟩=>⟨?_,⟨hb.os,hb.tape,hb.output,hb.size,fun k hk=>hb.block k hk (fun h=>by simp at h)⟩⟩
 obtain⟨y,ys,r1,r2,rfl,_,⟨_,h1⟩,rfl,_⟩:=hz
 have h2:[y]=[Value.bool ((T x).getD d).1]:=h1
 rw[hT]at h2
 cases h2
 exact he
theorem law_post{G:List (Nat×Sigma fun τ=>List (Ab τ))}{f:FuncId}{fn:Func}{I:Aa}{T:DenS I->Option (DenS [(false,.bool)])}{d:DenS [(false,.bool)]}{s:ChangeSpec}{n:Nat}{tb:TypeId}
  (hS : Sound P G f (Ak I [(false, .bool)] T d)) (hT : ∀ x, wfS I x -> T x = some (true, ())) (hcal : ∃ fn, P.funcs[f]? = some fn /\ fn.body.isNone = false /\ (fn.name == "runtime.NumGoroutine") = false) (hlay : laidOutB P = true) (hfit : TY P n fn.params.toList I = true)
  (hread:(fn.params.toList.all fun t=>P.readableRec t&&decide (t<P.types.size))=true) (hres:fn.resultTypes=#[tb]) (hbool:P.underlying tb=some .bool) (hvars:s.vars=[])
  (hspec:∀ds:List (DataW H),ds.length=fn.params.toList.length->s.fn H ds={results:=[.lit (.bool true)],args:=ds})
  {W:World} {base:Nat} {args:Array Value} {ds gs:List (DataW H)} {before:List MemPlace}
  (hval:∀(j:Nat) (t:TypeId) (v:Value),fn.params[j]? = some t->args[j]? = some v->oa P W .any base t v)
  (hW:DataW.Whole enc P fn.params.toList s.vars false W args.toList ds gs before) (hG:GlobsOk G W fun q=>q<W.heap.size) :
  Calls P f args W fun e W'=>∃v,e=.returned v/\ChangeSpec.post enc P fn s false true false false W args v W':=by
 have hW':=hW
 obtain⟨p,q,hA,hV,rfl,_,_⟩:=hW
 rw[hvars]at hV
 obtain⟨rfl,rfl⟩:=trodVars_none hV
 obtain⟨x,hx,hw,hlen⟩:=aFh (b0:=base) fn.params.toList I args.toList ds p hfit (fun j t v ht hv=>hval j t v (by simpa using ht) (by simpa using hv)) hA
 refine(aZt hS (hT x hw) hcal hG hx).mono fun e W' ⟨he,hb⟩=>⟨.bool true,he,ds,[],p++[],[],p,[],hW',?_,?_,?_,hb.frame _,fun h=>by cases h⟩
 ·rw[df,hspec ds hlen,hres]
  exact trodAll_mk1 (shut_bool hbool true)
 ·rw[df,hspec ds hlen]
  exact aLc hlay hb _ _ _ _ hread hA fun y hy=>by simpa using hW'.lt y (by simpa using hy)
 ·rw[df,hspec ds hlen,hvars]
  rfl
end
theorem globs_nil{W:World}{S:Nat->Prop}:GlobsOk [] W S:=fun _ _ _ h=>by simp[Mb]at h
theorem globs_cons{W:World}{S:Nat->Prop}{g:Nat}{τ:Shape}{xs:List (Ab τ)}{G:List (Nat×Sigma fun τ=>List (Ab τ))}(h:S g/\∃vs T fz,W.heap[g]? = some (.cells vs T fz)/\Rows W S τ vs 0 xs)(r:GlobsOk G W S):
  GlobsOk ((g,⟨τ,xs⟩)::G) W S:=fun g' τ' xs' hf=>by
 simp only[Mb]at hf
 cases hb:Nat.beq g g' with
 |true=>
  have:=Nat.eq_of_beq_eq_true hb
  subst this
  rw[hb]at hf
  simp only[cond_true,ab]at hf
  cases hf
  exact h
 |false=>
  rw[hb]at hf
  exact r g' τ' xs' hf
end Vx
end
