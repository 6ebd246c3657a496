/- Part 8 of the proof. What is proved: symbolic execution of the functions, proved sound; what each function of the program computes, and that every run ends with it; what these functions compute, in plain numbers. Conditions: each theorem bears its own. -/
import Derived.Test.YthajbkcpnbiobaaGreatDoorVxG7
import Ieee.Arith
import Derived.ProofKit
import Derived.LaidMore
import Derived.OpenShut
import Derived.Stop.Joined
import GoSem.ClaimJoined
set_option linter.all false
set_option exponentiation.threshold 1000000
noncomputable section
open Array renaming getElem?_eq_some_iff->dx
open BitVec renaming ofInt->dh
open Bool renaming and_eq_true->ar,and_false->be,and_self->ba,and_true->bq,false_and->ay,false_ne_true->nq,false_or->bm,not_false->bf,not_true->bi,or_eq_false_iff->jb,or_eq_true->fh,or_false->br,or_self->bj,or_true->bo,true_and->bl,true_or->bg
open Go.IntKind renaming wrap->al
open Go.Value renaming okWide->mq
open Go.Value.slice renaming injEq->nw
open Go.World renaming cell?->qr,cells?_some->qk
open Int renaming eq_ofNat_of_zero_le->cv,le_refl->lc,lt_or_le->rh,natCast_mul->kl,toNat->aq,toNat_natCast->ao
open List renaming all_cons->nz,all_eq_true->ku,append_nil->du,drop_eq_getElem_cons->dr,drop_length->gf,drop_zero->jh,getD_eq_getElem?_getD->aw,getElem?_append_left->cw,getElem?_append_right->cm,getElem?_eq_getElem->bw,getElem?_eq_some_iff->bp,getElem_mem->jd,length->ro,length_append->fc,length_cons->cy,length_map->cp,length_nil->ee,length_set->jj,length_take->gz,map_map->ri,mem_append->dt,mem_cons_of_mem->fw,mem_cons_self->fx,nil_append->ld,replicate->bd,take_left'->ra,take_length->dw,take_succ->nr
open List.cons renaming injEq->nh
open Nat renaming add_comm->jc,add_zero->dp,div_eq_of_lt->dc,le_refl->ci,lt_of_lt_of_le->az,lt_or_ge->bc,lt_trans->gl,min_eq_left->ij,min_eq_right->lu,mod_eq_of_lt->ce,mod_lt->cn,mul_add->ck,mul_assoc->bu,mul_comm->bt,mul_div_cancel->jn,mul_le_mul_left->cq,mul_ne_zero->kq,mul_one->gx,mul_zero->fu,pow_add->ca,pow_le_pow_right->ax,pow_lt_pow_right->ct,pow_mul->gn,pow_succ->fm,pow_zero->iv,shiftLeft_eq->kb,sub_self->gu,two_pow_pos->au,zero_add->dj,zero_le->dv,zero_mul->fq
open Option.some renaming inj->ky,injEq->ap
open Prod.mk renaming injEq->cr
namespace VL
open Go Vx
def aZC(f:Int)(a:Nat):Int×Int×Int×Unit:=if Ai f a=0 then(al .u64 (BZ f a),0,0,())else(0,0,Ai f a,())
def bBM(f:Int)(a:Nat):Int×Int×Int×Unit:=if Ai f a=0 then((DR f a:Int),0,0,())else(0,0,Ai f a,())
def aYf(f:Int)(a:Nat):Int×Int×Int×Unit:=((K9.F (f,(a:Int),())).1,0,(K9.F (f,(a:Int),())).2.1,())
def Ek(m op f:Int)(a b c:Nat):Int×Int×Int×Unit:=if op=1 then HR f m a b else if op=2 then JY f m a b else if op=3 then JS f m a b else if op=4 then Pq f m a b else if op=5 then bIj f m a else if op=6 then bAk f m a b c else if op=7 then((vO f a b true).1,(vO f a b true).2.2)else if op=8 then((vO f a b false).1,(vO f a b false).2.2)else if op=9 then bAZ f m a true else if op=10 then aZJ f (al .i64 (c:Int)) m a else if op=11 then bIO f m (al .i64 (c:Int)) a else if op=12 then bAu f m (al .i64 (c:Int)) a else if op=13 then aQf f a b false else if op=14 then aQf f a b true else if op=15 then(al .u64 (tP f a b false).1,(tP f a b false).2)else if op=16 then(al .u64 (tP f a b true).1,(tP f a b true).2)else if op=17 then bIp f a 1 else if op=18 then bH8 f m a (al .i64 (b:Int))else if op=19 then aZC f a else if op=20 then bBM f a else if op=21 then aYf f a else if op=22 then((aNt f a b).1,0,(aNt f a b).2)else(0,0,0,())
abbrev Ask:=Ab (.pair (.int .i64) (.pair (.int .i64) (.pair (.int .u64) (.pair (.int .u64) (.pair (.int .u64) .unit)))))
def Vs(w:Option (Nat×List Nat))(k:Ask)(y:DenS Ep):Prop:=K7.pre w (k,())=true/\K7.F w (k,())=y
theorem tW{w:Option (Nat×List Nat)}{k:Ask}{y:DenS Ep}{p:Bool}{v:DenS Ep}(h1:K7.pre w (k,())=p)(h2:K7.F w (k,())=v)(h3:p=true)(h4:v=y):Vs w k y:=⟨h1.trans h3,h2.trans h4⟩
theorem Vk{op:Int}(h1:1<=op)(h2:op<=22){n:Int}{w:Option (Nat×List Nat)}(h:(GR.F ()).1.getD op.toNat ((0:Int),none,())=(n,w,())):Od (op,())=some ((n,w,()),0,()):=by
 show Z9 GR.pre GR.F op=_;unfold Z9;have hp:GR.pre ()=true:=by kernel_rfl
 have hl:(GR.F ()).1.length=23:=by kernel_rfl
 rw[hp,hl,h,af (show ¬op<1 by omega),af (show ¬op>=((23:Nat):Int) by omega),ae (show(0:Int)<=op by omega),ae (show op<((23:Nat):Int) by omega)];rfl
theorem bG5{op:Int}(h:op<1∨op>22):Od (op,())=some (((0:Int),none,()),190,()):=by
 show Z9 GR.pre GR.F op=_;unfold Z9;have hp:GR.pre ()=true:=by kernel_rfl
 have hl:(GR.F ()).1.length=23:=by kernel_rfl
 have:(decide (op<1)||decide (op>=((23:Nat):Int)))=true:=by rw[fh,ai,ai];omega
 rw[hp,hl,this];rfl
theorem aAd{g:Nat}{k:Ask}{p:Bool}{y:DenS M4}(h1:TT.pre (some (g,[])) (k.2.1,k.1,k.2.2.1,k.2.2.2.1,())=p)(h2:TT.F (some (g,[])) (k.2.1,k.1,k.2.2.1,k.2.2.2.1,())=y)(h3:p=true):cO (k,g,())=some y:=by
 show yD TT.pre TT.F k g=_;unfold yD;dsimp only;rw[h1,h2,h3];rfl
theorem bI0(m f:Int){a b:Nat}(ha:a<2^64)(hb:b<2^64)(c:Int):
  Vs (some (192,[158+2])) (m,f,(a:Int),(b:Int),c,()) (HR f m a b)/\Vs (some (192,[159+2])) (m,f,(a:Int),(b:Int),c,()) (JY f m a b) /\
  Vs (some (192,[160+2])) (m,f,(a:Int),(b:Int),c,()) (JS f m a b)/\Vs (some (192,[161+2])) (m,f,(a:Int),(b:Int),c,()) (Pq f m a b):=by
 have p1:=aA8 f m ha hb;have p2:=aWd f m ha hb;have p3:=aWm f m ha hb;have p4:=aWr f m ha hb;have q1:=aAd (g:=158) (k:=(m,f,(a:Int),(b:Int),c,())) (p:=EY.pre (f,m,(a:Int),(b:Int),())) (y:=EY.F (f,m,(a:Int),(b:Int),())) (by kernel_rfl) (by kernel_rfl) (bCS p1);have q2:=aAd (g:=159) (k:=(m,f,(a:Int),(b:Int),c,())) (p:=N8.pre (f,m,(a:Int),(b:Int),())) (y:=N8.F (f,m,(a:Int),(b:Int),())) (by kernel_rfl) (by kernel_rfl) (bCR p2);have q3:=aAd (g:=160) (k:=(m,f,(a:Int),(b:Int),c,())) (p:=N9.pre (f,m,(a:Int),(b:Int),())) (y:=N9.F (f,m,(a:Int),(b:Int),())) (by kernel_rfl) (by kernel_rfl) (bCW p3);have q4:=aAd (g:=161) (k:=(m,f,(a:Int),(b:Int),c,())) (p:=Oa.pre (f,m,(a:Int),(b:Int),())) (y:=Oa.F (f,m,(a:Int),(b:Int),())) (by kernel_rfl) (by kernel_rfl) (bCX p4);rw[bAC p1]at q1;rw[bAB p2]at q2;rw[bAG p3]at q3;rw[bAH p4]at q4;exact⟨tW (p:=Dy.pre ((m,f,(a:Int),(b:Int),c,()),158,())) (v:=Dy.F ((m,f,(a:Int),(b:Int),c,()),158,())) (by kernel_rfl) (by kernel_rfl) (vD q1) (uF q1),
  tW (p:=Dy.pre ((m,f,(a:Int),(b:Int),c,()),159,())) (v:=Dy.F ((m,f,(a:Int),(b:Int),c,()),159,())) (by kernel_rfl) (by kernel_rfl) (vD q2) (uF q2),
  tW (p:=Dy.pre ((m,f,(a:Int),(b:Int),c,()),160,())) (v:=Dy.F ((m,f,(a:Int),(b:Int),c,()),160,())) (by kernel_rfl) (by kernel_rfl) (vD q3) (uF q3),
  tW (p:=Dy.pre ((m,f,(a:Int),(b:Int),c,()),161,())) (v:=Dy.F ((m,f,(a:Int),(b:Int),c,()),161,())) (by kernel_rfl) (by kernel_rfl) (vD q4) (uF q4)⟩
end VL
namespace VL
open Go Vx
def CI(x:Int):Bool:=fI .i64 x 31==0
def LO(v:Int×Int×Int×Unit):Int:=if v.1<0∨v.1>5 then 3 else if(CI v.2.1&&CI v.2.2.1)=true then 0 else 7
theorem aH4(x:Int):XJ (x,())=some (CI x,()):=rfl
theorem aWs(v:Int×Int×Int×Unit):XK (v,())=some (LO v,()):=by
 show yF Uu.pre Uu.F v=_;unfold yF LO;have p:=aH4 v.2.1;have q:XJ v.2.2=some (CI v.2.2.1,()):=aH4 v.2.2.1;rw[aQk p,aOr p,aQk q,aOr q];by_cases h:v.1<0∨v.1>5
 ·have:(decide (v.1<0)||decide (v.1>5))=true:=by rw[fh,ai,ai];exact h
  rw[this,ah h];rfl
 ·have:(decide (v.1<0)||decide (v.1>5))=false:=by
   rw[af (show ¬v.1<0 by omega),af (show ¬v.1>5 by omega)];rfl
  rw[this,ag h];cases CI v.2.1<;>cases CI v.2.2.1<;>rfl
def G4(f:Int):List Nat->Int
 | []=>0
 |a::l=>if Ai f a≠0 then Ai f a else G4 f l
abbrev R5:=Int×Int×Int×Int×Int×Unit
theorem aXb(R:R5)(op:Int)(l:List Nat)(hl:∀a∈l,a<2^64)(hlen:l.length<1000):
  qU (((l.length:Int),Wd l,(0:Int),op,(),()),(),R,())=some (if G4 R.2.1 l=0 then .inl ((op,(),()),(),R,())else .inr ((G4 R.2.1 l,()),())):=by
 have key:=Cx (aPv Ap.pre Ap.F Av.pre Av.F) (fun x=>l.length-x.1.2.2.1.toNat)
  (fun x=>∃i:Nat,i<=l.length/\G4 R.2.1 (l.drop i)=G4 R.2.1 l/\x=(((l.length:Int),Wd l,(i:Int),op,(),()),(),R,()))
  (fun _=>if G4 R.2.1 l=0 then .inl ((op,(),()),(),R,())else .inr ((G4 R.2.1 l,()),())) ?_ _ ⟨0,dv _,rfl,rfl⟩
 ·exact key
 intro L x hx hL;obtain⟨i,hi,hok,rfl⟩:=hx;unfold Y2;rcases bc i l.length with hlt|hge
 ·have hg:l.getD i 0=l[i]:=by simp[aw,hlt]
  have ha:=hl _ (jd hlt);have p0:=Lh R.2.1 l[i] ha;have e0:decide ((i:Int)<(l.length:Int))=true:=ae (by omega);have e1:(decide ((0:Int)<=(i:Int))&&decide ((i:Int)<((Wd l).length:Int)))=true:=by rw[Ay,ae (by omega),ae (by omega)];rfl
  have e2:(Wd l).getD (aq (i:Int)) 0=((l[i]:Nat):Int):=by rw[ao,BM,hg]
  have e3:al .i64 ((i:Int)+1)=((i+1:Nat):Int):=by rw[Au (by omega)];omega
  rw[dr hlt,G4]at hok;dsimp only;simp only[e0,e1,e2,e3,aa,JF p0];by_cases hc:Ai R.2.1 l[i]=0
  ·rw[ag (fun h=>h hc)]at hok;rw[hc,aj,ab];exact hL _ ⟨i+1,by omega,hok,rfl⟩ (by simp only[ao];omega)
  ·rw[ah hc]at hok;have:(Ai R.2.1 l[i]!=0)=true:=by rw[bne_iff_ne];exact hc
   rw[this,←hok,ag hc];rfl
 ·have e:i=l.length:=by omega
  subst e;rw[gf]at hok;have e0:decide ((l.length:Int)<(l.length:Int))=false:=af (by omega);simp only[e0,ab];rw[←hok];rfl
def aCM(a c:Int):Bool:=(((al .i64 c)==0)&&((al .u64 (al .i64 (al .i32 a)))!=a))||(((al .i64 c)==2)&&((AR .u64 a 32)!=0))
def Pm(f op:Int)(n a b c:Nat):Int:=if ¬Fm f then 2 else if op=10/\c>3 then 2 else if(op=11∨op=12)/\c>3 then 9 else if G4 f ([a,b,c].take n)≠0 then G4 f ([a,b,c].take n)else if(op==12&&aCM a c)=true then 4 else 0
theorem aNm(op:Int)(c:Nat){d:Bool}(hd:d=decide ((c:Int)>3))(t:Int)(v:Option (Int×Unit))(hv:v=some (t,())):
  (bif op==10 then(bif d then some (2,())else v)else bif op==11 then(bif op==11 then(bif d then some (9,())else v)else v)else bif op==12 then(bif d then some (9,())else v)else v) =
  some (if op=10/\c>3 then 2 else if(op=11∨op=12)/\c>3 then 9 else t,()):=by
 rw[hd,hv];by_cases h:c>3
 ·rw[ae (show(c:Int)>3 by omega)];by_cases h1:op=10
  ·subst h1;rw[ah ⟨rfl,h⟩];rfl
  ·rw[beq_false_of_ne h1,ag (fun x=>h1 x.1)];by_cases h2:op=11
   ·subst h2;rw[ah ⟨.inl rfl,h⟩];rfl
   ·by_cases h3:op=12
    ·subst h3;rw[ah ⟨.inr rfl,h⟩];rfl
    ·rw[beq_false_of_ne h2,beq_false_of_ne h3,ag (fun x=>x.1.elim h2 h3)];rfl
 ·rw[af (show ¬(c:Int)>3 by omega),ag (fun x=>h x.2),ag (fun x=>h x.2)];cases op==10<;>cases op==11<;>cases op==12<;>rfl
theorem aWt(m f op:Int)(w:Option (Nat×List Nat)){n a b c:Nat}(hn:n<=3)(ha:a<2^64)(hb:b<2^64)(hc:c<2^64):
  cQ (op,((n:Int),w,()),(m,f,(a:Int),(b:Int),(c:Int),()),())=some (Pm f op n a b c,()):=by
 show yG Ap.pre Ap.F Av.pre Av.F qU op ((n:Int),w,()) (m,f,(a:Int),(b:Int),(c:Int),())=_;have e3:((((a:Int)::((b:Int)::((c:Int)::[]))).take (aq (n:Int))).drop (aq (0:Int)))=Wd ([a,b,c].take n):=by
  have:n=0∨n=1∨n=2∨n=3:=by omega
  rcases this with rfl|rfl|rfl|rfl<;>rfl
 have e2:((decide ((0:Int)<=(n:Int)))&&(decide ((n:Int)<=((((a:Int)::((b:Int)::((c:Int)::[]))).length:Nat):Int))))=true:=by
  rw[ae (show(0:Int)<=(n:Int) by omega),ae (show((n:Int)<=((((a:Int)::((b:Int)::((c:Int)::[]))).length:Nat):Int))from by show(n:Int)<=3;omega)];rfl
 have hW:=aXb (m,f,(a:Int),(b:Int),(c:Int),()) op ([a,b,c].take n) (by intro x hx;have:=List.mem_of_mem_take hx;simp at this;omega) (by rw[gz];show min n 3<1000;omega);unfold yG Pm;dsimp only;by_cases hA:G4 f ([a,b,c].take n)=0
 ·rw[ah hA]at hW;rw[e3,e2,Ay,hW];by_cases hf:Fm f
  ·have p0:=Li hf;rw[vE p0,uH p0,ag (show ¬¬Fm f from fun h=>h hf)];refine aNm op c rfl _ (bif op==12 then(bif aCM a c then some (4,())else some (0,()))else some (0,())) ?_;rw[ag (fun h=>h hA)];cases op==12<;>cases aCM (a:Int) c<;>rfl
  ·have p0:=Oe hf;rw[vE p0,uH p0,ah hf];rfl
 ·rw[ag hA]at hW;rw[e3,e2,Ay,hW];by_cases hf:Fm f
  ·have p0:=Li hf;rw[vE p0,uH p0,ag (show ¬¬Fm f from fun h=>h hf)];refine aNm op c rfl _ (some (G4 f ([a,b,c].take n),())) ?_;rw[ah hA]
  ·have p0:=Oe hf;rw[vE p0,uH p0,ah hf];rfl
def WX(op:Int):Nat:=(Ob.F (op,())).1.1.toNat
def LF(v:Int×Int×Int×Unit)(op f:Int)(a b c:Nat):Int:=if LO v≠0 then LO v else if op<1∨op>22 then 190 else if Pm f op (WX op) a b c≠0 then Pm f op (WX op) a b c else(Ek v.1 op f a b c).2.2.1
abbrev Out:=Int×Int×Int×(Int×Int×Int×Unit)×Unit
def bI9:Out:=(0,0,0,(0,0,0,()),())
def aC9(v:Int×Int×Int×Unit)(y:Int×Int×Int×Unit):Out:=if BR .i64 y.2.1 v.2.2.1≠0 then(0,y.2.1,BR .i64 (BR .i64 y.2.1 v.2.2.1) (al .i64 (0-BR .i64 y.2.1 v.2.2.1)),v,())else(y.1,y.2.1,0,(v.1,Ao .i64 v.2.1 y.2.1,v.2.2),())
def WY(v:Int×Int×Int×Unit)(op f:Int)(a b c:Nat):Out×Int×Unit:=if LF v op f a b c≠0 then(bI9,LF v op f a b c,())else(aC9 v (Ek v.1 op f a b c),0,())
theorem aWv(v:Int×Int×Int×Unit)(op f:Int){a b c:Nat}(ha:a<2^64)(hb:b<2^64)(hc:c<2^64)
  (hw:1<=op->op<=22->∃n w,Od (op,())=some ((n,w,()),0,())/\0<=n/\n<=3/\Vs w (v.1,f,(a:Int),(b:Int),(c:Int),()) (Ek v.1 op f a b c)) :
  VK (v,op,f,(a:Int),(b:Int),(c:Int),())=some (WY v op f a b c):=by
 show yH Uv.pre Uv.F Ob.pre Ob.F Uw.pre Uw.F K7.pre K7.F v op f a b c=_;unfold yH WY;dsimp only;have p0:XK ((v.1,v.2),())=some (LO v,()):=aWs v;rw[bCY p0,bAI p0,aa];by_cases hg:LO v=0
 ·have hz:((LO v:Int)!=0)=false:=by rw[hg];rfl
  rw[hz,ab];by_cases ho:op<1∨op>22
  ·have p1:=bG5 ho;have he:LF v op f a b c=190:=by unfold LF;rw[ag (fun h=>h hg),ah ho]
   rw[aQl p1,uG p1,he];rfl
  ·obtain⟨n,w,p1,hn0,hn3,hd1,hd2⟩:=hw (by omega) (by omega);obtain⟨k,rfl⟩:=cv hn0;have hk:WX op=k:=by unfold WX;rw[uG p1];rfl
   have p2:=aWt v.1 f op w (n:=k) (Int.ofNat_le.1 hn3) ha hb hc;have he:LF v op f a b c=if Pm f op k a b c≠0 then Pm f op k a b c else(Ek v.1 op f a b c).2.2.1:=by
    unfold LF;rw[ag (fun h=>h hg),ag ho,hk]
   rw[he,aQl p1,uG p1,aa];dsimp only;rw[aj,ab,bC0 p2,bAK p2,aa];dsimp only;by_cases hc0:Pm f op k a b c=0
   ·rw[hc0,aj,ab,hd1,hd2,aa,ag (show ¬((0:Int)≠0) by decide)];by_cases hr:(Ek v.1 op f a b c).2.2.1=0
    ·rw[hr,aj,ab,ag (show ¬((0:Int)≠0) by decide)];unfold aC9;by_cases ht:BR .i64 (Ek v.1 op f a b c).2.1 v.2.2.1=0
     ·rw[ht,aj,ab,ag (show ¬((0:Int)≠0) by decide)]
     ·rw[ah ht,bne_iff_ne.2 ht];rfl
    ·rw[ah hr,bne_iff_ne.2 hr];rfl
   ·rw[ah hc0,ah hc0,bne_iff_ne.2 hc0];rfl
 ·have he:LF v op f a b c=LO v:=by unfold LF;rw[ah hg]
  rw[he,ah hg,bne_iff_ne.2 hg];rfl
end VL
namespace VL
open Go Vx
theorem bIZ(m f:Int){op:Int}(h:op=1∨op=2∨op=3∨op=4){a b c:Nat}(ha:a<2^64)(hb:b<2^64):
  ∃n w,Od (op,())=some ((n,w,()),0,())/\0<=n/\n<=3/\Vs w (m,f,(a:Int),(b:Int),(c:Int),()) (Ek m op f a b c):=by
 obtain⟨w1,w2,w3,w4⟩:=bI0 m f ha hb (c:Int);rcases h with rfl|rfl|rfl|rfl
 ·exact⟨2,some (192,[158+2]),Vk (by decide) (by decide) (by kernel_rfl),by decide,by decide,w1⟩
 ·exact⟨2,some (192,[159+2]),Vk (by decide) (by decide) (by kernel_rfl),by decide,by decide,w2⟩
 ·exact⟨2,some (192,[160+2]),Vk (by decide) (by decide) (by kernel_rfl),by decide,by decide,w3⟩
 ·exact⟨2,some (192,[161+2]),Vk (by decide) (by decide) (by kernel_rfl),by decide,by decide,w4⟩
theorem aWu(v:Int×Int×Int×Unit){op:Int}(h:op=1∨op=2∨op=3∨op=4)(f:Int){a b c:Nat}(ha:a<2^64)(hb:b<2^64)(hc:c<2^64):
  VK (v,op,f,(a:Int),(b:Int),(c:Int),())=some (WY v op f a b c):=aWv v op f ha hb hc (fun _ _=>bIZ v.1 f h ha hb)
theorem vL{op n:Int}{w:Option (Nat×List Nat)}(p:Od (op,())=some ((n,w,()),0,())):WX op=n.toNat:=by
 unfold WX;rw[uG p]
theorem bGR{op:Int}(h:op=1∨op=2∨op=3∨op=4):WX op=2:=by
 rcases h with rfl|rfl|rfl|rfl
 ·exact vL (n:=2) (w:=some (192,[158+2])) (Vk (by decide) (by decide) (by kernel_rfl))
 ·exact vL (n:=2) (w:=some (192,[159+2])) (Vk (by decide) (by decide) (by kernel_rfl))
 ·exact vL (n:=2) (w:=some (192,[160+2])) (Vk (by decide) (by decide) (by kernel_rfl))
 ·exact vL (n:=2) (w:=some (192,[161+2])) (Vk (by decide) (by decide) (by kernel_rfl))
end VL
namespace VL
open Go Vx
def Nr(f:Int)(y:Int×Int×Int×Unit):Prop:=∃x:Nat,y.1=(x:Int)/\Ai f x=0/\y.2.2.1=0
theorem Ns{f:Int}{c:Bool}{x y:Int×Int×Int×Unit}(hx:Nr f x)(hy:Nr f y):Nr f (bif c then x else y):=by
 cases c
 ·exact hy
 ·exact hx
theorem Hy{f:Int}{x:Nat}{g:Int}(h:Ai f x=0):Nr f ((x:Int),g,0,()):=⟨x,rfl,h,rfl⟩
theorem aL4{f m:Int}(hf:Fm f)(hm:0<=m/\m<=5){a b:Nat}(ha:Ai f a=0)(hb:Ai f b=0):Nr f (HR f m a b):=by
 unfold HR;rw[ah hf,ah hm,ah ⟨ha,hb⟩,aYh];exact Hy (aYg hf hm ha hb)
theorem bIv{f m:Int}(hf:Fm f)(hm:0<=m/\m<=5){a b:Nat}(ha:Ai f a=0)(hb:Ai f b=0):Nr f (JY f m a b):=by
 unfold JY;rw[ah hb];exact aL4 hf hm ha (uX hf b)
theorem bBF{f m:Int}(hf:Fm f)(hm:0<=m/\m<=5){a b:Nat}(ha:Ai f a=0)(hb:Ai f b=0):Nr f (JS f m a b):=by
 unfold JS;rw[ag (show ¬¬Fm f from fun h=>h hf),ag (by omega),ag (fun h=>h ha),ag (fun h=>h hb)];unfold WH;exact Ns (Hy (iK hf).2) (Ns (Hy (iK hf).2) (Ns (Hy (aD2 hf _).1) (Ns (Hy (aS5 hf _).1) (Hy (aEM hf _ _ _ _)))))
theorem aZ0{f m:Int}(hf:Fm f)(hm:0<=m/\m<=5){a b:Nat}(ha:Ai f a=0)(hb:Ai f b=0):Nr f (Pq f m a b):=by
 unfold Pq;rw[ag (show ¬¬Fm f from fun h=>h hf),ag (by omega),ag (fun h=>h ha),ag (fun h=>h hb)];unfold gB;refine Ns (Hy (iK hf).2) (Ns (Hy (iK hf).2) (Ns (Hy (aD2 hf _).1) (Ns (Hy (aD2 hf _).1) (Ns (Hy (aS5 hf _).1) (Hy ?_)))));unfold HX LZ;split
 ·exact aEM hf _ _ _ _
 ·exact aEM hf _ _ _ _
def Ia(op:Int):Prop:=op=1∨op=2∨op=3∨op=4
theorem bAq{f m:Int}(hf:Fm f)(hm:0<=m/\m<=5){op:Int}(h:Ia op){a b:Nat}(ha:Ai f a=0)(hb:Ai f b=0):Nr f (Ek m op f a b 0):=by
 rcases h with rfl|rfl|rfl|rfl
 ·exact aL4 hf hm ha hb
 ·exact bIv hf hm ha hb
 ·exact bBF hf hm ha hb
 ·exact aZ0 hf hm ha hb
theorem Wj{f:Int}(hf:Fm f){a:Nat}(ha:Ai f a=0):a<2^64:=by
 have h1:=(Fz ha).2;have h2:fW f<=64:=EG hf;exact az h1 (ax (by decide) h2)
def AC(f m op:Int)(a b:Nat):Nat:=(Ek m op f a b 0).1.toNat
def AA(f m op:Int)(a b:Nat):Int:=(Ek m op f a b 0).2.1
theorem Vp{f m:Int}(hf:Fm f)(hm:0<=m/\m<=5){op:Int}(h:Ia op){a b:Nat}(ha:Ai f a=0)(hb:Ai f b=0):
  Ai f (AC f m op a b)=0/\(Ek m op f a b 0).1=((AC f m op a b:Nat):Int)/\(Ek m op f a b 0).2.2.1=0:=by
 obtain⟨x,h1,h2,h3⟩:=bAq hf hm h ha hb;have e:AC f m op a b=x:=by unfold AC;rw[h1];rfl
 rw[e];exact⟨h2,h1,h3⟩
theorem bG9{f m:Int}(hf:Fm f)(hm:0<=m/\m<=5){op:Int}(h:Ia op){a b:Nat}(ha:Ai f a=0)(hb:Ai f b=0):
  WY (m,0,0,()) op f a b 0=((((AC f m op a b:Nat):Int),AA f m op a b,0,(m,Ao .i64 0 (AA f m op a b),0,()),()),0,()):=by
 obtain⟨h1,h2,h3⟩:=Vp hf hm h ha hb;have hc:Pm f op 2 a b 0=0:=by
  unfold Pm;have hop:¬op=10/\¬op=11/\¬op=12:=by unfold Ia at h;omega
  have hA:G4 f ([a,b,0].take 2)=0:=by
   show(if Ai f a≠0 then Ai f a else if Ai f b≠0 then Ai f b else 0)=0;rw[ag (fun x=>x ha),ag (fun x=>x hb)]
  rw[ag (show ¬¬Fm f from fun h=>h hf),ag (fun x=>hop.1 x.1),ag (fun x=>x.1.elim hop.2.1 hop.2.2),ag (fun x=>x hA),beq_false_of_ne hop.2.2];rfl
 have hg:LO (m,0,0,())=0:=by
  unfold LO;rw[ag (by show ¬(m<0∨m>5);omega)];have h0:CI 0=true:=by decide +kernel
  show(if(CI 0&&CI 0)=true then(0:Int)else 7)=0;rw[h0];rfl
 have he:LF (m,0,0,()) op f a b 0=0:=by
  unfold LF;rw[ag (fun x=>x hg),ag (by unfold Ia at h;omega),bGR h,ag (fun x=>x hc)];exact h3
 unfold WY;rw[ag (fun x=>x he)];unfold aC9;have hz:BR .i64 (Ek m op f a b 0).2.1 0=0:=by
  unfold BR;have:dh 64 (0:Int)=0#64:=rfl;show al .i64 ((dh 64 (Ek m op f a b 0).2.1 &&& dh 64 0).toNat:Int)=0;rw[this,BitVec.and_zero];rfl
 have hz':¬(BR .i64 (Ek (m,(0:Int),(0:Int),()).1 op f a b 0).2.1 (m,(0:Int),(0:Int),()).2.2.1≠0):=fun x=>x hz;rw[ag hz'];dsimp only;rw[h2];rfl
abbrev St3:=Int×Int×Int×Unit
theorem oI{f m:Int}(hf:Fm f)(hm:0<=m/\m<=5)(g:Int){op:Int}(h:Ia op){a b:Nat}(ha:Ai f a=0)(hb:Ai f b=0):
  oH ((f,m,g,()),op,(a:Int),(b:Int),())=some ((f,m,Ao .i64 g (AA f m op a b),()),((AC f m op a b:Nat):Int),()):=by
 have p:VK ((m,0,0,()),op,f,(a:Int),(b:Int),((0:Nat):Int),())=_:=aWu (m,0,0,()) h f (Wj hf ha) (Wj hf hb) (by decide);rw[bG9 hf hm h ha hb]at p;have p':VK ((m,0,0,()),op,f,(a:Int),(b:Int),(0:Int),())=_:=p;show yI Ux.pre Ux.F (f,m,g,()) op (a:Int) (b:Int)=_;unfold yI;dsimp only;simp only[aZc p',aa]
end VL
namespace VL
open Go Vx
abbrev AM:=Nat×Nat
def cI(x:AM):Int×Int×Unit:=((x.1:Int),(x.2:Int),())
def Ch(f:Int)(x:AM):Prop:=Ai f x.1=0/\Ai f x.2=0
section
variable {f m:Int}(hf:Fm f)(hm:0<=m/\m<=5)(g:Int)
include hf hm
theorem Lg{a b:Nat}(ha:Ai f a=0)(hb:Ai f b=0):oJ ((f,m,g,()),(a:Int),(b:Int),())=some ((f,m,Ao .i64 g (AA f m 3 a b),()),((AC f m 3 a b:Nat):Int),()):=by
 have p:=oI hf hm g (op:=3) (.inr (.inr (.inl rfl))) ha hb;show yJ Dj.pre Dj.F (f,m,g,()) (a:Int) (b:Int)=_;unfold yJ;dsimp only;simp only[tF p,aa]
theorem aIb{a b:Nat}(ha:Ai f a=0)(hb:Ai f b=0):oK ((f,m,g,()),(a:Int),(b:Int),())=some ((f,m,Ao .i64 g (AA f m 2 a b),()),((AC f m 2 a b:Nat):Int),()):=by
 have p:=oI hf hm g (op:=2) (.inr (.inl rfl)) ha hb;show yK Dj.pre Dj.F (f,m,g,()) (a:Int) (b:Int)=_;unfold yK;dsimp only;simp only[tF p,aa]
theorem cR{a b:Nat}(ha:Ai f a=0)(hb:Ai f b=0):oL ((f,m,g,()),(a:Int),(b:Int),())=some ((f,m,Ao .i64 g (AA f m 1 a b),()),((AC f m 1 a b:Nat):Int),()):=by
 have p:=oI hf hm g (op:=1) (.inl rfl) ha hb;show yL Dj.pre Dj.F (f,m,g,()) (a:Int) (b:Int)=_;unfold yL;dsimp only;simp only[tF p,aa]
theorem aId{a b:Nat}(ha:Ai f a=0)(hb:Ai f b=0):oP ((f,m,g,()),(a:Int),(b:Int),())=some ((f,m,Ao .i64 g (AA f m 4 a b),()),((AC f m 4 a b:Nat):Int),()):=by
 have p:=oI hf hm g (op:=4) (.inr (.inr (.inr rfl))) ha hb;show yP Dj.pre Dj.F (f,m,g,()) (a:Int) (b:Int)=_;unfold yP;dsimp only;simp only[tF p,aa]
end
section
variable (f m:Int)
def JU(g:Int):List (Int×Nat×Nat)->Int
 | []=>g
 |s::l=>JU (Ao .i64 g (AA f m s.1 s.2.1 s.2.2)) l
def vZ(x y:AM):AM:=(AC f m 1 x.1 y.1,AC f m 1 x.2 y.2)
def aE1(x y:AM):List (Int×Nat×Nat):=[(1,x.1,y.1),(1,x.2,y.2)]
def WQ(x y:AM):AM:=(AC f m 2 (AC f m 3 x.1 y.1) (AC f m 3 x.2 y.2),AC f m 1 (AC f m 3 x.1 y.2) (AC f m 3 x.2 y.1))
def WR(x y:AM):List (Int×Nat×Nat):=[(3,x.1,y.1),(3,x.2,y.2),(3,x.1,y.2),(3,x.2,y.1),(2,AC f m 3 x.1 y.1,AC f m 3 x.2 y.2),(1,AC f m 3 x.1 y.2,AC f m 3 x.2 y.1)]
def vG(y:AM):Nat:=AC f m 1 (AC f m 3 y.1 y.1) (AC f m 3 y.2 y.2)
def aQu(x y:AM):Nat:=AC f m 1 (AC f m 3 x.1 y.1) (AC f m 3 x.2 y.2)
def aQv(x y:AM):Nat:=AC f m 2 (AC f m 3 x.2 y.1) (AC f m 3 x.1 y.2)
def vF(x y:AM):AM:=(AC f m 4 (aQu f m x y) (vG f m y),AC f m 4 (aQv f m x y) (vG f m y))
def aEG(x y:AM):List (Int×Nat×Nat):=[(3,y.1,y.1),(3,y.2,y.2),(1,AC f m 3 y.1 y.1,AC f m 3 y.2 y.2),(3,x.1,y.1),(3,x.2,y.2),(1,AC f m 3 x.1 y.1,AC f m 3 x.2 y.2),(3,x.2,y.1),(3,x.1,y.2),(2,AC f m 3 x.2 y.1,AC f m 3 x.1 y.2),(4,aQu f m x y,vG f m y),(4,aQv f m x y,vG f m y)]
end
theorem Vo{f m:Int}(hf:Fm f)(hm:0<=m/\m<=5){a b:Nat}(ha:Ai f a=0)(hb:Ai f b=0):Ai f (AC f m 1 a b)=0:=(Vp hf hm (.inl rfl) ha hb).1
theorem st2{f m:Int}(hf:Fm f)(hm:0<=m/\m<=5){a b:Nat}(ha:Ai f a=0)(hb:Ai f b=0):Ai f (AC f m 2 a b)=0:=(Vp hf hm (.inr (.inl rfl)) ha hb).1
theorem Gg{f m:Int}(hf:Fm f)(hm:0<=m/\m<=5){a b:Nat}(ha:Ai f a=0)(hb:Ai f b=0):Ai f (AC f m 3 a b)=0:=(Vp hf hm (.inr (.inr (.inl rfl))) ha hb).1
theorem st4{f m:Int}(hf:Fm f)(hm:0<=m/\m<=5){a b:Nat}(ha:Ai f a=0)(hb:Ai f b=0):Ai f (AC f m 4 a b)=0:=(Vp hf hm (.inr (.inr (.inr rfl))) ha hb).1
theorem aBb{f m:Int}(hf:Fm f)(hm:0<=m/\m<=5)(g:Int){x y:AM}(hx:Ch f x)(hy:Ch f y):
  oS ((f,m,g,()),cI x,cI y,())=some ((f,m,JU f m g (aE1 x y),()),cI (vZ f m x y),())/\Ch f (vZ f m x y):=by
 refine⟨?_,Vo hf hm hx.1 hy.1,Vo hf hm hx.2 hy.2⟩;have p1:=cR hf hm g hx.1 hy.1;have p2:=cR hf hm (Ao .i64 g (AA f m 1 x.1 y.1)) hx.2 hy.2;show yT Es.pre Es.F (f,m,g,()) (cI x) (cI y)=_;unfold yT cI;dsimp only;simp only[fU p1,fU p2,aa];rfl
theorem oN{f m:Int}(hf:Fm f)(hm:0<=m/\m<=5)(g:Int){x y:AM}(hx:Ch f x)(hy:Ch f y):
  oM ((f,m,g,()),cI x,cI y,())=some ((f,m,JU f m g (WR f m x y),()),cI (WQ f m x y),())/\Ch f (WQ f m x y):=by
 have q1:=Gg hf hm hx.1 hy.1;have q2:=Gg hf hm hx.2 hy.2;have q3:=Gg hf hm hx.1 hy.2;have q4:=Gg hf hm hx.2 hy.1;refine⟨?_,st2 hf hm q1 q2,Vo hf hm q3 q4⟩;have p1:=Lg hf hm g hx.1 hy.1;have p2:=Lg hf hm (Ao .i64 g (AA f m 3 x.1 y.1)) hx.2 hy.2;have p3:=Lg hf hm (Ao .i64 (Ao .i64 g (AA f m 3 x.1 y.1)) (AA f m 3 x.2 y.2)) hx.1 hy.2;have p4:=Lg hf hm (Ao .i64 (Ao .i64 (Ao .i64 g (AA f m 3 x.1 y.1)) (AA f m 3 x.2 y.2)) (AA f m 3 x.1 y.2)) hx.2 hy.1;have p5:=aIb hf hm (Ao .i64 (Ao .i64 (Ao .i64 (Ao .i64 g (AA f m 3 x.1 y.1)) (AA f m 3 x.2 y.2)) (AA f m 3 x.1 y.2)) (AA f m 3 x.2 y.1)) q1 q2;have p6:=cR hf hm (Ao .i64 (Ao .i64 (Ao .i64 (Ao .i64 (Ao .i64 g (AA f m 3 x.1 y.1)) (AA f m 3 x.2 y.2)) (AA f m 3 x.1 y.2)) (AA f m 3 x.2 y.1)) (AA f m 2 (AC f m 3 x.1 y.1) (AC f m 3 x.2 y.2))) q3 q4;show yM GS.pre GS.F GT.pre GT.F Es.pre Es.F (f,m,g,()) (cI x) (cI y)=_;unfold yM cI;dsimp only;simp only[LC p1,LC p2,LC p3,LC p4,aMO p5,fU p6,aa];rfl
end VL
namespace VL
open Go Vx
theorem aXf(a b p:List Nat)(ha:∀x∈a,x<2^32)(hb:∀x∈b,x<2^32)(hn:b.length<=100000){i:Nat}(hi:i<a.length)(hal:a.length<=100000)(hpl:i+b.length<=p.length)(hpn:p.length<=300000)(hpd:∀z∈p,z<2^32)
  (hz:∀k,i+b.length<=k->p.getD k 0=0) :
  ∃(p':List Nat) (c:Nat),p'.length=p.length/\(∀z∈p',z<2^32)/\c<2^32/\nv (2^32) p'+(2^32)^(i+b.length)*c=nv (2^32) p+(2^32)^i*(a.getD i 0*nv (2^32) b)/\(∀k,i+b.length<=k->p'.getD k 0=0) /\
   UM (((0:Int),((0:Int),((i:Int),(Wd a,(Wd b,((),())))))),(Wd p,()))=some (.inl (((c:Int),((i:Int),(Wd a,(Wd b,((),()))))),(Wd p',()))):=by
 have hx:=B0 (by decide) ha i;have hga:(Wd a).getD i 0=((a.getD i 0:Nat):Int):=BM a i;generalize a.getD i 0=x at *
 have key:=PL (aPz Aq.pre Aq.F) (fun s=>b.length-s.1.1.toNat)
  (fun s=>∃(j:Nat) (p':List Nat) (c:Nat),j<=b.length/\p'.length=p.length/\(∀z∈p',z<2^32)/\c<2^32/\nv (2^32) p'+(2^32)^(i+j)*c=nv (2^32) p+(2^32)^i*(x*nv (2^32) (b.take j))/\(∀k,i+b.length<=k->p'.getD k 0=0) /\
   s=(((j:Int),((c:Int),((i:Int),(Wd a,(Wd b,((),())))))),(Wd p',())))
  (fun y=>∃(p':List Nat) (c:Nat),p'.length=p.length/\(∀z∈p',z<2^32)/\c<2^32/\nv (2^32) p'+(2^32)^(i+b.length)*c=nv (2^32) p+(2^32)^i*(x*nv (2^32) b)/\(∀k,i+b.length<=k->p'.getD k 0=0) /\
   y=.inl (((c:Int),((i:Int),(Wd a,(Wd b,((),()))))),(Wd p',()))) ?_
  (((0:Int),((0:Int),((i:Int),(Wd a,(Wd b,((),())))))),(Wd p,()))
  ⟨0,p,0,dv _,rfl,hpd,by decide,by simp[nv],hz,rfl⟩
 ·obtain⟨y,hy,p',c,k1,k2,k3,k4,k5,rfl⟩:=key;exact⟨p',c,k1,k2,k3,k4,k5,hy⟩
 intro L s hs hL;obtain⟨j,q,c,hj,hql,hqd,hc,hinv,hqz,rfl⟩:=hs;unfold Y6;rcases bc j b.length with hlt|hge
 ·have hy:=B0 (by decide) hb j;have hp:=B0 (by decide) hqd (i+j);have hnb:=Dg (2^32) b j;have hgb:(Wd b).getD j 0=((b.getD j 0:Nat):Int):=BM b j;have hgq:(Wd q).getD (i+j) 0=((q.getD (i+j) 0:Nat):Int):=BM q _;have hst:=fun z=>ZP (2^32) q (i+j) z (by omega);generalize b.getD j 0=y at *
  generalize hqe:q.getD (i+j) 0=d at *
  have hxy:x*y<=(2^32-1)*(2^32-1):=Nat.mul_le_mul (by omega) (by omega);have f1:=jD x y (by omega);have f2:=DL d (x*y) (by omega);have f3:=DL (d+x*y) c (by omega);have f4:=WT (d+x*y+c) (by omega);have f5:=PX (d+x*y+c);have hl:(d+x*y+c)%2^32<2^32:=cn _ (by decide);have hh:(d+x*y+c)/2^32<2^32:=by omega
  have e0:decide ((j:Int)<(b.length:Int))=true:=ae (by omega);have e1:decide ((0:Int)<=(j:Int))=true:=ae (by omega);have e2:al .i64 ((i:Int)+(j:Int))=((i+j:Nat):Int):=by rw[Au (by omega)];omega
  have e3:al .i64 ((j:Int)+1)=((j+1:Nat):Int):=by rw[Au (by omega)];omega
  have e4:decide ((0:Int)<=((i+j:Nat):Int))=true:=ae (by omega);have e5:decide ((0:Int)<=(i:Int))=true:=ae (by omega);have e6:decide ((i:Int)<(a.length:Int))=true:=ae (by omega);have e7:decide (((i+j:Nat):Int)<(q.length:Int))=true:=ae (by omega);dsimp only;simp only[e0,e1,e2,e3,e4,e5,e6,e7,aa,ba,Ay,ao,hga,hgb,hgq,f1,f2,f3,f4,f5,Dz];refine hL _ ⟨j+1,q.set (i+j) ((d+x*y+c)%2^32),(d+x*y+c)/2^32,by omega,by rw[jj];exact hql,aPK hqd hl,hh,?_,?_,rfl⟩ (by simp only[ao];omega)
  ·have h1:=hst ((d+x*y+c)%2^32);rw[hnb,show i+(j+1)=i+j+1 by omega,bCP,ck x,ck ((2^32)^i),Nat.mul_left_comm x,←bu ((2^32)^i) ((2^32)^j),←ca];have h2:(2^32)^(i+j)*(d+x*y+c)=(2^32)^(i+j)*(2^32*((d+x*y+c)/2^32)+(d+x*y+c)%2^32):=by rw[Nat.div_add_mod]
   generalize(d+x*y+c)%2^32=o at *
   generalize(d+x*y+c)/2^32=c' at *
   generalize x*y=z at *
   rw[ck,ck,ck,←bu ((2^32)^(i+j)) (2^32)]at h2;omega
  ·intro k hk;rw[gQ (by omega)];exact hqz k hk
 ·have e:j=b.length:=by omega
  subst e;have e0:decide ((b.length:Int)<(b.length:Int))=false:=af (by omega);dsimp only;simp only[Ay,e0,ab];rw[dw]at hinv;exact⟨_,rfl,q,c,hql,hqd,hc,hinv,hqz,rfl⟩
theorem aXe(a b:List Nat)(ha:∀x∈a,x<2^32)(hb:∀x∈b,x<2^32)(hna:a.length<=100000)(hnb:b.length<=100000):
  ∃p:List Nat,p.length=a.length+b.length/\(∀z∈p,z<2^32)/\nv (2^32) p=nv (2^32) a*nv (2^32) b /\
   qW (((Wd a,(Wd b,((0:Int),((),())))),(Wd (bd (a.length+b.length) 0),())):GE.D)=some (.inl (((),()),(Wd p,()))):=by
 have key:=PL (aPy Aq.pre Aq.F UM) (fun s=>a.length-s.1.2.2.1.toNat)
  (fun s=>∃(i:Nat) (p:List Nat),i<=a.length/\p.length=a.length+b.length/\(∀z∈p,z<2^32)/\nv (2^32) p=nv (2^32) (a.take i)*nv (2^32) b/\(∀k,i+b.length<=k->p.getD k 0=0) /\
   s=((Wd a,(Wd b,((i:Int),((),())))),(Wd p,())))
  (fun y=>∃p:List Nat,p.length=a.length+b.length/\(∀z∈p,z<2^32)/\nv (2^32) p=nv (2^32) a*nv (2^32) b/\y=.inl (((),()),(Wd p,()))) ?_
  ((Wd a,(Wd b,((0:Int),((),())))),(Wd (bd (a.length+b.length) 0),()))
  ⟨0,bd (a.length+b.length) 0,dv _,by simp,(fun z hz=>by have:=(List.mem_replicate.1 hz).2;omega),by rw[u6];simp[nv],(fun k _=>bGU _ _),rfl⟩
 ·obtain⟨y,hy,p,k1,k2,k3,rfl⟩:=key;exact⟨p,k1,k2,k3,hy⟩
 intro L s hs hL;obtain⟨i,p,hi,hpl,hpd,hinv,hz,rfl⟩:=hs;unfold Y5;rcases bc i a.length with hlt|hge
 ·have hna':=Dg (2^32) a i;obtain⟨p',c,k1,k2,k3,k4,k5,k6⟩:=aXf a b p ha hb hnb (i:=i) hlt hna (by omega) (by omega) hpd hz;have e0:decide ((i:Int)<(a.length:Int))=true:=ae (by omega);have e2:al .i64 ((i:Int)+(b.length:Int))=((i+b.length:Nat):Int):=by rw[Au (by omega)];omega
  have e3:al .i64 ((i:Int)+1)=((i+1:Nat):Int):=by rw[Au (by omega)];omega
  have e4:decide ((0:Int)<=((i+b.length:Nat):Int))=true:=ae (by omega);have e5:decide (((i+b.length:Nat):Int)<(p'.length:Int))=true:=ae (by omega);have hgp:(Wd p').getD (i+b.length) 0=((0:Nat):Int):=by rw[BM,k5 _ (ci _)]
  have f1:al .u64 (((0:Nat):Int)+(c:Int))=(c:Int):=by rw[DL 0 c (by omega),dj]
  dsimp only;simp only[e0,aa,Ay];rw[k6];dsimp only[AQ,AP];simp only[e2,e3,e4,e5,ba,aa,Ay,ao,hgp,f1,Dz];refine hL _ ⟨i+1,p'.set (i+b.length) c,by omega,by rw[jj];omega,aPK k2 k3,?_,?_,rfl⟩ (by simp only[ao];omega)
  ·have h1:=ZP (2^32) p' (i+b.length) c (by omega);rw[k5 _ (ci _),fu,dp]at h1;rw[h1,k4,hinv,hna',Nat.add_mul,bu]
  ·intro k hk;rw[gQ (by omega)];exact k5 k (by omega)
 ·have e:i=a.length:=by omega
  subst e;have e0:decide ((a.length:Int)<(a.length:Int))=false:=af (by omega);simp only[Ay,e0,ab];rw[dw]at hinv;exact⟨_,rfl,p,hpl,hpd,hinv,rfl⟩
theorem aWB{x y:Nat}(hx:x<2^5000)(hy:y<2^5000):oV (Dh x,Dh y,())=some (Dh (x*y),()):=by
 have l1:(dg (2^32) x).length<=160:=Eg (by decide) 160 x (az hx (by rw[←gn];exact ax (by decide) (by decide)));have l2:(dg (2^32) y).length<=160:=Eg (by decide) 160 y (az hy (by rw[←gn];exact ax (by decide) (by decide)));obtain⟨p,k1,k2,k3,k4⟩:=aXe (dg (2^32) x) (dg (2^32) y) (LI (by decide) x) (LI (by decide) y) (by omega) (by omega);rw[FC,FC]at k3;show yX Aq.pre Aq.F qW UM (Wd (dg (2^32) x)) (Wd (dg (2^32) y))=_;unfold yX;have p0:=VI (l:=p) ⟨k2,by omega⟩ k3;have e0:al .i64 (((dg (2^32) x).length:Int)+((dg (2^32) y).length:Int))=(((dg (2^32) x).length+(dg (2^32) y).length:Nat):Int):=by rw[Au (by omega)];omega
 have e1:(decide ((0:Int)<=(((dg (2^32) x).length+(dg (2^32) y).length:Nat):Int))&&decide ((((dg (2^32) x).length+(dg (2^32) y).length:Nat):Int)*8<=140737488355328))=true:=by
  rw[ae (by omega),ae (by omega)];rfl
 dsimp only;rw[Ay,Ay,e0,e1,aa,ao,Of,k4];dsimp only[AQ,AP];simp only[Yj p0,aa]
end VL
namespace VL
open Go Vx
theorem stM{f m:Int}(hf:Fm f)(hm:0<=m/\m<=5){a b:Nat}(ha:Ai f a=0)(hb:Ai f b=0):Ek m 3 f a b 0=WH f m a b:=by
 show JS f m a b=_;unfold JS;rw[ag (show ¬¬Fm f from fun h=>h hf),ag (by omega),ag (fun h=>h ha),ag (fun h=>h hb)]
end VL
namespace VL
open Go Vx
def Ev(m:Int):Prop:=m≠3/\m≠4
section
variable {f m:Int}(hf:Fm f)(hm:0<=m/\m<=5)
include hf hm
end
section
variable {f m:Int}(hf:Fm f)(hm:0<=m/\m<=5)(he:Ev m)
include hf hm he
end
theorem aS6{f:Int}(hf:Fm f){a:Nat}(h:AX f a=true):Ax f a=false/\nan f a=false:=by
 unfold AX at h;rw[ar,beq_iff_eq,beq_iff_eq]at h;have:=Wx hf;unfold Ax nan;rw[h.1,beq_false_of_ne (show(0:Nat)≠AH f by omega)];exact⟨rfl,rfl⟩
end VL
namespace VL
open Go Vx
theorem aWy{f m:Int}(hf:Fm f)(hm:0<=m/\m<=5)(g:Int){x y:AM}(hx:Ch f x)(hy:Ch f y):
  oQ ((f,m,g,()),cI x,cI y,())=some ((f,m,JU f m g (aEG f m x y),()),cI (vF f m x y),())/\Ch f (vF f m x y):=by
 have q1:=Gg hf hm hy.1 hy.1;have q2:=Gg hf hm hy.2 hy.2;have q3:=Vo hf hm q1 q2;have q4:=Gg hf hm hx.1 hy.1;have q5:=Gg hf hm hx.2 hy.2;have q6:=Vo hf hm q4 q5;have q7:=Gg hf hm hx.2 hy.1;have q8:=Gg hf hm hx.1 hy.2;have q9:=st2 hf hm q7 q8;have q10:=st4 hf hm q6 q3;have q11:=st4 hf hm q9 q3;refine⟨?_,q10,q11⟩;have p1:=Lg hf hm g hy.1 hy.1;have p2:=Lg hf hm (Ao .i64 g (AA f m 3 y.1 y.1)) hy.2 hy.2;have p3:=cR hf hm (Ao .i64 (Ao .i64 g (AA f m 3 y.1 y.1)) (AA f m 3 y.2 y.2)) q1 q2;have p4:=Lg hf hm (Ao .i64 (Ao .i64 (Ao .i64 g (AA f m 3 y.1 y.1)) (AA f m 3 y.2 y.2)) (AA f m 1 (AC f m 3 y.1 y.1) (AC f m 3 y.2 y.2))) hx.1 hy.1;have p5:=Lg hf hm (Ao .i64 (Ao .i64 (Ao .i64 (Ao .i64 g (AA f m 3 y.1 y.1)) (AA f m 3 y.2 y.2)) (AA f m 1 (AC f m 3 y.1 y.1) (AC f m 3 y.2 y.2))) (AA f m 3 x.1 y.1)) hx.2 hy.2;have p6:=cR hf hm (Ao .i64 (Ao .i64 (Ao .i64 (Ao .i64 (Ao .i64 g (AA f m 3 y.1 y.1)) (AA f m 3 y.2 y.2)) (AA f m 1 (AC f m 3 y.1 y.1) (AC f m 3 y.2 y.2))) (AA f m 3 x.1 y.1)) (AA f m 3 x.2 y.2)) q4 q5;have p7:=Lg hf hm (Ao .i64 (Ao .i64 (Ao .i64 (Ao .i64 (Ao .i64 (Ao .i64 g (AA f m 3 y.1 y.1)) (AA f m 3 y.2 y.2)) (AA f m 1 (AC f m 3 y.1 y.1) (AC f m 3 y.2 y.2))) (AA f m 3 x.1 y.1)) (AA f m 3 x.2 y.2)) (AA f m 1 (AC f m 3 x.1 y.1) (AC f m 3 x.2 y.2))) hx.2 hy.1;have p8:=Lg hf hm (Ao .i64 (Ao .i64 (Ao .i64 (Ao .i64 (Ao .i64 (Ao .i64 (Ao .i64 g (AA f m 3 y.1 y.1)) (AA f m 3 y.2 y.2)) (AA f m 1 (AC f m 3 y.1 y.1) (AC f m 3 y.2 y.2))) (AA f m 3 x.1 y.1)) (AA f m 3 x.2 y.2)) (AA f m 1 (AC f m 3 x.1 y.1) (AC f m 3 x.2 y.2))) (AA f m 3 x.2 y.1)) hx.1 hy.2;have p9:=aIb hf hm (Ao .i64 (Ao .i64 (Ao .i64 (Ao .i64 (Ao .i64 (Ao .i64 (Ao .i64 (Ao .i64 g (AA f m 3 y.1 y.1)) (AA f m 3 y.2 y.2)) (AA f m 1 (AC f m 3 y.1 y.1) (AC f m 3 y.2 y.2))) (AA f m 3 x.1 y.1)) (AA f m 3 x.2 y.2)) (AA f m 1 (AC f m 3 x.1 y.1) (AC f m 3 x.2 y.2))) (AA f m 3 x.2 y.1)) (AA f m 3 x.1 y.2)) q7 q8;have p10:=aId hf hm (Ao .i64 (Ao .i64 (Ao .i64 (Ao .i64 (Ao .i64 (Ao .i64 (Ao .i64 (Ao .i64 (Ao .i64 g (AA f m 3 y.1 y.1)) (AA f m 3 y.2 y.2)) (AA f m 1 (AC f m 3 y.1 y.1) (AC f m 3 y.2 y.2))) (AA f m 3 x.1 y.1)) (AA f m 3 x.2 y.2)) (AA f m 1 (AC f m 3 x.1 y.1) (AC f m 3 x.2 y.2))) (AA f m 3 x.2 y.1)) (AA f m 3 x.1 y.2)) (AA f m 2 (AC f m 3 x.2 y.1) (AC f m 3 x.1 y.2))) q6 q3;have p11:=aId hf hm (Ao .i64 (Ao .i64 (Ao .i64 (Ao .i64 (Ao .i64 (Ao .i64 (Ao .i64 (Ao .i64 (Ao .i64 (Ao .i64 g (AA f m 3 y.1 y.1)) (AA f m 3 y.2 y.2)) (AA f m 1 (AC f m 3 y.1 y.1) (AC f m 3 y.2 y.2))) (AA f m 3 x.1 y.1)) (AA f m 3 x.2 y.2)) (AA f m 1 (AC f m 3 x.1 y.1) (AC f m 3 x.2 y.2))) (AA f m 3 x.2 y.1)) (AA f m 3 x.1 y.2)) (AA f m 2 (AC f m 3 x.2 y.1) (AC f m 3 x.1 y.2))) (AA f m 4 (AC f m 1 (AC f m 3 x.1 y.1) (AC f m 3 x.2 y.2)) (AC f m 1 (AC f m 3 y.1 y.1) (AC f m 3 y.2 y.2)))) q9 q3;show yQ Es.pre Es.F GS.pre GS.F GT.pre GT.F Uz.pre Uz.F (f,m,g,()) (cI x) (cI y)=_;unfold yQ cI;dsimp only;simp only[LC p1,LC p2,fU p3,LC p4,LC p5,fU p6,LC p7,LC p8,aMO p9,aMQ p10,aMQ p11,aa];rfl
abbrev XI:=Int×Int×Unit
def BN(f:Int)(l:List AM):Bool:=l.all fun x=>Ai f x.1==0&&Ai f x.2==0
theorem aXc(s:St3)(l:List AM)(hl:∀x∈l,x.1<2^64/\x.2<2^64)(hlen:l.length<2^63):
  dI (((l.length:Int),l.map cI,(),(0:Int),()),s,())=some (if BN s.1 l=true then .inl ((),s,())else .inr (((4:Int),()),s,())):=by
 have key:=Cx (aPw Av.pre Av.F) (fun x=>l.length-x.1.2.2.2.1.toNat)
  (fun x=>∃i:Nat,i<=l.length/\BN s.1 (l.drop i)=BN s.1 l/\x=(((l.length:Int),l.map cI,(),(i:Int),()),s,()))
  (fun _=>if BN s.1 l=true then .inl ((),s,())else .inr (((4:Int),()),s,())) ?_ _ ⟨0,dv _,rfl,rfl⟩
 ·exact key
 intro L x hx hL;obtain⟨i,hi,hok,rfl⟩:=hx;unfold Y3;rcases bc i l.length with hlt|hge
 ·have hg:(l.map cI).getD i ((0:Int),(0:Int),())=cI l[i]:=by simp[aw,hlt]
  obtain⟨h1,h2⟩:=hl _ (jd hlt);have p0:=Lh s.1 l[i].1 h1;have p1:=Lh s.1 l[i].2 h2;have e0:decide ((i:Int)<(l.length:Int))=true:=ae (by omega);have e2:decide ((0:Int)<=(i:Int))=true:=ae (by omega);have e1:decide ((i:Int)<(((l.map cI).length:Nat):Int))=true:=by rw[cp];exact e0
  have e3:al .i64 ((i:Int)+1)=((i+1:Nat):Int):=by rw[Au (by omega)];omega
  have hN:L (((l.length:Int),l.map cI,(),((i+1:Nat):Int),()),s,())=some (if BN s.1 (l.drop (i+1))=true then .inl ((),s,())else .inr (((4:Int),()),s,()))∨BN s.1 (l.drop (i+1))≠BN s.1 l:=by
   by_cases h:BN s.1 (l.drop (i+1))=BN s.1 l
   ·left;rw[h];exact hL _ ⟨i+1,by omega,h,rfl⟩ (by simp only[ao];omega)
   ·exact .inr h
  rw[dr hlt]at hok;have hok':((Ai s.1 l[i].1==0&&Ai s.1 l[i].2==0)&&BN s.1 (l.drop (i+1)))=BN s.1 l:=hok;dsimp only;simp only[e0,e1,e2,e3,ao,hg,cI,JF p0,JF p1,aa,bg,ba];by_cases c1:Ai s.1 l[i].1=0
  ·by_cases c2:Ai s.1 l[i].2=0
   ·rw[c1,c2]at hok' ⊢;have h3:BN s.1 (l.drop (i+1))=BN s.1 l:=hok';rcases hN with hN|hN
    ·simp only[aj,bj,ab];rw[hN,h3]
    ·exact absurd h3 hN
   ·rw[beq_false_of_ne c2,be,ay]at hok';rw[←hok',c1,aj,bm,bne_iff_ne.2 c2];rfl
  ·rw[beq_false_of_ne c1,ay,ay]at hok';rw[←hok',bne_iff_ne.2 c1];rfl
 ·have e:i=l.length:=by omega
  subst e;rw[gf]at hok;have e0:decide ((l.length:Int)<(l.length:Int))=false:=af (by omega);simp only[e0,ab];rw[←hok];rfl
theorem oO(s:St3)(l:List AM)(hl:∀x∈l,x.1<2^64/\x.2<2^64)(hlen:l.length<2^63):
  Jr (s,l.map cI,())=some (s,(if BN s.1 l=true then(0:Int)else 4),()):=by
 show yN Av.pre Av.F dI s (l.map cI)=_;unfold yN;have hw:=aXc s l hl hlen;rw[cp];have hw':dI (((l.length:Int),l.map cI,(),(0:Int),()),(s.1,s.2),())=_:=hw;rw[hw'];by_cases h:BN s.1 l=true
 ·rw[ah h,ah h];all_goals rfl
 ·rw[ag h,ag h];all_goals rfl
def U3(w:AM->AM->AM)(k:AM->AM->List (Int×Nat×Nat))(f m:Int)(x y:AM):XI×Int×Int×Unit:=if ¬Fm f then((0,0,()),0,2,())else if m<0∨m>5 then((0,0,()),0,3,())else if ¬BN f [x,y]=true then((0,0,()),0,4,())else(cI (w x y),JU f m 0 (k x y),0,())
theorem aOb{f:Int}{x y:AM}(h:BN f [x,y]=true):Ch f x/\Ch f y:=by
 simp only[BN,nz,List.all_nil,bq,ar,beq_iff_eq]at h;exact⟨h.1,h.2⟩
theorem H1{m:Int}:(decide (m<0)||decide (m>5))=decide (m<0∨m>5):=by rw[Bool.decide_or]
theorem aWx(f m:Int){x y:AM}(hx:x.1<2^64/\x.2<2^64)(hy:y.1<2^64/\y.2<2^64):XL (f,m,cI x,cI y,())=some (U3 (WQ f m) (WR f m) f m x y):=by
 show yO DO.pre DO.F Ap.pre Ap.F CV.pre CV.F f m (cI x) (cI y)=_;unfold yO U3;by_cases hf:Fm f
 ·have p0:=Li hf;rw[ag (show ¬¬Fm f from fun h=>h hf)];by_cases hm:m<0∨m>5
  ·rw[ah hm];dsimp only;simp only[Dc p0,aa,aj,ab,H1,ae hm]
  ·rw[ag hm];have p1:Jr ((f,m,0,()),(cI x::cI y::[]),())=_:=oO (f,m,0,()) [x,y] (by intro z hz;simp at hz;rcases hz with rfl|rfl<;>assumption) (by show 2<2^63;decide);by_cases hF:BN f [x,y]=true
   ·rw[ag (fun h=>h hF)];rw[ah hF]at p1;obtain⟨ox,oy⟩:=aOb hF;obtain⟨p2,_⟩:=oN hf (m:=m) (by omega) 0 ox oy;unfold cI at p1 p2⊢;dsimp only at p1 p2⊢;simp only[Dc p0,aa,aj,ab,H1,af hm,JE p1,aMP p2]
   ·rw[ah hF];rw[ag hF]at p1;unfold cI at p1⊢;dsimp only at p1⊢;simp only[Dc p0,aa,aj,ab,H1,af hm,JE p1];rfl
 ·have p0:=Oe hf;rw[ah hf];dsimp only;simp only[Dc p0,aa];rfl
theorem aWz(f m:Int){x y:AM}(hx:x.1<2^64/\x.2<2^64)(hy:y.1<2^64/\y.2<2^64):XM (f,m,cI x,cI y,())=some (U3 (vF f m) (aEG f m) f m x y):=by
 show yR UA.pre UA.F Ap.pre Ap.F CV.pre CV.F f m (cI x) (cI y)=_;unfold yR U3;by_cases hf:Fm f
 ·have p0:=Li hf;rw[ag (show ¬¬Fm f from fun h=>h hf)];by_cases hm:m<0∨m>5
  ·rw[ah hm];dsimp only;simp only[Dc p0,aa,aj,ab,H1,ae hm]
  ·rw[ag hm];have p1:Jr ((f,m,0,()),(cI x::cI y::[]),())=_:=oO (f,m,0,()) [x,y] (by intro z hz;simp at hz;rcases hz with rfl|rfl<;>assumption) (by show 2<2^63;decide);by_cases hF:BN f [x,y]=true
   ·rw[ag (fun h=>h hF)];rw[ah hF]at p1;obtain⟨ox,oy⟩:=aOb hF;obtain⟨p2,_⟩:=aWy hf (m:=m) (by omega) 0 ox oy;unfold cI at p1 p2⊢;dsimp only at p1 p2⊢;simp only[Dc p0,aa,aj,ab,H1,af hm,JE p1,aZe p2]
   ·rw[ah hF];rw[ag hF]at p1;unfold cI at p1⊢;dsimp only at p1⊢;simp only[Dc p0,aa,aj,ab,H1,af hm,JE p1];rfl
 ·have p0:=Oe hf;rw[ah hf];dsimp only;simp only[Dc p0,aa];rfl
end VL
namespace VL
open Go Vx
theorem aw1:U3 (WQ 2 0) (WR 2 0) 2 0 (1065353216,1073741824) (1065353216,1073741824)=(((3225419776:Int),(1082130432:Int),()),0,0,()):=by
 unfold U3;rw[ag (show ¬¬Fm 2 by decide),ag (by decide),ag (show ¬¬BN 2 [(1065353216,1073741824),(1065353216,1073741824)]=true by decide +kernel)];kernel_rfl
theorem aw2:U3 (vF 2 0) (aEG 2 0) 2 0 (1065353216,1073741824) (1065353216,1065353216)=(((1069547520:Int),(1056964608:Int),()),0,0,()):=by
 unfold U3;rw[ag (show ¬¬Fm 2 by decide),ag (by decide),ag (show ¬¬BN 2 [(1065353216,1073741824),(1065353216,1065353216)]=true by decide +kernel)];kernel_rfl
theorem aYx:oR ()=some (true,()):=by
 show yS Uy.pre Uy.F UB.pre UB.F=_;have p1:XL (2,0,cI (1065353216,1073741824),cI (1065353216,1073741824),())=_:=aWx 2 0 (x:=(1065353216,1073741824)) (y:=(1065353216,1073741824)) (by decide) (by decide);have p2:XM (2,0,cI (1065353216,1073741824),cI (1065353216,1065353216),())=_:=aWz 2 0 (x:=(1065353216,1073741824)) (y:=(1065353216,1065353216)) (by decide) (by decide);rw[aw1]at p1;rw[aw2]at p2;have q1:XL ((2:Int),(0:Int),((1065353216:Int),(1073741824:Int),()),((1065353216:Int),(1073741824:Int),()),())=_:=p1;have q2:XM ((2:Int),(0:Int),((1065353216:Int),(1073741824:Int),()),((1065353216:Int),(1065353216:Int),()),())=_:=p2;unfold yS;dsimp only;simp only[aZd q1,aZf q2,aa];rfl
end VL
namespace VL
open Go Vx
theorem aWI{f:Int}(hf:Fm f){a:Nat}(h:Ai f a=0):
  XO ((if eF f a=AH f then(mF f a !=0,(mF f a !=0)&&(mF f a/2^(fP f-2)==0),mF f a==0,sF f a,(false,[],0,()),())
   else(false,false,false,sF f a,(sF f a,Dh (Al f a),An f a,()),())),())=some (AX f a,()):=by
 by_cases hE:eF f a=AH f
 ·rw[ah hE];have hz:AX f a=false:=by
   have:=Wx hf;unfold AX;rw[hE,beq_false_of_ne (show AH f≠0 by omega)];rfl
  rw[hz];show aB _=_;unfold aB;dsimp only;cases h0:mF f a==0<;>simp[bne,h0]
 ·rw[ag hE,aBi];have:=W9 f a;rw[←this];congr 2;by_cases h0:Al f a=0
  ·rw[h0];rfl
  ·rw[af h0,beq_false_of_ne (by omega)]
abbrev aAv:=Bool×List Int×Int×Unit
def iO(f:Int)(a:Nat):aAv:=if eF f a=AH f then(false,[],0,())else(sF f a,Dh (Al f a),An f a,())
abbrev op(f:Int)(a:Nat):Bool×Bool×Bool×Bool×aAv×Unit:=(nan f a,Bm f a,Ax f a,sF f a,iO f a,())
theorem aBg{f:Int}(hf:Fm f){a:Nat}(h:Ai f a=0):dB (f,(a:Int),())=some (op f a,()):=by
 have p:=aBf hf h;unfold op iO;by_cases hE:eF f a=AH f
 ·rw[ah hE]at p⊢;obtain⟨v1,v2,v3⟩:=Vb hE;rw[p,v1,v2,v3];rfl
 ·rw[ag hE]at p⊢;obtain⟨v1,v2,v3⟩:=JW hE;rw[p,v1,v2,v3]
theorem aIv{f:Int}(hf:Fm f){a:Nat}(h:Ai f a=0):XO (op f a,())=some (AX f a,()):=by
 have p:=aWI hf h;unfold op iO;by_cases hE:eF f a=AH f
 ·rw[ah hE]at p⊢;obtain⟨v1,v2,v3⟩:=Vb hE;rw[←p,v1,v2,v3];rfl
 ·rw[ag hE]at p⊢;obtain⟨v1,v2,v3⟩:=JW hE;rw[←p,v1,v2,v3]
theorem bI1(b:BitVec 64):dh 64 (al .i64 (b.toNat:Int))=b:=by
 apply BitVec.eq_of_toNat_eq;rw[BitVec.toNat_ofInt];have hb:=b.isLt;show((if(true&&decide ((b.toNat:Int)%2^64>=2^63))=true then(b.toNat:Int)%2^64-2^64 else(b.toNat:Int)%2^64)%((2^64:Nat):Int)).toNat=b.toNat;split
 ·rename_i h;have h3:=of_decide_eq_true h;have h4:(b.toNat:Int)%2^64>=2^63:=h3;omega
 ·rename_i h;have h4:¬(b.toNat:Int)%2^64>=2^63:=fun h5=>h (ae h5);omega
end VL
namespace VL
open Go Vx
def prd(f:Int)(a b:Nat):Bool×Bool×Bool×Bool×Bool×aAv×Unit:=bif(Ax f a&&AX f b)||(AX f a&&Ax f b)then(true,(nan f a||nan f b),(Bm f a||Bm f b),false,(!(sF f a==sF f b)),(false,[],0,()),())else bif nan f a||nan f b then(false,(nan f a||nan f b),(Bm f a||Bm f b),false,(!(sF f a==sF f b)),(false,[],0,()),())else bif Ax f a||Ax f b then(false,(nan f a||nan f b),(Bm f a||Bm f b),true,(!(sF f a==sF f b)),(false,[],0,()),())else(false,(nan f a||nan f b),(Bm f a||Bm f b),false,(!(sF f a==sF f b)),((!(sF f a==sF f b)),Dh (Al f a*Al f b),An f a+An f b,()),())
theorem aP1{f:Int}{a:Nat}(h1:nan f a=false)(h2:Ax f a=false):iO f a=(sF f a,Dh (Al f a),An f a,()):=by
 unfold iO;rw[ag (aDD h1 h2)]
theorem uO{f:Int}(hf:Fm f)(a:Nat):Al f a<2^53:=az (bBv hf a) (ax (by decide) (FA hf))
theorem aWC{f:Int}(hf:Fm f){a b:Nat}(ha:Ai f a=0)(hb:Ai f b=0):oW (op f a,op f b,())=some (prd f a b,()):=by
 show yY GV.pre GV.F UC.pre UC.F (op f a) (op f b)=_;unfold yY prd;have q1:=aIv hf ha;have q2:=aIv hf hb;have m1:=uO hf a;have m2:=uO hf b;have x1:=aAk hf a;have x2:=aAk hf b;dsimp only[op]at q1 q2⊢;simp only[tI q1,tI q2,aa,bg];cases h1:(Ax f a&&AX f b)||(AX f a&&Ax f b)
 ·cases h2:nan f a||nan f b
  ·cases h3:Ax f a||Ax f b
   ·rw[jb]at h2 h3;have hp:(2:Nat)^53<2^5000:=ct (by decide) (by decide);have p:=aWB (x:=Al f a) (y:=Al f b) (by omega) (by omega);rw[aP1 h2.1 h3.1,aP1 h2.2 h3.2];have e:al .i64 (An f a+An f b)=An f a+An f b:=Au (by omega);simp only[ab,aZj p,aa,e]
   ·rfl
  ·rfl
 ·rfl
theorem bCx(g x:Int):Ao .i64 (Ao .i64 g x) 0=Ao .i64 g x:=by
 have e:∀x y:Int,dh 64 (Ao .i64 x y)=dh 64 x ||| dh 64 y:=fun x y=>bI1 _;show al .i64 ((dh 64 (Ao .i64 g x) ||| dh 64 0).toNat:Int)=al .i64 ((dh 64 g ||| dh 64 x).toNat:Int);rw[e,show dh 64 0=0#64 from rfl,BitVec.or_zero]
def RG(g:Int):Prop:=Ao .i64 g 0=g
theorem aR(g x:Int):RG (Ao .i64 g x):=bCx g x
section
variable {f m:Int}(hf:Fm f)(hm:0<=m/\m<=5)
include hf hm
theorem aBc(g:Int){a b:Nat}(ha:Ai f a=0)(hb:Ai f b=0):oT ((f,m,g,()),(a:Int),(b:Int),())=some ((f,m,Ao .i64 g (AA f m 1 a b),()),((AC f m 1 a b:Nat):Int),()):=by
 have p:cF (f,m,(a:Int),(b:Int),())=some (Ek m 1 f a b 0):=aA9 f m (Wj hf ha) (Wj hf hb);have h:=(Vp hf hm (.inl rfl) ha hb).2.1;show yV GQ.pre GQ.F (f,m,g,()) (a:Int) (b:Int)=_;unfold yV;dsimp only;simp only[tD p,aa,h];rfl
theorem aWD(g:Int){a b:Nat}(ha:Ai f a=0)(hb:Ai f b=0):oZ ((f,m,g,()),(a:Int),(b:Int),())=some ((f,m,Ao .i64 g (AA f m 2 a b),()),((AC f m 2 a b:Nat):Int),()):=by
 have p:cE (f,m,(a:Int),(b:Int),())=some (Ek m 2 f a b 0):=aWe f m (Wj hf ha) (Wj hf hb);have h:=(Vp hf hm (.inr (.inl rfl)) ha hb).2.1;show zA Ud.pre Ud.F (f,m,g,()) (a:Int) (b:Int)=_;unfold zA;dsimp only;simp only[aY3 p,aa,h];rfl
theorem oY{g:Int}(hg:RG g){a b:Nat}(ha:Ai f a=0)(hb:Ai f b=0):oX ((f,m,g,()),(a:Int),(b:Int),())=some ((f,m,Ao .i64 g (AA f m 3 a b),()),((AC f m 3 a b:Nat):Int),()):=by
 have p1:=aBg hf ha;have p2:=aBg hf hb;have p3:=aWC hf ha hb;have p4:=aBh hf;have p5:=aG7 hf (!(sF f a==sF f b));have m1:=uO hf a;have m2:=uO hf b;have x1:=aAk hf a;have x2:=aAk hf b;unfold AC AA;rw[stM hf hm ha hb];show yZ Eu.pre Eu.F UD.pre UD.F Ew.pre Ew.F GP.pre GP.F GW.pre GW.F (f,m,g,()) (a:Int) (b:Int)=_;unfold yZ WH;dsimp only at p1 p2 p3⊢;simp only[JG p1,JG p2,aZk p3,aa];unfold prd;cases hn:nan f a||nan f b
 ·have hs:(Bm f a||Bm f b)=false:=by
   rw[jb]at hn⊢;exact⟨PT hn.1,PT hn.2⟩
  cases h1:(Ax f a&&AX f b)||(AX f a&&Ax f b)
  ·cases h3:Ax f a||Ax f b
   ·have hmm:Al f a*Al f b<2^6000:=by
     have:=Nat.mul_lt_mul'' m1 m2;refine gl this ?_;rw[←ca];exact ct (by decide) (by decide)
    have p6:=aIw hf hm (!(sF f a==sF f b)) (Al f a*Al f b) (An f a+An f b) (!(sF f a==sF f b)) hmm (by omega);simp only[ab,hs,bj,aC5 p6,aa];have z1:=W9 f a;have z2:=W9 f b;cases hz:AX f a||AX f b
    ·rw[jb]at hz;have n1:=FE hz.1;have n2:=FE hz.2;rw[ag (kq n1 n2)];rfl
    ·have h0:Al f a*Al f b=0:=by
      rw[fh]at hz;rcases hz with hz|hz
      ·rw[hz,beq_iff_eq]at z1;rw[show Al f a=0 by omega,fq]
      ·rw[hz,beq_iff_eq]at z2;rw[show Al f b=0 by omega,fu]
     rw[ah h0];rfl
   ·simp only[ab,hs,bj,aME p5,aa,ao];have e:Ao .i64 g 0=g:=hg;rw[e]
  ·simp only[ab,hs,br,Wh p4,aa,ao]
 ·cases h1:(Ax f a&&AX f b)||(AX f a&&Ax f b)
  ·cases hs:Bm f a||Bm f b
   ·simp only[ab,bj,Wh p4,aa,ao];have e:Ao .i64 g 0=g:=hg;rw[e]
   ·simp only[ab,bo,Wh p4,aa,ao]
  ·exfalso;rw[fh,ar,ar]at h1;have hh:nan f a=false/\nan f b=false:=by
    rcases h1 with⟨u,v⟩|⟨u,v⟩
    ·exact⟨aOS u,(aS6 hf v).2⟩
    ·exact⟨(aS6 hf u).2,aOS v⟩
   rw[hh.1,hh.2]at hn;cases hn
end
end VL
namespace VL
open Go Vx
theorem aWA{f m:Int}(hf:Fm f)(hm:0<=m/\m<=5){g:Int}(hg:RG g){x y:AM}(hx:Ch f x)(hy:Ch f y):
  oU ((f,m,g,()),cI x,cI y,())=some ((f,m,JU f m g (aE1 x y),()),cI (vZ f m x y),()):=by
 have q1:=Vo hf hm hx.1 hy.1;have q2:=Vo hf hm hx.2 hy.2;have p1:=aBc hf hm g hx.1 hy.1;have p2:=aBc hf hm (Ao .i64 g (AA f m 1 x.1 y.1)) hx.2 hy.2;show yW GU.pre GU.F (f,m,g,()) (cI x) (cI y)=_;unfold yW cI;dsimp only;simp only[aC3 p1,aC3 p2,aa];rfl
theorem aWE{f m:Int}(hf:Fm f)(hm:0<=m/\m<=5){g:Int}(hg:RG g){x y:AM}(hx:Ch f x)(hy:Ch f y):
  o0 ((f,m,g,()),cI x,cI y,())=some ((f,m,JU f m g (WR f m x y),()),cI (WQ f m x y),()):=by
 have q1:=Gg hf hm hx.1 hy.1;have q2:=Gg hf hm hx.2 hy.2;have q3:=Gg hf hm hx.1 hy.2;have q4:=Gg hf hm hx.2 hy.1;have q5:=st2 hf hm q1 q2;have q6:=Vo hf hm q3 q4;have p1:=oY hf hm hg hx.1 hy.1;have p2:=oY hf hm (aR g (AA f m 3 x.1 y.1)) hx.2 hy.2;have p3:=oY hf hm (aR (Ao .i64 g (AA f m 3 x.1 y.1)) (AA f m 3 x.2 y.2)) hx.1 hy.2;have p4:=oY hf hm (aR (Ao .i64 (Ao .i64 g (AA f m 3 x.1 y.1)) (AA f m 3 x.2 y.2)) (AA f m 3 x.1 y.2)) hx.2 hy.1;have p5:=aWD hf hm (Ao .i64 (Ao .i64 (Ao .i64 (Ao .i64 g (AA f m 3 x.1 y.1)) (AA f m 3 x.2 y.2)) (AA f m 3 x.1 y.2)) (AA f m 3 x.2 y.1)) q1 q2;have p6:=aBc hf hm (Ao .i64 (Ao .i64 (Ao .i64 (Ao .i64 (Ao .i64 g (AA f m 3 x.1 y.1)) (AA f m 3 x.2 y.2)) (AA f m 3 x.1 y.2)) (AA f m 3 x.2 y.1)) (AA f m 2 (AC f m 3 x.1 y.1) (AC f m 3 x.2 y.2))) q3 q4;show zB UE.pre UE.F UF.pre UF.F GU.pre GU.F (f,m,g,()) (cI x) (cI y)=_;unfold zB cI;dsimp only;simp only[tG p1,tG p2,tG p3,tG p4,aZl p5,aC3 p6,aa];rfl
theorem aXd(f:Int)(hf:Fm f)(l:List AM)(hl:∀x∈l,x.1<2^64/\x.2<2^64)(hlen:l.length<2^63):
  qV ((f,l.map cI,(0:Int),()),())=some (if BN f l=true then .inl ((),())else .inr (((4:Int),()),())):=by
 have key:=Cx (aPx Cc.pre Cc.F CW.pre CW.F) (fun x=>l.length-x.1.2.2.1.toNat)
  (fun x=>∃i:Nat,i<=l.length/\BN f (l.drop i)=BN f l/\x=((f,l.map cI,(i:Int),()),()))
  (fun _=>if BN f l=true then .inl ((),())else .inr (((4:Int),()),())) ?_ _ ⟨0,dv _,rfl,rfl⟩
 ·exact key
 intro L x hx hL;obtain⟨i,hi,hok,rfl⟩:=hx;unfold Y4;rcases bc i l.length with hlt|hge
 ·have hg:(l.map cI).getD i ((0:Int),(0:Int),())=cI l[i]:=by simp[aw,hlt]
  obtain⟨h1,h2⟩:=hl _ (jd hlt);have p0:=gK hf h1;have p1:=gK hf h2;have e0:decide ((i:Int)<(l.length:Int))=true:=ae (by omega);have e2:decide ((0:Int)<=(i:Int))=true:=ae (by omega);have e1:decide ((i:Int)<(((l.map cI).length:Nat):Int))=true:=by rw[cp];exact e0
  have e3:al .i64 ((i:Int)+1)=((i+1:Nat):Int):=by rw[Au (by omega)];omega
  have hN:L ((f,l.map cI,((i+1:Nat):Int),()),())=some (if BN f (l.drop (i+1))=true then .inl ((),())else .inr (((4:Int),()),()))∨BN f (l.drop (i+1))≠BN f l:=by
   by_cases h:BN f (l.drop (i+1))=BN f l
   ·left;rw[h];exact hL _ ⟨i+1,by omega,h,rfl⟩ (by simp only[ao];omega)
   ·exact .inr h
  rw[dr hlt]at hok;have hok':((Ai f l[i].1==0&&Ai f l[i].2==0)&&BN f (l.drop (i+1)))=BN f l:=hok;dsimp only;simp only[e1,e2,e3,ao,hg,cI,fY p0,fY p1,aa,bg,ba];by_cases c1:Ai f l[i].1=0
  ·by_cases c2:Ai f l[i].2=0
   ·rw[c1,c2]at hok' ⊢;have h3:BN f (l.drop (i+1))=BN f l:=hok';rcases hN with hN|hN
    ·simp only[decide_true,bi,bj,ab];rw[hN,h3]
    ·exact absurd h3 hN
   ·rw[beq_false_of_ne c2,be,ay]at hok';rw[←hok',af c2,bf,bo];rfl
  ·rw[beq_false_of_ne c1,ay,ay]at hok';rw[←hok',af c1,bf,bg];rfl
 ·have e:i=l.length:=by omega
  subst e;rw[gf]at hok;have e0:decide ((l.length:Int)<(((l.map cI).length:Nat):Int))=false:=by rw[cp];exact af (by omega)
  simp only[e0,ab];rw[←hok];rfl
theorem aIe(f m:Int)(l:List AM)(hl:∀x∈l,x.1<2^64/\x.2<2^64)(hlen:l.length<2^63):
  cS (f,m,l.map cI,())=some ((if ¬Fm f then(2:Int)else if m<0∨m>5 then 3 else if ¬BN f l=true then 4 else 0),()):=by
 show yU Cc.pre Cc.F CW.pre CW.F qV f m (l.map cI)=_;unfold yU;have p:=aBe f m;by_cases hf:Fm f
 ·rw[ag (show ¬¬Fm f from fun h=>h hf)];rw[ah hf]at p;by_cases hm:m<0∨m>5
  ·rw[ag (show ¬(0<=m/\m<=5) by omega)]at p;rw[ah hm];simp only[HW p,aa];rfl
  ·rw[ah (show 0<=m/\m<=5 by omega)]at p;rw[ag hm];have w:=aXd f hf l hl hlen;simp only[HW p,aa,aj,ab];rw[w];by_cases h:BN f l=true
   ·rw[ah h,ag (fun x=>x h)]
   ·rw[ag h,ah h]
 ·rw[ah hf];rw[ag hf]at p;simp only[HW p,aa];rfl
end VL
namespace VL
open Go Vx
def J2(x:Option Nat):Int:=if Dd .f64 x x=some .eq then((x.getD 0:Nat):Int)else 9221120237041090560
theorem aMq(x:Option Nat):((Dd .f64 x x)!=(some Ordering.eq))=!(decide (Dd .f64 x x=some .eq)):=by
 by_cases h:Dd .f64 x x=some .eq
 ·rw[h];rfl
 ·rw[af h,bne_iff_ne.2 h];rfl
theorem bCz{x:Option Nat}(h:Dd .f64 x x=some .eq):x.isSome=true:=by
 cases x with
 |none=>cases h
 |some _=>rfl
theorem aIh(x:Option Nat):cU (x,())=some (J2 x,()):=by
 show zD Bh.pre Bh.F Vw.pre Vw.F x=_;have p:VN (3,())=some ((9221120237041090560:Int),0,()):=cZ (f:=3) (by decide);unfold zD J2;rw[aMq];by_cases h:Dd .f64 x x=some .eq
 ·rw[ae h,ah h];have hp:Vw.pre (x,())=true:=bCz h;rw[hp];rfl
 ·rw[af h,ag h,bC1 p,bAL p];rfl
abbrev CF:=Option Nat×Option Nat
def DG(x:XI):CF:=(some x.1.toNat,some x.2.1.toNat)
def aYo(z:CF):XI:=(J2 z.1,J2 z.2,())
def uS(x y:CF):CF:=(Ca .sub .f64 (Ca .mul .f64 x.1 y.1) (Ca .mul .f64 x.2 y.2),Ca .add .f64 (Ca .mul .f64 x.1 y.2) (Ca .mul .f64 x.2 y.1))
def aCG(x y:CF):CF:=(Ca .add .f64 x.1 y.1,Ca .add .f64 x.2 y.2)
theorem aWF(z:CF):o8 (z,())=some (aYo z,()):=by
 show zE UG.pre UG.F z=_;have p1:=aIh z.1;have p2:=aIh z.2;unfold zE;rw[aQm p1,aOs p1,aQm p2,aOs p2];rfl
end VL
namespace VL
open Go Vx
def fk:FloatKind->Int
 |.f32=>2
 |.f64=>3
theorem F8(k:FloatKind):Fm (fk k):=by cases k<;>exact⟨by decide,by decide⟩
theorem aDL(k:FloatKind):k.format.signWeight=2^(fW (fk k)-1):=by cases k<;>rfl
theorem aDI(k:FloatKind):k.format.binade=2^(fP (fk k)-1):=by cases k<;>rfl
theorem Wt(k:FloatKind):k.format.infRung=BG (fk k):=by cases k<;>rfl
theorem aDK(k:FloatKind):k.format.leastPlace=qm (fk k):=by cases k<;>rfl
theorem aDJ(k:FloatKind):k.format.fractionBits=fP (fk k)-1:=by cases k<;>rfl
theorem aCF{f:Int}(hf:Fm f)(a:Nat):Ct f a%2^(fP f-1)=mF f a/\Ct f a/2^(fP f-1)=eF f a:=by
 rw[Pe hf,Nat.add_mul_mod_self_left,ce (JP f a),Nat.add_mul_div_left _ _ (au _),dc (JP f a),dj];exact⟨rfl,rfl⟩
theorem PP(k:FloatKind){a:Nat}(h:Ai (fk k) a=0):
  k.format.read a=if eF (fk k) a=AH (fk k)then(if mF (fk k) a=0 then .infinity (sF (fk k) a)else .nan (sF (fk k) a) (mF (fk k) a))else .number (sF (fk k) a) (Al (fk k) a) (An (fk k) a):=by
 obtain⟨hf,h0⟩:=Fz h;have hneg:(a/k.format.signWeight%2==1)=sF (fk k) a:=by rw[aDL];exact bIc h
 have hab:a%k.format.signWeight=Ct (fk k) a:=by rw[aDL];rfl
 obtain⟨p1,p2⟩:=aCF hf a;have he:=Pe hf a;have hm:=JP (fk k) a;have hpp:=au (fP (fk k)-1);have hfull:=Wx hf;have hel:eF (fk k) a<=AH (fk k):=by
  have:=cn (a/2^(fP (fk k)-1)) (au (fW (fk k)-fP (fk k)));unfold eF AH;omega
 unfold Ieee.Format.read;dsimp only;rw[hneg,hab,aDI,Wt,aDK];unfold BG;by_cases h1:eF (fk k) a=AH (fk k)
 ·rw[ah h1];rw[h1]at he;have hge:2^(fP (fk k)-1)*1<=2^(fP (fk k)-1)*AH (fk k):=cq _ hfull;rw[ag (by omega),ag (by omega)];by_cases h2:mF (fk k) a=0
  ·rw[ah h2,ah (by omega)]
  ·rw[ag h2,ag (by omega)];congr 1;omega
 ·rw[ag h1];unfold Al An;by_cases h2:eF (fk k) a=0
  ·rw[h2,fu,dp]at he;rw[ah (by omega),ah h2,ah h2,he,Int.add_zero];rfl
  ·have h3:2^(fP (fk k)-1)*1<=2^(fP (fk k)-1)*eF (fk k) a:=cq _ (by omega);have h4:2^(fP (fk k)-1)*(eF (fk k) a+1)<=2^(fP (fk k)-1)*AH (fk k):=cq _ (by omega);rw[ck,gx]at h4;rw[ag (by omega),ah (by omega),ag h2,ag h2,p1,p2,jc];congr 1;unfold qm;omega
theorem bCL{f:Int}(hf:Fm f){a b:Nat}(ha:Ai f a=0)(hb:Ai f b=0)(fa:eF f a≠AH f)(fb:eF f b≠AH f):(AB f a<AB f b↔vA f a<vA f b)/\(AB f a=AB f b↔vA f a=vA f b):=by
 have key:∀{a b:Nat},Ai f a=0->Ai f b=0->eF f a≠AH f->eF f b≠AH f->vA f a<=vA f b->AB f a<=AB f b:=fun {a b} ha hb fa fb h=>by
  rw[aQX hf ha fa,aQX hf hb fb];exact bCM hf (by decide) h
 have heq:AB f a=AB f b->vA f a=vA f b:=bH7 hf;have h1:=fun h=>key ha hb fa fb h;have h2:=fun h=>key hb ha fb fa h;refine⟨⟨fun h=>?_,fun h=>?_⟩,⟨heq,fun h=>?_⟩⟩
 ·rcases rh (vA f a) (vA f b)with g|g
  ·exact g
  ·have:=h2 g;omega
 ·rcases rh (AB f a) (AB f b)with g|g
  ·exact g
  ·have g1:=h1 (Int.le_of_lt h);have:=heq (by omega);omega
 ·have g1:=h1 (by omega);have g2:=h2 (by omega);omega
theorem aQ2(f:Int)(s:Bool)(m:Nat){e q:Int}(h1:qm f<=q)(h2:q<=e):Ieee.signed s m (e-q).toNat*(2^(q-qm f).toNat:Nat)=vI f s m e:=by
 unfold Ieee.signed vI;have hm:m*2^(e-q).toNat*2^(q-qm f).toNat=m*2^(e-qm f).toNat:=by
  rw[bu,←ca];congr 2;omega
 rw[kb];cases s
 ·rw[ag (by decide),ab,←hm];simp only[kl]
 ·rw[ah rfl,aa,←hm];simp only[kl,Int.neg_mul]
theorem aNr{x y z w:Int}(h1:x<y↔z<w)(h2:x=y↔z=w):compare x y=compare z w:=by
 show compareOfLessAndEq x y=compareOfLessAndEq z w;unfold compareOfLessAndEq;by_cases g1:x<y
 ·rw[ah g1,ah (h1.1 g1)]
 ·have g3:¬z<w:=fun h=>g1 (h1.2 h);rw[ag g1,ag g3];by_cases g2:x=y
  ·rw[ah g2,ah (h2.1 g2)]
  ·have g4:¬z=w:=fun h=>g2 (h2.2 h);rw[ag g2,ag g4]
theorem aZI(x y:Int){c:Nat}(hc:0<c):compare x y=compare (x*(c:Int)) (y*(c:Int)):=by
 have hc':(0:Int)<(c:Int):=by omega
 exact aNr ⟨fun h=>Int.mul_lt_mul_of_pos_right h hc',fun h=>Int.lt_of_mul_lt_mul_right h (by omega)⟩ ⟨fun h=>by rw[h],fun h=>Int.eq_of_mul_eq_mul_right (by omega) h⟩
theorem aDq{x y:Int}(h:x<y):compare x y=.lt:=by
 show compareOfLessAndEq x y=_;unfold compareOfLessAndEq;rw[ah h]
theorem aDo(x:Int):compare x x=.eq:=by
 show compareOfLessAndEq x x=_;unfold compareOfLessAndEq;rw[ag (Int.lt_irrefl x),ah rfl]
theorem aDp{x y:Int}(h:y<x):compare x y=.gt:=by
 have h1:¬x<y:=by omega
 have h2:¬x=y:=by omega
 show compareOfLessAndEq x y=_;unfold compareOfLessAndEq;rw[ag h1,ag h2]
theorem aEA{f:Int}(hf:Fm f){a:Nat}(h1:eF f a=AH f)(h2:mF f a=0):AB f a=bif sF f a then -(BG f:Int)else BG f:=by
 unfold AB BG;rw[Pe hf,h1,h2,dj]
theorem aQh{f:Int}(hf:Fm f){a:Nat}(h1:eF f a≠AH f):-(BG f:Int)<AB f a/\AB f a<BG f:=by
 have hel:eF f a<=AH f:=by
  have:=cn (a/2^(fP f-1)) (au (fW f-fP f));unfold eF AH;omega
 have he:=Pe hf a;have hm:=JP f a;have h4:2^(fP f-1)*(eF f a+1)<=2^(fP f-1)*AH f:=cq _ (by omega);rw[ck,gx]at h4;unfold AB BG;cases sF f a<;>simp only[aa,ab]<;>omega
theorem aP7(k:FloatKind){a b:Nat}(ha:Ai (fk k) a=0)(hb:Ai (fk k) b=0):
  k.format.order a b=if nan (fk k) a||nan (fk k) b then none else some (compare (AB (fk k) a) (AB (fk k) b)):=by
 have hf:=F8 k;unfold Ieee.Format.order;rw[PP k ha,PP k hb];have hpos:=aD1 hf;by_cases fa:eF (fk k) a=AH (fk k)
 ·rw[ah fa];by_cases ma:mF (fk k) a=0
  ·have na:nan (fk k) a=false:=by unfold nan;simp[ma]
   have pa:=aEA hf fa ma;rw[ah ma,na,bm];by_cases fb:eF (fk k) b=AH (fk k)
   ·rw[ah fb];by_cases mb:mF (fk k) b=0
    ·have nb:nan (fk k) b=false:=by unfold nan;simp[mb]
     have pb:=aEA hf fb mb;rw[ah mb,nb,pa,pb];show some (compare (sF (fk k) b).toNat (sF (fk k) a).toNat)=some _;cases sF (fk k) a<;>cases sF (fk k) b<;>simp only[aa,ab]
     ·rw[aDo];rfl
     ·rw[aDp (by omega)];rfl
     ·rw[aDq (by omega)];rfl
     ·rw[aDo];rfl
    ·have nb:nan (fk k) b=true:=by unfold nan;simp[mb,fb]
     rw[ag mb,nb];rfl
   ·have nb:nan (fk k) b=false:=(JW fb).1;have pb:=aQh hf fb;rw[ag fb,nb,pa];show some (if sF (fk k) a=true then Ordering.lt else .gt)=some _;cases sF (fk k) a<;>simp only[aa,ab]
    ·rw[aDp pb.2];rfl
    ·rw[aDq pb.1];rfl
  ·have na:nan (fk k) a=true:=by unfold nan;simp[ma,fa]
   rw[ag ma,na];rfl
 ·have na:nan (fk k) a=false:=(JW fa).1;have pa:=aQh hf fa;rw[ag fa,na,bm];by_cases fb:eF (fk k) b=AH (fk k)
  ·rw[ah fb];by_cases mb:mF (fk k) b=0
   ·have nb:nan (fk k) b=false:=by unfold nan;simp[mb]
    have pb:=aEA hf fb mb;rw[ah mb,nb,pb];show some (if sF (fk k) b=true then Ordering.gt else .lt)=some _;cases sF (fk k) b<;>simp only[aa,ab]
    ·rw[aDq pa.2];rfl
    ·rw[aDp pa.1];rfl
   ·have nb:nan (fk k) b=true:=by unfold nan;simp[mb,fb]
    rw[ag mb,nb];rfl
  ·have nb:nan (fk k) b=false:=(JW fb).1;rw[ag fb,nb];show some (compare (Ieee.signed (sF (fk k) a) (Al (fk k) a) (An (fk k) a-min (An (fk k) a) (An (fk k) b)).toNat) (Ieee.signed (sF (fk k) b) (Al (fk k) b) (An (fk k) b-min (An (fk k) a) (An (fk k) b)).toNat))=some _;congr 1;have g1:=jF (fk k) a;have g2:=jF (fk k) b;have hb1:qm (fk k)<=min (An (fk k) a) (An (fk k) b):=by omega
   rw[aZI _ _ (au (min (An (fk k) a) (An (fk k) b)-qm (fk k)).toNat),aQ2 (fk k) _ _ hb1 (by omega),aQ2 (fk k) _ _ hb1 (by omega)];obtain⟨c1,c2⟩:=bCL hf ha hb fa fb;exact(aNr c1 c2).symm
end VL
namespace VL
open Go Vx
theorem aF(k:FloatKind)(neg:Bool)(r:Nat):k.format.word neg r=CJ (fk k) neg r:=by
 unfold Ieee.Format.word CJ;rw[aDL];cases neg
 ·rw[ag (by decide),ab,dp]
 ·rw[ah rfl,aa,jc]
theorem aOu(neg odd:Bool)(rest:Nat):Df 0 neg odd rest=if rest=2 then odd else decide (2<=rest):=rfl
theorem aOZ(n:Nat):n<2^(n.log2+1):=by
 by_cases h:n=0
 ·subst h;decide
 ·have:=G2 n;unfold Af at this;rw[ag h]at this;exact this
theorem aNx(neg:Bool)(n drop:Nat):Ieee.Toward.even.cut neg n drop=C2 0 neg n drop:=by
 unfold Ieee.Toward.cut C2;dsimp only;rw[kb,Nat.one_mul];by_cases hd:drop<=n.log2+2
 ·rw[ij hd,aOu];generalize hq:n/2^drop=q;have hr:=cn n (au drop);generalize n%2^drop=r at *
  by_cases h0:drop=0
  ·subst h0;have:r=0:=by rw[iv]at hr;omega
   subst this;rfl
  ·have hp:2^drop=2*2^(drop-1):=by rw[bt,←fm];congr 1;omega
   have hpp:=au (drop-1);have hcl:B5 r drop=(if r=0 then 0 else if r<2^(drop-1)then 1 else if r=2^(drop-1)then 2 else 3):=rfl;rw[hp]at hr⊢;generalize B5 r drop=C at *
   generalize 2^(drop-1)=H at *
   by_cases c0:r=0
   ·rw[ah c0]at hcl;subst hcl;subst c0;have e1:decide (2*H<2*0)=false:=af (by omega);have e2:(2*H==2*0)=false:=beq_eq_false_iff_ne.2 (by omega);rw[e1,e2];rfl
   ·rw[ag c0]at hcl;by_cases c1:r<H
    ·rw[ah c1]at hcl;subst hcl;have e1:decide (2*H<2*r)=false:=af (by omega);have e2:(2*H==2*r)=false:=beq_eq_false_iff_ne.2 (by omega);rw[e1,e2];rfl
    ·rw[ag c1]at hcl;by_cases c2:r=H
     ·rw[ah c2]at hcl;subst hcl;subst c2;have e1:decide (2*r<2*r)=false:=af (by omega);rw[e1,beq_self_eq_true,ah rfl,bm,bl];by_cases ho:q%2=1
      ·rw[ho,ah ⟨by decide,by rfl⟩];rfl
      ·rw[ag (fun h=>by simpa[ho]using h.2),show q%2=0 by omega];rfl
     ·rw[ag c2]at hcl;subst hcl;have e1:decide (2*H<2*r)=true:=ae (by omega);rw[e1,bg,ah ⟨by decide,by rfl⟩];rfl
 ·have hlt:=aOZ n;have h1:n<2^(n.log2+2):=gl hlt (ct (by decide) (by omega));have h2:n<2^(drop-1):=az hlt (ax (by decide) (by omega));have h3:n<2^drop:=az hlt (ax (by decide) (by omega));have h4:2*n<2^(n.log2+2):=by
   rw[show n.log2+2=(n.log2+1)+1 by omega,fm];omega
  rw[lu (by omega),dc h1,ce h1,dc h3,ce h3];have e1:decide (2^(n.log2+2)<2*n)=false:=af (by omega);have e2:(2^(n.log2+2)==2*n)=false:=beq_eq_false_iff_ne.2 (by omega);rw[e1,e2,aOu];unfold B5;by_cases c0:n=0
  ·subst c0;rfl
  ·rw[ag c0,ah h2];rfl
theorem aNv(neg:Bool)(n:Nat):C2 0 neg n 0=n:=by
 unfold C2;rw[iv,Nat.mod_one,Nat.div_one];rfl
theorem aZK(m:Int)(neg:Bool)(n j:Nat):C2 m neg (n*2^j) j=n:=by
 unfold C2;rw[Nat.mul_mod_left,jn _ (au j)];rw[ag (fun h=>h.1 rfl)]
theorem aZM(m:Int)(neg:Bool)(n:Nat){d k:Nat}(hd:1<=d):C2 m neg (n*2^k) (k+d)=C2 m neg n d:=by
 unfold C2;have e1:n*2^k/2^(k+d)=n/2^d:=by
  rw[ca,←Nat.div_div_eq_div_mul,jn _ (au k)]
 have e2:n*2^k%2^(k+d)=2^k*(n%2^d):=by
  rw[ca,bt n,Nat.mul_mod_mul_left]
 rw[e1,e2,aNp hd]
theorem bBK(k:FloatKind)(neg:Bool){mag:Nat}(h0:mag≠0){AB:Int}(hp:qm (fk k)<=AB):
  k.format.nearest neg mag AB=CJ (fk k) neg (Ds (fk k) 0 neg (mag*2^(AB-qm (fk k)).toNat) (qm (fk k))).1:=by
 have hf:=F8 k;have hP:=CZ hf;obtain⟨D,hD⟩:=cv (show 0<=AB-qm (fk k) by omega);have hN0:mag*2^D≠0:=kq h0 (Nat.ne_of_gt (au D));have hbl:Af (mag*2^D)=mag.log2+1+D:=by
  rw[bt,←dj (2^D*mag),aCP (au D) (by omega)];unfold Af;rw[ag h0];omega
 rw[hD,ao,aEL hf 0 neg hN0];have hup:iH (fk k) 0 neg=BG (fk k):=rfl;unfold Ieee.Format.nearest;rw[ag h0,aF,aDK,aDJ,aDI,Wt];congr 1;have key:(max (AB+(mag.log2:Int)-((fP (fk k)-1:Nat):Int)) (qm (fk k))-qm (fk k)).toNat*2^(fP (fk k)-1) +
   Ieee.Toward.even.cut neg (mag <<< (AB-max (AB+(mag.log2:Int)-((fP (fk k)-1:Nat):Int)) (qm (fk k))).toNat) (max (AB+(mag.log2:Int)-((fP (fk k)-1:Nat):Int)) (qm (fk k))-AB).toNat=FB (fk k) 0 neg (mag*2^D):=by
  rw[aNx,kb];unfold FB;by_cases hs:mag*2^D<2^fP (fk k)
  ·rw[ah hs];have hb:=Db hs;rw[show max (AB+(mag.log2:Int)-((fP (fk k)-1:Nat):Int)) (qm (fk k))=qm (fk k) by omega,Int.sub_self,Int.toNat_zero,fq,dj,hD,ao,show(qm (fk k)-AB).toNat=0 by omega,aNv]
  ·rw[ag hs];have hb:fP (fk k)<Af (mag*2^D):=by
    rcases bc (fP (fk k)) (Af (mag*2^D))with h|h
    ·exact h
    ·exact absurd (az (G2 _) (ax (by decide) h)) hs
   rw[hbl]at hb⊢;obtain⟨j,hj⟩:∃j,mag.log2+1+D-fP (fk k)=j:=⟨_,rfl⟩
   have hl:max (AB+(mag.log2:Int)-((fP (fk k)-1:Nat):Int)) (qm (fk k))=qm (fk k)+(j:Int):=by omega
   rw[hl,hj,show qm (fk k)+(j:Int)-qm (fk k)=(j:Int) by omega,ao];congr 1;by_cases hDj:j<=D
   ·rw[show(qm (fk k)+(j:Int)-AB).toNat=0 by omega,show(AB-(qm (fk k)+(j:Int))).toNat=D-j by omega,aNv];have e:mag*2^D=(mag*2^(D-j))*2^j:=by rw[bu,←ca];congr 2;omega
    rw[e,aZK]
   ·rw[show(AB-(qm (fk k)+(j:Int))).toNat=0 by omega,iv,gx,show(qm (fk k)+(j:Int)-AB).toNat=j-D by omega];have e:=aZM 0 neg mag (d:=j-D) (k:=D) (by omega);rw[show D+(j-D)=j by omega]at e;exact e.symm
 rw[key,hup];by_cases h:BG (fk k)<=FB (fk k) 0 neg (mag*2^D)
 ·rw[ah h,lu h]
 ·rw[ag h,ij (by omega)]
theorem aQG(k:FloatKind)(neg:Bool){mag:Nat}(h0:mag≠0){AB:Int}(hp:qm (fk k)<=AB):k.format.nearest neg mag AB=(AT (fk k) 0 neg mag AB false).1:=by
 rw[bBK k neg h0 hp,aQH (F8 k) 0 neg h0 hp]
theorem uW(k:FloatKind)(neg:Bool)(AB:Int):k.format.nearest neg 0 AB=Bu (fk k) neg:=by
 unfold Ieee.Format.nearest;rw[ah rfl,aF,←fC,dj]
theorem WJ(k:FloatKind)(T:Int)(z:Bool){e:Int}(he:qm (fk k)<=e):
  k.format.nearest (if T=0 then z else decide (T<0)) T.natAbs e=if T=0 then Bu (fk k) z else(AT (fk k) 0 (decide (T<0)) T.natAbs e false).1:=by
 by_cases h:T=0
 ·rw[ah h,ah h,h];exact uW k z e
 ·rw[ag h,ag h];exact aQG k _ (by omega) he
theorem bIG(k:FloatKind)(s:Bool)(m:Nat)(i:Int)(t:Bool)(n:Nat)(j:Int)(hi:qm (fk k)<=i)(hj:qm (fk k)<=j):
  ((Ieee.Datum.number s m i).sum (.number t n j)).map k.format.write=some (DJ (fk k) 0 s m i t n j).1:=by
 have hmin:min i j=(if i<=j then i else j):=by split<;>omega
 show some (k.format.nearest (if Ieee.signed s m (i-min i j).toNat+Ieee.signed t n (j-min i j).toNat=0 then s&&t else decide (Ieee.signed s m (i-min i j).toNat+Ieee.signed t n (j-min i j).toNat<0)) (Ieee.signed s m (i-min i j).toNat+Ieee.signed t n (j-min i j).toNat).natAbs (min i j))=_;congr 1;have hq:qm (fk k)<=min i j:=by omega
 rw[WJ k _ _ hq];unfold DJ Ieee.signed;rw[hmin];rw[kb,kb];dsimp only;generalize(if i<=j then i else j)=e at *
 generalize m*2^(i-e).toNat=A;generalize n*2^(j-e).toNat=B;have eA:∀{T:Int} {s:Bool} {r:Nat},decide (T<0)=s->T.natAbs=r->(AT (fk k) 0 (decide (T<0)) T.natAbs e false).1=(AT (fk k) 0 s r e false).1:=fun h1 h2=>by rw[h1,h2]
 cases s<;>cases t
 ·show(if(A:Int)+(B:Int)=0 then Bu (fk k) false else(AT (fk k) 0 (decide ((A:Int)+(B:Int)<0)) ((A:Int)+(B:Int)).natAbs e false).1)=(if A+B=0 then(Bu (fk k) false,0)else AT (fk k) 0 false (A+B) e false).1;by_cases h:A+B=0
  ·have h2:(A:Int)+(B:Int)=0:=by omega
   rw[ah h,ah h2]
  ·have h2:¬(A:Int)+(B:Int)=0:=by omega
   rw[ag h,ag h2];exact eA (af (by omega)) (by omega)
 ·show(if(A:Int) + -(B:Int)=0 then Bu (fk k) false else(AT (fk k) 0 (decide ((A:Int) + -(B:Int)<0)) ((A:Int) + -(B:Int)).natAbs e false).1)=(if A=B then(Bu (fk k) false,0)else if B<A then AT (fk k) 0 false (A-B) e false else AT (fk k) 0 true (B-A) e false).1;by_cases h:A=B
  ·have h2:(A:Int) + -(B:Int)=0:=by omega
   rw[ah h,ah h2]
  ·have h2:¬(A:Int) + -(B:Int)=0:=by omega
   rw[ag h,ag h2];by_cases h3:B<A
   ·rw[ah h3];exact eA (af (by omega)) (by omega)
   ·rw[ag h3];exact eA (ae (by omega)) (by omega)
 ·show(if -(A:Int)+(B:Int)=0 then Bu (fk k) false else(AT (fk k) 0 (decide (-(A:Int)+(B:Int)<0)) (-(A:Int)+(B:Int)).natAbs e false).1)=(if A=B then(Bu (fk k) false,0)else if B<A then AT (fk k) 0 true (A-B) e false else AT (fk k) 0 false (B-A) e false).1;by_cases h:A=B
  ·have h2:-(A:Int)+(B:Int)=0:=by omega
   rw[ah h,ah h2]
  ·have h2:¬ -(A:Int)+(B:Int)=0:=by omega
   rw[ag h,ag h2];by_cases h3:B<A
   ·rw[ah h3];exact eA (ae (by omega)) (by omega)
   ·rw[ag h3];exact eA (af (by omega)) (by omega)
 ·show(if -(A:Int) + -(B:Int)=0 then Bu (fk k) true else(AT (fk k) 0 (decide (-(A:Int) + -(B:Int)<0)) (-(A:Int) + -(B:Int)).natAbs e false).1)=(if A+B=0 then(Bu (fk k) true,0)else AT (fk k) 0 true (A+B) e false).1;by_cases h:A+B=0
  ·have h2:-(A:Int) + -(B:Int)=0:=by omega
   rw[ah h,ah h2]
  ·have h2:¬ -(A:Int) + -(B:Int)=0:=by omega
   rw[ag h,ag h2];exact eA (ae (by omega)) (by omega)
def Fx(f:Int)(o:Option Nat):Nat:=o.getD (Cu f)
theorem aD3(k:FloatKind){a:Nat}(h:Ai (fk k) a=0)(h1:eF (fk k) a=AH (fk k))(h2:mF (fk k) a=0):k.format.word (sF (fk k) a) k.format.infRung=a:=by
 have hf:=F8 k;rw[aF,Wt];have:=aQb h;rw[Pe hf,h1,h2,dj]at this;unfold CJ BG;exact this.symm
theorem aL2(k:FloatKind){a b:Nat}(ha:Ai (fk k) a=0)(hb:Ai (fk k) b=0):(HR (fk k) 0 a b).1=(Fx (fk k) (CE .add k a b):Nat)/\(HR (fk k) 0 a b).2.2.1=0:=by
 have hf:=F8 k;unfold HR;rw[ah hf,ah ⟨by decide,by decide⟩,ah ⟨ha,hb⟩];show(V9 (fk k) 0 a b).1=(Fx (fk k) (((k.format.read a).sum (k.format.read b)).map k.format.write):Nat)/\_;rw[PP k ha,PP k hb];unfold V9;have sn:∀x,Bm (fk k) x=true->nan (fk k) x=true:=fun x h=>by unfold Bm at h;simp only[ar]at h;exact h.1
 by_cases na:nan (fk k) a=true
 ·have h1:eF (fk k) a=AH (fk k)/\mF (fk k) a≠0:=by unfold nan at na;simpa using na
  rw[ah h1.1,ag h1.2,na,bg];have:∀d,((Ieee.Datum.nan (sF (fk k) a) (mF (fk k) a)).sum d).map k.format.write=none:=fun d=>rfl;rw[this];cases Bm (fk k) a||Bm (fk k) b<;>exact⟨rfl,rfl⟩
 ·have na:nan (fk k) a=false:=by simpa using na
  rw[na,bm];by_cases nb:nan (fk k) b=true
  ·have h1:eF (fk k) b=AH (fk k)/\mF (fk k) b≠0:=by unfold nan at nb;simpa using nb
   have this:∀d:Ieee.Datum,(d.sum (Ieee.Datum.nan (sF (fk k) b) (mF (fk k) b))).map k.format.write=none:=fun d=>by cases d<;>rfl
   rw[ah (c:=eF (fk k) b=_) h1.1,ag (c:=mF (fk k) b=0) h1.2,this,nb];cases Bm (fk k) a||Bm (fk k) b<;>exact⟨rfl,rfl⟩
  ·have nb:nan (fk k) b=false:=by simpa using nb
   have sa:=PT na;have sb:=PT nb;rw[nb,sa,sb,bj,ab,ab];by_cases fa:eF (fk k) a=AH (fk k)
   ·have ma:mF (fk k) a=0:=by
     unfold nan at na;rw[fa]at na;simpa using na
    have ia:Ax (fk k) a=true:=by rw[(Vb fa).2.2,ma];rfl
    rw[ah fa,ah ma,ia,bl];by_cases fb:eF (fk k) b=AH (fk k)
    ·have mb:mF (fk k) b=0:=by
      unfold nan at nb;rw[fb]at nb;simpa using nb
     have ib:Ax (fk k) b=true:=by rw[(Vb fb).2.2,mb];rfl
     rw[ah fb,ah mb,ib,bl];show _/\_;by_cases hs:sF (fk k) a=sF (fk k) b
     ·have e:(Ieee.Datum.infinity (sF (fk k) a)).sum (.infinity (sF (fk k) b))=some (.infinity (sF (fk k) a)):=by
       show(if sF (fk k) a=sF (fk k) b then _ else _)=_;rw[ah hs]
      rw[e,beq_iff_eq.2 hs];refine⟨?_,rfl⟩;show(a:Int)=((k.format.word (sF (fk k) a) k.format.infRung:Nat):Int)
      rw[aD3 k ha fa ma]
     ·have e:(Ieee.Datum.infinity (sF (fk k) a)).sum (.infinity (sF (fk k) b))=none:=by
       show(if sF (fk k) a=sF (fk k) b then _ else _)=_;rw[ag hs]
      rw[e,beq_eq_false_iff_ne.2 hs];exact⟨rfl,rfl⟩
    ·have ib:Ax (fk k) b=false:=(JW fb).2.2;rw[ag fb,ib,ay,ab,aa];refine⟨?_,rfl⟩;show(a:Int)=((k.format.word (sF (fk k) a) k.format.infRung:Nat):Int)
     rw[aD3 k ha fa ma]
   ·have ia:Ax (fk k) a=false:=(JW fa).2.2;rw[ag fa,ia,ay,ay,ab,ab];by_cases fb:eF (fk k) b=AH (fk k)
    ·have mb:mF (fk k) b=0:=by
      unfold nan at nb;rw[fb]at nb;simpa using nb
     have ib:Ax (fk k) b=true:=by rw[(Vb fb).2.2,mb];rfl
     rw[ah fb,ah mb,ib,aa];refine⟨?_,rfl⟩;show(b:Int)=((k.format.word (sF (fk k) b) k.format.infRung:Nat):Int)
     rw[aD3 k hb fb mb]
    ·have ib:Ax (fk k) b=false:=(JW fb).2.2;rw[ag fb,ib,ab,bIG k _ _ _ _ _ _ (jF (fk k) a) (jF (fk k) b)];exact⟨rfl,rfl⟩
theorem bBO{f:Int}(hf:Fm f)(b:Nat):eF f (DR f b)=eF f b/\mF f (DR f b)=mF f b:=by
 obtain⟨p1,p2⟩:=aCF hf b;obtain⟨q1,q2⟩:=aCF hf (DR f b);rw[bBN]at q1 q2;exact⟨by rw[←p2,←q2],by rw[←p1,←q1]⟩
theorem bGQ(k:FloatKind){b:Nat}(hb:Ai (fk k) b=0):(k.format.read b).opposite=k.format.read (DR (fk k) b):=by
 have hf:=F8 k;have hn:=uX hf b;obtain⟨e1,e2⟩:=bBO hf b;rw[PP k hb,PP k hn,e1,e2,bBP];have e3:Al (fk k) (DR (fk k) b)=Al (fk k) b:=by unfold Al;rw[e1,e2]
 have e4:An (fk k) (DR (fk k) b)=An (fk k) b:=by unfold An;rw[e1]
 rw[e3,e4];by_cases h1:eF (fk k) b=AH (fk k)
 ·rw[ah h1,ah h1];by_cases h2:mF (fk k) b=0
  ·rw[ah h2,ah h2];rfl
  ·rw[ag h2,ag h2];rfl
 ·rw[ag h1,ag h1];rfl
theorem bIt(k:FloatKind)(a:Nat){b:Nat}(hb:Ai (fk k) b=0):CE .sub k a b=CE .add k a (DR (fk k) b):=by
 show((k.format.read a).sum (k.format.read b).opposite).map k.format.write=((k.format.read a).sum (k.format.read (DR (fk k) b))).map k.format.write;rw[bGQ k hb]
theorem bIu(k:FloatKind){a b:Nat}(ha:Ai (fk k) a=0)(hb:Ai (fk k) b=0):(JY (fk k) 0 a b).1=(Fx (fk k) (CE .sub k a b):Nat)/\(JY (fk k) 0 a b).2.2.1=0:=by
 unfold JY;rw[ah hb,bIt k a hb];exact aL2 k ha (uX (F8 k) b)
theorem bI3(k:FloatKind){d:Ieee.Datum}(h:d.isNaN=false):Ai (fk k) (k.format.write d)=0/\nan (fk k) (k.format.write d)=false:=by
 have hf:=F8 k;have key:∀s r,r<=BG (fk k)->Ai (fk k) (k.format.word s r)=0/\nan (fk k) (k.format.word s r)=false:=fun s r hr=>by
  have hroom:=aOL hf;have hlt:r<2^(fW (fk k)-1):=by omega
  rw[aF];refine⟨uP hf s hlt,bBJ hf ?_⟩;rw[aEj s hlt];exact hr
 cases d with
 |nan s t=>cases h
 |infinity s=>exact key s _ (by rw[Wt];exact ci _)
 |number s m e=>
  show Ai (fk k) (k.format.nearest s m e)=0/\nan (fk k) (k.format.nearest s m e)=false;unfold Ieee.Format.nearest;split
  ·exact key s 0 (dv _)
  ·exact key s _ (by rw[Wt];exact Nat.min_le_right _ _)
theorem aQ8{d e r:Ieee.Datum}(h:d.sum e=some r):r.isNaN=false:=by
 cases d<;>cases e<;>first|(cases h;done)|skip
 ·cases h;rfl
 ·cases h;rfl
 ·cases h;rfl
 ·rename_i s t;have h:(if s=t then some (Ieee.Datum.infinity s)else none)=some r:=h;split at h
  ·cases h;rfl
  ·cases h
end VL
namespace VL
open Go Vx
theorem bBL(k:FloatKind)(neg:Bool){mag:Nat}(h0:mag≠0)(d:Nat):k.format.nearest neg mag (qm (fk k)-d)=CJ (fk k) neg (Ds (fk k) 0 neg mag (qm (fk k)-d)).1:=by
 have hf:=F8 k;have hP:=CZ hf;have hbl:Af mag=mag.log2+1:=by unfold Af;rw[ag h0]
 rw[bG1 hf 0 neg h0 d];have hup:iH (fk k) 0 neg=BG (fk k):=rfl;unfold Ieee.Format.nearest;rw[ag h0,aF,aDK,aDJ,aDI,Wt];congr 1;have hl:max (qm (fk k)-(d:Int)+(mag.log2:Int)-((fP (fk k)-1:Nat):Int)) (qm (fk k))=qm (fk k)+((Af mag-fP (fk k)-d:Nat):Int):=by omega
 have key:(max (qm (fk k)-(d:Int)+(mag.log2:Int)-((fP (fk k)-1:Nat):Int)) (qm (fk k))-qm (fk k)).toNat*2^(fP (fk k)-1) +
   Ieee.Toward.even.cut neg (mag <<< (qm (fk k)-(d:Int)-max (qm (fk k)-(d:Int)+(mag.log2:Int)-((fP (fk k)-1:Nat):Int)) (qm (fk k))).toNat) (max (qm (fk k)-(d:Int)+(mag.log2:Int)-((fP (fk k)-1:Nat):Int)) (qm (fk k))-(qm (fk k)-(d:Int))).toNat=ZM (fk k) 0 neg d mag:=by
  rw[aNx,kb,hl];unfold ZM;generalize Af mag-fP (fk k)-d=J;rw[show(qm (fk k)+(J:Int)-qm (fk k)).toNat=J by omega,show(qm (fk k)-(d:Int)-(qm (fk k)+(J:Int))).toNat=0 by omega,iv,gx,show(qm (fk k)+(J:Int)-(qm (fk k)-(d:Int))).toNat=J+d by omega]
 rw[key,hup];by_cases h:BG (fk k)<=ZM (fk k) 0 neg d mag
 ·rw[ah h,lu h]
 ·rw[ag h,ij (by omega)]
theorem aEl(k:FloatKind)(neg:Bool){mag:Nat}(h0:mag≠0)(AB:Int):k.format.nearest neg mag AB=(AT (fk k) 0 neg mag AB false).1:=by
 rcases Int.le_total (qm (fk k)) AB with h|h
 ·exact aQG k neg h0 h
 ·obtain⟨d,hd⟩:=cv (show 0<=qm (fk k)-AB by omega);have:=bBL k neg h0 d;rw[show qm (fk k)-(d:Int)=AB by omega]at this;rw[this,Vj (F8 k)]
theorem W8(s t:Bool):(s ^^ t)=!(s==t):=by cases s<;>cases t<;>rfl
theorem uU(k:FloatKind){a:Nat}(ha:Ai (fk k) a=0)(h:nan (fk k) a=true):k.format.read a=.nan (sF (fk k) a) (mF (fk k) a):=by
 have h1:eF (fk k) a=AH (fk k)/\mF (fk k) a≠0:=by unfold nan at h;simpa using h
 rw[PP k ha,ah h1.1,ag h1.2]
theorem WA(k:FloatKind){a:Nat}(ha:Ai (fk k) a=0)(h:Ax (fk k) a=true):k.format.read a=.infinity (sF (fk k) a):=by
 have h1:eF (fk k) a=AH (fk k)/\mF (fk k) a=0:=by unfold Ax at h;simpa using h
 rw[PP k ha,ah h1.1,ah h1.2]
theorem WL(k:FloatKind){a:Nat}(ha:Ai (fk k) a=0)(h:nan (fk k) a=false)(h2:Ax (fk k) a=false):k.format.read a=.number (sF (fk k) a) (Al (fk k) a) (An (fk k) a):=by
 have h1:eF (fk k) a≠AH (fk k):=fun he=>by
  unfold nan at h;unfold Ax at h2;rw[he]at h h2;simp at h h2;exact h2 h
 rw[PP k ha,ag h1]
theorem jC(k:FloatKind)(s:Bool):k.format.word s k.format.infRung=Dp (fk k) s:=by
 rw[aF,Wt,aOJ,fC]
theorem bBD(k:FloatKind){a b:Nat}(ha:Ai (fk k) a=0)(hb:Ai (fk k) b=0):(JS (fk k) 0 a b).1=(Fx (fk k) (CE .mul k a b):Nat)/\(JS (fk k) 0 a b).2.2.1=0:=by
 have hf:=F8 k;unfold JS;rw[ag (show ¬¬Fm (fk k)from fun h=>h hf),ag (by decide),ag (fun h=>h ha),ag (fun h=>h hb)];show(WH (fk k) 0 a b).1=(Fx (fk k) (((k.format.read a).product (k.format.read b)).map k.format.write):Nat)/\_;unfold WH;have za:=W9 (fk k) a;have zb:=W9 (fk k) b;cases na:nan (fk k) a
 ·cases nb:nan (fk k) b
  ·rw[PT na,PT nb];simp only[bj,ab];cases ia:Ax (fk k) a
   ·rw[WL k ha na ia];cases ib:Ax (fk k) b
    ·rw[WL k hb nb ib];simp only[be,ay,bj,ab];show _=((k.format.nearest (sF (fk k) a ^^ sF (fk k) b) (Al (fk k) a*Al (fk k) b) (An (fk k) a+An (fk k) b):Nat):Int)/\_;rw[W8];cases hz:AX (fk k) a||AX (fk k) b
     ·rw[jb]at hz;rw[aEl k _ (kq (FE hz.1) (FE hz.2))];exact⟨rfl,by first|rfl|trivial⟩
     ·have h0:Al (fk k) a*Al (fk k) b=0:=by
       rw[fh]at hz;rcases hz with hz|hz
       ·rw[hz,beq_iff_eq]at za;rw[show Al (fk k) a=0 by omega,fq]
       ·rw[hz,beq_iff_eq]at zb;rw[show Al (fk k) b=0 by omega,fu]
      rw[h0,uW];exact⟨rfl,by first|rfl|trivial⟩
    ·rw[WA k hb ib];simp only[bq,ay,bm,aa];show _=(Fx (fk k) ((if Al (fk k) a=0 then none else some (Ieee.Datum.infinity (sF (fk k) b ^^ sF (fk k) a))).map k.format.write):Int)/\_;cases hz:AX (fk k) a
     ·rw[ag (FE hz),ab];refine⟨?_,by first|rfl|trivial⟩;show _=((k.format.word _ k.format.infRung:Nat):Int)
      rw[jC,W8];cases sF (fk k) a<;>cases sF (fk k) b<;>rfl
     ·rw[hz,beq_iff_eq]at za;rw[ah (by omega),aa];exact⟨rfl,by first|rfl|trivial⟩
   ·rw[WA k ha ia];cases ib:Ax (fk k) b
    ·rw[WL k hb nb ib];simp only[bl,be,br,aa];show _=(Fx (fk k) ((if Al (fk k) b=0 then none else some (Ieee.Datum.infinity (sF (fk k) a ^^ sF (fk k) b))).map k.format.write):Int)/\_;cases hz:AX (fk k) b
     ·rw[ag (FE hz),ab];refine⟨?_,by first|rfl|trivial⟩;show _=((k.format.word _ k.format.infRung:Nat):Int)
      rw[jC,W8]
     ·rw[hz,beq_iff_eq]at zb;rw[ah (by omega),aa];exact⟨rfl,by first|rfl|trivial⟩
    ·rw[WA k hb ib];have z1:AX (fk k) b=false:=by
      cases hz:AX (fk k) b
      ·rfl
      ·exfalso;have h1:eF (fk k) b=AH (fk k)/\mF (fk k) b=0:=by unfold Ax at ib;simpa using ib
       have h2:eF (fk k) b=0/\mF (fk k) b=0:=by unfold AX at hz;simpa using hz
       have:=Wx hf;omega
     have z2:AX (fk k) a=false:=by
      cases hz:AX (fk k) a
      ·rfl
      ·exfalso;have h1:eF (fk k) a=AH (fk k)/\mF (fk k) a=0:=by unfold Ax at ia;simpa using ia
       have h2:eF (fk k) a=0/\mF (fk k) a=0:=by unfold AX at hz;simpa using hz
       have:=Wx hf;omega
     rw[z1,z2];simp only[be,ay,bj,ab,aa];refine⟨?_,by first|rfl|trivial⟩;show _=((k.format.word (sF (fk k) a ^^ sF (fk k) b) k.format.infRung:Nat):Int)
     rw[jC,W8]
  ·rw[uU k hb nb];have this:∀d:Ieee.Datum,(d.product (Ieee.Datum.nan (sF (fk k) b) (mF (fk k) b))).map k.format.write=none:=fun d=>by cases d<;>rfl
   rw[this];exact⟨rfl,by first|rfl|trivial⟩
 ·rw[uU k ha na];exact⟨rfl,by first|rfl|trivial⟩
theorem aOM(k:FloatKind){a:Nat}(h:Ax (fk k) a=true):AX (fk k) a=false:=by
 cases hz:AX (fk k) a
 ·rfl
 ·exfalso;have h1:eF (fk k) a=AH (fk k)/\mF (fk k) a=0:=by unfold Ax at h;simpa using h
  have h2:eF (fk k) a=0/\mF (fk k) a=0:=by unfold AX at hz;simpa using hz
  have:=Wx (F8 k);omega
theorem bDd(k:FloatKind)(neg:Bool){m n:Nat}(hm0:m≠0)(hn0:n≠0)(hm:m<2^53)(hn:n<2^53)(e:Int):
  k.format.nearest neg (2*(m <<< (k.format.fractionBits+2+n.log2-m.log2)/n)+(m <<< (k.format.fractionBits+2+n.log2-m.log2)%n !=0).toNat) (e-((k.format.fractionBits+2+n.log2-m.log2:Nat):Int)-1)=(HX (fk k) 0 neg m n e).1:=by
 have hf:=F8 k;have hP:=CZ hf;have hPl:=FA hf;have l1:=Nat.log2_self_le hm0;have l2:=aOZ n;have l3:n.log2<53:=(Nat.log2_lt hn0).2 hn;rw[aDJ,kb];obtain⟨s,hs⟩:∃s,fP (fk k)-1+2+n.log2-m.log2=s:=⟨_,rfl⟩
 rw[hs];have hlow:2^fP (fk k)<=m*2^s/n:=by
  rw[Nat.le_div_iff_mul_le (by omega)];have h1:2^fP (fk k)*n<=2^fP (fk k)*2^(n.log2+1):=cq _ (Nat.le_of_lt l2);have h2:2^m.log2*2^s<=m*2^s:=Nat.mul_le_mul_right _ l1;rw[←ca]at h1 h2;have h3:2^(fP (fk k)+(n.log2+1))<=2^(m.log2+s):=ax (by decide) (by omega);omega
 have hb:=Pf hlow;have hq0:m*2^s/n≠0:=by
  have:=au (fP (fk k));omega
 rw[←tU (m:=0) (neg:=neg) hf hm0 (show 0<n by omega) e (s:=s) (by omega) (fun _=>hb)];unfold LZ;by_cases hr:m*2^s%n=0
 ·rw[hr];rw[ag (by decide),show((0:Nat)!=0).toNat=0 from rfl,dp,aEl k neg (by omega)];have:=Z1 (f:=fk k) (m:=0) (neg:=neg) hf hq0 1 (e-(s:Int)-1);rw[Nat.pow_one,bt,show e-(s:Int)-1+((1:Nat):Int)=e-s by omega]at this;rw[this]
 ·rw[ae hr,ah rfl,bne_iff_ne.2 hr,show true.toNat=1 from rfl,aEl k neg (by omega)]
theorem aZZ(k:FloatKind){a b:Nat}(ha:Ai (fk k) a=0)(hb:Ai (fk k) b=0):(Pq (fk k) 0 a b).1=(Fx (fk k) (CE .quo k a b):Nat)/\(Pq (fk k) 0 a b).2.2.1=0:=by
 have hf:=F8 k;unfold Pq;rw[ag (show ¬¬Fm (fk k)from fun h=>h hf),ag (by decide),ag (fun h=>h ha),ag (fun h=>h hb)];show(gB (fk k) 0 a b).1=(Fx (fk k) (((k.format.read a).quotient (k.format.fractionBits+2) (k.format.read b)).map k.format.write):Nat)/\_;unfold gB;have za:=W9 (fk k) a;have zb:=W9 (fk k) b;cases na:nan (fk k) a
 ·cases nb:nan (fk k) b
  ·rw[PT na,PT nb];simp only[bj,ab];cases ia:Ax (fk k) a
   ·rw[WL k ha na ia];cases ib:Ax (fk k) b
    ·rw[WL k hb nb ib];simp only[ay,bm,ab];show _=(Fx (fk k) ((if Al (fk k) b=0 then(if Al (fk k) a=0 then none else some (Ieee.Datum.infinity (sF (fk k) a ^^ sF (fk k) b)))else
      some (Ieee.Datum.number (sF (fk k) a ^^ sF (fk k) b) (2*(Al (fk k) a <<< (k.format.fractionBits+2+(Al (fk k) b).log2-(Al (fk k) a).log2)/Al (fk k) b)+(Al (fk k) a <<< (k.format.fractionBits+2+(Al (fk k) b).log2-(Al (fk k) a).log2)%Al (fk k) b !=0).toNat) (An (fk k) a-An (fk k) b-((k.format.fractionBits+2+(Al (fk k) b).log2-(Al (fk k) a).log2:Nat):Int)-1))).map k.format.write):Int)/\_
     rw[W8];cases hzb:AX (fk k) b
     ·rw[ag (FE hzb)];simp only[be,ab];show _=((k.format.nearest _ _ _:Nat):Int)/\_;cases hza:AX (fk k) a
      ·rw[bDd k _ (FE hza) (FE hzb) (HZ hf a) (HZ hf b)];exact⟨rfl,by first|rfl|trivial⟩
      ·rw[hza,beq_iff_eq]at za;rw[show Al (fk k) a=0 by omega,Nat.zero_shiftLeft,Nat.zero_div,Nat.zero_mod,fu,show((0:Nat)!=0).toNat=0 from rfl,dp,uW];exact⟨rfl,by first|rfl|trivial⟩
     ·rw[hzb,beq_iff_eq]at zb;rw[ah (by omega)];cases hza:AX (fk k) a
      ·rw[ag (FE hza)];simp only[ay,ab,aa];refine⟨?_,by first|rfl|trivial⟩;show _=((k.format.word _ k.format.infRung:Nat):Int)
       rw[jC]
      ·rw[hza,beq_iff_eq]at za;rw[ah (by omega)];exact⟨rfl,by first|rfl|trivial⟩
    ·rw[WA k hb ib,aOM k ib];simp only[bq,be,ay,br,bj,ab,bg,aa];refine⟨?_,by first|rfl|trivial⟩;show _=((k.format.nearest (sF (fk k) a ^^ sF (fk k) b) 0 0:Nat):Int)
     rw[uW,W8]
   ·rw[WA k ha ia];cases ib:Ax (fk k) b
    ·rw[WL k hb nb ib,aOM k ia];simp only[be,ay,bj,ab,aa];refine⟨?_,by first|rfl|trivial⟩;show _=((k.format.word (sF (fk k) a ^^ sF (fk k) b) k.format.infRung:Nat):Int)
     rw[jC,W8]
    ·rw[WA k hb ib];simp only[ba,bg,aa];exact⟨rfl,by first|rfl|trivial⟩
  ·rw[uU k hb nb];have this:∀d:Ieee.Datum,(d.quotient (k.format.fractionBits+2) (Ieee.Datum.nan (sF (fk k) b) (mF (fk k) b))).map k.format.write=none:=fun d=>by cases d<;>rfl
   rw[this];exact⟨rfl,by first|rfl|trivial⟩
 ·rw[uU k ha na];exact⟨rfl,by first|rfl|trivial⟩
end VL
namespace VL
open Go Vx
theorem bC4{d e r:Ieee.Datum}(h:d.product e=some r):r.isNaN=false:=by
 unfold Ieee.Datum.product at h;split at h;all_goals first|(cases h;done)|(cases h;rfl)|(split at h<;>first|(cases h;done)|(cases h;rfl))
theorem bDf{g:Nat}{d e r:Ieee.Datum}(h:d.quotient g e=some r):r.isNaN=false:=by
 unfold Ieee.Datum.quotient at h;split at h;all_goals first|(cases h;done)|(cases h;rfl)|skip
 split at h
 ·split at h
  ·cases h
  ·cases h;rfl
 ·cases h;rfl
theorem bIP(k:FloatKind){op:BinOp}(hop:op=.add∨op=.sub∨op=.mul∨op=.quo)(a b:Nat):
  (bif Dd k (Ca op k (some a) (some b)) (Ca op k (some a) (some b))!=some .eq then Cu (fk k)else(Ca op k (some a) (some b)).getD 0)=Fx (fk k) (CE op k a b) /\
  ((Dd k (Ca op k (some a) (some b)) (Ca op k (some a) (some b))!=some .eq)=false->(Ca op k (some a) (some b)).isSome=true):=by
 have e:Ca op k (some a) (some b)=CE op k a b:=rfl;rw[e];have hnum:∀r,CE op k a b=some r->Ai (fk k) r=0/\nan (fk k) r=false:=fun r h=>by
  have key:∀{o:Option Ieee.Datum},(∀d,o=some d->d.isNaN=false)->o.map k.format.write=some r->Ai (fk k) r=0/\nan (fk k) r=false:=fun {o} ho h=>by
   cases o with
   |none=>cases h
   |some d=>cases h;exact bI3 k (ho d rfl)
  rcases hop with rfl|rfl|rfl|rfl
  ·exact key (fun d hd=>aQ8 hd) h
  ·exact key (fun d hd=>aQ8 hd) h
  ·exact key (fun d hd=>bC4 hd) h
  ·exact key (fun d hd=>bDf hd) h
 cases h:CE op k a b with
 |none=>
  exact⟨rfl,fun h=>by cases h⟩
 |some r=>
  obtain⟨h1,h2⟩:=hnum r h;have ho:Dd k (some r) (some r)=some .eq:=by
   show k.format.order r r=_;rw[aP7 k h1 h1,h2,bj,ag (by decide)];congr 1;show compareOfLessAndEq _ _=_;unfold compareOfLessAndEq;rw[ag (by omega),ah rfl]
  rw[ho];exact⟨rfl,fun _=>rfl⟩
end VL
namespace VL
open Go Vx
theorem aDh{a:Nat}(h:a<2^64):Ai 3 a=0:=aDk (f:=3) (by decide) h
def N7(o:Option Nat)(n:Nat):Prop:=Ai 3 n=0/\(match o with|some b=>n=b|none=>(FloatKind.f64.format.read n).isNaN=true)
theorem Vh{a:Nat}(h:a<2^64):N7 (some a) a:=⟨aDh h,rfl⟩
def Fj:Int->BinOp
 |1=>.add
 |2=>.sub
 |3=>.mul
 |_=>.quo
theorem bIl{op:Int}(h:Ia op){a b:Nat}(ha:Ai 3 a=0)(hb:Ai 3 b=0):AC 3 0 op a b=Fx 3 (CE (Fj op) .f64 a b):=by
 have key:(Ek 0 op 3 a b 0).1=((Fx 3 (CE (Fj op) .f64 a b):Nat):Int):=by
  rcases h with rfl|rfl|rfl|rfl
  ·exact(aL2 .f64 ha hb).1
  ·exact(bIu .f64 ha hb).1
  ·exact(bBD .f64 ha hb).1
  ·exact(aZZ .f64 ha hb).1
 unfold AC;rw[key];rfl
theorem Vi{op:Int}(h:Ia op){o1 o2:Option Nat}{a b:Nat}(h1:N7 o1 a)(h2:N7 o2 b):
  N7 (Ca (Fj op) .f64 o1 o2) (AC 3 0 op a b)/\J2 (Ca (Fj op) .f64 o1 o2)=((AC 3 0 op a b:Nat):Int):=by
 have e:Ca (Fj op) .f64 o1 o2=CE (Fj op) .f64 a b:=Pz h1.2 h2.2;have hs:=bIl h h1.1 h2.1;refine⟨⟨(Vp (f:=3) (m:=0) (by decide) (by decide) h h1.1 h2.1).1,?_⟩,?_⟩
 ·rw[e,hs];cases hr:CE (Fj op) .f64 a b with
  |some r=>rfl
  |none=>show(FloatKind.f64.format.read (Fx 3 none)).isNaN=true;kernel_rfl
 ·have ho:Fj op=.add∨Fj op=.sub∨Fj op=.mul∨Fj op=.quo:=by
   rcases h with rfl|rfl|rfl|rfl
   ·exact .inl rfl
   ·exact .inr (.inl rfl)
   ·exact .inr (.inr (.inl rfl))
   ·exact .inr (.inr (.inr rfl))
  obtain⟨t1,_⟩:=bIP .f64 ho a b;have t2:(bif Dd .f64 (CE (Fj op) .f64 a b) (CE (Fj op) .f64 a b)!=some .eq then Cu 3 else(CE (Fj op) .f64 a b).getD 0)=Fx 3 (CE (Fj op) .f64 a b):=t1;rw[e,hs,←t2];unfold J2;generalize CE (Fj op) .f64 a b=r;rw[aMq];by_cases hq:Dd .f64 r r=some .eq
  ·rw[ah hq,ae hq];rfl
  ·rw[ag hq,af hq];rfl
theorem F1:Ia 1:=.inl rfl
theorem F2:Ia 2:=.inr (.inl rfl)
theorem F3:Ia 3:=.inr (.inr (.inl rfl))
def Gd(x:AM):Prop:=x.1<2^64/\x.2<2^64
end VL
namespace VL
open Go Vx
theorem aIg(x:XI):o7 (x,x,())=some (true,()):=by
 show zC x x=_;unfold zC;rw[beq_self_eq_true,beq_self_eq_true];rfl
def aS1(x:XI):Prop:=(0<=x.1/\x.1<2^64)/\(0<=x.2.1/\x.2.1<2^64)
theorem word_cx{x:XI}(h:aS1 x):∃y:AM,Gd y/\x=cI y:=by
 obtain⟨a,b,u⟩:=x;obtain⟨⟨h1,h2⟩,h3,h4⟩:=h;dsimp only at h1 h2 h3 h4;obtain⟨a,rfl⟩:=cv h1;obtain⟨b,rfl⟩:=cv h3;exact⟨(a,b),⟨by show a<2^64;omega,by show b<2^64;omega⟩,rfl⟩
end VL
namespace VL
open Go Vx
def Hc(f:Int)(a:Nat):Nat:=if nan f a=true then Cu f else a
theorem aZE(f:Int)(a:Nat):decide (BZ f a<=1)=nan f a:=by
 have h0:BZ f a=0∨1<=BZ f a:=by
  unfold BZ;cases(eF f a==AH f&&mF f a==0)<;>cases(eF f a==AH f&&mF f a/2^(fP f-2)!=0)<;>cases(eF f a==AH f)<;>cases(eF f a==0&&mF f a==0)<;>cases(eF f a==0)<;>cases sF f a<;>simp
 have h:=f0 f a;rw[←h];rcases h0 with e|e
 ·rw[e];rfl
 ·by_cases h1:BZ f a=1
  ·rw[h1];rfl
  ·rw[beq_false_of_ne h1,beq_false_of_ne (show BZ f a≠0 by omega),af (by omega)];rfl
theorem aIk{f:Int}(hf:Fm f)(m g:Int){a:Nat}(ha:Ai f a=0):pE ((f,m,g,()),(a:Int),())=some (((Hc f a:Nat):Int),()):=by
 show zH Bs.pre Bs.F Bh.pre Bh.F (f,m,g,()) (a:Int)=_;have p:=cW (f:=f) (Wj hf ha) ha;have q:=cZ hf;unfold zH Hc;simp only[Pi p,tH q,aZE,aa];cases nan f a
 ·rfl
 ·rfl
theorem aIi{f:Int}(hf:Fm f){a:Nat}(ha:Ai f a=0):pC (f,(a:Int),())=some (((Hc f a:Nat):Int),()):=by
 show zF Eu.pre Eu.F Ew.pre Ew.F f (a:Int)=_;have p:=aBg hf ha;have q:=aBh hf;unfold zF Hc;simp only[JG p,Wh q,aa];cases nan f a
 ·rfl
 ·rfl
section
variable (f m:Int)(x:AM)
def W1(p:AM×Int)(y:AM):AM×Int:=(vZ f m (WQ f m p.1 x) y,JU f m (JU f m p.2 (WR f m p.1 x)) (aE1 (WQ f m p.1 x) y))
def G5(l:List AM)(p:AM×Int):AM×Int:=l.foldl (W1 f m x) p
def CY:List AM->AM×Int
 | []=>((0,0),0)
 |a::r=>G5 f m x r (a,0)
end
theorem aNU{f m:Int}(hf:Fm f)(hm:0<=m/\m<=5){x:AM}(hx:Ch f x):∀(l:List AM),(∀y∈l,Ch f y)->∀(p:AM×Int),Ch f p.1->Ch f (G5 f m x l p).1
 | [],_,_,hp=>hp
 |y::l,hl,p,hp=>by
  show Ch f (G5 f m x l (W1 f m x p y)).1
  refine aNU hf hm hx l (fun z hz=>hl z (fw _ hz)) _ ?_
  exact(aBb hf hm 0 (oN hf hm 0 hp hx).2 (hl y (fx ..))).2
theorem aDj{f:Int}(hf:Fm f):Ai f 0=0/\nan f 0=false:=by
 obtain⟨h1,h2⟩:=hf;have:f=0∨f=1∨f=2∨f=3:=by omega
 rcases this with rfl|rfl|rfl|rfl<;>exact⟨by decide,by decide⟩
theorem aNV{f m:Int}(hf:Fm f)(hm:0<=m/\m<=5){x:AM}(hx:Ch f x):∀(l:List AM),(∀y∈l,Ch f y)->Ch f (CY f m x l).1
 | [],_=>⟨(aDj hf).1,(aDj hf).1⟩
 |a::r,hl=>aNU hf hm hx r (fun z hz=>hl z (fw _ hz)) _ (hl a (fx ..))
theorem aXh{f m:Int}(hf:Fm f)(hm:0<=m/\m<=5){x:AM}(hx:Ch f x)(l:List AM)(hl:∀y∈l,Ch f y)(hlen:l.length<2^63){a:AM}(ha:Ch f a)(g:Int):
  qY (((l.length:Int),l.map cI,(),(0:Int),(),(),(),()),cI x,((0:Int),(0:Int),()),(),(f,m,g,()),cI a,()) =
   some (.inl (((),(),(),()),(),((0:Int),(0:Int),()),(),(f,m,(G5 f m x l (a,g)).2,()),cI (G5 f m x l (a,g)).1,())):=by
 have key:=Cx (aPB Ap.pre Ap.F CV.pre CV.F DO.pre DO.F E1.pre E1.F D0.pre D0.F) (fun s=>l.length-s.1.2.2.2.1.toNat)
  (fun s=>∃(i:Nat) (b:AM) (h:Int),i<=l.length/\Ch f b/\G5 f m x (l.drop i) (b,h)=G5 f m x l (a,g)/\s=(((l.length:Int),l.map cI,(),(i:Int),(),(),(),()),cI x,((0:Int),(0:Int),()),(),(f,m,h,()),cI b,()))
  (fun _=>.inl (((),(),(),()),(),((0:Int),(0:Int),()),(),(f,m,(G5 f m x l (a,g)).2,()),cI (G5 f m x l (a,g)).1,())) ?_ _ ⟨0,a,g,dv _,ha,rfl,rfl⟩
 ·exact key
 intro L s hs hL;obtain⟨i,b,h,hi,hb,hok,rfl⟩:=hs;unfold Y8;rcases bc i l.length with hlt|hge
 ·have hg:(l.map cI).getD i ((0:Int),(0:Int),())=cI l[i]:=by simp[aw,hlt]
  have hy:=hl _ (jd hlt);obtain⟨p1,o1⟩:=oN hf hm h hb hx;obtain⟨p2,o2⟩:=aBb hf hm (JU f m h (WR f m b x)) o1 hy;have e0:decide ((i:Int)<(l.length:Int))=true:=ae (by omega);have e2:decide ((0:Int)<=(i:Int))=true:=ae (by omega);have e1:decide ((i:Int)<(((l.map cI).length:Nat):Int))=true:=by rw[cp];exact e0
  have e3:al .i64 ((i:Int)+1)=((i+1:Nat):Int):=by rw[Au (by omega)];omega
  have hN:=hL (((l.length:Int),l.map cI,(),((i+1:Nat):Int),(),(),(),()),cI x,((0:Int),(0:Int),()),(),(f,m,(W1 f m x (b,h) l[i]).2,()),cI (W1 f m x (b,h) l[i]).1,())
   ⟨i+1,_,_,by omega,o2,by rw[←hok,dr hlt];rfl,rfl⟩ (by simp only[ao];omega)
  dsimp only;simp only[e0,e1,e2,e3,ao,hg,aMP p1,aZh p2,aa,ba];exact hN
 ·have e:i=l.length:=by omega
  subst e;rw[gf]at hok;have e0:decide ((l.length:Int)<(l.length:Int))=false:=af (by omega);have hok':(b,h)=G5 f m x l (a,g):=hok;simp only[e0,ab];rw[←hok']
theorem aXg{f m:Int}(hf:Fm f)(hm:0<=m/\m<=5){x:AM}(hx:Ch f x)(l:List AM)(hl:∀y∈l,Ch f y)(hlen:l.length<2^63):
  qX (((),l.map cI,(0:Int),f,(),(),(),()),cI x,((0:Int),(0:Int),()),(f,m,(0:Int),()),((0:Int),(0:Int),()),()) =
   some (.inl ((f,(),(),(),()),(),((0:Int),(0:Int),()),(f,m,(CY f m x l).2,()),cI (CY f m x l).1,())):=by
 have key:=Cx (aPA Cc.pre Cc.F E2.pre E2.F E4.pre E4.F E3.pre E3.F DZ.pre DZ.F) (fun s=>l.length-s.1.2.2.1.toNat)
  (fun s=>∃(i:Nat) (b:AM) (h:Int),i<=l.length/\(i=0/\b=(0,0)/\h=0∨0<i/\Ch f b/\RG h/\G5 f m x (l.drop i) (b,h)=CY f m x l)/\s=(((),l.map cI,(i:Int),f,(),(),(),()),cI x,((0:Int),(0:Int),()),(f,m,h,()),cI b,()))
  (fun _=>.inl ((f,(),(),(),()),(),((0:Int),(0:Int),()),(f,m,(CY f m x l).2,()),cI (CY f m x l).1,())) ?_ _ ⟨0,(0,0),0,dv _,.inl ⟨rfl,rfl,rfl⟩,rfl⟩
 ·exact key
 intro L s hs hL;obtain⟨i,b,h,hi,hc,rfl⟩:=hs;unfold Y7;rcases bc i l.length with hlt|hge
 ·have hg:(l.map cI).getD i ((0:Int),(0:Int),())=cI l[i]:=by simp[aw,hlt]
  have hy:=hl _ (jd hlt);have e0:decide ((i:Int)<(l.length:Int))=true:=ae (by omega);have e2:decide ((0:Int)<=(i:Int))=true:=ae (by omega);have e1:decide ((i:Int)<(((l.map cI).length:Nat):Int))=true:=by rw[cp];exact e0
  have e3:al .i64 ((i:Int)+1)=((i+1:Nat):Int):=by rw[Au (by omega)];omega
  rcases hc with⟨rfl,rfl,rfl⟩|⟨h0,hb,hr,hok⟩
  ·obtain⟨y,r,rfl⟩:∃y r,l=y::r:=by
    cases l with
    |nil=>simp at hlt
    |cons y r=>exact⟨y,r,rfl⟩
   have hN:=hL (((),(y::r).map cI,((0+1:Nat):Int),f,(),(),(),()),cI x,((0:Int),(0:Int),()),(f,m,0,()),cI y,())
    ⟨1,y,0,by simp,.inr ⟨by decide,hl y (fx ..),rfl,rfl⟩,rfl⟩ (by simp only[ao];omega)
   have hg':((y::r).map cI).getD (aq (0:Int)) ((0:Int),(0:Int),())=cI y:=rfl;have e4:decide ((0:Int)<((((y::r).map cI).length:Nat):Int))=true:=ae (by rw[cp,cy];omega);have e5:(((0:Nat):Int)==0)=true:=rfl;dsimp only;simp only[e1,e3,e4,e5,aa,hg'];exact hN
  ·have p1:=aWE hf hm hr hb hx;have o1:=(oN hf hm h hb hx).2;have p2:=aWA hf hm (g:=JU f m h (WR f m b x)) (aR _ _) o1 hy;have o2:=(aBb hf hm 0 o1 hy).2;have hN:=hL (((),l.map cI,((i+1:Nat):Int),f,(),(),(),()),cI x,((0:Int),(0:Int),()),(f,m,(W1 f m x (b,h) l[i]).2,()),cI (W1 f m x (b,h) l[i]).1,())
    ⟨i+1,_,_,by omega,.inr ⟨by omega,o2,aR _ _,by rw[←hok,dr hlt];rfl⟩,rfl⟩ (by simp only[ao];omega)
   have e4:((i:Int)==0)=false:=beq_false_of_ne (by omega);dsimp only;simp only[e1,e2,e3,e4,ao,hg,aZm p1,aZi p2,aa,ab,ba];exact hN
 ·have e:i=l.length:=by omega
  subst e;have e0:decide ((l.length:Int)<(((l.map cI).length:Nat):Int))=false:=by rw[cp];exact af (by omega)
  have hok':(b,h)=CY f m x l:=by
   rcases hc with⟨h1,rfl,rfl⟩|⟨_,_,_,hok⟩
   ·rw[List.eq_nil_of_length_eq_zero h1];rfl
   ·rw[gf]at hok;exact hok
  simp only[e0,ab];rw[←hok']
end VL
namespace VL
open Go Vx
def evA(f m:Int)(l:List AM)(x:AM):XI×Int×Int×Unit:=((((Hc f (CY f m x l).1.1:Nat):Int),((Hc f (CY f m x l).1.2:Nat):Int),()),(CY f m x l).2,0,())
def JK(f m:Int)(l:List AM)(x:AM):XI×Int×Int×Unit:=if ¬Fm f then((0,0,()),0,2,())else if m<0∨m>5 then((0,0,()),0,3,())else if l.length>4096 then((0,0,()),0,5,())else if ¬(BN f [x]=true/\BN f l=true)then((0,0,()),0,4,())else evA f m l x
theorem uB{f:Int}{l:List AM}(h:BN f l=true):∀y∈l,Ch f y:=fun y hy=>by
 have:=ku.1 h y hy
 simp only[ar,beq_iff_eq]at this
 exact this
theorem bIQ{f:Int}(hf:Fm f):Hc f 0=0:=by
 unfold Hc;rw[(aDj hf).2,ag nq]
theorem aNT{f:Int}(hf:Fm f)(m:Int)(x:AM):evA f m [] x=((0,0,()),0,0,()):=by
 show((((Hc f 0:Nat):Int),((Hc f 0:Nat):Int),()),(0:Int),(0:Int),())=_;rw[bIQ hf];rfl
theorem aIl(f m:Int)(l:List AM){x:AM}(hx:Gd x)(hl:∀y∈l,Gd y)(hlen:l.length<2^63):pF (f,m,l.map cI,cI x,())=some (JK f m l x):=by
 show zI Ap.pre Ap.F CV.pre CV.F DO.pre DO.F E1.pre E1.F D0.pre D0.F qY f m (l.map cI) (cI x)=_;unfold zI JK;by_cases hf:Fm f
 ·have p0:=Li hf;rw[ag (show ¬¬Fm f from fun h=>h hf)];by_cases hm:m<0∨m>5
  ·rw[ah hm];dsimp only;simp only[Dc p0,aa,aj,ab,H1,ae hm]
  ·rw[ag hm];have hm':0<=m/\m<=5:=by omega
   by_cases hlg:l.length>4096
   ·rw[ah hlg];have e:decide ((((l.map cI).length:Nat):Int)>4096)=true:=ae (by rw[cp];omega);dsimp only;simp only[Dc p0,aa,aj,ab,H1,af hm,e]
   ·rw[ag hlg];have e:decide ((((l.map cI).length:Nat):Int)>4096)=false:=af (by rw[cp];omega);have p1:Jr ((f,m,0,()),((((x.1:Int),(x.2:Int),()))::[]),())=_:=oO (f,m,0,()) [x] (by intro z hz;simp at hz;rw[hz];exact hx) (by show 1<2^63;decide);have p2:=oO (f,m,0,()) l hl hlen;by_cases hF:BN f [x]=true
    ·rw[ah hF]at p1;by_cases hG:BN f l=true
     ·rw[ag (fun h=>h ⟨hF,hG⟩)];rw[ah hG]at p2;have ox:Ch f x:=uB hF x (fx ..);have ol:=uB hG;cases l with
      |nil=>
       have p2':Jr ((f,m,0,()),[],())=_:=p2;rw[aNT hf];dsimp only[cI];simp only[Dc p0,aa,aj,ab,H1,af hm,e,JE p1,List.map_nil,JE p2',bj];rfl
      |cons a r=>
       have w:=aXh hf hm' ox r (fun z hz=>ol z (fw _ hz)) (by simp at hlen;omega) (ol a (fx ..)) 0;have oE:=aNV hf hm' ox (a::r) ol;have e1:(((((a::r).map cI).length:Nat):Int)==0)=false:=beq_false_of_ne (by rw[cp,cy];omega);have e2:decide ((0:Int)<((((a::r).map cI).length:Nat):Int))=true:=ae (by rw[cp,cy];omega);have e3:decide ((1:Int)<=((((a::r).map cI).length:Nat):Int))=true:=ae (by rw[cp,cy];omega);have e4:decide (((((a::r).map cI).length:Nat):Int)<=((((a::r).map cI).length:Nat):Int))=true:=ae (lc _);have e5:((((a::r).map cI).take (aq ((((a::r).map cI).length:Nat):Int))).drop (aq (1:Int)))=r.map cI:=by
        rw[ao,dw];rfl
       have e6:((a::r).map cI).getD (aq (0:Int)) ((0:Int),(0:Int),())=cI a:=rfl;have e7:(((r.map cI).length:Nat):Int)=(r.length:Int):=by rw[cp]
       have q1:=aIk hf m (CY f m x (a::r)).2 oE.1;have q2:=aIk hf m (CY f m x (a::r)).2 oE.2;dsimp only;simp only[e5,e6,e7];rw[show((cI x).1,(cI x).2)=cI x from rfl];have p1':Jr ((f,m,0,()),(cI x::[]),())=_:=p1;simp only[Dc p0,aa,aj,ab,H1,af hm,e,JE p1',JE p2,bj,e1,e2,e3,e4,ba];rw[w];show(bif D0.pre ((f,m,(CY f m x (a::r)).2,()),(((CY f m x (a::r)).1.1:Nat):Int),())then(bif D0.pre ((f,m,(CY f m x (a::r)).2,()),(((CY f m x (a::r)).1.2:Nat):Int),())then
        some (((D0.F ((f,m,(CY f m x (a::r)).2,()),(((CY f m x (a::r)).1.1:Nat):Int),())).1,(D0.F ((f,m,(CY f m x (a::r)).2,()),(((CY f m x (a::r)).1.2:Nat):Int),()))),(CY f m x (a::r)).2,(0:Int),())else none)else none)=_
       simp only[aMV q1,aMV q2,aa];rfl
     ·rw[ah (fun h=>hG h.2)];rw[ag hG]at p2;have p1':Jr ((f,m,0,()),(cI x::[]),())=_:=p1;dsimp only;rw[show((cI x).1,(cI x).2)=cI x from rfl];simp only[Dc p0,aa,aj,ab,H1,af hm,e,JE p1',JE p2,bm];rfl
    ·rw[ah (fun h=>hF h.1)];rw[ag hF]at p1;have p1':Jr ((f,m,0,()),(cI x::[]),())=_:=p1;dsimp only;rw[show((cI x).1,(cI x).2)=cI x from rfl];simp only[Dc p0,aa,aj,ab,H1,af hm,e,JE p1',br];rfl
 ·have p0:=Oe hf;rw[ah hf];dsimp only;simp only[Dc p0,aa];rfl
theorem aIj(f m:Int)(l:List AM){x:AM}(hx:Gd x)(hl:∀y∈l,Gd y)(hlen:l.length<2^63):pD (f,m,l.map cI,cI x,())=some (JK f m l x):=by
 show zG Cc.pre Cc.F E2.pre E2.F E4.pre E4.F E3.pre E3.F DZ.pre DZ.F qX f m (l.map cI) (cI x)=_;unfold zG JK;have p:=aBe f m;by_cases hf:Fm f
 ·rw[ag (show ¬¬Fm f from fun h=>h hf)];rw[ah hf]at p;by_cases hm:m<0∨m>5
  ·rw[ah hm];rw[ag (show ¬(0<=m/\m<=5) by omega)]at p;dsimp only;simp only[HW p,aa];rfl
  ·rw[ag hm];have hm':0<=m/\m<=5:=by omega
   rw[ah hm']at p;by_cases hlg:l.length>4096
   ·rw[ah hlg];have e:decide ((((l.map cI).length:Nat):Int)>4096)=true:=ae (by rw[cp];omega);dsimp only;simp only[HW p,aa,aj,ab,e]
   ·rw[ag hlg];have e:decide ((((l.map cI).length:Nat):Int)>4096)=false:=af (by rw[cp];omega);have p1:cS (f,m,(cI x::[]),())=_:=aIe f m [x] (by intro z hz;simp at hz;rw[hz];exact hx) (by show 1<2^63;decide);have p2:=aIe f m l hl hlen;rw[ag (show ¬¬Fm f from fun h=>h hf),ag hm]at p1 p2;dsimp only;rw[show((cI x).1,(cI x).2)=cI x from rfl];by_cases hG:BN f l=true
    ·rw[ag (fun h=>h hG)]at p2;by_cases hF:BN f [x]=true
     ·rw[ag (fun h=>h ⟨hF,hG⟩)];rw[ag (fun h=>h hF)]at p1;have ox:Ch f x:=uB hF x (fx ..);have ol:=uB hG;have w:=aXg hf hm' ox l ol hlen;have oE:=aNV hf hm' ox l ol;have q1:=aIi hf oE.1;have q2:=aIi hf oE.2;simp only[HW p,aa,aj,ab,e,fV p1,fV p2,beq_self_eq_true];rw[w];show(bif DZ.pre (f,(((CY f m x l).1.1:Nat):Int),())then(bif DZ.pre (f,(((CY f m x l).1.2:Nat):Int),())then
       some (((DZ.F (f,(((CY f m x l).1.1:Nat):Int),())).1,(DZ.F (f,(((CY f m x l).1.2:Nat):Int),()))),(CY f m x l).2,(0:Int),())else none)else none)=_
      simp only[aMT q1,aMT q2,aa];rfl
     ·rw[ah (fun h=>hF h.1)];rw[ah hF]at p1;simp only[HW p,aa,aj,ab,e,fV p1,fV p2,beq_self_eq_true];rfl
    ·rw[ah (fun h=>hG h.2)];rw[ah hG]at p2;simp only[HW p,aa,aj,ab,e,fV p2];rfl
 ·rw[ah hf];rw[ag hf]at p;dsimp only;simp only[HW p,aa];rfl
end VL
namespace VL
open Go Vx
def HY(zx:CF)(l:List AM)(z:CF):CF:=l.foldl (fun z y=>aCG (uS z zx) (DG (cI y))) z
theorem aQA{x:AM}(hx:Gd x):∀(l:List AM),(∀y∈l,Gd y)->∀(z:CF) (p:AM×Int),N7 z.1 p.1.1->N7 z.2 p.1.2 ->
  N7 (HY (DG (cI x)) l z).1 (G5 3 0 x l p).1.1/\N7 (HY (DG (cI x)) l z).2 (G5 3 0 x l p).1.2
 | [],_,_,_,h1,h2=>⟨h1,h2⟩
 |y::l,hl,z,p,h1,h2=>by
  have hy:=hl y (fx ..)
  have r1:=(Vi F3 h1 (Vh hx.1)).1
  have r2:=(Vi F3 h2 (Vh hx.2)).1
  have r3:=(Vi F3 h1 (Vh hx.2)).1
  have r4:=(Vi F3 h2 (Vh hx.1)).1
  have s1:=(Vi F2 r1 r2).1
  have s2:=(Vi F1 r3 r4).1
  have t1:=(Vi F1 s1 (Vh hy.1)).1
  have t2:=(Vi F1 s2 (Vh hy.2)).1
  exact aQA hx l (fun w hw=>hl w (fw _ hw)) (aCG (uS z (DG (cI x))) (DG (cI y))) (W1 3 0 x p y) t1 t2
theorem aQB{o:Option Nat}{n:Nat}(h:N7 o n):J2 o=((Hc 3 n:Nat):Int):=by
 obtain⟨hc,h⟩:=h;cases o with
 |none=>
  have h':(FloatKind.f64.format.read n).isNaN=true:=h;have hn:nan 3 n=true:=by
   cases e:nan 3 n with
   |true=>rfl
   |false=>
    exfalso;cases e2:Ax 3 n with
    |true=>rw[WA .f64 hc e2]at h';cases h'
    |false=>rw[WL .f64 hc e e2]at h';cases h'
  unfold J2 Hc;rw[ah hn,ag (by intro h;cases h)];decide
 |some b=>
  have e:n=b:=h;subst e;have ho:Dd .f64 (some n) (some n)=if nan 3 n||nan 3 n then none else some (compare (AB 3 n) (AB 3 n)):=aP7 .f64 hc hc;unfold J2 Hc;rw[ho,bj];cases nan 3 n
  ·rw[ag nq,aDo,ah rfl,ag nq];rfl
  ·rw[ah rfl,ag (by intro h;cases h),ah rfl];decide
theorem aXi(zx:CF)(l:List AM)(hlen:l.length<2^63)(z:CF):
  qZ (((l.length:Int),l.map cI,zx,(0:Int),z,(),()),(),((0:Int),(0:Int),()),())=some (.inl ((HY zx l z,(),()),(),((0:Int),(0:Int),()),())):=by
 have key:=Cx (aPC E6.pre E6.F E5.pre E5.F Et.pre Et.F) (fun s=>l.length-s.1.2.2.2.1.toNat)
  (fun s=>∃(i:Nat) (b:CF),i<=l.length/\HY zx (l.drop i) b=HY zx l z/\s=(((l.length:Int),l.map cI,zx,(i:Int),b,(),()),(),((0:Int),(0:Int),()),()))
  (fun _=>.inl ((HY zx l z,(),()),(),((0:Int),(0:Int),()),())) ?_ _ ⟨0,z,dv _,rfl,rfl⟩
 ·exact key
 intro L s hs hL;obtain⟨i,b,hi,hok,rfl⟩:=hs;unfold Y9;rcases bc i l.length with hlt|hge
 ·have hg:(l.map cI).getD i ((0:Int),(0:Int),())=cI l[i]:=by simp[aw,hlt]
  have q1:o9 (b,zx,())=some (uS b zx,()):=rfl;have q2:XN (cI l[i],())=some (DG (cI l[i]),()):=rfl;have e0:decide ((i:Int)<(l.length:Int))=true:=ae (by omega);have e2:decide ((0:Int)<=(i:Int))=true:=ae (by omega);have e1:decide ((i:Int)<(((l.map cI).length:Nat):Int))=true:=by rw[cp];exact e0
  have e3:al .i64 ((i:Int)+1)=((i+1:Nat):Int):=by rw[Au (by omega)];omega
  have hN:=hL (((l.length:Int),l.map cI,zx,((i+1:Nat):Int),aCG (uS b zx) (DG (cI l[i])),(),()),(),((0:Int),(0:Int),()),())
   ⟨i+1,_,by omega,by rw[←hok,dr hlt];rfl,rfl⟩ (by simp only[ao];omega)
  dsimp only;simp only[e0,e1,e2,e3,ao,hg,aZo q1,aC4 q2,aa,ba];exact hN
 ·have e:i=l.length:=by omega
  subst e;rw[gf]at hok;have e0:decide ((l.length:Int)<(l.length:Int))=false:=af (by omega);have hok':b=HY zx l z:=hok;simp only[e0,ab];rw[←hok']
theorem aN9{l:List AM}(hl:∀y∈l,Gd y):BN 3 l=true:=by
 unfold BN;rw[ku];intro y hy;rw[aDh (hl y hy).1,aDh (hl y hy).2];rfl
def C5(n:Nat):Nat×Nat:=(0,n)
theorem vR{n:Nat}(h:n<=2000000):Vx.CK n 16=true:=by
 unfold Vx.CK;exact Nat.ble_eq_true_of_le (by omega)
theorem aXj(l:List XI)(F M:Int)(q:Nat×Nat)(xx mk:XI)(c:List XI)(hlen:l.length<=1048576):
  rA (((0:Int),(),(),l,(),F,M,q,(),()),xx,(),(),(),mk,(),(),c,[],())=some (.inl (((),(),l,(),F,M,q,(),()),xx,(),(),(),mk,(),(),c,l,())):=by
 have key:=Cx (aPD Cl.pre Cl.F Cm.pre Cm.F Co.pre Co.F Cn.pre Cn.F Cp.pre Cp.F Cq.pre Cq.F) (fun s=>l.length-s.1.1.toNat)
  (fun s=>∃(i:Nat),i<=l.length/\s=(((i:Int),(),(),l,(),F,M,q,(),()),xx,(),(),(),mk,(),(),c,l.take i,()))
  (fun _=>.inl (((),(),l,(),F,M,q,(),()),xx,(),(),(),mk,(),(),c,l,())) ?_ _ ⟨0,dv _,by rw[List.take_zero]⟩
 ·exact key
 intro L s hs hL;obtain⟨i,hi,rfl⟩:=hs;unfold ZH;rcases bc i l.length with hlt|hge
 ·have hg:l.getD i ((0:Int),(0:Int),())=l[i]:=by simp[aw,hlt]
  have n1:cT (l[i],())=some (l[i],()):=rfl;have e0:decide ((i:Int)<(l.length:Int))=true:=ae (by omega);have e2:decide ((0:Int)<=(i:Int))=true:=ae (by omega);have e3:al .i64 ((i:Int)+1)=((i+1:Nat):Int):=by rw[Au (by omega)];omega
  have er:Vx.CK ((l.take i).length+(l[i]::([]:List XI)).length) 16=true:=vR (by rw[gz];simp only[cy,ee];omega);have et:l.take i++[l[i]]=l.take (i+1):=by rw[nr,bw hlt];rfl
  have hN:=hL (((((i+1:Nat):Int)),(),(),l,(),F,M,q,(),()),xx,(),(),(),mk,(),(),c,l.take (i+1),()) ⟨i+1,by omega,rfl⟩ (by simp only[ao];omega);dsimp only;simp only[e0,e2,e3,ao,hg,aMR n1,er,et,aa,ba];exact hN
 ·have e:i=l.length:=by omega
  subst e;have e0:decide ((l.length:Int)<(l.length:Int))=false:=af (by omega);simp only[e0,ab,dw]
theorem aXk(l:List XI)(F M:Int)(xx mk z:XI)(r:List XI)(hlen:l.length<=1048576):
  rB (((0:Int),(),l,(),F,M,C5 l.length,(),(),()),xx,(),(),(),mk,(),(),l++r,(),z,())=some (.inl (((),l,(),F,M,C5 l.length,(),(),()),xx,(),(),(),mk,(),(),l++r,(),z,())):=by
 have key:=Cx (aPE Cl.pre Cl.F Cm.pre Cm.F Co.pre Co.F Cn.pre Cn.F Cp.pre Cp.F Cq.pre Cq.F) (fun s=>l.length-s.1.1.toNat)
  (fun s=>∃(i:Nat),i<=l.length/\s=(((i:Int),(),l,(),F,M,C5 l.length,(),(),()),xx,(),(),(),mk,(),(),l++r,(),z,()))
  (fun _=>.inl (((),l,(),F,M,C5 l.length,(),(),()),xx,(),(),(),mk,(),(),l++r,(),z,())) ?_ _ ⟨0,dv _,rfl⟩
 ·exact key
 intro L s hs hL;obtain⟨i,hi,rfl⟩:=hs;unfold ZI;rcases bc i l.length with hlt|hge
 ·have hg:l.getD i ((0:Int),(0:Int),())=l[i]:=by simp[aw,hlt]
  have hg2:(l++r).getD ((C5 l.length).1+i) ((0:Int),(0:Int),())=l[i]:=by
   show(l++r).getD (0+i) _=_;rw[dj,aw,cw hlt,bw hlt];rfl
  have e0:decide ((i:Int)<(l.length:Int))=true:=ae (by omega);have e0':decide ((i:Int)<(((C5 l.length).2:Nat):Int))=true:=e0;have e2:decide ((0:Int)<=(i:Int))=true:=ae (by omega);have e3:al .i64 ((i:Int)+1)=((i+1:Nat):Int):=by rw[Au (by omega)];omega
  have hN:=hL (((((i+1:Nat):Int)),(),l,(),F,M,C5 l.length,(),(),()),xx,(),(),(),mk,(),(),l++r,(),z,()) ⟨i+1,by omega,rfl⟩ (by simp only[ao];omega);dsimp only;simp only[e0,e0',e2,e3,ao,hg,hg2,aa,ba,beq_self_eq_true,bi,ab];exact hN
 ·have e:i=l.length:=by omega
  subst e;have e0:decide ((l.length:Int)<(((C5 l.length).2:Nat):Int))=false:=af (by show ¬((l.length:Int)<(l.length:Int));omega);simp only[e0,ab]
def sw(x:XI):XI:=(x.2.1,x.1,())
theorem aXl(l:List XI)(F M:Int)(xx z:XI)(r:List XI)(hlen:l.length<=1048576):
  rC (((0:Int),F,M,C5 l.length,(),(),()),xx,(),(),(),(),(),(),l++r,(),z,())=some (.inl ((F,M,C5 l.length,(),(),()),xx,(),(),(),(),(),(),l.map sw++r,(),z,())):=by
 have key:=Cx (aPF Cl.pre Cl.F Cm.pre Cm.F Co.pre Co.F Cn.pre Cn.F Cp.pre Cp.F Cq.pre Cq.F) (fun s=>l.length-s.1.1.toNat)
  (fun s=>∃(i:Nat),i<=l.length/\s=(((i:Int),F,M,C5 l.length,(),(),()),xx,(),(),(),(),(),(),(l.take i).map sw++(l.drop i++r),(),z,()))
  (fun _=>.inl ((F,M,C5 l.length,(),(),()),xx,(),(),(),(),(),(),l.map sw++r,(),z,())) ?_ _ ⟨0,dv _,rfl⟩
 ·exact key
 intro L s hs hL;obtain⟨i,hi,rfl⟩:=hs;unfold ZJ;rcases bc i l.length with hlt|hge
 ·have hl:((l.take i).map sw).length=i:=by rw[cp,gz];omega
  have hg:((l.take i).map sw++(l.drop i++r)).getD ((C5 l.length).1+i) ((0:Int),(0:Int),())=l[i]:=by
   show _=_;rw[show(C5 l.length).1+i=i from dj i,aw,cm (by omega),hl,gu,dr hlt];rfl
  have hs2:((l.take i).map sw++(l.drop i++r)).set ((C5 l.length).1+i) (sw l[i])=(l.take (i+1)).map sw++(l.drop (i+1)++r):=by
   rw[show(C5 l.length).1+i=i from dj i,List.set_append_right _ _ (by omega),hl,gu,dr hlt,nr,bw hlt];show(l.take i).map sw++(sw l[i]::(l.drop (i+1)++r))=(l.take i++[l[i]]).map sw++(l.drop (i+1)++r)
   rw[List.map_append,List.append_assoc];rfl
  have e0:decide ((i:Int)<(((C5 l.length).2:Nat):Int))=true:=ae (by show(i:Int)<(l.length:Int);omega);have e2:decide ((0:Int)<=(i:Int))=true:=ae (by omega);have e3:al .i64 ((i:Int)+1)=((i+1:Nat):Int):=by rw[Au (by omega)];omega
  have hN:=hL (((((i+1:Nat):Int)),F,M,C5 l.length,(),(),()),xx,(),(),(),(),(),(),(l.take (i+1)).map sw++(l.drop (i+1)++r),(),z,()) ⟨i+1,by omega,rfl⟩ (by simp only[ao];omega);unfold sw at hs2 hN⊢;unfold sw at hg;dsimp only at hg hs2 hN⊢;simp only[e0,e2,e3,ao,hg,hs2,aa,ba];exact hN
 ·have e:i=l.length:=by omega
  subst e;have e0:decide ((l.length:Int)<(((C5 l.length).2:Nat):Int))=false:=af (by show ¬((l.length:Int)<(l.length:Int));omega);simp only[e0,ab,dw,gf,ld]
end VL
namespace VL
open Go Vx
theorem aIm(l:List AM){x:AM}(hx:Gd x)(hl:∀y∈l,Gd y)(hlen:l.length<2^63):pG (l.map cI,cI x,())=some ((JK 3 0 l x).1,(JK 3 0 l x).2.2.1,()):=by
 show zJ E6.pre E6.F E5.pre E5.F Et.pre Et.F qZ (l.map cI) (cI x)=_;unfold zJ JK;rw[ag (show ¬¬Fm 3 from fun h=>h (by decide)),ag (show ¬((0:Int)<0∨(0:Int)>5) by omega)];by_cases hlg:l.length>4096
 ·rw[ah hlg];have e:decide ((((l.map cI).length:Nat):Int)>4096)=true:=ae (by rw[cp];omega);dsimp only;simp only[aa,e]
 ·rw[ag hlg];have e:decide ((((l.map cI).length:Nat):Int)>4096)=false:=af (by rw[cp];omega);rw[ag (fun h=>h ⟨aN9 (by intro z hz;simp at hz;rw[hz];exact hx),aN9 hl⟩)];cases l with
  |nil=>
   rw[aNT (show Fm 3 by decide)];rfl
  |cons a r=>
   have hr:=fun z hz=>hl z (fw a hz);have ha:=hl a (fx ..);have w:=aXi (DG (cI x)) r (by simp at hlen;omega) (DG (cI a));obtain⟨k1,k2⟩:=aQA hx r hr (DG (cI a)) (a,0) (Vh ha.1) (Vh ha.2);have e1:(((((a::r).map cI).length:Nat):Int)==0)=false:=beq_false_of_ne (by rw[cp,cy];omega);have e2:decide ((0:Int)<((((a::r).map cI).length:Nat):Int))=true:=ae (by rw[cp,cy];omega);have e3:decide ((1:Int)<=((((a::r).map cI).length:Nat):Int))=true:=ae (by rw[cp,cy];omega);have e4:decide (((((a::r).map cI).length:Nat):Int)<=((((a::r).map cI).length:Nat):Int))=true:=ae (lc _);have e5:((((a::r).map cI).take (aq ((((a::r).map cI).length:Nat):Int))).drop (aq (1:Int)))=r.map cI:=by
    rw[ao,dw];rfl
   have e6:((a::r).map cI).getD (aq (0:Int)) ((0:Int),(0:Int),())=cI a:=rfl;have e7:(((r.map cI).length:Nat):Int)=(r.length:Int):=by rw[cp]
   have q1:XN (cI x,())=some (DG (cI x),()):=rfl;have q2:XN (cI a,())=some (DG (cI a),()):=rfl;have q3:=aWF (HY (DG (cI x)) r (DG (cI a)));dsimp only;rw[show((cI x).1,(cI x).2)=cI x from rfl];simp only[aa,ab,e,e1,e2,e3,e4,e5,e6,e7,ba,aC4 q1,aC4 q2];rw[w];show(bif Et.pre (HY (DG (cI x)) r (DG (cI a)),())then some ((Et.F (HY (DG (cI x)) r (DG (cI a)),())).1,(0:Int),())else none)=_;simp only[aZn q3,aa];show some ((J2 (HY (DG (cI x)) r (DG (cI a))).1,J2 (HY (DG (cI x)) r (DG (cI a))).2,()),(0:Int),())=_;rw[aQB k1,aQB k2];rfl
theorem bBx(l:List AM):(l.map cI).map sw=(l.map fun y=>(y.2,y.1)).map cI:=by
 rw[ri,ri];rfl
theorem T509_true(F M:Int)(l:List AM){x:AM}(hx:Gd x)(hl:∀y∈l,Gd y)(hlen:l.length<=1048576):T509 (F,M,l.map cI,cI x,())=some (true,()):=by
 show zK Cl.pre Cl.F Cm.pre Cm.F Co.pre Co.F Cn.pre Cn.F Cp.pre Cp.F Cq.pre Cq.F rA rB rC F M (l.map cI) (cI x)=_;have p0:=aYx;have hlen':l.length<2^63:=by omega
 have hln:(l.map cI).length=l.length:=cp ..;have hl2:∀y∈(l.map fun y=>(y.2,y.1)),Gd y:=fun y hy=>by
  obtain⟨z,hz,rfl⟩:=List.mem_map.1 hy;exact⟨(hl z hz).2,(hl z hz).1⟩
 have a1:=aIl F M l hx hl hlen';have a2:=aIj F M l hx hl hlen';have a3:=aIm l hx hl hlen';have a4:=aIj 3 0 l hx hl hlen';have a5:=aIl F M (l.map fun y=>(y.2,y.1)) hx hl2 (by rw[cp];exact hlen');have a6:=aIm (l.map fun y=>(y.2,y.1)) hx hl2 (by rw[cp];exact hlen');have n1:cT (cI x,())=some (cI x,()):=rfl;have s1:=aIg (JK F M l x).1;have s2:=aIg (JK 3 0 l x).1;have w1:=aXj (l.map cI) F M (C5 (l.map cI).length) (cI x) (71,72,()) (l.map cI++[(71,72,()),(71,72,())]) (by rw[hln];exact hlen);have w2:=aXk (l.map cI) F M (cI x) (71,72,()) (JK 3 0 l x).1 [(71,72,()),(71,72,())] (by rw[hln];exact hlen);have w3:=aXl (l.map cI) F M (cI x) (JK 3 0 l x).1 [(71,72,()),(71,72,())] (by rw[hln];exact hlen);rw[bBx]at w3;have r1:Vx.CK (([]:List Int).length+(l.map cI).length) 16=true:=vR (by rw[hln];simp only[ee];omega);have r2:Vx.CK ((l.map cI).length+([((71:Int),(72:Int),()),((71:Int),(72:Int),())]:List XI).length) 16=true:=vR (by rw[hln];simp only[cy,ee];omega);have r3:Vx.CK (([]:List Int).length+((l.map fun y=>(y.2,y.1)).map cI).length) 16=true:=vR (by rw[cp,cp];simp only[ee];omega);have g1:decide ((0:Int)<=(((l.map cI).length:Nat):Int))=true:=ae (by omega);have g2:decide ((((l.map cI).length:Nat):Int)<=(((l.map cI++[((71:Int),(72:Int),()),((71:Int),(72:Int),())]).length:Nat):Int))=true:=ae (by rw[fc];omega);have g3:decide ((((l.map cI).length:Nat):Int)<(((l.map cI++[((71:Int),(72:Int),()),((71:Int),(72:Int),())]).length:Nat):Int))=true:=ae (by rw[fc];simp only[cy,ee];omega);have k1:al .i64 ((((l.map cI).length:Nat):Int)+1)=(((l.map cI).length+1:Nat):Int):=by rw[Au (by rw[hln];omega)];omega
 have g4:decide ((0:Int)<=(((l.map cI).length+1:Nat):Int))=true:=ae (by omega);have g5:decide ((((l.map cI).length+1:Nat):Int)<(((l.map cI++[((71:Int),(72:Int),()),((71:Int),(72:Int),())]).length:Nat):Int))=true:=ae (by rw[fc];simp only[cy,ee];omega);have v1:(l.map cI++[((71:Int),(72:Int),()),((71:Int),(72:Int),())]).getD (l.map cI).length ((0:Int),(0:Int),())=(71,72,()):=by
  rw[aw,cm (ci _),gu];rfl
 have v2:(l.map cI++[((71:Int),(72:Int),()),((71:Int),(72:Int),())]).getD ((l.map cI).length+1) ((0:Int),(0:Int),())=(71,72,()):=by
  rw[aw,cm (by omega),show(l.map cI).length+1-(l.map cI).length=1 by omega];rfl
 have d1:((l.map cI++[((71:Int),(72:Int),()),((71:Int),(72:Int),())]).drop (C5 (l.map cI).length).1).take (C5 (l.map cI).length).2=l.map cI:=by
  show((l.map cI++_).drop 0).take (l.map cI).length=_;rw[jh,ra];rfl
 have d2:(((l.map fun y=>(y.2,y.1)).map cI++[((71:Int),(72:Int),()),((71:Int),(72:Int),())]).drop (C5 (l.map cI).length).1).take (C5 (l.map cI).length).2=(l.map fun y=>(y.2,y.1)).map cI:=by
  show(((_:List XI)++_).drop 0).take (l.map cI).length=_;rw[jh,ra (by rw[cp,cp,cp])]
 unfold zK;dsimp only;simp only[ld];have hq:((aq (0:Int)),(aq (((l.map cI).length:Nat):Int))-(aq (0:Int)))=C5 (l.map cI).length:=by
  show((0:Nat),(l.map cI).length-0)=_;rfl
 rw[show((cI x).1,(cI x).2)=cI x from rfl,hq];simp only[aZg p0,aa,ab,bi,r1,r2,g1,g2,ba];rw[w1];dsimp only[Vx.AQ,Vx.AP];simp only[d1,aMW a1,aMR n1,aMU a2,aMS s1,aMX a3,aMU a4,aMS s2,aa,ab,bi,aj,bj];rw[w2];dsimp only[Vx.AQ,Vx.AP];simp only[g1,g3,k1,g4,g5,ao,v1,v2,aa,ab,ba,bg,beq_self_eq_true,bi,bj];rw[w3];dsimp only[Vx.AQ,Vx.AP];simp only[d2,r3,aMW a5,aMX a6,aa,ba,beq_self_eq_true]
theorem words_list:∀(l:List XI),(∀e∈l,aS1 e)->∃l':List AM,l=l'.map cI/\(∀y∈l',Gd y)/\l'.length=l.length
 | [],_=>⟨[],rfl,(fun _ h=>by cases h),rfl⟩
 |e::r,h=>by
  obtain⟨y,hy,rfl⟩:=word_cx (h e (fx ..))
  obtain⟨l',rfl,h2,h3⟩:=words_list r (fun z hz=>h z (fw _ hz))
  exact⟨y::l',rfl,(fun z hz=>by rcases List.mem_cons.1 hz with rfl|hz;exact hy;exact h2 z hz),by simp⟩
end VL
namespace Vx
open Go Go.RowKit Go.ChangeShapes Go.WideShapes
def wfD:(τ:Shape)->Ab τ->Prop
 |.int k,n=>k.min<=n/\n<=k.max
 |.flt _,_=>True
 |.slice e,xs=>xs.length<BU/\∀x∈xs,wfD e x
 |.pair a b,x=>wfD a x.1/\wfD b x.2
 |.bool,_=>True
 |.str,_=>True
 |.fn,_=>True
 |.unit,_=>True
 |.box a,x=>wfD a x
 |.ifc,_=>True
 |.pfn,_=>True
 |.cx _,_=>True
theorem AJ.wfD{w:World}{S:Nat->Prop}:∀{τ:Shape} {x:Ab τ} {cs:List Value},AJ w S τ x cs->wfD τ x
 |.int _,_,_,h=>h.2
 |.flt _,_,_,_=>trivial
 |.bool,_,_,_=>trivial
 |.str,_,_,_=>trivial
 |.fn,_,_,_=>trivial
 |.unit,_,_,_=>trivial
 |.box _,_,_,⟨_,_,_,_,_,_,_,_,_,h,_⟩=>h.wfD
 |.ifc,_,_,_=>trivial
 |.pfn,_,_,_=>trivial
 |.cx _,_,_,_=>trivial
 |.slice _,xs,_,⟨A,c,_,h1,h2,h3⟩=>by
  refine⟨Nat.lt_of_le_of_lt h1 h2,fun x hx=>?_⟩
  obtain⟨r,o,vs,T,fz,_,_,_,h⟩:=h3 (List.ne_nil_of_mem hx)
  obtain⟨i,hi⟩:=List.getElem?_of_mem hx
  obtain⟨ds,hd,_⟩:=h i x hi
  exact hd.wfD
 |.pair _ _,_,_,⟨c1,c2,_,h1,h2⟩=>⟨h1.wfD,h2.wfD⟩
def wfS:(sg:Aa)->DenS sg->Prop
 | [],_=>True
 |(_,τ)::r,x=>wfD τ x.1/\wfS r x.2
def Gi{H:Type}:(τ:Shape)->(DataW H->Option (Ab τ))×(List (DataW H)->Option (Ab τ))
 |.int k=>(fun d=>match d with|.lit (.int k' n)=>if k'=k then some n else none|_=>none,fun _=>none)
 |.bool=>(fun d=>match d with|.lit (.bool b)=>some b|_=>none,fun _=>none)
 |.unit=>(fun d=>match d with|.agg []=>some ()|_=>none,fun l=>match l with | []=>some ()|_=>none)
 |.pair a b=>
  let f:=fun l=>match l with
   |d::r=>(match(Gi a).1 d,(Gi b).2 r with|some x,some y=>some (x,y)|_,_=>none)
   | []=>none
  (fun d=>match d with|.agg l=>f l|_=>none,f)
 |.flt _=>(fun _=>none,fun _=>none)
 |.str=>(fun _=>none,fun _=>none)
 |.fn=>(fun _=>none,fun _=>none)
 |.box _=>(fun _=>none,fun _=>none)
 |.ifc=>(fun _=>none,fun _=>none)
 |.pfn=>(fun _=>none,fun _=>none)
 |.cx _=>(fun _=>none,fun _=>none)
 |.slice _=>(fun _=>none,fun _=>none)
def LL(P:Program)(g:TypeId->Shape->Bool):List Field->Nat->Shape->Bool
 | [],_,.unit=>true
 |f::fs,o,.pair a b=>(f.offset==o)&&(P.cellsOf f.type==a.width)&&g f.type a&&LL P g fs (o+a.width) b
 |_,_,_=>false
def CI(P:Program):Nat->TypeId->Shape->Bool
 |0,_,_=>false
 |n+1,t,τ=>match P.underlying t with
  |some (.int k)=>(match τ with|.int k'=>decide (k=k')|_=>false)
  |some .bool=>(match τ with|.bool=>true|_=>false)
  |some (.slice e)=>(match τ with|.slice σ=>(P.cellsOf e==σ.width)&&decide (0<σ.width)&&CI P n e σ|_=>false)
  |some (.struct fs)=>(P.cellsOf t==τ.width)&&LL P (CI P n) fs.toList 0 τ
  |_=>false
theorem aNn{A:Type}{Q:Nat->A->Prop}:∀(n:Nat),(∀i,i<n->∃x,Q i x)->∃xs:List A,xs.length=n/\∀i x,xs[i]? = some x->Q i x
 |0,_=>⟨[],rfl,fun i x h=>by simp at h⟩
 |n+1,h=>by
  obtain⟨xs,h1,h2⟩:=aNn n fun i hi=>h i (by omega)
  obtain⟨x,hx⟩:=h n (by omega)
  refine⟨xs++[x],by simp[h1],fun i y hy=>?_⟩
  rcases bc i n with hi|hi
  ·rw[cw (by omega)]at hy
   exact h2 i y hy
  ·rw[cm (by omega)]at hy
   have:i=n:=by
    have:=(bp.1 hy).1
    simp at this;omega
   subst this
   simp[h1]at hy
   exact hy▸hx
theorem bIX{k:IntKind}{n:Int}(h:(Lit.int k n).wf=true):k.min<=n/\n<=k.max:=by
 simpa[Lit.wf]using h
section
variable {H:Type}{enc:TypeId×Value->H}{P:Program}{W:World}{spare:Nat->Bool}{held:Bool}
theorem aN8{n:Nat}{m:Nat}{cs:List Value}(ih:∀(t:TypeId) (τ:Shape) (cs:List Value) (d:DataW H) (p:List MemPlace),CI P n t τ=true->DataW.trod enc P W 0 spare held m t cs=some (d,p)->∃x:Ab τ,AJ W (fun q=>q<W.heap.size) τ x cs/\∀y,(Gi τ).1 d=some y->x=y):
  ∀(l:List Field) (o:Nat) (τ:Shape) (xs:List (DataW H×List MemPlace)),LL P (CI P n) l o τ=true->xs.length=l.length->cs.length=o+τ.width ->
   (∀(i:Nat) (f:Field),l[i]? = some f->DataW.trod enc P W 0 spare held m f.type ((cs.drop f.offset).take (P.cellsOf f.type))=xs[i]?) ->
   ∃x:Ab τ,AJ W (fun q=>q<W.heap.size) τ x (cs.drop o)/\∀y,(Gi τ).2 (xs.map (·.1))=some y->x=y
 | [],o,τ,xs,hf,hx,hl,_=>by
  cases τ<;>simp[LL]at hf
  refine⟨(),?_,fun _ _=>rfl⟩
  show cs.drop o=[]
  apply List.drop_eq_nil_of_le
  simp[Shape.width]at hl
  omega
 |f::fs,o,τ,xs,hf,hx,hl,h=>by
  cases τ with
  |pair a b=>
   simp only[LL,ar,beq_iff_eq]at hf
   obtain⟨⟨⟨ho,hc⟩,hg⟩,hr⟩:=hf
   cases xs with
   |nil=>simp at hx
   |cons x0 xs=>
    have h0:=h 0 f rfl
    rw[ho,hc]at h0
    simp only[List.getElem?_cons_zero]at h0
    obtain⟨xa,ha,hua⟩:=ih f.type a _ x0.1 x0.2 hg h0
    simp only[Shape.width]at hl
    obtain⟨xb,hb,hub⟩:=aN8 ih fs (o+a.width) b xs hr (by simpa using hx) (by rw[hl];omega) fun i g hi=>by
     have:=h (i+1) g (by simpa using hi)
     simpa using this
    refine⟨(xa,xb),⟨(cs.drop o).take a.width,cs.drop (o+a.width),?_,ha,hb⟩,fun y hy=>?_⟩
    ·rw[←List.drop_drop,List.take_append_drop]
    ·simp only[Gi,List.map_cons]at hy
     split at hy
     ·rename_i e1 e2
      have:=hua _ e1;have:=hub _ e2
      subst_vars
      exact ky hy
     ·cases hy
  |_=>simp[LL]at hf
theorem uA:∀(n:Nat) (m:Nat) (t:TypeId) (τ:Shape) (cs:List Value) (d:DataW H) (p:List MemPlace),CI P n t τ=true->DataW.trod enc P W 0 spare held m t cs=some (d,p) ->
  ∃x:Ab τ,AJ W (fun q=>q<W.heap.size) τ x cs/\∀y,(Gi τ).1 d=some y->x=y
 |0,_,_,_,_,_,_,h,_=>by simp[CI]at h
 |n+1,m,t,τ,cs,d,p,h,ht=>by
  unfold CI at h
  split at h
  ·rename_i k hk
   cases τ with
   |int k' =>
    simp only[ai]at h
    subst h
    obtain⟨v,hv,hx,hw⟩:=DataW.trod_int hk ht
    simp only[cr]at hx
    refine⟨v,⟨hv,bIX hw⟩,fun y hy=>?_⟩
    rw[hx.1]at hy
    simp only[Gi,if_true]at hy
    exact ky hy
   |_=>cases h
  ·rename_i hk
   cases τ with
   |bool=>
    obtain⟨v,hv,hx⟩:=DataW.trod_bool hk ht
    simp only[cr]at hx
    refine⟨v,hv,fun y hy=>?_⟩
    rw[hx.1]at hy
    simp only[Gi]at hy
    exact ky hy
   |_=>cases h
  ·rename_i e hk
   cases τ with
   |slice σ=>
    simp only[ar,beq_iff_eq,ai]at h
    obtain⟨⟨hc,hpos⟩,hf⟩:=h
    rcases DataW.trod_slice hk ht with⟨hcs,hx⟩|⟨a,len,cap,elems,rest,m',rfl,hcs,hx,hb,hlc,hcap,hlen,hel,_⟩
    ·exact⟨[],⟨none,0,hcs,ci _,by decide,fun h=>absurd rfl h⟩,fun y hy=>by simp[Gi]at hy⟩
    ·have each:∀i,i<len->∃x:Ab σ,∃ds,W.cells? 0 (a.add (i*P.cellsOf e)) (P.cellsOf e)=some ds/\AJ W (fun q=>q<W.heap.size) σ x ds:=fun i hi=>by
      have:=hel i hi
      rw[bw (by omega),Option.bind_eq_some_iff]at this
      obtain⟨ds,h1,h2⟩:=this
      obtain⟨x,hx,_⟩:=uA n m' e σ ds (elems[i]'(by omega)).1 (elems[i]'(by omega)).2 hf h2
      exact⟨x,ds,h1,hx⟩
     obtain⟨xs,hxl,hxs⟩:=aNn len each
     refine⟨xs,⟨some a,cap,by rw[hxl];exact hcs,by omega,by unfold BU;unfold maxLen at hcap;omega,fun hne=>?_⟩,fun y hy=>by simp[Gi]at hy⟩
     have h0:0<xs.length:=List.length_pos_iff.2 hne
     obtain⟨ds0,hd0,_⟩:=hxs 0 xs[0] (bw h0)
     obtain⟨_,hl0,hc0⟩:=qk hd0
     have hz:a.add (0*P.cellsOf e)=a:=by simp[Addr.add]
     have hz':a.add 0=a:=by simp[Addr.add]
     rw[hz]at hc0
     have hc00:=hc0 0 (by omega)
     rw[hz',bw (by omega)]at hc00
     unfold qr at hc00
     split at hc00
     ·rename_i c T fz hheap
      split at hc00
      ·cases hc00
      ·rename_i hspot
       have hs:a.spot=none:=by simpa using hspot
       have hadd:∀q,a.add q=⟨a.block,a.off+q,none⟩:=fun q=>by
        unfold Addr.add
        split
        ·subst_vars;cases a;simp at hs;simp[hs]
        ·rfl
       have ha:a=⟨a.block,a.off,none⟩:=by cases a;simp at hs;simp[hs]
       refine⟨a.block,a.off,c,T,fz,by rw[←ha],?_,hheap,fun i x hi=>?_⟩
       ·exact(dx.1 hheap).1
       ·obtain⟨ds,hd,hr⟩:=hxs i x hi
        refine⟨ds,hr,fun j v hj=>?_⟩
        obtain⟨_,hl,hcj⟩:=qk hd
        have hjl:j<P.cellsOf e:=by rw[←hl];exact(bp.1 hj).1
        have:=hcj j hjl
        rw[hadd,hj]at this
        have hadd2:(⟨a.block,a.off+i*P.cellsOf e,none⟩:Addr).add j=⟨a.block,a.off+i*P.cellsOf e+j,none⟩:=by
         unfold Addr.add
         split
         ·subst_vars;rfl
         ·rfl
        rw[hadd2]at this
        unfold qr at this
        simp only[hheap]at this
        rw[hc]at this
        exact this
     ·cases hc00
   |_=>cases h
  ·rename_i fs hk
   simp only[ar,beq_iff_eq]at h
   obtain⟨hc,hf⟩:=h
   obtain⟨xs,m',rfl,hx,hl,hxl,hel⟩:=DataW.trod_struct hk ht
   simp only[cr]at hx
   obtain⟨x,h1,h2⟩:=aN8 (fun t τ cs d p=>uA n m' t τ cs d p) fs.toList 0 τ xs hf (by simpa using hxl) (by rw[hl,hc];omega) fun i f hi=>hel i f (by simpa using hi)
   refine⟨x,by simpa using h1,fun y hy=>h2 y ?_⟩
   rw[hx.1]at hy
   cases τ with
   |pair a b=>exact hy
   |unit=>
    simp only[Gi]at hy⊢
    split at hy
    ·rename_i e;simp only[DataW.agg.injEq]at e;rw[e]
    ·cases hy
   |_=>simp[Gi]at hy
  ·cases h
end
end Vx
namespace Vx
open Go Go.RowKit Go.ChangeShapes Go.WideShapes
def PJ(P:Program)(t:TypeId):Bool:=match P.underlying t with
 |some (.struct _)=>true
 |_=>false
def Px(P:Program)(n:Nat):List TypeId->Aa->Bool
 | [],[]=>true
 |t::ts,(a,τ)::r=>CI P n t τ&&(a==PJ P t)&&Px P n ts r
 |_,_=>false
section
variable {H:Type}{enc:TypeId×Value->H}{P:Program}{W:World}
theorem aNk{n:Nat}{t:TypeId}{τ:Shape}{r:Reach}{b0:Nat}{v:Value}(hf:CI P n t τ=true)(hs:PJ P t=false)(hv:mq P W r b0 t v):v.cells.toList=[v]:=by
 cases n with
 |zero=>simp[CI]at hf
 |succ n=>
  unfold CI at hf;split at hf
  ·rename_i k hk;obtain⟨_,rfl⟩:=okWide_int hk hv;rfl
  ·rename_i hk;obtain⟨_,rfl⟩:=okWide_bool hk hv;rfl
  ·rename_i e hk;obtain⟨_,_,_,rfl⟩:=okWide_slice hk hv;rfl
  ·rename_i fs hk;simp[PJ,hk]at hs
  ·cases hf
theorem bAb{S:Nat->Prop}{a:Bool}{τ:Shape}{x:Ab τ}{y:Value}(ho:FD a τ=false)(h:Di W S a τ x y):EO W S a τ x y []:=by
 cases τ with
 |slice e=>
  cases a with
  |true=>cases ho
  |false=>exact⟨rfl,h⟩
 |_=>exact⟨rfl,h⟩
theorem aMg{n:Nat}{sp:Nat->Bool}{held:Bool}{b0:Nat}:∀(ts:List TypeId) (I:Aa) (vs:List Value) (ds:List (DataW H)) (ps:List MemPlace),Px P n ts I=true ->
  (∀(j:Nat) (t:TypeId) (v:Value),ts[j]? = some t->vs[j]? = some v->mq P W .any b0 t v)->DataW.TrodAll enc P W 0 sp held ts vs ds ps->∃x:DenS I,B4 W (fun q=>q<W.heap.size) I x vs []/\wfS I x/\ds.length=ts.length
 | [],[],vs,ds,ps,_,_,h=>by
  cases vs<;>cases ds<;>simp[DataW.TrodAll]at h
  exact⟨(),⟨rfl,rfl⟩,ak,rfl⟩
 | [],_::_,_,_,_,hf,_,_=>by simp[Px]at hf
 |_::_,[],_,_,_,hf,_,_=>by simp[Px]at hf
 |t::ts,(a,τ)::I,vs,ds,ps,hf,hv,h=>by
  cases vs with
  |nil=>simp[DataW.TrodAll]at h
  |cons v vs=>
   cases ds with
   |nil=>simp[DataW.TrodAll]at h
   |cons d ds=>
    obtain⟨p,q,⟨m,hp⟩,hq,_⟩:=h
    simp only[Px,ar,beq_iff_eq]at hf
    obtain⟨⟨h1,h2⟩,h3⟩:=hf
    obtain⟨x,hx,hw,hl⟩:=aMg ts I vs ds q h3 (fun j t v ht hv'=>hv (j+1) t v (by simpa using ht) (by simpa using hv')) hq
    obtain⟨y,hy,_⟩:=uA n m t τ _ d p h1 hp
    have hok:=hv 0 t v rfl rfl
    refine⟨(y,x),⟨v,vs,[],[],rfl,rfl,bAb ?_ ?_,hx⟩,⟨hy.wfD,hw⟩,by simp[hl]⟩
    ·cases τ with
     |slice σ=>
      show a=false
      rw[h2]
      cases n with
      |zero=>simp[CI]at h1
      |succ n=>
       unfold CI at h1
       unfold PJ
       split at h1<;>rename_i hk<;>first|(rw[hk];done)|(simp only[hk];done)|(simp[LL]at h1;done)|skip
     |_=>rfl
    cases a with
    |true=>
     have hs:PJ P t=true:=h2.symm
     unfold PJ at hs
     split at hs
     ·rename_i fs hk
      unfold mq at hok
      rw[hk]at hok
      obtain⟨cs,rfl,_⟩:=hok
      exact⟨cs.toList,by simp,hy⟩
     ·cases hs
    |false=>
     have hs:PJ P t=false:=h2.symm
     rw[aNk h1 hs hok]at hy
     exact hy
theorem aSV(hl:laidOutB P=true){W':World}(hb:Below W.heap.size W W'):∀(ts:List TypeId) (vs:List Value) (ds:List (DataW H)) (ps:List MemPlace),(ts.all fun t=>P.readableRec t&&decide (t<P.types.size))=true ->
  DataW.TrodAll enc P W 0 (fun _=>true) true ts vs ds ps->(∀x∈ps,x.block<W.heap.size)->DataW.TrodAll enc P W' 0 (fun b=>decide (b<W.heap.size)) true ts vs ds ps
 | [],vs,ds,ps,_,h,_=>by
  cases vs<;>cases ds<;>simp[DataW.TrodAll]at h⊢
  exact h
 |t::ts,vs,ds,ps,hr,h,hlt=>by
  cases vs with
  |nil=>simp[DataW.TrodAll]at h
  |cons v vs=>
   cases ds with
   |nil=>simp[DataW.TrodAll]at h
   |cons d ds=>
    obtain⟨p,q,hp,hq,rfl⟩:=h
    simp only[nz,ar,ai]at hr
    exact⟨p,q,Below.trod hl hr.1.1 hr.1.2 hp hb (fun x hx=>hlt x (dt.2 (.inl hx))),
     aSV hl hb ts vs ds q hr.2 hq (fun x hx=>hlt x (dt.2 (.inr hx))),rfl⟩
theorem glob_of{n:String}{g:Nat}{t e:TypeId}{m k:Nat}{τ:Shape}{ds:List (DataW Unit)}{xs:List (Ab τ)}{r:List (String×DataW Unit)}{ps:List MemPlace}
  (hL:DataW.LaidVars P W ((n,.agg ds)::r) ps) (hg:P.globalNamed n=some g) (ht:(P.globals[g]?).map (·.type)=some t) (hu:P.underlying t=some (.array m e)) (hc:P.cellsOf e=τ.width) (hf:CI P k e τ=true)
  (hx:ds.map (Gi τ).1=xs.map some) :
  (g<W.heap.size/\∃vs T fz,W.heap[g]? = some (.cells vs T fz)/\Rows W (fun q=>q<W.heap.size) τ vs 0 xs)/\∃ps',DataW.LaidVars P W r ps':=by
 obtain⟨g',t',cs,fuel,p,q,h1,h2,h3,h4,h5,_⟩:=hL;rw[hg]at h1;cases h1;rw[ht]at h2;cases h2;refine⟨?_,q,h5⟩;unfold World.var? at h3;rw[hg]at h3;simp only[Option.bind_some]at h3;split at h3
 ·rename_i c T fz hh;cases h3;refine⟨(dx.1 hh).1,cs,T,fz,hh,?_⟩;obtain⟨ys,m',rfl,hy,hl,hyl,hel⟩:=DataW.trod_array hu h4;simp only[cr,DataW.agg.injEq]at hy;intro i x hi;have hxl:xs.length=m:=by
   have:=congrArg ro hx;simp[hy.1,hyl]at this;omega
  have him:i<m:=by rw[←hxl];exact(bp.1 hi).1
  have he:=hel i him;have hyi:ys[i]? = some (ys[i]'(by omega)):=bw (by omega);rw[hyi,hc]at he;obtain⟨x',h6,h7⟩:=uA k m' e τ _ _ _ hf he;have hd:(Gi τ).1 (ys[i]'(by omega)).1=some x:=by
   have:=congrArg (·[i]?) hx;simp only[List.getElem?_map,hy.1,hyi,hi,Option.map_some]at this;exact ky this
  have:=h7 x hd;subst this;refine⟨_,h6,fun j v hj=>?_⟩;rw[List.getElem?_take]at hj;split at hj
  ·rw[List.getElem?_drop]at hj;simpa using hj
  ·cases hj
 ·cases h3
theorem bGX {G : List (Nat × Sigma fun τ => List (Ab τ))} {f : FuncId} {I : Aa} {T : DenS I -> Option (DenS [(false, .bool)])} {d : DenS [(false, .bool)]} (hS : Sound P G f (Aj I [(false, .bool)] T d)) {x : DenS I} (hT : T x = some (true, ())) (hcal : ∃ fn, P.funcs[f]? = some fn /\ fn.body.isNone = false /\ (fn.name == "runtime.NumGoroutine") = false) {W : World} {args : Array Value}
  (hG:GlobsOk G W fun q=>q<W.heap.size) (ha:B4 W (fun q=>q<W.heap.size) I x args.toList []):Calls P f args W fun e W'=>e=.returned (.bool true)/\Below W.heap.size W W':=by
 have:=hS.calls x (by show(T x).isSome=true;rw[hT];rfl) W (fun q=>q<W.heap.size) args.toList [] (fun q h=>h) hG ha List.nodup_nil (fun r h=>by simp at h)
 rw[Array.toArray_toList]at this
 have this:=this.resolve_right (fun⟨v,hv,_⟩=>by rw[iX hcal]at hv;cases hv)
 refine this.2.mono fun e W' ⟨zs,rs',he,hb,_,_,hz⟩=>⟨?_,⟨hb.os,hb.tape,hb.output,hb.size,fun k hk=>hb.block k hk (fun h=>by simp at h)⟩⟩
 obtain⟨y,ys,r1,r2,rfl,_,⟨_,h1⟩,rfl,_⟩:=hz
 have h2:[y]=[Value.bool ((T x).getD d).1]:=h1
 rw[hT]at h2
 cases h2
 exact he
end
theorem globs_nil{W:World}{S:Nat->Prop}:GlobsOk [] W S:=fun _ _ _ h=>by simp[Pv]at h
theorem globs_cons{W:World}{S:Nat->Prop}{g:Nat}{τ:Shape}{xs:List (Ab τ)}{G:List (Nat×Sigma fun τ=>List (Ab τ))}(h:S g/\∃vs T fz,W.heap[g]? = some (.cells vs T fz)/\Rows W S τ vs 0 xs)(r:GlobsOk G W S):
  GlobsOk ((g,⟨τ,xs⟩)::G) W S:=fun g' τ' xs' hf=>by
 simp only[Pv]at hf
 cases hb:Nat.beq g g' with
 |true=>
  have:=Nat.eq_of_beq_eq_true hb
  subst this
  rw[hb]at hf
  simp only[aa,ap]at hf
  cases hf
  exact h
 |false=>
  rw[hb]at hf
  exact r g' τ' xs' hf
end Vx
namespace Vx
open Go Go.RowKit Go.ChangeShapes Go.WideShapes
section
variable {H:Type}{enc:TypeId×Value->H}{P:Program}{W:World}
def elemsOf:DataW H->Nat
 |.slice es _=>es.length
 |_=>0
def LenS:(I:Aa)->DenS I->List (DataW H)->Prop
 | [],_,_=>True
 |_::_,_,[]=>True
 |(_,τ)::I,x,d::ds=>(match τ,x.1 with|.slice _,xs=>ro xs<=elemsOf d|_,_=>True)/\LenS I x.2 ds
theorem bBa{S:Nat->Prop}{spare:Nat->Bool}{held:Bool}{n m:Nat}{t:TypeId}{σ:Shape}{cs:List Value}{d:DataW H}{p:List MemPlace}{xs:List (Ab σ)}(h:CI P n t (.slice σ)=true)(ht:DataW.trod enc P W 0 spare held m t cs=some (d,p))
  (hx:AJ W S (.slice σ) xs cs):xs.length<=elemsOf d:=by
 obtain⟨A,c,hc,_⟩:=hx;cases n with
 |zero=>simp[CI]at h
 |succ n=>
  unfold CI at h;split at h
  ·cases h
  ·cases h
  ·rename_i e hk;rcases DataW.trod_slice hk ht with⟨hcs,_⟩|⟨a,len,cap,elems,rest,m',rfl,hcs,hx,_,_,_,hlen,_⟩
   ·rw[hc]at hcs;simp only[nh,nw,and_true]at hcs;omega
   ·rw[hc]at hcs;simp only[nh,nw,and_true]at hcs;simp only[cr]at hx;rw[hx.1];show xs.length<=(elems.map (·.1)).length;rw[cp];omega
  ·rename_i fs hk;simp only[ar]at h;cases hfs:fs.toList with
   |nil=>rw[hfs]at h;simp[LL]at h
   |cons f r=>rw[hfs]at h;simp[LL]at h
  ·cases h
theorem aMf{n:Nat}{S:Nat->Prop}{sp:Nat->Bool}{held:Bool}{b0:Nat}:∀(ts:List TypeId) (I:Aa) (vs:List Value) (ds:List (DataW H)) (ps:List MemPlace) (x:DenS I),Px P n ts I=true ->
  (∀(j:Nat) (t:TypeId) (v:Value),ts[j]? = some t->vs[j]? = some v->mq P W .any b0 t v)->B4 W S I x vs []->DataW.TrodAll enc P W 0 sp held ts vs ds ps->LenS I x ds
 |_,[],_,_,_,_,_,_,_,_=>trivial
 | [],_::_,_,_,_,_,hf,_,_,_=>by simp[Px]at hf
 |t::ts,(a,τ)::I,vs,ds,ps,x,hf,hv,hs,h=>by
  cases vs with
  |nil=>simp[DataW.TrodAll]at h
  |cons v vs=>
   cases ds with
   |nil=>simp[DataW.TrodAll]at h
   |cons d ds=>
    obtain⟨p,q,⟨m,hp⟩,hq,_⟩:=h
    obtain⟨y,ys,r1,r2,e,er,h1,h2⟩:=hs
    simp only[nh]at e
    obtain⟨rfl,rfl⟩:=e
    obtain⟨rfl,rfl⟩:=List.append_eq_nil_iff.1 er.symm
    simp only[Px,ar,beq_iff_eq]at hf
    obtain⟨⟨f1,f2⟩,f3⟩:=hf
    have hok:=hv 0 t v rfl rfl
    refine⟨?_,aMf (b0:=b0) ts I vs ds q x.2 f3 (fun j t v ht hv'=>hv (j+1) t v (by simpa using ht) (by simpa using hv')) h2 hq⟩
    cases τ with
    |slice σ=>
     have hs:PJ P t=false:=by
      cases n with
      |zero=>simp[CI]at f1
      |succ n=>
       unfold CI at f1
       unfold PJ
       split at f1<;>rename_i hk<;>first|(rw[hk];done)|(simp only[hk];done)|(simp[LL]at f1;done)|skip
     rw[hs]at f2
     subst f2
     have hd:AJ W S (.slice σ) x.1 [v]:=h1.2
     rw[←aNk f1 hs hok]at hd
     exact bBa f1 hp hd
    |_=>trivial
theorem law_postL{G:List (Nat×Sigma fun τ=>List (Ab τ))}{f:FuncId}{fn:Func}{I:Aa}{T:DenS I->Option (DenS [(false,.bool)])}{d:DenS [(false,.bool)]}{s:ChangeSpec}{n:Nat}{tb:TypeId}{ds gs:List (DataW H)}
  (hS : Sound P G f (Aj I [(false, .bool)] T d)) (hT : ∀ x, wfS I x -> LenS I x ds -> ds.length = fn.params.toList.length -> gs = [] -> T x = some (true, ())) (hcal : ∃ fn, P.funcs[f]? = some fn /\ fn.body.isNone = false /\ (fn.name == "runtime.NumGoroutine") = false) (hlay : laidOutB P = true) (hfit : Px P n fn.params.toList I = true)
  (hread:(fn.params.toList.all fun t=>P.readableRec t&&decide (t<P.types.size))=true) (hres:fn.resultTypes=#[tb]) (hbool:P.underlying tb=some .bool) (hvars:s.vars=[])
  (hspec:∀ds:List (DataW H),ds.length=fn.params.toList.length->s.fn H ds={results:=[.lit (.bool true)],args:=ds})
  {W:World} {base:Nat} {args:Array Value} {before:List MemPlace}
  (hval:∀(j:Nat) (t:TypeId) (v:Value),fn.params[j]? = some t->args[j]? = some v->mq P W .any base t v)
  (hW:DataW.Whole enc P fn.params.toList s.vars false W args.toList ds gs before) (hG:GlobsOk G W fun q=>q<W.heap.size) :
  Calls P f args W fun e W'=>∃v,e=.returned v/\ChangeSpec.post enc P fn s false true false false W args v W':=by
 have hW':=hW
 obtain⟨p,q,hA,hV,rfl,_,_⟩:=hW
 rw[hvars]at hV
 obtain⟨rfl,rfl⟩:=trodVars_none hV
 have hval':∀(j:Nat) (t:TypeId) (v:Value),fn.params.toList[j]? = some t->args.toList[j]? = some v->mq P W .any base t v:=fun j t v ht hv=>hval j t v (by simpa using ht) (by simpa using hv)
 obtain⟨x,hx,hw,hlen⟩:=aMg (b0:=base) fn.params.toList I args.toList ds p hfit hval' hA
 have hl:=aMf (b0:=base) fn.params.toList I args.toList ds p x hfit hval' hx hA
 refine(bGX hS (hT x hw hl hlen rfl) hcal hG hx).mono fun e W' ⟨he,hb⟩=>⟨.bool true,he,ds,[],p++[],[],p,[],hW',?_,?_,?_,hb.frame _,fun h=>by cases h⟩
 ·rw[du,hspec ds hlen,hres]
  exact trodAll_mk1 (shut_bool hbool true)
 ·rw[du,hspec ds hlen]
  exact aSV hlay hb _ _ _ _ hread hA fun y hy=>by simpa using hW'.lt y (by simpa using hy)
 ·rw[du,hspec ds hlen,hvars]
  rfl
end
end Vx
end
