/- Part 8 of the proof. What is proved: symbolic execution of the functions, proved sound; what each function of the program computes, and that every run ends with it; what these functions compute, in plain numbers. Conditions: each theorem bears its own. -/
import Derived.Test.YthajbkcpnbiobaaGreatDoorVxG7
import Derived.ProofKit
import Derived.LaidMore
import Derived.OpenShut
import Derived.Stop.Joined
import GoSem.ClaimJoined
set_option linter.all false
set_option exponentiation.threshold 1000000
noncomputable section
open Array renaming getElem?_eq_some_iff->cz
open BitVec renaming ofInt->ce,or_assoc->qi
open Bool renaming and_eq_true->af,and_false->bm,and_self->bc,and_true->cm,false_and->ba,false_or->bt,not_false->bh,not_true->bq,or_eq_false_iff->fh,or_false->ca,or_self->br,or_true->bg,true_or->bb
open Go.IntKind renaming wrap->aa
open Go.Value renaming okWide->nz
open Go.World renaming cell?->pn,cells?_some->pf
open Int renaming tmod->iu,toNat_natCast->ae
open List renaming all_cons->kj,all_nil->ph,append_nil->df,getElem?_eq_getElem->ay,getElem?_eq_some_iff->au,length_map->lc,mem_append->cv
open Nat renaming lt_or_ge->aq,mod_lt->bp
open Option.some renaming inj->jz,injEq->ab
open Prod.mk renaming injEq->cu
namespace VL
open Go Vx
theorem aR9{f m:Int}(hf:Fm f)(hm:0<=m/\m<=5)(g:Int){x y:Bl}(hx:CI f x)(hy:CI f y):
  YH ((f,m,g,()),cI x,cI y,())=some ((f,m,Dt f m g (WM f m x y),()),cI (Hn f m x y),())/\CI f (Hn f m x y):=by
 have q1:=CL hf hm hy.1 hy.1;have q2:=CL hf hm hy.2 hy.2;have q3:=Nz hf hm q1 q2;have q4:=CL hf hm hx.1 hy.1;have q5:=CL hf hm hx.2 hy.2;have q6:=Nz hf hm q4 q5;have q7:=CL hf hm hx.2 hy.1;have q8:=CL hf hm hx.1 hy.2;have q9:=mG hf hm q7 q8;have q10:=bT hf hm q6 q3;have q11:=bT hf hm q9 q3;refine⟨?_,q10,q11⟩;have p1:=J0 hf hm g hy.1 hy.1;have p2:=J0 hf hm (Aq .i64 g (Av f m 3 y.1 y.1)) hy.2 hy.2;have p3:=YD hf hm (Aq .i64 (Aq .i64 g (Av f m 3 y.1 y.1)) (Av f m 3 y.2 y.2)) q1 q2;have p4:=J0 hf hm (Aq .i64 (Aq .i64 (Aq .i64 g (Av f m 3 y.1 y.1)) (Av f m 3 y.2 y.2)) (Av f m 1 (At f m 3 y.1 y.1) (At f m 3 y.2 y.2))) hx.1 hy.1;have p5:=J0 hf hm (Aq .i64 (Aq .i64 (Aq .i64 (Aq .i64 g (Av f m 3 y.1 y.1)) (Av f m 3 y.2 y.2)) (Av f m 1 (At f m 3 y.1 y.1) (At f m 3 y.2 y.2))) (Av f m 3 x.1 y.1)) hx.2 hy.2;have p6:=YD hf hm (Aq .i64 (Aq .i64 (Aq .i64 (Aq .i64 (Aq .i64 g (Av f m 3 y.1 y.1)) (Av f m 3 y.2 y.2)) (Av f m 1 (At f m 3 y.1 y.1) (At f m 3 y.2 y.2))) (Av f m 3 x.1 y.1)) (Av f m 3 x.2 y.2)) q4 q5;have p7:=J0 hf hm (Aq .i64 (Aq .i64 (Aq .i64 (Aq .i64 (Aq .i64 (Aq .i64 g (Av f m 3 y.1 y.1)) (Av f m 3 y.2 y.2)) (Av f m 1 (At f m 3 y.1 y.1) (At f m 3 y.2 y.2))) (Av f m 3 x.1 y.1)) (Av f m 3 x.2 y.2)) (Av f m 1 (At f m 3 x.1 y.1) (At f m 3 x.2 y.2))) hx.2 hy.1;have p8:=J0 hf hm (Aq .i64 (Aq .i64 (Aq .i64 (Aq .i64 (Aq .i64 (Aq .i64 (Aq .i64 g (Av f m 3 y.1 y.1)) (Av f m 3 y.2 y.2)) (Av f m 1 (At f m 3 y.1 y.1) (At f m 3 y.2 y.2))) (Av f m 3 x.1 y.1)) (Av f m 3 x.2 y.2)) (Av f m 1 (At f m 3 x.1 y.1) (At f m 3 x.2 y.2))) (Av f m 3 x.2 y.1)) hx.1 hy.2;have p9:=aDs hf hm (Aq .i64 (Aq .i64 (Aq .i64 (Aq .i64 (Aq .i64 (Aq .i64 (Aq .i64 (Aq .i64 g (Av f m 3 y.1 y.1)) (Av f m 3 y.2 y.2)) (Av f m 1 (At f m 3 y.1 y.1) (At f m 3 y.2 y.2))) (Av f m 3 x.1 y.1)) (Av f m 3 x.2 y.2)) (Av f m 1 (At f m 3 x.1 y.1) (At f m 3 x.2 y.2))) (Av f m 3 x.2 y.1)) (Av f m 3 x.1 y.2)) q7 q8;have p10:=aDu hf hm (Aq .i64 (Aq .i64 (Aq .i64 (Aq .i64 (Aq .i64 (Aq .i64 (Aq .i64 (Aq .i64 (Aq .i64 g (Av f m 3 y.1 y.1)) (Av f m 3 y.2 y.2)) (Av f m 1 (At f m 3 y.1 y.1) (At f m 3 y.2 y.2))) (Av f m 3 x.1 y.1)) (Av f m 3 x.2 y.2)) (Av f m 1 (At f m 3 x.1 y.1) (At f m 3 x.2 y.2))) (Av f m 3 x.2 y.1)) (Av f m 3 x.1 y.2)) (Av f m 2 (At f m 3 x.2 y.1) (At f m 3 x.1 y.2))) q6 q3;have p11:=aDu hf hm (Aq .i64 (Aq .i64 (Aq .i64 (Aq .i64 (Aq .i64 (Aq .i64 (Aq .i64 (Aq .i64 (Aq .i64 (Aq .i64 g (Av f m 3 y.1 y.1)) (Av f m 3 y.2 y.2)) (Av f m 1 (At f m 3 y.1 y.1) (At f m 3 y.2 y.2))) (Av f m 3 x.1 y.1)) (Av f m 3 x.2 y.2)) (Av f m 1 (At f m 3 x.1 y.1) (At f m 3 x.2 y.2))) (Av f m 3 x.2 y.1)) (Av f m 3 x.1 y.2)) (Av f m 2 (At f m 3 x.2 y.1) (At f m 3 x.1 y.2))) (Av f m 4 (At f m 1 (At f m 3 x.1 y.1) (At f m 3 x.2 y.2)) (At f m 1 (At f m 3 y.1 y.1) (At f m 3 y.2 y.2)))) q9 q3;show o0 D4.pre D4.F F8.pre F8.F F9.pre F9.F RE.pre RE.F (f,m,g,()) (cI x) (cI y)=_;unfold o0 cI;dsimp only;simp only[KI p1,Kz p1,KI p2,Kz p2,bE p3,Z6 p3,KI p4,Kz p4,KI p5,Kz p5,bE p6,Z6 p6,KI p7,Kz p7,KI p8,Kz p8,aLw p9,aJp p9,aLx p10,aJq p10,aLx p11,aJq p11,cond_true];rfl
abbrev XI:=Int×Int×Unit
def CV(f:Int)(l:List Bl):Bool:=l.all fun x=>Af f x.1==0&&Af f x.2==0
theorem aSF(s:St3)(l:List Bl)(hl:∀x∈l,x.1<2^64/\x.2<2^64)(hlen:l.length<2^63):
  Y9 (((l.length:Int),l.map cI,(),(0:Int),()),s,())=some (if CV s.1 l=true then .inl ((),s,())else .inr (((4:Int),()),s,())):=by
 have key:=DU (aKv Ar.pre Ar.F) (fun x=>l.length-x.1.2.2.2.1.toNat)
  (fun x=>∃i:Nat,i<=l.length/\CV s.1 (l.drop i)=CV s.1 l/\x=(((l.length:Int),l.map cI,(),(i:Int),()),s,()))
  (fun _=>if CV s.1 l=true then .inl ((),s,())else .inr (((4:Int),()),s,())) ?_ _ ⟨0,Nat.zero_le _,rfl,rfl⟩
 ·exact key
 intro L x hx hL;obtain⟨i,hi,hok,rfl⟩:=hx;unfold Wk;rcases aq i l.length with hlt|hge
 ·have hg:(l.map cI).getD i ((0:Int),(0:Int),())=cI l[i]:=by simp[List.getD_eq_getElem?_getD,hlt]
  obtain⟨h1,h2⟩:=hl _ (List.getElem_mem hlt);have p0:=Ih s.1 l[i].1 h1;have p1:=Ih s.1 l[i].2 h2;have e0:decide ((i:Int)<(l.length:Int))=true:=decide_eq_true (by omega);have e2:decide ((0:Int)<=(i:Int))=true:=decide_eq_true (by omega);have e1:decide ((i:Int)<(((l.map cI).length:Nat):Int))=true:=by rw[lc];exact e0
  have e3:aa .i64 ((i:Int)+1)=((i+1:Nat):Int):=by rw[Au (by omega)];omega
  have hN:L (((l.length:Int),l.map cI,(),((i+1:Nat):Int),()),s,())=some (if CV s.1 (l.drop (i+1))=true then .inl ((),s,())else .inr (((4:Int),()),s,()))∨CV s.1 (l.drop (i+1))≠CV s.1 l:=by
   by_cases h:CV s.1 (l.drop (i+1))=CV s.1 l
   ·left;rw[h];exact hL _ ⟨i+1,by omega,h,rfl⟩ (by simp only[ae];omega)
   ·exact .inr h
  rw[List.drop_eq_getElem_cons hlt]at hok;have hok':((Af s.1 l[i].1==0&&Af s.1 l[i].2==0)&&CV s.1 (l.drop (i+1)))=CV s.1 l:=hok;dsimp only;simp only[e0,e1,e2,e3,ae,hg,cI,Hl p0,Hf p0,Hl p1,Hf p1,cond_true,bb,bc];by_cases c1:Af s.1 l[i].1=0
  ·by_cases c2:Af s.1 l[i].2=0
   ·rw[c1,c2]at hok' ⊢;have h3:CV s.1 (l.drop (i+1))=CV s.1 l:=hok';rcases hN with hN|hN
    ·simp only[bne_self_eq_false,br,cond_false];rw[hN,h3]
    ·exact absurd h3 hN
   ·rw[beq_false_of_ne c2,bm,ba]at hok';rw[←hok',c1,bne_self_eq_false,bt,bne_iff_ne.2 c2];rfl
  ·rw[beq_false_of_ne c1,ba,ba]at hok';rw[←hok',bne_iff_ne.2 c1];rfl
 ·have e:i=l.length:=by omega
  subst e;rw[List.drop_length]at hok;have e0:decide ((l.length:Int)<(l.length:Int))=false:=decide_eq_false (by omega);simp only[e0,cond_false];rw[←hok];rfl
theorem r8(s:St3)(l:List Bl)(hl:∀x∈l,x.1<2^64/\x.2<2^64)(hlen:l.length<2^63):
  RU (s,l.map cI,())=some (s,(if CV s.1 l=true then(0:Int)else 4),()):=by
 show oX Ar.pre Ar.F Y9 s (l.map cI)=_;unfold oX;have hw:=aSF s l hl hlen;rw[lc];have hw':Y9 (((l.length:Int),l.map cI,(),(0:Int),()),(s.1,s.2),())=_:=hw;rw[hw'];by_cases h:CV s.1 l=true
 ·rw[if_pos h,if_pos h];all_goals rfl
 ·rw[if_neg h,if_neg h];all_goals rfl
def Hd(w:Bl->Bl->Bl)(k:Bl->Bl->List (Int×Nat×Nat))(f m:Int)(x y:Bl):XI×Int×Int×Unit:=if ¬Fm f then((0,0,()),0,2,())else if m<0∨m>5 then((0,0,()),0,3,())else if ¬CV f [x,y]=true then((0,0,()),0,4,())else(cI (w x y),Dt f m 0 (k x y),0,())
theorem v7{f:Int}{x y:Bl}(h:CV f [x,y]=true):CI f x/\CI f y:=by
 simp only[CV,kj,ph,cm,af,beq_iff_eq]at h;exact⟨h.1,h.2⟩
theorem Nr{m:Int}:(decide (m<0)||decide (m>5))=decide (m<0∨m>5):=by rw[Bool.decide_or]
theorem aDv(f m:Int){x y:Bl}(hx:x.1<2^64/\x.2<2^64)(hy:y.1<2^64/\y.2<2^64):Tg (f,m,cI x,cI y,())=some (Hd (WW f m) cA f m x y):=by
 show pD RH.pre RH.F Ao.pre Ao.F D5.pre D5.F f m (cI x) (cI y)=_;unfold pD Hd;by_cases hf:Fm f
 ·have p0:=Ge hf;rw[if_neg (show ¬¬Fm f from fun h=>h hf)];by_cases hm:m<0∨m>5
  ·rw[if_pos hm];dsimp only;simp only[CJ p0,CF p0,cond_true,bne_self_eq_false,cond_false,Nr,decide_eq_true hm]
  ·rw[if_neg hm];have p1:RU ((f,m,0,()),(cI x::cI y::[]),())=_:=r8 (f,m,0,()) [x,y] (by intro z hz;simp at hz;rcases hz with rfl|rfl<;>assumption) (by show 2<2^63;decide);by_cases hF:CV f [x,y]=true
   ·rw[if_neg (fun h=>h hF)];rw[if_pos hF]at p1;obtain⟨ox,oy⟩:=v7 hF;obtain⟨p2,_⟩:=aSa hf (m:=m) (by omega) 0 ox oy;unfold cI at p1 p2⊢;dsimp only at p1 p2⊢;simp only[CJ p0,CF p0,cond_true,bne_self_eq_false,cond_false,Nr,decide_eq_false hm,WI p1,VN p1,aYK p2,aWf p2]
   ·rw[if_pos hF];rw[if_neg hF]at p1;unfold cI at p1⊢;dsimp only at p1⊢;simp only[CJ p0,CF p0,cond_true,bne_self_eq_false,cond_false,Nr,decide_eq_false hm,WI p1,VN p1];rfl
 ·have p0:=Ii hf;rw[if_pos hf];dsimp only;simp only[CJ p0,CF p0,cond_true];rfl
theorem YF(f m:Int){x y:Bl}(hx:x.1<2^64/\x.2<2^64)(hy:y.1<2^64/\y.2<2^64):G2 (f,m,cI x,cI y,())=some (Hd (Dg f m) (Hm f m) f m x y):=by
 show oY RD.pre RD.F Ao.pre Ao.F D5.pre D5.F f m (cI x) (cI y)=_;unfold oY Hd;by_cases hf:Fm f
 ·have p0:=Ge hf;rw[if_neg (show ¬¬Fm f from fun h=>h hf)];by_cases hm:m<0∨m>5
  ·rw[if_pos hm];dsimp only;simp only[CJ p0,CF p0,cond_true,bne_self_eq_false,cond_false,Nr,decide_eq_true hm]
  ·rw[if_neg hm];have p1:RU ((f,m,0,()),(cI x::cI y::[]),())=_:=r8 (f,m,0,()) [x,y] (by intro z hz;simp at hz;rcases hz with rfl|rfl<;>assumption) (by show 2<2^63;decide);by_cases hF:CV f [x,y]=true
   ·rw[if_neg (fun h=>h hF)];rw[if_pos hF]at p1;obtain⟨ox,oy⟩:=v7 hF;obtain⟨p2,_⟩:=aR8 hf (m:=m) (by omega) 0 ox oy;unfold cI at p1 p2⊢;dsimp only at p1 p2⊢;simp only[CJ p0,CF p0,cond_true,bne_self_eq_false,cond_false,Nr,decide_eq_false hm,WI p1,VN p1,aYI p2,aWd p2]
   ·rw[if_pos hF];rw[if_neg hF]at p1;unfold cI at p1⊢;dsimp only at p1⊢;simp only[CJ p0,CF p0,cond_true,bne_self_eq_false,cond_false,Nr,decide_eq_false hm,WI p1,VN p1];rfl
 ·have p0:=Ii hf;rw[if_pos hf];dsimp only;simp only[CJ p0,CF p0,cond_true];rfl
theorem r9(f m:Int){x y:Bl}(hx:x.1<2^64/\x.2<2^64)(hy:y.1<2^64/\y.2<2^64):Mw (f,m,cI x,cI y,())=some (Hd (Hn f m) (WM f m) f m x y):=by
 show o9 RF.pre RF.F Ao.pre Ao.F D5.pre D5.F f m (cI x) (cI y)=_;unfold o9 Hd;by_cases hf:Fm f
 ·have p0:=Ge hf;rw[if_neg (show ¬¬Fm f from fun h=>h hf)];by_cases hm:m<0∨m>5
  ·rw[if_pos hm];dsimp only;simp only[CJ p0,CF p0,cond_true,bne_self_eq_false,cond_false,Nr,decide_eq_true hm]
  ·rw[if_neg hm];have p1:RU ((f,m,0,()),(cI x::cI y::[]),())=_:=r8 (f,m,0,()) [x,y] (by intro z hz;simp at hz;rcases hz with rfl|rfl<;>assumption) (by show 2<2^63;decide);by_cases hF:CV f [x,y]=true
   ·rw[if_neg (fun h=>h hF)];rw[if_pos hF]at p1;obtain⟨ox,oy⟩:=v7 hF;obtain⟨p2,_⟩:=aR9 hf (m:=m) (by omega) 0 ox oy;unfold cI at p1 p2⊢;dsimp only at p1 p2⊢;simp only[CJ p0,CF p0,cond_true,bne_self_eq_false,cond_false,Nr,decide_eq_false hm,WI p1,VN p1,aYJ p2,aWe p2]
   ·rw[if_pos hF];rw[if_neg hF]at p1;unfold cI at p1⊢;dsimp only at p1⊢;simp only[CJ p0,CF p0,cond_true,bne_self_eq_false,cond_false,Nr,decide_eq_false hm,WI p1,VN p1];rfl
 ·have p0:=Ii hf;rw[if_pos hf];dsimp only;simp only[CJ p0,CF p0,cond_true];rfl
end VL
namespace VL
open Go Vx
theorem aw1:Hd (Dg 2 0) (Hm 2 0) 2 0 (1065353216,1073741824) (1065353216,1073741824)=(((3225419776:Int),(1082130432:Int),()),0,0,()):=by
 unfold Hd;rw[if_neg (show ¬¬Fm 2 by decide),if_neg (by decide),if_neg (show ¬¬CV 2 [(1065353216,1073741824),(1065353216,1073741824)]=true by decide +kernel)];kernel_rfl
theorem aw2:Hd (Hn 2 0) (WM 2 0) 2 0 (1065353216,1073741824) (1065353216,1065353216)=(((1069547520:Int),(1056964608:Int),()),0,0,()):=by
 unfold Hd;rw[if_neg (show ¬¬Fm 2 by decide),if_neg (by decide),if_neg (show ¬¬CV 2 [(1065353216,1073741824),(1065353216,1065353216)]=true by decide +kernel)];kernel_rfl
theorem aUu:YI ()=some (true,()):=by
 show pB Ga.pre Ga.F Gb.pre Gb.F=_;have p1:G2 (2,0,cI (1065353216,1073741824),cI (1065353216,1073741824),())=_:=YF 2 0 (x:=(1065353216,1073741824)) (y:=(1065353216,1073741824)) (by decide) (by decide);have p2:Mw (2,0,cI (1065353216,1073741824),cI (1065353216,1065353216),())=_:=r9 2 0 (x:=(1065353216,1073741824)) (y:=(1065353216,1065353216)) (by decide) (by decide);rw[aw1]at p1;rw[aw2]at p2;have q1:G2 ((2:Int),(0:Int),((1065353216:Int),(1073741824:Int),()),((1065353216:Int),(1073741824:Int),()),())=_:=p1;have q2:Mw ((2:Int),(0:Int),((1065353216:Int),(1073741824:Int),()),((1065353216:Int),(1065353216:Int),()),())=_:=p2;unfold pB;dsimp only;simp only[Sz q1,Sm q1,yL q2,wR q2,cond_true];rfl
end VL
namespace VL
open Go Vx
def Gs(f:Int)(a b:Nat):Bool:=a==b||(AB f a&&AB f b)
theorem aDG{f:Int}(hf:Fm f){a:Nat}(h:Af f a=0):
  U2 ((if eF f a=A4 f then(mF f a !=0,(mF f a !=0)&&(mF f a/2^(fP f-2)==0),mF f a==0,sF f a,(false,[],0,()),())
   else(false,false,false,sF f a,(sF f a,Dh (Am f a),Al f a,()),())),())=some (AB f a,()):=by
 by_cases hE:eF f a=A4 f
 ·rw[if_pos hE];have hz:AB f a=false:=by
   have:=kE hf;unfold AB;rw[hE,beq_false_of_ne (show A4 f≠0 by omega)];rfl
  rw[hz];show W1 _=_;unfold W1;dsimp only;cases h0:mF f a==0<;>simp[bne,h0]
 ·rw[if_neg hE,aSe];have:=qG f a;rw[←this];congr 2;by_cases h0:Am f a=0
  ·rw[h0];rfl
  ·rw[decide_eq_false h0,beq_false_of_ne (by omega)]
theorem gE{f:Int}(hf:Fm f){a b:Nat}(ha:Af f a=0)(hb:Af f b=0):YN (f,(a:Int),(b:Int),())=some (Gs f a b,()):=by
 show pI D6.pre D6.F RP.pre RP.F f a b=_;unfold pI Gs;have p1:=sC hf ha;have p2:=sC hf hb;have q1:=aDG hf ha;have q2:=aDG hf hb;rw[IG];dsimp only;simp only[SA p1,Sn p1,SA p2,Sn p2,aLE q1,aJx q1,aLE q2,aJx q2,bb,cond_true]
abbrev aBg:=Bool×List Int×Int×Unit
def opN(f:Int)(a:Nat):aBg:=if eF f a=A4 f then(false,[],0,())else(sF f a,Dh (Am f a),Al f a,())
abbrev op(f:Int)(a:Nat):Bool×Bool×Bool×Bool×aBg×Unit:=(nan f a,AI f a,Ap f a,sF f a,opN f a,())
theorem gF{f:Int}(hf:Fm f){a:Nat}(h:Af f a=0):U1 (f,(a:Int),())=some (op f a,()):=by
 have p:=sC hf h;unfold op opN;by_cases hE:eF f a=A4 f
 ·rw[if_pos hE]at p⊢;obtain⟨v1,v2,v3⟩:=aVH hE;rw[p,v1,v2,v3];rfl
 ·rw[if_neg hE]at p⊢;obtain⟨v1,v2,v3⟩:=x9 hE;rw[p,v1,v2,v3]
theorem aXi{f:Int}(hf:Fm f){a b:Nat}(h1:Af f a=0)(h2:Af f b=0)(h3:AY f a=-AY f b):Gs f a (AP f b)=true:=by
 unfold Gs;by_cases h0:AY f b=0
 ·have z1:=lH hf h0;have z2:=lH hf (a:=a) (by omega);rw[cJ hf,z1,z2,bc,bg]
 ·rw[aK7 h2 h1 (by omega) h0,beq_self_eq_true,bb]
theorem aDz{f:Int}(hf:Fm f){r r' a b:Nat}(hr:Af f r=0)(hr':r'=r)(h:Rv f a b):
  YO (f,((r:Int),(a:Int),()),((r':Int),(b:Int),()),())=some (true,()):=by
 subst hr';obtain⟨h1,h2,h3⟩:=h;show pJ D6.pre D6.F F4.pre F4.F Gc.pre Gc.F f ((r':Int),(a:Int),()) ((r':Int),(b:Int),())=_;unfold pJ;have p1:=gE hf hr hr;have e:Gs f r' r'=true:=by unfold Gs;rw[beq_self_eq_true];rfl
 rw[e]at p1;have q1:=gF hf h1;have q2:=gF hf h2;rcases h3 with⟨h4,h5⟩|⟨h4,h5,h6⟩
 ·subst h5;unfold op at q1;rw[h4]at q1;dsimp only;simp only[SA q1,Sn q1,T7 p1,TM p1,cond_true,bb,bc]
 ·unfold op at q1;rw[h4]at q1;have p2:=rZ h2;have p3:=gE hf h1 (IH hf b);rw[aXi hf h1 h2 h6]at p3;dsimp only;simp only[SA q1,Sn q1,T7 p1,TM p1,bD p2,Z5 p2,T7 p3,TM p3,cond_true,cond_false,bb,bc]
theorem aDy(n:Int){w:Nat}(hw:0<w/\w<100):∃k:Nat,k<w/\YK (n,(w:Int),())=some ((k:Int),()):=by
 have hne:((w:Int)!=0)=true:=BB _ (by omega);have ht:∃r:Int,iu n (w:Int)=r/\-(w:Int)<r/\r<(w:Int):=by
  rcases n with k|k
  ·have e:iu (Int.ofNat k) (w:Int)=((k%w:Nat):Int):=rfl;have:=bp k hw.1;exact⟨_,e,by omega,by omega⟩
  ·have e:iu (Int.negSucc k) (w:Int)=-(((k+1)%w:Nat):Int):=rfl;have:=bp (k+1) hw.1;exact⟨_,e,by omega,by omega⟩
 obtain⟨r,h1,h2,h3⟩:=ht;obtain⟨u,hu⟩:=Int.eq_ofNat_of_zero_le (show 0<=r+(w:Int) by omega);refine⟨u%w,bp _ hw.1,?_⟩;show pE n (w:Int)=_;unfold pE;rw[hne,cond_true,cond_true,h1,Au (by omega),hu];rfl
theorem aSb(F M:Int)(A B C D:Nat):∃(f m:Int) (a b c d:Nat),Fm f/\(0<=m/\m<=5)/\CI f (a,b)/\CI f (c,d) /\
  YL ((F,M,((A:Int),(B:Int),()),((C:Int),(D:Int),()),()),())=some ((f,m,cI (a,b),cI (c,d),()),()):=by
 obtain⟨f,hf,p1⟩:=aDy F (w:=4) (by decide);obtain⟨m,hm,p2⟩:=aDy M (w:=6) (by decide);have hfm:Fm (f:Int):=⟨by omega,by omega⟩
 have p3:=sB hfm;have hW:=Ea hfm;refine⟨f,m,A%2^fW f,B%2^fW f,C%2^fW f,D%2^fW f,hfm,⟨by omega,by omega⟩,⟨jO hfm _,jO hfm _⟩,⟨jO hfm _,jO hfm _⟩,?_⟩;show pF RJ.pre RJ.F Dn.pre Dn.F (F,M,((A:Int),(B:Int),()),((C:Int),(D:Int),()),())=_;unfold pF cI;have e1:aa .u64 (aa .i64 (64-(fW f:Int)))=((64-fW f:Nat):Int):=by
  rw[Au (by omega),DL (by omega)];omega
 have e2:∀x:Nat,AE .u64 (AQ .u64 (x:Int) ((64-fW f:Nat):Int)) ((64-fW f:Nat):Int)=((x%2^fW f:Nat):Int):=fun x=>by
  rw[Gu _ _ (by omega),Dv _ _ (by omega),aUV hW]
 rw[show((4:Nat):Int)=4 from rfl]at p1;rw[show((6:Nat):Int)=6 from rfl]at p2;dsimp only;simp only[aLz p1,aJs p1,aLz p2,aJs p2,lP p3,kN p3,cond_true,e1,e2]
def Df(f:Int):Nat:=KG f (fX f-1)
theorem aKU{f:Int}(hf:Fm f):Af f (Df f)=0/\nan f (Df f)=false/\AI f (Df f)=false/\Ap f (Df f)=false/\AB f (Df f)=false/\sF f (Df f)=false /\
  Am f (Df f)=2^(fP f-1)/\Al f (Df f)=1-(fP f:Int):=by
 rcases Ct hf with rfl|rfl|rfl|rfl<;>decide +kernel
theorem aRW{f:Int}(hf:Fm f):US (f,false,aa .u64 (aa .i64 (1-(1-(fX f:Int)))),(0:Int),())=some ((Df f:Int),0,()):=by
 have h1:=Ku hf;have h2:=Ix hf;have p:=aRX hf (k:=fX f-1) (by omega);have e:aa .u64 (aa .i64 (1-(1-(fX f:Int))))=((fX f-1+1:Nat):Int):=by
  rw[Au (by omega),DL (by omega)];omega
 rw[e];exact p
theorem aMc(s:Bool):(!(s==false))=s:=by cases s<;>rfl
theorem aMl{f m:Int}(hf:Fm f)(hm:0<=m/\m<=5){a:Nat}(ha:Af f a=0)(h1:nan f a=false)(h2:Ap f a=false):At f m 3 a (Df f)=a/\Av f m 3 a (Df f)=0:=by
 obtain⟨o1,o2,o3,o4,o5,o6,o7,o8⟩:=aKU hf;have hP:=C0 hf;unfold At Av;rw[SM hf hm ha o1];unfold E5;rw[h1,o2,h2,o4,o5,o6,aMc,o7,o8];simp only[br,ba,bm,cond_false,ca];cases hz:AB f a
 ·have hm0:=NE hz;rw[cond_false,WO hf hm0,show Al f a+(1-(fP f:Int))+((fP f-1:Nat):Int)=Al f a by omega,aLU hf ha (j8 h1 h2) hm0];exact⟨rfl,rfl⟩
 ·rw[cond_true];exact⟨(bD9 ha hz).symm,rfl⟩
theorem aMm{f m:Int}(hf:Fm f)(hm:0<=m/\m<=5){a:Nat}(ha:Af f a=0)(h1:nan f a=false)(h2:Ap f a=false):At f m 3 a 0=Bp f (sF f a)/\Av f m 3 a 0=0:=by
 obtain⟨o1,o2,o3,o4,o5,o6⟩:=Hw hf false;have e:Bp f false=0:=rfl;rw[e]at o1 o2 o3 o4 o5;unfold At Av;rw[SM hf hm ha o1];unfold E5;rw[h1,o2,h2,o3,o4,o5,aMc];simp only[br,ba,bm,cond_false,bg,cond_true];exact⟨rfl,trivial⟩
theorem aHC{f m:Int}(hf:Fm f){a:Nat}(ha:Af f a=0)(h1:nan f a=false)(h2:Ap f a=false)(s:Bool):Gs f (Bo f m a (Bp f s)).1 a=true/\(Bo f m a (Bp f s)).2=0:=by
 have hfin:=j8 h1 h2;by_cases h0:Am f a=0
 ·obtain⟨o1,o2,o3,o4,o5,o6⟩:=Hw hf s;have za:=qG f a;rw[h0]at za;have za':AB f a=true:=za.symm;unfold Bo;rw[bS h1,h1,h2,bS o2,o2,o3,o6];simp only[br,ba,cond_false];rw[Ug hf,if_pos h0];unfold Gs;rw[za'];split
  ·rw[(Hw hf _).2.2.2.1];exact⟨bg _,rfl⟩
  ·rw[(Hw hf _).2.2.2.1];exact⟨bg _,rfl⟩
 ·rw[WS,aUg hf ha hfin h0];unfold Gs;rw[beq_self_eq_true];exact⟨rfl,rfl⟩
theorem bDX(b:BitVec 64):ce 64 (aa .i64 (b.toNat:Int))=b:=by
 apply BitVec.eq_of_toNat_eq;rw[BitVec.toNat_ofInt];have hb:=b.isLt;show((if(true&&decide ((b.toNat:Int)%2^64>=2^63))=true then(b.toNat:Int)%2^64-2^64 else(b.toNat:Int)%2^64)%((2^64:Nat):Int)).toNat=b.toNat;split
 ·rename_i h;have h3:=of_decide_eq_true h;have h4:(b.toNat:Int)%2^64>=2^63:=h3;omega
 ·rename_i h;have h4:¬(b.toNat:Int)%2^64>=2^63:=fun h5=>h (decide_eq_true h5);omega
theorem aX3(g a b:Int):Aq .i64 (Aq .i64 g a) b=Aq .i64 (Aq .i64 g b) a:=by
 have e:∀x y:Int,ce 64 (Aq .i64 x y)=ce 64 x ||| ce 64 y:=fun x y=>bDX _;show aa .i64 ((ce 64 (Aq .i64 g a) ||| ce 64 b).toNat:Int)=aa .i64 ((ce 64 (Aq .i64 g b) ||| ce 64 a).toNat:Int);rw[e,e,qi,qi,BitVec.or_comm (ce 64 a)]
end VL
namespace VL
open Go Vx
theorem jJ(w:Bl->Bl->Bl)(k:Bl->Bl->List (Int×Nat×Nat)){f m:Int}(hf:Fm f)(hm:0<=m/\m<=5){x y:Bl}(hx:CI f x)(hy:CI f y):Hd w k f m x y=(cI (w x y),Dt f m 0 (k x y),0,()):=by
 unfold Hd;have hF:CV f [x,y]=true:=by
  simp only[CV,kj,ph,cm,hx.1,hx.2,hy.1,hy.2];rfl
 rw[if_neg (show ¬¬Fm f from fun h=>h hf),if_neg (by omega),if_neg (fun h=>h hF)]
theorem aWs{f m:Int}(hf:Fm f)(hm:0<=m/\m<=5){a b:Nat}(ha:Af f a=0)(hb:Af f b=0):∃r g:Int,kV f m a b=(r,g,0,()):=by
 have h0:CD f m [a,b]=0:=by
  unfold CD;rw[if_neg (show ¬¬Fm f from fun h=>h hf),if_neg (by omega)];have:DJ f [a,b]=true:=by
   unfold DJ;simp only[kj,ph,ha,hb];rfl
  rw[this];rfl
 unfold kV;rw[if_neg (fun h=>h h0)];cases AI f a||AI f b
 ·cases Ap f a||Ap f b
  ·cases nan f a||nan f b
   ·cases AB f a&&AB f b
    ·exact⟨_,_,rfl⟩
    ·exact⟨_,_,rfl⟩
   ·exact⟨_,_,rfl⟩
  ·exact⟨_,_,rfl⟩
 ·exact⟨_,_,rfl⟩
section
variable {f m:Int}(hf:Fm f)(hm:0<=m/\m<=5)
include hf hm
theorem bDz{x y:Bl}(hx:CI f x)(hy:CI f y):WW f m x y=WW f m y x/\Dt f m 0 (cA x y)=Dt f m 0 (cA y x):=by
 have h1:=uT hf hm hx.1 hy.1;have h2:=uT hf hm hx.2 hy.2;unfold WW cA;simp only[Dt];rw[h1.1,h1.2,h2.1,h2.2];exact⟨rfl,rfl⟩
theorem aYO{x y:Bl}(hx:CI f x)(hy:CI f y):Dg f m x y=Dg f m y x/\Dt f m 0 (Hm f m x y)=Dt f m 0 (Hm f m y x):=by
 have h1:=WV hf hm hx.1 hy.1;have h2:=WV hf hm hx.2 hy.2;have h3:=WV hf hm hx.1 hy.2;have h4:=WV hf hm hx.2 hy.1;have c3:=CL hf hm hy.2 hx.1;have c4:=CL hf hm hy.1 hx.2;have h5:=uT hf hm c3 c4;unfold Dg Hm;simp only[Dt];rw[h1.1,h1.2,h2.1,h2.2,h3.1,h3.2,h4.1,h4.2,h5.1,h5.2];refine⟨rfl,?_⟩;rw[aX3 (Aq .i64 (Aq .i64 0 _) _)]
def cj(f:Int)(x:Bl):Bl:=(x.1,AP f x.2)
omit hm in
theorem aIa{x:Bl}(hx:CI f x):CI f (cj f x):=⟨hx.1,IH hf _⟩
theorem aYP(he:Ev m){x y:Bl}(hx:CI f x)(hy:CI f y):
  (Dg f m (cj f x) (cj f y)).1=(Dg f m x y).1/\Rv f (Dg f m x y).2 (Dg f m (cj f x) (cj f y)).2/\Dt f m 0 (Hm f m (cj f x) (cj f y))=Dt f m 0 (Hm f m x y):=by
 have h2:=zR hf hm hx.2 hy.2;have h3:=aMk hf hm he hx.1 hy.2;have h4:=zQ hf hm he hx.2 hy.1;have h5:=bDn hf hm he (CL hf hm hx.1 hy.2) (CL hf hm hx.2 hy.1);unfold Dg Hm cj;simp only[Dt];rw[h2.1,h2.2,h3.1,h3.2,h4.1,h4.2,h5.2];exact⟨rfl,h5.1,rfl⟩
theorem aYX(he:Ev m){x y:Bl}(hx:CI f x)(hy:CI f y):
  (Hn f m (cj f x) (cj f y)).1=(Hn f m x y).1/\Rv f (Hn f m x y).2 (Hn f m (cj f x) (cj f y)).2/\Dt f m 0 (WM f m (cj f x) (cj f y))=Dt f m 0 (WM f m x y):=by
 have n1:=zR hf hm hy.2 hy.2;have n2:=zR hf hm hx.2 hy.2;have h3:=aMk hf hm he hx.1 hy.2;have h4:=zQ hf hm he hx.2 hy.1;have h5:=bDo hf hm he (CL hf hm hx.2 hy.1) (CL hf hm hx.1 hy.2);have ct:=Nz hf hm (CL hf hm hy.1 hy.1) (CL hf hm hy.2 hy.2);have h6:=bDp hf hm he h5.1 ct;unfold Hn WM yT bI yU cj;simp only[Dt];rw[n1.1,n1.2,n2.1,n2.2,h3.1,h3.2,h4.1,h4.2,h5.2,h6.2];exact⟨rfl,h6.1,rfl⟩
theorem aYQ{x:Bl}(hx:CI f x)(h1:nan f x.1=false)(h2:Ap f x.1=false)(h3:nan f x.2=false)(h4:Ap f x.2=false):
  Gs f (Dg f m x (Df f,0)).1 x.1=true/\Gs f (Dg f m x (Df f,0)).2 x.2=true/\Dt f m 0 (Hm f m x (Df f,0))=0:=by
 have a1:=aMl hf hm hx.1 h1 h2;have a2:=aMl hf hm hx.2 h3 h4;have b1:=aMm hf hm hx.1 h1 h2;have b2:=aMm hf hm hx.2 h3 h4;have z1:=(Hw hf (sF f x.1)).1;have z2:=(Hw hf (sF f x.2)).1;have q1:=zS hf hm hx.1 z2;have q2:=Uf hf hm z1 hx.2;have en:AP f (Bp f (sF f x.2))=Bp f (!sF f x.2):=by rw[v9 hf,Kw (Hw hf _).2.1]
 rw[en]at q1;rw[aHw hf z1 hx.2]at q2;have r1:=aHC (m:=m) hf hx.1 h1 h2 (!sF f x.2);have r2:=aHC (m:=m) hf hx.2 h3 h4 (sF f x.1);unfold Dg Hm;simp only[Dt];rw[a1.1,a1.2,a2.1,a2.2,b1.1,b1.2,b2.1,b2.2,q1.1,q1.2,q2.1,q2.2,r1.2,r2.2];exact⟨r1.1,r2.1,rfl⟩
end
theorem bA{f:Int}(hf:Fm f){x:Bl}(h:CI f x):x.1<2^64/\x.2<2^64:=⟨jN hf h.1,jN hf h.2⟩
theorem T515_true(F M:Int)(A B C D:Nat):T515 ((F,M,((A:Int),(B:Int),()),((C:Int),(D:Int),()),()),())=some (true,()):=by
 obtain⟨f,m,a,b,c,d,hf,hm,hx,hy,p511⟩:=aSb F M A B C D;show pK RG.pre RG.F RK.pre RK.F RI.pre RI.F RL.pre RL.F F6.pre F6.F F4.pre F4.F Gb.pre Gb.F RM.pre RM.F Dn.pre Dn.F Rk.pre Rk.F D6.pre D6.F Ga.pre Ga.F Gc.pre Gc.F (F,M,((A:Int),(B:Int),()),((C:Int),(D:Int),()),())=_;have lx:=bA hf hx;have ly:=bA hf hy;have ox:=aIa hf hx;have oy:=aIa hf hy;have lox:=bA hf ox;have loy:=bA hf oy;obtain⟨o1,o2,_⟩:=aKU hf;have hz:Af f 0=0:=(Hw hf false).1;have hone:CI f (Df f,0):=⟨o1,hz⟩
 have p474:=aUu;have p67:=sB hf;have p349:=aRW hf;have pS1:Tg (f,m,cI (a,b),cI (c,d),())=_:=aDv f m lx ly;have pS2:Tg (f,m,cI (c,d),cI (a,b),())=_:=aDv f m ly lx;have pP1:G2 (f,m,cI (a,b),cI (c,d),())=_:=YF f m lx ly;have pP2:G2 (f,m,cI (c,d),cI (a,b),())=_:=YF f m ly lx;have pP3:G2 (f,m,cI (cj f (a,b)),cI (cj f (c,d)),())=_:=YF f m lox loy;have pP4:G2 (f,m,cI (a,b),cI (Df f,0),())=_:=YF f m lx (bA hf hone);have pQ1:Mw (f,m,cI (a,b),cI (c,d),())=_:=r9 f m lx ly;have pQ2:Mw (f,m,cI (cj f (a,b)),cI (cj f (c,d)),())=_:=r9 f m lox loy;rw[jJ _ _ hf hm hx hy]at pS1 pP1 pQ1;rw[jJ _ _ hf hm hy hx]at pS2 pP2;rw[jJ _ _ hf hm ox oy]at pP3 pQ2;rw[jJ _ _ hf hm hx hone]at pP4;have cS:=bDz hf hm hx hy;have cP:=aYO hf hm hx hy;rw[←cS.1,←cS.2]at pS2;rw[←cP.1,←cP.2]at pP2;obtain⟨r,g,hh⟩:=aWs hf hm hx.1 hx.2;have pH:UR (f,m,(a:Int),(b:Int),())=_:=aRU f m lx.1 lx.2;rw[hh]at pH;have pA:YM (f,m,((a:Int),(b:Int),()),())=some (r,g,0,()):=by
  show pG F6.pre F6.F f m ((a:Int),(b:Int),())=_;unfold pG;dsimp only;simp only[yK pH,wQ pH,cond_true]
 have n1:Tf (f,(b:Int),())=some ((AP f b:Int),()):=rZ hx.2;have n2:Tf (f,(d:Int),())=some ((AP f d:Int),()):=rZ hy.2;have w1:=gF hf hx.1;have w2:=gF hf hx.2;have hP0:(((fP f:Nat):Int)==0)=false:=beq_false_of_ne (by have:=C0 hf;omega);have hX1:Af f (Dg f m (a,b) (c,d)).1=0:=mG hf hm (CL hf hm hx.1 hy.1) (CL hf hm hx.2 hy.2);have hQ1:Af f (Hn f m (a,b) (c,d)).1=0:=bT hf hm (Nz hf hm (CL hf hm hx.1 hy.1) (CL hf hm hx.2 hy.2)) (Nz hf hm (CL hf hm hy.1 hy.1) (CL hf hm hy.2 hy.2));have hO1:Af f (Dg f m (a,b) (Df f,0)).1=0:=mG hf hm (CL hf hm hx.1 o1) (CL hf hm hx.2 hz);have hO2:Af f (Dg f m (a,b) (Df f,0)).2=0:=Nz hf hm (CL hf hm hx.1 hz) (CL hf hm hx.2 o1);have pN1:=gE hf hO1 hx.1;have pN2:=gE hf hO2 hx.2;have last:((((nan f a||Ap f a)||nan f b)||Ap f b)=true)∨(Gs f (Dg f m (a,b) (Df f,0)).1 a=true/\Gs f (Dg f m (a,b) (Df f,0)).2 b=true/\Dt f m 0 (Hm f m (a,b) (Df f,0))=0/\(((nan f a||Ap f a)||nan f b)||Ap f b)=false):=by
  cases h:((nan f a||Ap f a)||nan f b)||Ap f b
  ·right;have h':=h;rw[Bool.or_assoc,fh]at h';have h1:=fh.1 h'.1;have h2:=fh.1 h'.2;have:=aYQ hf hm hx h1.1 h1.2 h2.1 h2.2;exact⟨this.1,this.2.1,this.2.2,rfl⟩
  ·left;rfl
 have pP5:G2 (f,m,((a:Int),(b:Int),()),((Df f:Int),(0:Int),()),())=_:=pP4;clear pP4;unfold cI op at *
 unfold pK;by_cases he:m≠3/\m≠4
 ·have e1:((m !=3)&&(m !=4))=true:=by rw[bne_iff_ne.2 he.1,bne_iff_ne.2 he.2];rfl
  obtain⟨a1,a2,a3⟩:=aYP hf hm he hx hy;obtain⟨b1,b2,b3⟩:=aYX hf hm he hx hy;have pC1:=aDz hf (r:=(Dg f m (cj f (a,b)) (cj f (c,d))).1) (r':=(Dg f m (a,b) (c,d)).1) (by rw[a1];exact hX1) a1.symm (aPL a2);have pC2:=aDz hf (r:=(Hn f m (a,b) (c,d)).1) (r':=(Hn f m (cj f (a,b)) (cj f (c,d))).1) hQ1 b1 b2;rw[a3]at pP3;rw[b3]at pQ2;unfold cj at pP3 pQ2 pC1 pC2;dsimp only at *
  simp only[aLy p474,aJr p474,aLA p511,aJt p511,lO pS1,kM pS1,lO pS2,kM pS2,Sz pP1,Sm pP1,Sz pP2,Sm pP2,aLB pA,aJu pA,yK pH,wQ pH,
   bD n1,Z5 n1,bD n2,Z5 n2,e1,Sz pP3,Sm pP3,yL pQ1,wR pQ1,yL pQ2,wR pQ2,aLC pC1,aJv pC1,aLC pC2,aJv pC2,lP p67,kN p67,aLn p349,aJh p349,
   SA w1,Sn w1,SA w2,Sn w2,hP0,cond_true,cond_false,bne_self_eq_false,beq_self_eq_true,bq,bh,br,ca,bg,bb,bc,bt]
  rcases last with h|⟨h1,h2,h3,h4⟩
  ·simp only[h,cond_true]
  ·rw[h1]at pN1;rw[h2]at pN2;rw[h3]at pP5;simp only[h4,cond_false,Sz pP5,Sm pP5,T7 pN1,TM pN1,T7 pN2,TM pN2,cond_true,beq_self_eq_true,bc,bb,bg]
 ·have e1:((m !=3)&&(m !=4))=false:=by
   by_cases h3:m=3
   ·rw[h3];rfl
   ·have:m=4:=by omega
    rw[this];rfl
  dsimp only at *
  simp only[aLy p474,aJr p474,aLA p511,aJt p511,lO pS1,kM pS1,lO pS2,kM pS2,Sz pP1,Sm pP1,Sz pP2,Sm pP2,aLB pA,aJu pA,yK pH,wQ pH,
   bD n1,Z5 n1,bD n2,Z5 n2,e1,lP p67,kN p67,aLn p349,aJh p349,
   SA w1,Sn w1,SA w2,Sn w2,hP0,cond_true,cond_false,bne_self_eq_false,beq_self_eq_true,bq,bh,br,ca,bg,bb,bc,bt]
  rcases last with h|⟨h1,h2,h3,h4⟩
  ·simp only[h,cond_true]
  ·rw[h1]at pN1;rw[h2]at pN2;rw[h3]at pP5;simp only[h4,cond_false,Sz pP5,Sm pP5,T7 pN1,TM pN1,T7 pN2,TM pN2,cond_true,beq_self_eq_true,bc,bb,bg]
end VL
namespace Vx
open Go Go.RowKit Go.ChangeShapes Go.WideShapes
def wfD:(τ:Shape)->Ab τ->Prop
 |.int k,n=>k.min<=n/\n<=k.max
 |.flt _,_=>True
 |.slice e,xs=>xs.length<BJ/\∀x∈xs,wfD e x
 |.pair a b,x=>wfD a x.1/\wfD b x.2
 |.bool,_=>True
 |.str,_=>True
 |.fn,_=>True
 |.unit,_=>True
 |.box a,x=>wfD a x
 |.ifc,_=>True
 |.pfn,_=>True
 |.cx _,_=>True
theorem AM.wfD{w:World}{S:Nat->Prop}:∀{τ:Shape} {x:Ab τ} {cs:List Value},AM w S τ x cs->wfD τ x
 |.int _,_,_,h=>h.2
 |.flt _,_,_,_=>trivial
 |.bool,_,_,_=>trivial
 |.str,_,_,_=>trivial
 |.fn,_,_,_=>trivial
 |.unit,_,_,_=>trivial
 |.box _,_,_,⟨_,_,_,_,_,_,_,_,_,h,_⟩=>h.wfD
 |.ifc,_,_,_=>trivial
 |.pfn,_,_,_=>trivial
 |.cx _,_,_,_=>trivial
 |.slice _,xs,_,⟨A,c,_,h1,h2,h3⟩=>by
  refine⟨Nat.lt_of_le_of_lt h1 h2,fun x hx=>?_⟩
  obtain⟨r,o,vs,T,fz,_,_,_,h⟩:=h3 (List.ne_nil_of_mem hx)
  obtain⟨i,hi⟩:=List.getElem?_of_mem hx
  obtain⟨ds,hd,_⟩:=h i x hi
  exact hd.wfD
 |.pair _ _,_,_,⟨c1,c2,_,h1,h2⟩=>⟨h1.wfD,h2.wfD⟩
def wfS:(sg:Aa)->DenS sg->Prop
 | [],_=>True
 |(_,τ)::r,x=>wfD τ x.1/\wfS r x.2
def FJ{H:Type}:(τ:Shape)->(DataW H->Option (Ab τ))×(List (DataW H)->Option (Ab τ))
 |.int k=>(fun d=>match d with|.lit (.int k' n)=>if k'=k then some n else none|_=>none,fun _=>none)
 |.bool=>(fun d=>match d with|.lit (.bool b)=>some b|_=>none,fun _=>none)
 |.unit=>(fun d=>match d with|.agg []=>some ()|_=>none,fun l=>match l with | []=>some ()|_=>none)
 |.pair a b=>
  let f:=fun l=>match l with
   |d::r=>(match(FJ a).1 d,(FJ b).2 r with|some x,some y=>some (x,y)|_,_=>none)
   | []=>none
  (fun d=>match d with|.agg l=>f l|_=>none,f)
 |.flt _=>(fun _=>none,fun _=>none)
 |.str=>(fun _=>none,fun _=>none)
 |.fn=>(fun _=>none,fun _=>none)
 |.box _=>(fun _=>none,fun _=>none)
 |.ifc=>(fun _=>none,fun _=>none)
 |.pfn=>(fun _=>none,fun _=>none)
 |.cx _=>(fun _=>none,fun _=>none)
 |.slice _=>(fun _=>none,fun _=>none)
def TH(P:Program)(g:TypeId->Shape->Bool):List Field->Nat->Shape->Bool
 | [],_,.unit=>true
 |f::fs,o,.pair a b=>(f.offset==o)&&(P.cellsOf f.type==a.width)&&g f.type a&&TH P g fs (o+a.width) b
 |_,_,_=>false
def C1(P:Program):Nat->TypeId->Shape->Bool
 |0,_,_=>false
 |n+1,t,τ=>match P.underlying t with
  |some (.int k)=>(match τ with|.int k'=>decide (k=k')|_=>false)
  |some .bool=>(match τ with|.bool=>true|_=>false)
  |some (.slice e)=>(match τ with|.slice σ=>(P.cellsOf e==σ.width)&&decide (0<σ.width)&&C1 P n e σ|_=>false)
  |some (.struct fs)=>(P.cellsOf t==τ.width)&&TH P (C1 P n) fs.toList 0 τ
  |_=>false
theorem aH9{A:Type}{Q:Nat->A->Prop}:∀(n:Nat),(∀i,i<n->∃x,Q i x)->∃xs:List A,xs.length=n/\∀i x,xs[i]? = some x->Q i x
 |0,_=>⟨[],rfl,fun i x h=>by simp at h⟩
 |n+1,h=>by
  obtain⟨xs,h1,h2⟩:=aH9 n fun i hi=>h i (by omega)
  obtain⟨x,hx⟩:=h n (by omega)
  refine⟨xs++[x],by simp[h1],fun i y hy=>?_⟩
  rcases aq i n with hi|hi
  ·rw[List.getElem?_append_left (by omega)]at hy
   exact h2 i y hy
  ·rw[List.getElem?_append_right (by omega)]at hy
   have:i=n:=by
    have:=(au.1 hy).1
    simp at this;omega
   subst this
   simp[h1]at hy
   exact hy▸hx
theorem bDU{k:IntKind}{n:Int}(h:(Lit.int k n).wf=true):k.min<=n/\n<=k.max:=by
 simpa[Lit.wf]using h
section
variable {H:Type}{enc:TypeId×Value->H}{P:Program}{W:World}{spare:Nat->Bool}{held:Bool}
theorem aIO{n:Nat}{m:Nat}{cs:List Value}(ih:∀(t:TypeId) (τ:Shape) (cs:List Value) (d:DataW H) (p:List MemPlace),C1 P n t τ=true->DataW.trod enc P W 0 spare held m t cs=some (d,p)->∃x:Ab τ,AM W (fun q=>q<W.heap.size) τ x cs/\∀y,(FJ τ).1 d=some y->x=y):
  ∀(l:List Field) (o:Nat) (τ:Shape) (xs:List (DataW H×List MemPlace)),TH P (C1 P n) l o τ=true->xs.length=l.length->cs.length=o+τ.width ->
   (∀(i:Nat) (f:Field),l[i]? = some f->DataW.trod enc P W 0 spare held m f.type ((cs.drop f.offset).take (P.cellsOf f.type))=xs[i]?) ->
   ∃x:Ab τ,AM W (fun q=>q<W.heap.size) τ x (cs.drop o)/\∀y,(FJ τ).2 (xs.map (·.1))=some y->x=y
 | [],o,τ,xs,hf,hx,hl,_=>by
  cases τ<;>simp[TH]at hf
  refine⟨(),?_,fun _ _=>rfl⟩
  show cs.drop o=[]
  apply List.drop_eq_nil_of_le
  simp[Shape.width]at hl
  omega
 |f::fs,o,τ,xs,hf,hx,hl,h=>by
  cases τ with
  |pair a b=>
   simp only[TH,af,beq_iff_eq]at hf
   obtain⟨⟨⟨ho,hc⟩,hg⟩,hr⟩:=hf
   cases xs with
   |nil=>simp at hx
   |cons x0 xs=>
    have h0:=h 0 f rfl
    rw[ho,hc]at h0
    simp only[List.getElem?_cons_zero]at h0
    obtain⟨xa,ha,hua⟩:=ih f.type a _ x0.1 x0.2 hg h0
    simp only[Shape.width]at hl
    obtain⟨xb,hb,hub⟩:=aIO ih fs (o+a.width) b xs hr (by simpa using hx) (by rw[hl];omega) fun i g hi=>by
     have:=h (i+1) g (by simpa using hi)
     simpa using this
    refine⟨(xa,xb),⟨(cs.drop o).take a.width,cs.drop (o+a.width),?_,ha,hb⟩,fun y hy=>?_⟩
    ·rw[←List.drop_drop,List.take_append_drop]
    ·simp only[FJ,List.map_cons]at hy
     split at hy
     ·rename_i e1 e2
      have:=hua _ e1;have:=hub _ e2
      subst_vars
      exact jz hy
     ·cases hy
  |_=>simp[TH]at hf
theorem j9:∀(n:Nat) (m:Nat) (t:TypeId) (τ:Shape) (cs:List Value) (d:DataW H) (p:List MemPlace),C1 P n t τ=true->DataW.trod enc P W 0 spare held m t cs=some (d,p) ->
  ∃x:Ab τ,AM W (fun q=>q<W.heap.size) τ x cs/\∀y,(FJ τ).1 d=some y->x=y
 |0,_,_,_,_,_,_,h,_=>by simp[C1]at h
 |n+1,m,t,τ,cs,d,p,h,ht=>by
  unfold C1 at h
  split at h
  ·rename_i k hk
   cases τ with
   |int k' =>
    simp only[decide_eq_true_eq]at h
    subst h
    obtain⟨v,hv,hx,hw⟩:=DataW.trod_int hk ht
    simp only[cu]at hx
    refine⟨v,⟨hv,bDU hw⟩,fun y hy=>?_⟩
    rw[hx.1]at hy
    simp only[FJ,if_true]at hy
    exact jz hy
   |_=>cases h
  ·rename_i hk
   cases τ with
   |bool=>
    obtain⟨v,hv,hx⟩:=DataW.trod_bool hk ht
    simp only[cu]at hx
    refine⟨v,hv,fun y hy=>?_⟩
    rw[hx.1]at hy
    simp only[FJ]at hy
    exact jz hy
   |_=>cases h
  ·rename_i e hk
   cases τ with
   |slice σ=>
    simp only[af,beq_iff_eq,decide_eq_true_eq]at h
    obtain⟨⟨hc,hpos⟩,hf⟩:=h
    rcases DataW.trod_slice hk ht with⟨hcs,hx⟩|⟨a,len,cap,elems,rest,m',rfl,hcs,hx,hb,hlc,hcap,hlen,hel,_⟩
    ·exact⟨[],⟨none,0,hcs,Nat.le_refl _,by decide,fun h=>absurd rfl h⟩,fun y hy=>by simp[FJ]at hy⟩
    ·have each:∀i,i<len->∃x:Ab σ,∃ds,W.cells? 0 (a.add (i*P.cellsOf e)) (P.cellsOf e)=some ds/\AM W (fun q=>q<W.heap.size) σ x ds:=fun i hi=>by
      have:=hel i hi
      rw[ay (by omega),Option.bind_eq_some_iff]at this
      obtain⟨ds,h1,h2⟩:=this
      obtain⟨x,hx,_⟩:=j9 n m' e σ ds (elems[i]'(by omega)).1 (elems[i]'(by omega)).2 hf h2
      exact⟨x,ds,h1,hx⟩
     obtain⟨xs,hxl,hxs⟩:=aH9 len each
     refine⟨xs,⟨some a,cap,by rw[hxl];exact hcs,by omega,by unfold BJ;unfold maxLen at hcap;omega,fun hne=>?_⟩,fun y hy=>by simp[FJ]at hy⟩
     have h0:0<xs.length:=List.length_pos_iff.2 hne
     obtain⟨ds0,hd0,_⟩:=hxs 0 xs[0] (ay h0)
     obtain⟨_,hl0,hc0⟩:=pf hd0
     have hz:a.add (0*P.cellsOf e)=a:=by simp[Addr.add]
     have hz':a.add 0=a:=by simp[Addr.add]
     rw[hz]at hc0
     have hc00:=hc0 0 (by omega)
     rw[hz',ay (by omega)]at hc00
     unfold pn at hc00
     split at hc00
     ·rename_i c T fz hheap
      split at hc00
      ·cases hc00
      ·rename_i hspot
       have hs:a.spot=none:=by simpa using hspot
       have hadd:∀q,a.add q=⟨a.block,a.off+q,none⟩:=fun q=>by
        unfold Addr.add
        split
        ·subst_vars;cases a;simp at hs;simp[hs]
        ·rfl
       have ha:a=⟨a.block,a.off,none⟩:=by cases a;simp at hs;simp[hs]
       refine⟨a.block,a.off,c,T,fz,by rw[←ha],?_,hheap,fun i x hi=>?_⟩
       ·exact(cz.1 hheap).1
       ·obtain⟨ds,hd,hr⟩:=hxs i x hi
        refine⟨ds,hr,fun j v hj=>?_⟩
        obtain⟨_,hl,hcj⟩:=pf hd
        have hjl:j<P.cellsOf e:=by rw[←hl];exact(au.1 hj).1
        have:=hcj j hjl
        rw[hadd,hj]at this
        have hadd2:(⟨a.block,a.off+i*P.cellsOf e,none⟩:Addr).add j=⟨a.block,a.off+i*P.cellsOf e+j,none⟩:=by
         unfold Addr.add
         split
         ·subst_vars;rfl
         ·rfl
        rw[hadd2]at this
        unfold pn at this
        simp only[hheap]at this
        rw[hc]at this
        exact this
     ·cases hc00
   |_=>cases h
  ·rename_i fs hk
   simp only[af,beq_iff_eq]at h
   obtain⟨hc,hf⟩:=h
   obtain⟨xs,m',rfl,hx,hl,hxl,hel⟩:=DataW.trod_struct hk ht
   simp only[cu]at hx
   obtain⟨x,h1,h2⟩:=aIO (fun t τ cs d p=>j9 n m' t τ cs d p) fs.toList 0 τ xs hf (by simpa using hxl) (by rw[hl,hc];omega) fun i f hi=>hel i f (by simpa using hi)
   refine⟨x,by simpa using h1,fun y hy=>h2 y ?_⟩
   rw[hx.1]at hy
   cases τ with
   |pair a b=>exact hy
   |unit=>
    simp only[FJ]at hy⊢
    split at hy
    ·rename_i e;simp only[DataW.agg.injEq]at e;rw[e]
    ·cases hy
   |_=>simp[FJ]at hy
  ·cases h
end
end Vx
namespace Vx
open Go Go.RowKit Go.ChangeShapes Go.WideShapes
def TO(P:Program)(t:TypeId):Bool:=match P.underlying t with
 |some (.struct _)=>true
 |_=>false
def VD(P:Program)(n:Nat):List TypeId->Aa->Bool
 | [],[]=>true
 |t::ts,(a,τ)::r=>C1 P n t τ&&(a==TO P t)&&VD P n ts r
 |_,_=>false
section
variable {H:Type}{enc:TypeId×Value->H}{P:Program}{W:World}
theorem aUI{n:Nat}{t:TypeId}{τ:Shape}{r:Reach}{b0:Nat}{v:Value}(hf:C1 P n t τ=true)(hs:TO P t=false)(hv:nz P W r b0 t v):v.cells.toList=[v]:=by
 cases n with
 |zero=>simp[C1]at hf
 |succ n=>
  unfold C1 at hf;split at hf
  ·rename_i k hk;obtain⟨_,rfl⟩:=okWide_int hk hv;rfl
  ·rename_i hk;obtain⟨_,rfl⟩:=okWide_bool hk hv;rfl
  ·rename_i e hk;obtain⟨_,_,_,rfl⟩:=okWide_slice hk hv;rfl
  ·rename_i fs hk;simp[TO,hk]at hs
  ·cases hf
theorem aVl{S:Nat->Prop}{a:Bool}{τ:Shape}{x:Ab τ}{y:Value}(ho:KE a τ=false)(h:DM W S a τ x y):FL W S a τ x y []:=by
 cases τ with
 |slice e=>
  cases a with
  |true=>cases ho
  |false=>exact⟨rfl,h⟩
 |_=>exact⟨rfl,h⟩
theorem aHL{n:Nat}{sp:Nat->Bool}{held:Bool}{b0:Nat}:∀(ts:List TypeId) (I:Aa) (vs:List Value) (ds:List (DataW H)) (ps:List MemPlace),VD P n ts I=true ->
  (∀(j:Nat) (t:TypeId) (v:Value),ts[j]? = some t->vs[j]? = some v->nz P W .any b0 t v)->DataW.TrodAll enc P W 0 sp held ts vs ds ps->∃x:DenS I,CC W (fun q=>q<W.heap.size) I x vs []/\wfS I x/\ds.length=ts.length
 | [],[],vs,ds,ps,_,_,h=>by
  cases vs<;>cases ds<;>simp[DataW.TrodAll]at h
  exact⟨(),⟨rfl,rfl⟩,trivial,rfl⟩
 | [],_::_,_,_,_,hf,_,_=>by simp[VD]at hf
 |_::_,[],_,_,_,hf,_,_=>by simp[VD]at hf
 |t::ts,(a,τ)::I,vs,ds,ps,hf,hv,h=>by
  cases vs with
  |nil=>simp[DataW.TrodAll]at h
  |cons v vs=>
   cases ds with
   |nil=>simp[DataW.TrodAll]at h
   |cons d ds=>
    obtain⟨p,q,⟨m,hp⟩,hq,_⟩:=h
    simp only[VD,af,beq_iff_eq]at hf
    obtain⟨⟨h1,h2⟩,h3⟩:=hf
    obtain⟨x,hx,hw,hl⟩:=aHL ts I vs ds q h3 (fun j t v ht hv'=>hv (j+1) t v (by simpa using ht) (by simpa using hv')) hq
    obtain⟨y,hy,_⟩:=j9 n m t τ _ d p h1 hp
    have hok:=hv 0 t v rfl rfl
    refine⟨(y,x),⟨v,vs,[],[],rfl,rfl,aVl ?_ ?_,hx⟩,⟨hy.wfD,hw⟩,by simp[hl]⟩
    ·cases τ with
     |slice σ=>
      show a=false
      rw[h2]
      cases n with
      |zero=>simp[C1]at h1
      |succ n=>
       unfold C1 at h1
       unfold TO
       split at h1<;>rename_i hk<;>first|(rw[hk];done)|(simp only[hk];done)|(simp[TH]at h1;done)|skip
     |_=>rfl
    cases a with
    |true=>
     have hs:TO P t=true:=h2.symm
     unfold TO at hs
     split at hs
     ·rename_i fs hk
      unfold nz at hok
      rw[hk]at hok
      obtain⟨cs,rfl,_⟩:=hok
      exact⟨cs.toList,by simp,hy⟩
     ·cases hs
    |false=>
     have hs:TO P t=false:=h2.symm
     rw[aUI h1 hs hok]at hy
     exact hy
theorem aN0(hl:laidOutB P=true){W':World}(hb:Below W.heap.size W W'):∀(ts:List TypeId) (vs:List Value) (ds:List (DataW H)) (ps:List MemPlace),(ts.all fun t=>P.readableRec t&&decide (t<P.types.size))=true ->
  DataW.TrodAll enc P W 0 (fun _=>true) true ts vs ds ps->(∀x∈ps,x.block<W.heap.size)->DataW.TrodAll enc P W' 0 (fun b=>decide (b<W.heap.size)) true ts vs ds ps
 | [],vs,ds,ps,_,h,_=>by
  cases vs<;>cases ds<;>simp[DataW.TrodAll]at h⊢
  exact h
 |t::ts,vs,ds,ps,hr,h,hlt=>by
  cases vs with
  |nil=>simp[DataW.TrodAll]at h
  |cons v vs=>
   cases ds with
   |nil=>simp[DataW.TrodAll]at h
   |cons d ds=>
    obtain⟨p,q,hp,hq,rfl⟩:=h
    simp only[kj,af,decide_eq_true_eq]at hr
    exact⟨p,q,Below.trod hl hr.1.1 hr.1.2 hp hb (fun x hx=>hlt x (cv.2 (.inl hx))),
     aN0 hl hb ts vs ds q hr.2 hq (fun x hx=>hlt x (cv.2 (.inr hx))),rfl⟩
theorem glob_of{n:String}{g:Nat}{t e:TypeId}{m k:Nat}{τ:Shape}{ds:List (DataW Unit)}{xs:List (Ab τ)}{r:List (String×DataW Unit)}{ps:List MemPlace}
  (hL:DataW.LaidVars P W ((n,.agg ds)::r) ps) (hg:P.globalNamed n=some g) (ht:(P.globals[g]?).map (·.type)=some t) (hu:P.underlying t=some (.array m e)) (hc:P.cellsOf e=τ.width) (hf:C1 P k e τ=true)
  (hx:ds.map (FJ τ).1=xs.map some) :
  (g<W.heap.size/\∃vs T fz,W.heap[g]? = some (.cells vs T fz)/\Rows W (fun q=>q<W.heap.size) τ vs 0 xs)/\∃ps',DataW.LaidVars P W r ps':=by
 obtain⟨g',t',cs,fuel,p,q,h1,h2,h3,h4,h5,_⟩:=hL;rw[hg]at h1;cases h1;rw[ht]at h2;cases h2;refine⟨?_,q,h5⟩;unfold World.var? at h3;rw[hg]at h3;simp only[Option.bind_some]at h3;split at h3
 ·rename_i c T fz hh;cases h3;refine⟨(cz.1 hh).1,cs,T,fz,hh,?_⟩;obtain⟨ys,m',rfl,hy,hl,hyl,hel⟩:=DataW.trod_array hu h4;simp only[cu,DataW.agg.injEq]at hy;intro i x hi;have hxl:xs.length=m:=by
   have:=congrArg List.length hx;simp[hy.1,hyl]at this;omega
  have him:i<m:=by rw[←hxl];exact(au.1 hi).1
  have he:=hel i him;have hyi:ys[i]? = some (ys[i]'(by omega)):=ay (by omega);rw[hyi,hc]at he;obtain⟨x',h6,h7⟩:=j9 k m' e τ _ _ _ hf he;have hd:(FJ τ).1 (ys[i]'(by omega)).1=some x:=by
   have:=congrArg (·[i]?) hx;simp only[List.getElem?_map,hy.1,hyi,hi,Option.map_some]at this;exact jz this
  have:=h7 x hd;subst this;refine⟨_,h6,fun j v hj=>?_⟩;rw[List.getElem?_take]at hj;split at hj
  ·rw[List.getElem?_drop]at hj;simpa using hj
  ·cases hj
 ·cases h3
theorem bCf {G : List (Nat × Sigma fun τ => List (Ab τ))} {f : FuncId} {I : Aa} {T : DenS I -> Option (DenS [(false, .bool)])} {d : DenS [(false, .bool)]} (hS : Sound P G f (Aj I [(false, .bool)] T d)) {x : DenS I} (hT : T x = some (true, ())) (hcal : ∃ fn, P.funcs[f]? = some fn /\ fn.body.isNone = false /\ (fn.name == "runtime.NumGoroutine") = false) {W : World} {args : Array Value}
  (hG:GlobsOk G W fun q=>q<W.heap.size) (ha:CC W (fun q=>q<W.heap.size) I x args.toList []):Calls P f args W fun e W'=>e=.returned (.bool true)/\Below W.heap.size W W':=by
 have:=hS.calls x (by show(T x).isSome=true;rw[hT];rfl) W (fun q=>q<W.heap.size) args.toList [] (fun q h=>h) hG ha List.nodup_nil (fun r h=>by simp at h)
 rw[Array.toArray_toList]at this
 have this:=this.resolve_right (fun⟨v,hv,_⟩=>by rw[lZ hcal]at hv;cases hv)
 refine this.2.mono fun e W' ⟨zs,rs',he,hb,_,_,hz⟩=>⟨?_,⟨hb.os,hb.tape,hb.output,hb.size,fun k hk=>hb.block k hk (fun h=>by simp at h)⟩⟩
 obtain⟨y,ys,r1,r2,rfl,_,⟨_,h1⟩,rfl,_⟩:=hz
 have h2:[y]=[Value.bool ((T x).getD d).1]:=h1
 rw[hT]at h2
 cases h2
 exact he
theorem law_post{G:List (Nat×Sigma fun τ=>List (Ab τ))}{f:FuncId}{fn:Func}{I:Aa}{T:DenS I->Option (DenS [(false,.bool)])}{d:DenS [(false,.bool)]}{s:ChangeSpec}{n:Nat}{tb:TypeId}
  (hS : Sound P G f (Aj I [(false, .bool)] T d)) (hT : ∀ x, wfS I x -> T x = some (true, ())) (hcal : ∃ fn, P.funcs[f]? = some fn /\ fn.body.isNone = false /\ (fn.name == "runtime.NumGoroutine") = false) (hlay : laidOutB P = true) (hfit : VD P n fn.params.toList I = true)
  (hread:(fn.params.toList.all fun t=>P.readableRec t&&decide (t<P.types.size))=true) (hres:fn.resultTypes=#[tb]) (hbool:P.underlying tb=some .bool) (hvars:s.vars=[])
  (hspec:∀ds:List (DataW H),ds.length=fn.params.toList.length->s.fn H ds={results:=[.lit (.bool true)],args:=ds})
  {W:World} {base:Nat} {args:Array Value} {ds gs:List (DataW H)} {before:List MemPlace}
  (hval:∀(j:Nat) (t:TypeId) (v:Value),fn.params[j]? = some t->args[j]? = some v->nz P W .any base t v)
  (hW:DataW.Whole enc P fn.params.toList s.vars false W args.toList ds gs before) (hG:GlobsOk G W fun q=>q<W.heap.size) :
  Calls P f args W fun e W'=>∃v,e=.returned v/\ChangeSpec.post enc P fn s false true false false W args v W':=by
 have hW':=hW
 obtain⟨p,q,hA,hV,rfl,_,_⟩:=hW
 rw[hvars]at hV
 obtain⟨rfl,rfl⟩:=trodVars_none hV
 obtain⟨x,hx,hw,hlen⟩:=aHL (b0:=base) fn.params.toList I args.toList ds p hfit (fun j t v ht hv=>hval j t v (by simpa using ht) (by simpa using hv)) hA
 refine(bCf hS (hT x hw) hcal hG hx).mono fun e W' ⟨he,hb⟩=>⟨.bool true,he,ds,[],p++[],[],p,[],hW',?_,?_,?_,hb.frame _,fun h=>by cases h⟩
 ·rw[df,hspec ds hlen,hres]
  exact trodAll_mk1 (shut_bool hbool true)
 ·rw[df,hspec ds hlen]
  exact aN0 hlay hb _ _ _ _ hread hA fun y hy=>by simpa using hW'.lt y (by simpa using hy)
 ·rw[df,hspec ds hlen,hvars]
  rfl
end
theorem globs_nil{W:World}{S:Nat->Prop}:GlobsOk [] W S:=fun _ _ _ h=>by simp[Nc]at h
theorem globs_cons{W:World}{S:Nat->Prop}{g:Nat}{τ:Shape}{xs:List (Ab τ)}{G:List (Nat×Sigma fun τ=>List (Ab τ))}(h:S g/\∃vs T fz,W.heap[g]? = some (.cells vs T fz)/\Rows W S τ vs 0 xs)(r:GlobsOk G W S):
  GlobsOk ((g,⟨τ,xs⟩)::G) W S:=fun g' τ' xs' hf=>by
 simp only[Nc]at hf
 cases hb:Nat.beq g g' with
 |true=>
  have:=Nat.eq_of_beq_eq_true hb
  subst this
  rw[hb]at hf
  simp only[cond_true,ab]at hf
  cases hf
  exact h
 |false=>
  rw[hb]at hf
  exact r g' τ' xs' hf
end Vx
end
