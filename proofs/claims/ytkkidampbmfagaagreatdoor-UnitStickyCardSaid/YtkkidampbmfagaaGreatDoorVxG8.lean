/- Part 8 of the proof. What is proved: symbolic execution of the functions, proved sound; what each function of the program computes, and that every run ends with it; what these functions compute, in plain numbers. Conditions: each theorem bears its own. -/
import Derived.Test.YtkkidampbmfagaaGreatDoorVxG7
import Derived.ProofKit
import Derived.LaidMore
import Derived.OpenShut
import Derived.Stop.Joined
import GoSem.ClaimJoined
set_option linter.all false
set_option exponentiation.threshold 1000000
noncomputable section
open Array renaming getElem?_eq_some_iff->dc
open BitVec renaming ofInt->bv
open Bool renaming and_eq_true->ai,and_false->bm,and_self->bf,false_and->az,not_true->bg,or_self->bq
open Go.IntKind renaming wrap->aa
open Go.Value renaming okWide->oh
open Go.World renaming cell?->qa,cells?_some->pm
open Int renaming eq_ofNat_of_zero_le->cw,toNat->aj,toNat_natCast->ab
open List renaming append_nil->dp,drop_eq_getElem_cons->fg,drop_length->kd,getD_eq_getElem?_getD->al,getElem?_eq_getElem->bc,getElem?_eq_some_iff->aw,getElem_mem->gx,mem_append->cz
open Nat renaming lt_of_le_of_lt->av,lt_or_ge->au,zero_le->ej
open Option.some renaming inj->kl,injEq->af
open Prod.mk renaming injEq->dh
namespace VL
open Go Vx
theorem aVN:aa .u64 (0:Int)=0:=by decide
theorem aVG(m f:Int){a b c:Nat}(ha:a<2^64)(hb:b<2^64)(hc:c<2^64):C0 (some (181,[])) (m,f,(a:Int),(b:Int),(c:Int),()) (Tr f m a):=by
 have p:=aKx f m ha;have q:XO ((m,f,(a:Int),(b:Int),(c:Int),()),())=some (Tr f m a):=by
  show lW Qs.pre Qs.F (m,f,(a:Int),(b:Int),(c:Int),())=_;unfold lW;dsimp only;rw[aQe p,aNC p];rfl
 exact Dp (p:=LF.pre ((m,f,(a:Int),(b:Int),(c:Int),()),())) (v:=LF.F ((m,f,(a:Int),(b:Int),(c:Int),()),())) (by kernel_rfl) (by kernel_rfl) (aQv q) (aNT q)
theorem aVH(m f:Int){a b c:Nat}(ha:a<2^64)(hb:b<2^64)(hc:c<2^64):C0 (some (182,[])) (m,f,(a:Int),(b:Int),(c:Int),()) (SY f m a b c):=by
 have p:=aKR f m ha hb hc;have q:XS ((m,f,(a:Int),(b:Int),(c:Int),()),())=some (SY f m a b c):=by
  show lZ QM.pre QM.F (m,f,(a:Int),(b:Int),(c:Int),())=_;unfold lZ;dsimp only;rw[aQw p,aNU p];rfl
 exact Dp (p:=LG.pre ((m,f,(a:Int),(b:Int),(c:Int),()),())) (v:=LG.F ((m,f,(a:Int),(b:Int),(c:Int),()),())) (by kernel_rfl) (by kernel_rfl) (aQx q) (aNV q)
theorem aVK(m f:Int){a b c:Nat}(ha:a<2^64)(hb:b<2^64)(hc:c<2^64):C0 (some (184,[])) (m,f,(a:Int),(b:Int),(c:Int),()) (S7 f m a true):=by
 have p:=aKS f m ha true;have q:XX ((m,f,(a:Int),(b:Int),(c:Int),()),())=some (S7 f m a true):=by
  show mE QN.pre QN.F (m,f,(a:Int),(b:Int),(c:Int),())=_;unfold mE;dsimp only;rw[aQy p,aNW p];rfl
 exact Dp (p:=LH.pre ((m,f,(a:Int),(b:Int),(c:Int),()),())) (v:=LH.F ((m,f,(a:Int),(b:Int),(c:Int),()),())) (by kernel_rfl) (by kernel_rfl) (aQz q) (aNX q)
theorem aVt(m f:Int){a b c:Nat}(ha:a<2^64)(hb:b<2^64)(hc:c<2^64):C0 (some (185,[])) (m,f,(a:Int),(b:Int),(c:Int),()) (SL f (aa .i64 (c:Int)) m a):=by
 have p:=aKM f (aa .i64 (c:Int)) m ha;have q:XY ((m,f,(a:Int),(b:Int),(c:Int),()),())=some (SL f (aa .i64 (c:Int)) m a):=by
  show mG QI.pre QI.F (m,f,(a:Int),(b:Int),(c:Int),())=_;unfold mG;dsimp only;rw[aQu p,aNS p];rfl
 exact Dp (p:=LI.pre ((m,f,(a:Int),(b:Int),(c:Int),()),())) (v:=LI.F ((m,f,(a:Int),(b:Int),(c:Int),()),())) (by kernel_rfl) (by kernel_rfl) (aQA q) (aNY q)
theorem aVu(m f:Int){a b c:Nat}(ha:a<2^64)(hb:b<2^64)(hc:c<2^64):C0 (some (186,[])) (m,f,(a:Int),(b:Int),(c:Int),()) (Tt f m (aa .i64 (c:Int)) a):=by
 have p:=aKV f m (aa .i64 (c:Int)) ha;have q:X2 ((m,f,(a:Int),(b:Int),(c:Int),()),())=some (Tt f m (aa .i64 (c:Int)) a):=by
  show mK QQ.pre QQ.F (m,f,(a:Int),(b:Int),(c:Int),())=_;unfold mK;dsimp only;rw[aQD p,aN1 p];rfl
 exact Dp (p:=LJ.pre ((m,f,(a:Int),(b:Int),(c:Int),()),())) (v:=LJ.F ((m,f,(a:Int),(b:Int),(c:Int),()),())) (by kernel_rfl) (by kernel_rfl) (aQE q) (aN2 q)
theorem aVv(m f:Int){a b c:Nat}(ha:a<2^64)(hb:b<2^64)(hc:c<2^64):C0 (some (187,[])) (m,f,(a:Int),(b:Int),(c:Int),()) (S2 f m (aa .i64 (c:Int)) a):=by
 have p:=aKW f m (aa .i64 (c:Int)) ha;have q:X4 ((m,f,(a:Int),(b:Int),(c:Int),()),())=some (S2 f m (aa .i64 (c:Int)) a):=by
  show mM QR.pre QR.F (m,f,(a:Int),(b:Int),(c:Int),())=_;unfold mM;dsimp only;rw[aQF p,aN3 p];rfl
 exact Dp (p:=LL.pre ((m,f,(a:Int),(b:Int),(c:Int),()),())) (v:=LL.F ((m,f,(a:Int),(b:Int),(c:Int),()),())) (by kernel_rfl) (by kernel_rfl) (aQG q) (aN4 q)
theorem aVA(m f:Int){a b c:Nat}(ha:a<2^64)(hb:b<2^64)(hc:c<2^64):C0 (some (190,[])) (m,f,(a:Int),(b:Int),(c:Int),()) (RT f a 1):=by
 have p:=aKZ (f:=f) ha;have q:X5 ((m,f,(a:Int),(b:Int),(c:Int),()),())=some (RT f a 1):=by
  show mN QP.pre QP.F (m,f,(a:Int),(b:Int),(c:Int),())=_;unfold mN;dsimp only;rw[aQC p,aN0 p];rfl
 exact Dp (p:=LM.pre ((m,f,(a:Int),(b:Int),(c:Int),()),())) (v:=LM.F ((m,f,(a:Int),(b:Int),(c:Int),()),())) (by kernel_rfl) (by kernel_rfl) (aQH q) (aN5 q)
theorem aVB(m f:Int){a b c:Nat}(ha:a<2^64)(hb:b<2^64)(hc:c<2^64):C0 (some (191,[])) (m,f,(a:Int),(b:Int),(c:Int),()) (Tp f m a (aa .i64 (b:Int))):=by
 have p:=aKJ f m ha (aa .i64 (b:Int));have q:X6 ((m,f,(a:Int),(b:Int),(c:Int),()),())=some (Tp f m a (aa .i64 (b:Int))):=by
  show mO QE.pre QE.F (m,f,(a:Int),(b:Int),(c:Int),())=_;unfold mO;dsimp only;rw[aQq p,aNO p];rfl
 exact Dp (p:=LN.pre ((m,f,(a:Int),(b:Int),(c:Int),()),())) (v:=LN.F ((m,f,(a:Int),(b:Int),(c:Int),()),())) (by kernel_rfl) (by kernel_rfl) (aQI q) (aN6 q)
theorem aVF(m f:Int){a b c:Nat}(ha:a<2^64)(hb:b<2^64)(hc:c<2^64):C0 (some (194,[])) (m,f,(a:Int),(b:Int),(c:Int),()) (((Rp f a b).1,0,(Rp f a b).2)):=by
 have p:=aKX f ha hb;have q:X9 ((m,f,(a:Int),(b:Int),(c:Int),()),())=some (((Rp f a b).1,0,(Rp f a b).2)):=by
  show mR QS.pre QS.F (m,f,(a:Int),(b:Int),(c:Int),())=_;unfold mR;dsimp only;rw[aQK p,aN8 p];rfl
 exact Dp (p:=LP.pre ((m,f,(a:Int),(b:Int),(c:Int),()),())) (v:=LP.F ((m,f,(a:Int),(b:Int),(c:Int),()),())) (by kernel_rfl) (by kernel_rfl) (aQL q) (aN9 q)
theorem aVC(m f:Int){a b c:Nat}(ha:a<2^64)(hb:b<2^64)(hc:c<2^64):C0 (some (192,[])) (m,f,(a:Int),(b:Int),(c:Int),()) (Ze f a):=by
 have q:X7 ((m,f,(a:Int),(b:Int),(c:Int),()),())=some (Ze f a):=by
  show mP AD.pre AD.F (m,f,(a:Int),(b:Int),(c:Int),())=_;unfold mP Ze;dsimp only;by_cases h:Am f a=0
  ·have p:=Gn ha h;rw[DB p,Dy p,if_pos h];rfl
  ·have p:=Sm ha h;rw[DB p,Dy p,if_neg h,←aVN];rfl
 exact Dp (p:=LO.pre ((m,f,(a:Int),(b:Int),(c:Int),()),())) (v:=LO.F ((m,f,(a:Int),(b:Int),(c:Int),()),())) (by kernel_rfl) (by kernel_rfl) (aQJ q) (aN7 q)
theorem aO6{f:Int}{a:Nat}(ha:a<2^64):Sl (f,(a:Int),())=some ((Hf f a).1,(Hf f a).2.2):=by
 unfold Hf;by_cases h:Am f a=0
 ·rw[pP h,if_pos h]
 ·rw[aK9 ha h,if_neg h]
theorem aLN{f:Int}{a:Nat}(ha:a<2^64):R7 (f,(a:Int),())=some ((Ib f a).1,(Ib f a).2.2):=by
 obtain⟨v,p,_⟩:=aJ9 (f:=f) ha;unfold Ib;rw[tT p];exact p
theorem aVD(m f:Int){a b c:Nat}(ha:a<2^64)(hb:b<2^64)(hc:c<2^64):C0 (some (259,[60+2])) (m,f,(a:Int),(b:Int),(c:Int),()) (Hf f a):=by
 have p:=aO6 (f:=f) ha;have q:=aHP (g:=60) (k:=(m,f,(a:Int),(b:Int),(c:Int),())) (p:=DR.pre (f,(a:Int),())) (y:=DR.F (f,(a:Int),())) (by kernel_rfl) (by kernel_rfl) (v9 p);rw[uC p]at q;have e:((((Hf f a).1,(Hf f a).2.2):Int×Int×Unit).1,(0:Int),(((Hf f a).1,(Hf f a).2.2):Int×Int×Unit).2)=Hf f a:=by unfold Hf;split<;>rfl
 rw[e]at q;exact Dp (p:=FD.pre ((m,f,(a:Int),(b:Int),(c:Int),()),60,())) (v:=FD.F ((m,f,(a:Int),(b:Int),(c:Int),()),60,())) (by kernel_rfl) (by kernel_rfl) (aG4 q) (aEW q)
theorem aVE(m f:Int){a b c:Nat}(ha:a<2^64)(hb:b<2^64)(hc:c<2^64):C0 (some (259,[147+2])) (m,f,(a:Int),(b:Int),(c:Int),()) (Ib f a):=by
 have p:=aLN (f:=f) ha;have q:=aHP (g:=147) (k:=(m,f,(a:Int),(b:Int),(c:Int),())) (p:=D5.pre (f,(a:Int),())) (y:=D5.F (f,(a:Int),())) (by kernel_rfl) (by kernel_rfl) (aGG p);rw[tT p]at q;have e:((((Ib f a).1,(Ib f a).2.2):Int×Int×Unit).1,(0:Int),(((Ib f a).1,(Ib f a).2.2):Int×Int×Unit).2)=Ib f a:=by unfold Ib;rfl
 rw[e]at q;exact Dp (p:=FD.pre ((m,f,(a:Int),(b:Int),(c:Int),()),147,())) (v:=FD.F ((m,f,(a:Int),(b:Int),(c:Int),()),147,())) (by kernel_rfl) (by kernel_rfl) (aG4 q) (aEW q)
theorem aVw(m f:Int){a b c:Nat}(ha:a<2^64)(hb:b<2^64)(hc:c<2^64):C0 (some (257,[97+2])) (m,f,(a:Int),(b:Int),(c:Int),()) (Kb f a b false):=by
 have p:=aKo (f:=f) ha hb;have q:=aFp (g:=97) (k:=(m,f,(a:Int),(b:Int),(c:Int),())) (p:=Lz.pre (f,(a:Int),(b:Int),())) (y:=Lz.F (f,(a:Int),(b:Int),())) (by kernel_rfl) (by kernel_rfl) (aP8 p);rw[aNw p]at q;exact Dp (p:=FB.pre ((m,f,(a:Int),(b:Int),(c:Int),()),97,())) (v:=FB.F ((m,f,(a:Int),(b:Int),(c:Int),()),97,())) (by kernel_rfl) (by kernel_rfl) (aG2 q) (aEU q)
theorem aVx(m f:Int){a b c:Nat}(ha:a<2^64)(hb:b<2^64)(hc:c<2^64):C0 (some (257,[98+2])) (m,f,(a:Int),(b:Int),(c:Int),()) (Kb f a b true):=by
 have p:=aKp (f:=f) ha hb;have q:=aFp (g:=98) (k:=(m,f,(a:Int),(b:Int),(c:Int),())) (p:=LA.pre (f,(a:Int),(b:Int),())) (y:=LA.F (f,(a:Int),(b:Int),())) (by kernel_rfl) (by kernel_rfl) (aP9 p);rw[aNx p]at q;exact Dp (p:=FB.pre ((m,f,(a:Int),(b:Int),(c:Int),()),98,())) (v:=FB.F ((m,f,(a:Int),(b:Int),(c:Int),()),98,())) (by kernel_rfl) (by kernel_rfl) (aG2 q) (aEU q)
theorem aVI(m f:Int){a b c:Nat}(ha:a<2^64)(hb:b<2^64)(hc:c<2^64):C0 (some (256,[94+2])) (m,f,(a:Int),(b:Int),(c:Int),()) ((FT f a b true).1,(FT f a b true).2.2):=by
 have p:=aK1 f ha hb;have q:=aHm (g:=94) (k:=(m,f,(a:Int),(b:Int),(c:Int),())) (p:=LQ.pre (f,(a:Int),(b:Int),())) (y:=LQ.F (f,(a:Int),(b:Int),())) (by kernel_rfl) (by kernel_rfl) (aQN p);rw[aOb p]at q;exact Dp (p:=FA.pre ((m,f,(a:Int),(b:Int),(c:Int),()),94,())) (v:=FA.F ((m,f,(a:Int),(b:Int),(c:Int),()),94,())) (by kernel_rfl) (by kernel_rfl) (aG1 q) (aET q)
theorem aVJ(m f:Int){a b c:Nat}(ha:a<2^64)(hb:b<2^64)(hc:c<2^64):C0 (some (256,[95+2])) (m,f,(a:Int),(b:Int),(c:Int),()) ((FT f a b false).1,(FT f a b false).2.2):=by
 have p:=aK2 f ha hb;have q:=aHm (g:=95) (k:=(m,f,(a:Int),(b:Int),(c:Int),())) (p:=LR.pre (f,(a:Int),(b:Int),())) (y:=LR.F (f,(a:Int),(b:Int),())) (by kernel_rfl) (by kernel_rfl) (aQO p);rw[aOc p]at q;exact Dp (p:=FA.pre ((m,f,(a:Int),(b:Int),(c:Int),()),95,())) (v:=FA.F ((m,f,(a:Int),(b:Int),(c:Int),()),95,())) (by kernel_rfl) (by kernel_rfl) (aG1 q) (aET q)
theorem aVy(m f:Int){a b c:Nat}(ha:a<2^64)(hb:b<2^64)(hc:c<2^64):C0 (some (258,[0])) (m,f,(a:Int),(b:Int),(c:Int),()) ((aa .u64 (EV f a b false).1,(EV f a b false).2)):=by
 have p:=zK (f:=f) ha hb false;have q:T9 ((m,f,(a:Int),(b:Int),(c:Int),()),false,())=some ((aa .u64 (EV f a b false).1,(EV f a b false).2)):=by
  show Wg JB.pre JB.F (m,f,(a:Int),(b:Int),(c:Int),()) false=_;unfold Wg;dsimp only;rw[aGJ p,aEB p];rfl
 exact Dp (p:=FC.pre ((m,f,(a:Int),(b:Int),(c:Int),()),false,())) (v:=FC.F ((m,f,(a:Int),(b:Int),(c:Int),()),false,())) (by kernel_rfl) (by kernel_rfl) (aG3 q) (aEV q)
theorem aVz(m f:Int){a b c:Nat}(ha:a<2^64)(hb:b<2^64)(hc:c<2^64):C0 (some (258,[1])) (m,f,(a:Int),(b:Int),(c:Int),()) ((aa .u64 (EV f a b true).1,(EV f a b true).2)):=by
 have p:=zK (f:=f) ha hb true;have q:T9 ((m,f,(a:Int),(b:Int),(c:Int),()),true,())=some ((aa .u64 (EV f a b true).1,(EV f a b true).2)):=by
  show Wg JB.pre JB.F (m,f,(a:Int),(b:Int),(c:Int),()) true=_;unfold Wg;dsimp only;rw[aGJ p,aEB p];rfl
 exact Dp (p:=FC.pre ((m,f,(a:Int),(b:Int),(c:Int),()),true,())) (v:=FC.F ((m,f,(a:Int),(b:Int),(c:Int),()),true,())) (by kernel_rfl) (by kernel_rfl) (aG3 q) (aEV q)
theorem aVL(m f:Int){op:Int}(h1:1<=op)(h2:op<=22){a b c:Nat}(ha:a<2^64)(hb:b<2^64)(hc:c<2^64):
  ∃n w,Q7 (op,())=some ((n,w,()),0,())/\0<=n/\n<=3/\C0 w (m,f,(a:Int),(b:Int),(c:Int),()) (J8 m op f a b c):=by
 obtain⟨w1,w2,w3,w4⟩:=aVM m f ha hb (c:Int);have hop:op=1∨op=2∨op=3∨op=4∨op=5∨op=6∨op=7∨op=8∨op=9∨op=10∨op=11∨op=12∨op=13∨op=14∨op=15∨op=16∨op=17∨op=18∨op=19∨op=20∨op=21∨op=22:=by omega
 rcases hop with rfl|rfl|rfl|rfl|rfl|rfl|rfl|rfl|rfl|rfl|rfl|rfl|rfl|rfl|rfl|rfl|rfl|rfl|rfl|rfl|rfl|rfl
 ·exact⟨2,some (255,[15+2]),Df (by decide) (by decide) (by kernel_rfl),by decide,by decide,w1⟩
 ·exact⟨2,some (255,[16+2]),Df (by decide) (by decide) (by kernel_rfl),by decide,by decide,w2⟩
 ·exact⟨2,some (255,[17+2]),Df (by decide) (by decide) (by kernel_rfl),by decide,by decide,w3⟩
 ·exact⟨2,some (255,[18+2]),Df (by decide) (by decide) (by kernel_rfl),by decide,by decide,w4⟩
 ·exact⟨1,some (181,[]),Df (by decide) (by decide) (by kernel_rfl),by decide,by decide,aVG m f ha hb hc⟩
 ·exact⟨3,some (182,[]),Df (by decide) (by decide) (by kernel_rfl),by decide,by decide,aVH m f ha hb hc⟩
 ·exact⟨2,some (256,[94+2]),Df (by decide) (by decide) (by kernel_rfl),by decide,by decide,aVI m f ha hb hc⟩
 ·exact⟨2,some (256,[95+2]),Df (by decide) (by decide) (by kernel_rfl),by decide,by decide,aVJ m f ha hb hc⟩
 ·exact⟨1,some (184,[]),Df (by decide) (by decide) (by kernel_rfl),by decide,by decide,aVK m f ha hb hc⟩
 ·exact⟨1,some (185,[]),Df (by decide) (by decide) (by kernel_rfl),by decide,by decide,aVt m f ha hb hc⟩
 ·exact⟨1,some (186,[]),Df (by decide) (by decide) (by kernel_rfl),by decide,by decide,aVu m f ha hb hc⟩
 ·exact⟨0,some (187,[]),Df (by decide) (by decide) (by kernel_rfl),by decide,by decide,aVv m f ha hb hc⟩
 ·exact⟨2,some (257,[97+2]),Df (by decide) (by decide) (by kernel_rfl),by decide,by decide,aVw m f ha hb hc⟩
 ·exact⟨2,some (257,[98+2]),Df (by decide) (by decide) (by kernel_rfl),by decide,by decide,aVx m f ha hb hc⟩
 ·exact⟨2,some (258,[0]),Df (by decide) (by decide) (by kernel_rfl),by decide,by decide,aVy m f ha hb hc⟩
 ·exact⟨2,some (258,[1]),Df (by decide) (by decide) (by kernel_rfl),by decide,by decide,aVz m f ha hb hc⟩
 ·exact⟨1,some (190,[]),Df (by decide) (by decide) (by kernel_rfl),by decide,by decide,aVA m f ha hb hc⟩
 ·exact⟨1,some (191,[]),Df (by decide) (by decide) (by kernel_rfl),by decide,by decide,aVB m f ha hb hc⟩
 ·exact⟨1,some (192,[]),Df (by decide) (by decide) (by kernel_rfl),by decide,by decide,aVC m f ha hb hc⟩
 ·exact⟨1,some (259,[60+2]),Df (by decide) (by decide) (by kernel_rfl),by decide,by decide,aVD m f ha hb hc⟩
 ·exact⟨1,some (259,[147+2]),Df (by decide) (by decide) (by kernel_rfl),by decide,by decide,aVE m f ha hb hc⟩
 ·exact⟨2,some (194,[]),Df (by decide) (by decide) (by kernel_rfl),by decide,by decide,aVF m f ha hb hc⟩
end VL
namespace VL
open Go Vx
def BN(x:Int):Bool:=JW .i64 x 31==0
def Da(v:Int×Int×Int×Unit):Int:=if v.1<0∨v.1>5 then 3 else if(BN v.2.1&&BN v.2.2.1)=true then 0 else 7
theorem pL(x:Int):Ua (x,())=some (BN x,()):=rfl
theorem aAf(v:Int×Int×Int×Unit):Sk (v,())=some (Da v,()):=by
 show m7 Gj.pre Gj.F v=_;unfold m7 Da;have p:=pL v.2.1;have q:Ua v.2.2=some (BN v.2.2.1,()):=pL v.2.2.1;rw[v6 p,t9 p,v6 q,t9 q];by_cases h:v.1<0∨v.1>5
 ·have:(decide (v.1<0)||decide (v.1>5))=true:=by rw[Bool.or_eq_true,decide_eq_true_eq,decide_eq_true_eq];exact h
  rw[this,if_pos h];rfl
 ·have:(decide (v.1<0)||decide (v.1>5))=false:=by
   rw[decide_eq_false (show ¬v.1<0 by omega),decide_eq_false (show ¬v.1>5 by omega)];rfl
  rw[this,if_neg h];cases BN v.2.1<;>cases BN v.2.2.1<;>rfl
def Ha(f:Int):List Nat->Int
 | []=>0
 |a::l=>if Am f a≠0 then Am f a else Ha f l
abbrev R5:=Int×Int×Int×Int×Int×Unit
theorem aLG(R:R5)(op:Int)(l:List Nat)(hl:∀a∈l,a<2^64)(hlen:l.length<1000):
  eC (((l.length:Int),Wd l,(0:Int),op,(),()),(),R,())=some (if Ha R.2.1 l=0 then .inl ((op,(),()),(),R,())else .inr ((Ha R.2.1 l,()),())):=by
 have key:=Dc (aF2 Aq.pre Aq.F Ar.pre Ar.F) (fun x=>l.length-x.1.2.2.1.toNat)
  (fun x=>∃i:Nat,i<=l.length/\Ha R.2.1 (l.drop i)=Ha R.2.1 l/\x=(((l.length:Int),Wd l,(i:Int),op,(),()),(),R,()))
  (fun _=>if Ha R.2.1 l=0 then .inl ((op,(),()),(),R,())else .inr ((Ha R.2.1 l,()),())) ?_ _ ⟨0,ej _,rfl,rfl⟩
 ·exact key
 intro L x hx hL;obtain⟨i,hi,hok,rfl⟩:=hx;unfold Vw;rcases au i l.length with hlt|hge
 ·have hg:l.getD i 0=l[i]:=by simp[al,hlt]
  have ha:=hl _ (gx hlt);have p0:=En R.2.1 l[i] ha;have e0:decide ((i:Int)<(l.length:Int))=true:=decide_eq_true (by omega);have e1:(decide ((0:Int)<=(i:Int))&&decide ((i:Int)<((Wd l).length:Int)))=true:=by rw[Az,decide_eq_true (by omega),decide_eq_true (by omega)];rfl
  have e2:(Wd l).getD (aj (i:Int)) 0=((l[i]:Nat):Int):=by rw[ab,BZ,hg]
  have e3:aa .i64 ((i:Int)+1)=((i+1:Nat):Int):=by rw[As (by omega)];omega
  rw[fg hlt,Ha]at hok;dsimp only;simp only[e0,e1,e2,e3,cond_true,DC p0,Dz p0];by_cases hc:Am R.2.1 l[i]=0
  ·rw[if_neg (fun h=>h hc)]at hok;rw[hc,bne_self_eq_false,cond_false];exact hL _ ⟨i+1,by omega,hok,rfl⟩ (by simp only[ab];omega)
  ·rw[if_pos hc]at hok;have:(Am R.2.1 l[i]!=0)=true:=by rw[bne_iff_ne];exact hc
   rw[this,←hok,if_neg hc];rfl
 ·have e:i=l.length:=by omega
  subst e;rw[kd]at hok;have e0:decide ((l.length:Int)<(l.length:Int))=false:=decide_eq_false (by omega);simp only[e0,cond_false];rw[←hok];rfl
def r9(a c:Int):Bool:=(((aa .i64 c)==0)&&((aa .u64 (aa .i64 (aa .i32 a)))!=a))||(((aa .i64 c)==2)&&((AJ .u64 a 32)!=0))
def SJ(f op:Int)(n a b c:Nat):Int:=if ¬Fm f then 2 else if op=10/\c>3 then 2 else if(op=11∨op=12)/\c>3 then 9 else if Ha f ([a,b,c].take n)≠0 then Ha f ([a,b,c].take n)else if(op==12&&r9 a c)=true then 4 else 0
theorem aDD(op:Int)(c:Nat){d:Bool}(hd:d=decide ((c:Int)>3))(t:Int)(v:Option (Int×Unit))(hv:v=some (t,())):
  (bif op==10 then(bif d then some (2,())else v)else bif op==11 then(bif op==11 then(bif d then some (9,())else v)else v)else bif op==12 then(bif d then some (9,())else v)else v) =
  some (if op=10/\c>3 then 2 else if(op=11∨op=12)/\c>3 then 9 else t,()):=by
 rw[hd,hv];by_cases h:c>3
 ·rw[decide_eq_true (show(c:Int)>3 by omega)];by_cases h1:op=10
  ·subst h1;rw[if_pos ⟨rfl,h⟩];rfl
  ·rw[beq_false_of_ne h1,if_neg (fun x=>h1 x.1)];by_cases h2:op=11
   ·subst h2;rw[if_pos ⟨.inl rfl,h⟩];rfl
   ·by_cases h3:op=12
    ·subst h3;rw[if_pos ⟨.inr rfl,h⟩];rfl
    ·rw[beq_false_of_ne h2,beq_false_of_ne h3,if_neg (fun x=>x.1.elim h2 h3)];rfl
 ·rw[decide_eq_false (show ¬(c:Int)>3 by omega),if_neg (fun x=>h x.2),if_neg (fun x=>h x.2)];cases op==10<;>cases op==11<;>cases op==12<;>rfl
theorem aK3(m f op:Int)(w:Option (Nat×List Nat)){n a b c:Nat}(hn:n<=3)(ha:a<2^64)(hb:b<2^64)(hc:c<2^64):
  Yi (op,((n:Int),w,()),(m,f,(a:Int),(b:Int),(c:Int),()),())=some (SJ f op n a b c,()):=by
 show m8 Aq.pre Aq.F Ar.pre Ar.F eC op ((n:Int),w,()) (m,f,(a:Int),(b:Int),(c:Int),())=_;have e3:((((a:Int)::((b:Int)::((c:Int)::[]))).take (aj (n:Int))).drop (aj (0:Int)))=Wd ([a,b,c].take n):=by
  have:n=0∨n=1∨n=2∨n=3:=by omega
  rcases this with rfl|rfl|rfl|rfl<;>rfl
 have e2:((decide ((0:Int)<=(n:Int)))&&(decide ((n:Int)<=((((a:Int)::((b:Int)::((c:Int)::[]))).length:Nat):Int))))=true:=by
  rw[decide_eq_true (show(0:Int)<=(n:Int) by omega),decide_eq_true (show((n:Int)<=((((a:Int)::((b:Int)::((c:Int)::[]))).length:Nat):Int))from by show(n:Int)<=3;omega)];rfl
 have hW:=aLG (m,f,(a:Int),(b:Int),(c:Int),()) op ([a,b,c].take n) (by intro x hx;have:=List.mem_of_mem_take hx;simp at this;omega) (by rw[List.length_take];show min n 3<1000;omega);unfold m8 SJ;dsimp only;by_cases hA:Ha f ([a,b,c].take n)=0
 ·rw[if_pos hA]at hW;rw[e3,e2,Az,hW];by_cases hf:Fm f
  ·have p0:=FE hf;rw[Dd p0,C9 p0,if_neg (show ¬¬Fm f from fun h=>h hf)];refine aDD op c rfl _ (bif op==12 then(bif r9 a c then some (4,())else some (0,()))else some (0,())) ?_;rw[if_neg (fun h=>h hA)];cases op==12<;>cases r9 (a:Int) c<;>rfl
  ·have p0:=GZ hf;rw[Dd p0,C9 p0,if_pos hf];rfl
 ·rw[if_neg hA]at hW;rw[e3,e2,Az,hW];by_cases hf:Fm f
  ·have p0:=FE hf;rw[Dd p0,C9 p0,if_neg (show ¬¬Fm f from fun h=>h hf)];refine aDD op c rfl _ (some (Ha f ([a,b,c].take n),())) ?_;rw[if_pos hA]
  ·have p0:=GZ hf;rw[Dd p0,C9 p0,if_pos hf];rfl
def V3(op:Int):Nat:=(LS.F (op,())).1.1.toNat
def If(v:Int×Int×Int×Unit)(op f:Int)(a b c:Nat):Int:=if Da v≠0 then Da v else if op<1∨op>22 then 190 else if SJ f op (V3 op) a b c≠0 then SJ f op (V3 op) a b c else(J8 v.1 op f a b c).2.2.1
abbrev WI:=Int×Int×Int×(Int×Int×Int×Unit)×Unit
def aVW:WI:=(0,0,0,(0,0,0,()),())
def sJ(v:Int×Int×Int×Unit)(y:Int×Int×Int×Unit):WI:=if A9 .i64 y.2.1 v.2.2.1≠0 then(0,y.2.1,A9 .i64 (A9 .i64 y.2.1 v.2.2.1) (aa .i64 (0-A9 .i64 y.2.1 v.2.2.1)),v,())else(y.1,y.2.1,0,(v.1,A7 .i64 v.2.1 y.2.1,v.2.2),())
def FU(v:Int×Int×Int×Unit)(op f:Int)(a b c:Nat):WI×Int×Unit:=if If v op f a b c≠0 then(aVW,If v op f a b c,())else(sJ v (J8 v.1 op f a b c),0,())
theorem aAm(v:Int×Int×Int×Unit)(op f:Int){a b c:Nat}(ha:a<2^64)(hb:b<2^64)(hc:c<2^64):
  Q8 (v,op,f,(a:Int),(b:Int),(c:Int),())=some (FU v op f a b c):=by
 show m9 Dx.pre Dx.F LS.pre LS.F QV.pre QV.F Jz.pre Jz.F v op f a b c=_;unfold m9 FU;dsimp only;have p0:Sk ((v.1,v.2),())=some (Da v,()):=aAf v;rw[aG5 p0,aEX p0,cond_true];by_cases hg:Da v=0
 ·have hz:((Da v:Int)!=0)=false:=by rw[hg];rfl
  rw[hz,cond_false];by_cases ho:op<1∨op>22
  ·have p1:=aT0 ho;have he:If v op f a b c=190:=by unfold If;rw[if_neg (fun h=>h hg),if_pos ho]
   rw[aG6 p1,hJ p1,he];rfl
  ·obtain⟨n,w,p1,hn0,hn3,hd1,hd2⟩:=aVL v.1 f (op:=op) (by omega) (by omega) ha hb hc;obtain⟨k,rfl⟩:=cw hn0;have hk:V3 op=k:=by unfold V3;rw[hJ p1];rfl
   have p2:=aK3 v.1 f op w (n:=k) (Int.ofNat_le.1 hn3) ha hb hc;have he:If v op f a b c=if SJ f op k a b c≠0 then SJ f op k a b c else(J8 v.1 op f a b c).2.2.1:=by
    unfold If;rw[if_neg (fun h=>h hg),if_neg ho,hk]
   rw[he,aG6 p1,hJ p1,cond_true];dsimp only;rw[bne_self_eq_false,cond_false,aQQ p2,aOe p2,cond_true];dsimp only;by_cases hc0:SJ f op k a b c=0
   ·rw[hc0,bne_self_eq_false,cond_false,hd1,hd2,cond_true,if_neg (show ¬((0:Int)≠0) by decide)];by_cases hr:(J8 v.1 op f a b c).2.2.1=0
    ·rw[hr,bne_self_eq_false,cond_false,if_neg (show ¬((0:Int)≠0) by decide)];unfold sJ;by_cases ht:A9 .i64 (J8 v.1 op f a b c).2.1 v.2.2.1=0
     ·rw[ht,bne_self_eq_false,cond_false,if_neg (show ¬((0:Int)≠0) by decide)]
     ·rw[if_pos ht,bne_iff_ne.2 ht];rfl
    ·rw[if_pos hr,bne_iff_ne.2 hr];rfl
   ·rw[if_pos hc0,if_pos hc0,bne_iff_ne.2 hc0];rfl
 ·have he:If v op f a b c=Da v:=by unfold If;rw[if_pos hg]
  rw[he,if_pos hg,bne_iff_ne.2 hg];rfl
theorem aM1:If (0,0,2,()) 4 0 15360 0 7=0:=by
 have p:Q7 (4,())=some (((2:Int),some (255,[18+2]),()),0,()):=Df (by decide) (by decide) (by kernel_rfl);have h:V3 4=2:=by unfold V3;rw[hJ p];rfl
 unfold If;rw[h];show _=(0:Int)
 kernel_rfl
theorem aM2:J8 0 4 0 15360 0 7=(Rs 0 0 15360 0):=by kernel_rfl
theorem aM3:Rs 0 0 15360 0=(31744,2,0,()):=by kernel_rfl
theorem aM4:Yj ()=some (true,()):=by
 show nA CR.pre CR.F=_;unfold nA;have p:Q8 ((0,0,2,()),4,0,15360,0,7,())=_:=aAm (0,0,2,()) 4 0 (a:=15360) (b:=0) (c:=7) (by decide) (by decide) (by decide);dsimp only;rw[v7 p,uA p,cond_true];unfold FU;rw[aM1,aM2,aM3];rfl
end VL
namespace VL
open Go Vx
def F9(g:Int):Prop:=g=0∨g=1∨g=2∨g=16∨g=20∨g=24
def Dj(y:Int×Int×Int×Unit):Prop:=F9 y.2.1
theorem BX{c:Bool}{x y:Int×Int×Int×Unit}(hx:Dj x)(hy:Dj y):Dj (bif c then x else y):=by
 cases c
 ·exact hy
 ·exact hx
theorem AR{p:Prop}[Decidable p]{x y:Int×Int×Int×Unit}(hx:Dj x)(hy:Dj y):Dj (if p then x else y):=by
 by_cases h:p
 ·rw[if_pos h];exact hx
 ·rw[if_neg h];exact hy
theorem g0:F9 0:=.inl rfl
theorem g1:F9 1:=.inr (.inl rfl)
theorem g2:F9 2:=.inr (.inr (.inl rfl))
theorem U0:F9 16:=.inr (.inr (.inr (.inl rfl)))
theorem Fg{c:Bool}{x y:Int}(hx:F9 x)(hy:F9 y):F9 (bif c then x else y):=by
 cases c
 ·exact hy
 ·exact hx
def cM(g:Nat):Prop:=g=0∨g=16∨g=20∨g=24
theorem okN{g:Nat}(h:cM g):F9 (g:Int):=by
 rcases h with rfl|rfl|rfl|rfl
 ·exact g0
 ·exact U0
 ·exact .inr (.inr (.inr (.inr (.inl rfl))))
 ·exact .inr (.inr (.inr (.inr (.inr rfl))))
theorem Ke(f m:Int)(neg:Bool)(n:Nat)(e:Int)(more:Bool):cM (AH f m neg n e more).2:=by
 unfold AH;split
 ·exact .inr (.inr (.inl rfl))
 ·dsimp only;split
  ·exact .inr (.inr (.inl rfl))
  ·dsimp only;split
   ·exact .inl rfl
   ·split
    ·exact .inr (.inr (.inr rfl))
    ·exact .inr (.inl rfl)
theorem WH(f m:Int)(neg:Bool)(n:Nat)(e:Int)(more:Bool):Dj (((AH f m neg n e more).1:Int),((AH f m neg n e more).2:Int),0,()):=okN (Ke ..)
theorem oA{x:Nat×Nat}(h:cM x.2):Dj ((x.1:Int),(x.2:Int),0,()):=okN h
theorem aU7(f m:Int)(nx:Bool)(X:Nat)(ex:Int)(ny:Bool)(Y:Nat)(ey:Int):cM (FW f m nx X ex ny Y ey).2:=by
 unfold FW;dsimp only;generalize(if ex<=ey then ex else ey)=e;by_cases h1:nx=ny
 ·rw[if_pos h1];split
  ·exact .inl rfl
  ·exact Ke ..
 ·rw[if_neg h1];split
  ·exact .inl rfl
  ·split
   ·exact Ke ..
   ·exact Ke ..
theorem aC6(f m:Int)(a b:Nat):Dj (SD f m a b):=by
 unfold SD;refine AR (AR (AR ?_ g0) g0) g0;exact BX g1 (BX g0 (BX g1 (BX g0 (BX g0 (oA (aU7 ..))))))
theorem aO0(f m:Int)(a b:Nat):Dj (VG f m a b):=by
 unfold VG;exact AR g0 (AR g0 (AR g0 (AR g0 (BX (Fg g1 g0) (BX g1 (BX g0 (BX g0 (WH ..))))))))
theorem aMK(f m:Int)(a b:Nat):Dj (Rs f m a b):=by
 unfold Rs;refine AR g0 (AR g0 (AR g0 (AR g0 (BX (Fg g1 g0) (BX g1 (BX g0 (BX g2 (BX g0 (oA ?_)))))))));unfold Ii M3;split
 ·exact Ke ..
 ·exact Ke ..
theorem aTZ(f m:Int)(a:Nat):Dj (Tr f m a):=by
 unfold Tr;refine AR g0 (BX (Fg g1 g0) (BX g1 (BX g0 (oA ?_))));unfold Tm M6;split
 ·split
  ·exact Ke ..
  ·exact Ke ..
 ·split
  ·exact Ke ..
  ·exact Ke ..
theorem aM6(f m:Int)(a b c:Nat):Dj (SY f m a b c):=by
 unfold SY;refine AR g0 (BX g1 (BX g0 (BX g1 (BX g0 (BX g0 ?_)))));unfold jI;exact AR g0 (WH ..)
theorem aHk(f:Int)(a b:Nat)(near:Bool):F9 (FT f a b near).2.2.1:=by
 unfold FT;cases(Gy f a b).2.2.1
 ·exact g0
 ·show F9 (Gy f a b).2.1;unfold Gy;split
  ·exact g0
  ·cases AG f a||AG f b
   ·cases nan f a||nan f b
    ·cases Au f a||AK f b
     ·cases Au f b||AK f a
      ·exact g0
      ·exact g0
     ·exact g1
    ·exact g0
   ·exact g1
theorem aOw(f m:Int)(a:Nat)(t:Bool):Dj (S7 f m a t):=by
 unfold S7;exact AR g0 (BX (Fg g1 g0) (BX g0 (Fg U0 g0)))
theorem aMx(f w m:Int)(a:Nat):Dj (SL f w m a):=by
 unfold SL;exact AR g0 (BX (Fg g1 g0) (BX g0 (BX g0 (WH ..))))
theorem aFi(k:Int)(s:Bool)(u:Nat)(o:Bool):Dj (MR k s u o):=by
 unfold MR;exact BX (AR g1 (Fg U0 g0)) (AR g1 (Fg U0 g0))
theorem aVj(f m k:Int)(a:Nat):Dj (Tt f m k a):=by
 unfold Tt;exact AR g0 (AR g0 (AR g0 (BX g1 (BX g1 (AR (aFi ..) (aFi ..))))))
theorem aNe(f m k:Int)(x:Nat):Dj (S2 f m k x):=by
 unfold S2;exact AR g0 (AR g0 (AR g0 (AR g0 (WH ..))))
theorem aGE(f:Int)(a b:Nat)(g:Bool):Dj (Kb f a b g):=by
 unfold Kb RA;exact AR g0 (BX (Fg g1 g0) (BX (Fg g1 g0) (BX (Fg g1 g0) g0)))
theorem aUZ(f:Int)(a:Nat)(w:Int):Dj (RT f a w):=by
 unfold RT;exact AR g0 (Fg g1 g0)
theorem aUJ(f m:Int)(a:Nat)(n:Int):Dj (Tp f m a n):=by
 unfold Tp;exact AR g0 (AR g0 (AR g0 (BX (Fg g1 g0) (AR g0 (WH ..)))))
theorem aDH(f:Int)(a b:Nat)(s:Bool):F9 (EV f a b s).2.1:=by
 unfold EV;split
 ·exact g0
 ·cases nan f a||nan f b
  ·dsimp only[cond_false];split
   ·exact g0
   ·split
    ·exact g0
    ·exact g0
  ·exact Fg g1 (Fg g1 g0)
theorem aPr(m op f:Int)(a b c:Nat):Dj (J8 m op f a b c):=by
 unfold J8;refine AR (aC6 ..) (AR (aC6 ..) (AR (aO0 ..) (AR (aMK ..) (AR (aTZ ..) (AR (aM6 ..) (AR (aHk ..) (AR (aHk ..) (AR (aOw ..) (AR (aMx ..) (AR (aVj ..) (AR (aNe ..) (AR (aGE ..) (AR (aGE ..) (AR (aDH ..) (AR (aDH ..) (AR (aUZ ..) (AR (aUJ ..) (AR ?_ (AR ?_ (AR g0 (AR g0 g0)))))))))))))))))))))
 ·unfold Ze;exact AR g0 g0
 ·unfold Hf;exact AR g0 g0
end VL
namespace VL
open Go Vx
abbrev M5:BitVec 64:=(~~~(31#64))
theorem aIA(b:BitVec 64):bv 64 (aa .i64 (b.toNat:Int))=b:=by
 apply BitVec.eq_of_toNat_eq;rw[BitVec.toNat_ofInt];have hb:=b.isLt;show((if(true&&decide ((b.toNat:Int)%2^64>=2^63))=true then(b.toNat:Int)%2^64-2^64 else(b.toNat:Int)%2^64)%((2^64:Nat):Int)).toNat=b.toNat;split
 ·rename_i h;have h3:=of_decide_eq_true h;have h4:(b.toNat:Int)%2^64>=2^63:=h3;omega
 ·rename_i h;have h4:¬(b.toNat:Int)%2^64>=2^63:=fun h5=>h (decide_eq_true h5);omega
theorem aL9(a b c:BitVec 64):a &&& (b ||| c)=(a &&& b) ||| (a &&& c):=by ext i hi;simp[Bool.and_or_distrib_left]
theorem aMa(a b c:BitVec 64):(a ||| b) &&& c=(a &&& c) ||| (b &&& c):=by ext i hi;simp[Bool.and_or_distrib_right]
theorem aVO{b:BitVec 64}:aa .i64 (b.toNat:Int)=0↔b=0#64:=by
 constructor
 ·intro h;rw[←aIA b,h];rfl
 ·rintro rfl;rfl
theorem aEj(x:Int):BN x=true↔bv 64 x &&& M5=0#64:=by
 unfold BN JW;rw[beq_iff_eq];exact aVO
theorem aMb{b:BitVec 64}(h:b &&& M5=0#64):b.toNat<32:=by
 have e:b=b &&& 31#64:=by
  have h1:b &&& (M5 ||| 31#64)=b:=by rw[show M5 ||| 31#64=BitVec.allOnes 64 by decide,BitVec.and_allOnes]
  have h2:b &&& (M5 ||| 31#64)=(b &&& M5) ||| (b &&& 31#64):=aL9 ..;rw[h,BitVec.zero_or]at h2;exact h1.symm.trans h2
 rw[e,BitVec.toNat_and];exact av Nat.and_le_right (by decide)
theorem aM0{x g:Int}(hx:BN x=true)(hg:F9 g):BN (A7 .i64 x g)=true:=by
 rw[aEj]at hx⊢;unfold A7;show bv 64 (aa .i64 ((bv 64 x ||| bv 64 g).toNat:Int)) &&& M5=0#64;rw[aIA];have h2:bv 64 g &&& M5=0#64:=by rcases hg with rfl|rfl|rfl|rfl|rfl|rfl<;>decide
 have e:(bv 64 x ||| bv 64 g) &&& M5=(bv 64 x &&& M5) ||| (bv 64 g &&& M5):=aMa ..;rw[e,hx,h2];rfl
theorem aOO:∀n:Nat,n<32->n≠0->A9 .i64 (n:Int) (aa .i64 (0-(n:Int)))≠0:=by decide +kernel
theorem aVk{y tr:Int}(ht:BN tr=true)(h:A9 .i64 y tr≠0):A9 .i64 (A9 .i64 y tr) (aa .i64 (0-A9 .i64 y tr))≠0:=by
 rw[aEj]at ht;have hs:(bv 64 y &&& bv 64 tr).toNat<32:=by
  apply aMb;rw[BitVec.and_assoc,ht,BitVec.and_zero]
 have e:A9 .i64 y tr=((bv 64 y &&& bv 64 tr).toNat:Int):=by
  unfold A9;exact As (n:=((bv 64 y &&& bv 64 tr).toNat:Int)) (by omega)
 rw[e]at h⊢;exact aOO _ hs (fun h0=>h (by rw[h0];rfl))
theorem uF{v:Int×Int×Int×Unit}(h:Da v=0):BN v.2.1=true/\BN v.2.2.1=true:=by
 unfold Da at h;by_cases h1:v.1<0∨v.1>5
 ·rw[if_pos h1]at h;cases h
 ·rw[if_neg h1]at h;by_cases h2:(BN v.2.1&&BN v.2.2.1)=true
  ·exact Bool.and_eq_true_iff.1 h2
  ·rw[if_neg h2]at h;cases h
theorem aOs{v:Int×Int×Int×Unit}(h:Da v=0){fl:Int}(hf:BN fl=true):Da (v.1,fl,v.2.2)=0:=by
 obtain⟨_,h2⟩:=uF h;unfold Da at h⊢;by_cases h1:v.1<0∨v.1>5
 ·rw[if_pos h1]at h;cases h
 ·rw[if_neg h1,hf];show(if(true&&BN v.2.2.1)=true then(0:Int)else 7)=0;rw[h2];rfl
def Ew(v:Int×Int×Int×Unit)(r:WI×Int×Unit):Int×Int×Int×Unit:=if r.2.1=0 then r.1.2.2.2.1 else v
theorem aGj{v:Int×Int×Int×Unit}(hv:Da v=0)(op f:Int)(a b c:Nat):
  Da (Ew v (FU v op f a b c))=0/\(Ew v (FU v op f a b c)).1=v.1/\(Ew v (FU v op f a b c)).2.2=v.2.2 /\
  (Ew v (FU v op f a b c)).2.1=if(FU v op f a b c).2.1=0/\(FU v op f a b c).1.2.2.1=0 then A7 .i64 v.2.1 (FU v op f a b c).1.2.1 else v.2.1:=by
 obtain⟨h1,h2⟩:=uF hv;unfold Ew FU;by_cases h:If v op f a b c≠0
 ·rw[if_pos h];dsimp only;rw[if_neg h,if_neg (fun x=>h x.1)];exact⟨hv,rfl,rfl,rfl⟩
 ·rw[if_neg h];dsimp only;rw[if_pos rfl];have hg:=aPr v.1 op f a b c;unfold sJ;generalize J8 v.1 op f a b c=y at *
  by_cases ht:A9 .i64 y.2.1 v.2.2.1≠0
  ·rw[if_pos ht];dsimp only;rw[if_neg (fun x=>aVk h2 ht x.2)];exact⟨hv,rfl,rfl,rfl⟩
  ·rw[if_neg ht];dsimp only;rw[if_pos ⟨rfl,rfl⟩];exact⟨aOs hv (aM0 h1 hg),rfl,rfl,rfl⟩
end VL
namespace VL
open Go Vx
abbrev Hl:=Int×Int×Int×Unit
abbrev Q1:=Int×Bool×Int×Int×Int×Int×Int×Unit
def iL(s:Q1):Prop:=(0<=s.2.2.2.2.1/\s.2.2.2.2.1<2^64)/\(0<=s.2.2.2.2.2.1/\s.2.2.2.2.2.1<2^64)/\(0<=s.2.2.2.2.2.2.1/\s.2.2.2.2.2.2.1<2^64)
def Dq(v:Hl)(s:Q1):WI×Int×Unit:=FU v s.2.2.1 s.2.2.2.1 s.2.2.2.2.1.toNat s.2.2.2.2.2.1.toNat s.2.2.2.2.2.2.1.toNat
def Ev(v:Hl):List Q1->Hl
 | []=>v
 |s::l=>Ev (Ew v (Dq v s)) l
theorem aAn(v:Hl){s:Q1}(h:iL s):Q8 (v,s.2.2)=some (Dq v s):=by
 obtain⟨k,w,op,f,A,B,C,u⟩:=s;obtain⟨⟨h1,h2⟩,⟨h3,h4⟩,h5,h6⟩:=h;obtain⟨a,rfl⟩:=cw h1;obtain⟨b,rfl⟩:=cw h3;obtain⟨c,rfl⟩:=cw h5;dsimp only at h2 h4 h6;exact aAm v op f (a:=a) (b:=b) (c:=c) (by omega) (by omega) (by omega)
theorem aK5(v:Hl){s:Q1}(h:iL s):Yk ((v,()),s.2.2)=some ((Ew v (Dq v s),()),Dq v s):=by
 show nB CR.pre CR.F (v,()) s.2.2.1 s.2.2.2.1 s.2.2.2.2.1 s.2.2.2.2.2.1 s.2.2.2.2.2.2.1=_;have p:Q8 (v,s.2.2.1,s.2.2.2.1,s.2.2.2.2.1,s.2.2.2.2.2.1,s.2.2.2.2.2.2.1,())=some (Dq v s):=aAn v h;unfold nB;dsimp only;rw[v7 p,uA p,cond_true];unfold Ew;by_cases h0:(Dq v s).2.1=0
 ·rw[h0,if_pos rfl];rfl
 ·rw[if_neg h0,beq_false_of_ne h0];rfl
theorem aLU{x:Int}(h:BN x=true):JW .i64 x 31=0:=by
 unfold BN at h;exact beq_iff_eq.1 h
theorem aK6{v:Hl}(h:Da v=0):Yl ((v,()),(31:Int),())=some (((v.1,0,v.2.2),()),v.2.1,0,()):=by
 show nC Gj.pre Gj.F (v,()) 31=_;unfold nC;have p:=pL 31;have e:BN 31=true:=by decide +kernel
 rw[v6 p,t9 p,cond_true,e];dsimp only;rw[aLU (uF h).1];rfl
theorem aAo(v:Hl):Ym ((v,()),())=some ((v,()),v,0,()):=rfl
theorem aLH(s:Hl)(l:List Q1)(hl:∀e∈l,iL e)(hlen:l.length<2^63)(hs:Da s=0):
  YM (((l.length:Int),l,(),(0:Int),(),s.2.1,(),()),s,(),s,s,())=some (.inl (((),(Ev s l).2.1,(),()),s,(),Ev s l,()))/\Da (Ev s l)=0/\(Ev s l).1=s.1/\(Ev s l).2.2=s.2.2:=by
 have all:∀(l:List Q1) (v:Hl),Da v=0->Da (Ev v l)=0/\(Ev v l).1=v.1/\(Ev v l).2.2=v.2.2:=by
  intro l;induction l with
  |nil=>exact fun v hv=>⟨hv,rfl,rfl⟩
  |cons e l ih=>
   intro v hv;obtain⟨n1,n2,n3,_⟩:=aGj hv e.2.2.1 e.2.2.2.1 e.2.2.2.2.1.toNat e.2.2.2.2.2.1.toNat e.2.2.2.2.2.2.1.toNat;obtain⟨i1,i2,i3⟩:=ih (Ew v (Dq v e)) n1;exact⟨i1,i2.trans n2,i3.trans n3⟩
 refine⟨?_,all l s hs⟩;have key:=Dc (aF3 EN.pre EN.F Dx.pre Dx.F EO.pre EO.F CR.pre CR.F EP.pre EP.F EQ.pre EQ.F) (fun x=>l.length-x.1.2.2.2.1.toNat)
  (fun x=>∃(i:Nat) (v:Hl),i<=l.length/\Da v=0/\Ev v (l.drop i)=Ev s l/\x=(((l.length:Int),l,(),(i:Int),(),v.2.1,(),()),s,(),v,v,()))
  (fun _=>.inl (((),(Ev s l).2.1,(),()),s,(),Ev s l,())) ?_ _ ⟨0,s,ej _,hs,rfl,rfl⟩
 ·exact key
 intro L x hx hL;obtain⟨i,v,hi,hv,hgo,rfl⟩:=hx;unfold Vy;rcases au i l.length with hlt|hge
 ·have hg:∀d,l.getD (aj (i:Int)) d=l[i]:=fun d=>by simp[al,hlt]
  have ho:=hl _ (gx hlt);rw[fg hlt,Ev]at hgo;generalize l[i]=e at *
  have p0:=aAn v ho;have p1:=aK5 v ho;have p2:=aAo (Ew v (Dq v e));have e0:decide ((i:Int)<(l.length:Int))=true:=decide_eq_true (by omega);have e2:decide ((0:Int)<=(i:Int))=true:=decide_eq_true (by omega);have e3:aa .i64 ((i:Int)+1)=((i+1:Nat):Int):=by rw[As (by omega)];omega
  obtain⟨n1,_,_,n4⟩:=aGj hv e.2.2.1 e.2.2.2.1 e.2.2.2.2.1.toNat e.2.2.2.2.2.1.toNat e.2.2.2.2.2.2.1.toNat;have n5:(Dq v e).2.1≠0->Ew v (Dq v e)=v:=fun h=>if_neg h;have n6:(Dq v e).2.1=0->Ew v (Dq v e)=(Dq v e).1.2.2.2.1:=fun h=>if_pos h;have hN:L (((l.length:Int),l,(),((i+1:Nat):Int),(),(Ew v (Dq v e)).2.1,(),()),s,(),Ew v (Dq v e),Ew v (Dq v e),())=some (.inl (((),(Ev s l).2.1,(),()),s,(),Ev s l,())):=
   hL _ ⟨i+1,_,by omega,n1,hgo,rfl⟩ (by simp only[ab];omega)
  dsimp only;simp only[hg,e0,e2,e3,bf,cond_true,v7 p0,uA p0,aQS p1,aOg p1,aG7 p2,aEY p2];have n4':(Ew v (Dq v e)).2.1=if(Dq v e).2.1=0/\(Dq v e).1.2.2.1=0 then A7 .i64 v.2.1 (Dq v e).1.2.1 else v.2.1:=n4;generalize Ew v (Dq v e)=n at *
  generalize Dq v e=r at *
  by_cases h0:r.2.1=0
  ·rw[←n6 h0];by_cases ht:r.1.2.2.1=0
   ·rw[if_pos ⟨h0,ht⟩]at n4';simp only[h0,ht,beq_self_eq_true,bne_self_eq_false,bf,bg,bq,az,bm,cond_false,cond_true,←n4',hN]
   ·rw[if_neg (fun h=>ht h.2)]at n4';simp only[h0,beq_false_of_ne ht,beq_self_eq_true,bne_self_eq_false,bf,bg,bq,az,bm,cond_false,cond_true,←n4',hN]
  ·rw[if_neg (fun h=>h0 h.1)]at n4';have hb:=beq_false_of_ne h0;have:=n5 h0;subst this;simp only[hb,beq_self_eq_true,bne_self_eq_false,bf,bg,bq,az,bm,cond_false,cond_true,hN]
 ·have e:i=l.length:=by omega
  subst e;rw[kd]at hgo;have e0:decide ((l.length:Int)<(l.length:Int))=false:=decide_eq_false (by omega);simp only[e0,cond_false];rw[←hgo];rfl
theorem T463_true(s:Hl)(l:List Q1)(hl:∀e∈l,iL e)(hlen:l.length<2^63):T463 (s,l,())=some (true,()):=by
 show nD EN.pre EN.F Dx.pre Dx.F EO.pre EO.F CR.pre CR.F EP.pre EP.F EQ.pre EQ.F YM s l=_;unfold nD;have p0:=aM4;have p1:Sk ((s.1,s.2),())=some (Da s,()):=aAf s;rw[aQR p0,aOf p0,aG5 p1,aEX p1];dsimp only;rw[cond_true,cond_true,bg,cond_false];by_cases hs:Da s=0
 ·obtain⟨hw,g1,g2,g3⟩:=aLH s l hl hlen hs;have hw':YM (((l.length:Int),l,(),(0:Int),(),s.2.1,(),()),(s.1,s.2),(),(s.1,s.2),(s.1,s.2),())=_:=hw;rw[hs,bne_self_eq_false,cond_false,hw'];generalize Ev s l=v at *
  have q1:=aK6 g1;have q2:=aAo (v.1,0,v.2.2);simp only[AY,A1];simp only[aQT q1,aOh q1,aG7 q2,aEY q2,←g2,←g3,cond_true,beq_self_eq_true,bf]
 ·rw[bne_iff_ne.2 hs];rfl
end VL
namespace Vx
open Go Go.RowKit Go.ChangeShapes Go.WideShapes
def wfD:(τ:Shape)->Aa τ->Prop
 |.int k,n=>k.min<=n/\n<=k.max
 |.flt _,_=>True
 |.slice e,xs=>xs.length<BQ/\∀x∈xs,wfD e x
 |.pair a b,x=>wfD a x.1/\wfD b x.2
 |.bool,_=>True
 |.str,_=>True
 |.fn,_=>True
 |.unit,_=>True
 |.box a,x=>wfD a x
 |.ifc,_=>True
 |.pfn,_=>True
theorem AN.wfD{w:World}{S:Nat->Prop}:∀{τ:Shape} {x:Aa τ} {cs:List Value},AN w S τ x cs->wfD τ x
 |.int _,_,_,h=>h.2
 |.flt _,_,_,_=>trivial
 |.bool,_,_,_=>trivial
 |.str,_,_,_=>trivial
 |.fn,_,_,_=>trivial
 |.unit,_,_,_=>trivial
 |.box _,_,_,⟨_,_,_,_,_,_,_,_,_,h,_⟩=>h.wfD
 |.ifc,_,_,_=>trivial
 |.pfn,_,_,_=>trivial
 |.slice _,xs,_,⟨A,c,_,h1,h2,h3⟩=>by
  refine⟨av h1 h2,fun x hx=>?_⟩
  obtain⟨r,o,vs,T,fz,_,_,_,h⟩:=h3 (List.ne_nil_of_mem hx)
  obtain⟨i,hi⟩:=List.getElem?_of_mem hx
  obtain⟨ds,hd,_⟩:=h i x hi
  exact hd.wfD
 |.pair _ _,_,_,⟨c1,c2,_,h1,h2⟩=>⟨h1.wfD,h2.wfD⟩
def wfS:(sg:Ab)->DenS sg->Prop
 | [],_=>True
 |(_,τ)::r,x=>wfD τ x.1/\wfS r x.2
def FX{H:Type}:(τ:Shape)->(DataW H->Option (Aa τ))×(List (DataW H)->Option (Aa τ))
 |.int k=>(fun d=>match d with|.lit (.int k' n)=>if k'=k then some n else none|_=>none,fun _=>none)
 |.bool=>(fun d=>match d with|.lit (.bool b)=>some b|_=>none,fun _=>none)
 |.unit=>(fun d=>match d with|.agg []=>some ()|_=>none,fun l=>match l with | []=>some ()|_=>none)
 |.pair a b=>
  let f:=fun l=>match l with
   |d::r=>(match(FX a).1 d,(FX b).2 r with|some x,some y=>some (x,y)|_,_=>none)
   | []=>none
  (fun d=>match d with|.agg l=>f l|_=>none,f)
 |.flt _=>(fun _=>none,fun _=>none)
 |.str=>(fun _=>none,fun _=>none)
 |.fn=>(fun _=>none,fun _=>none)
 |.box _=>(fun _=>none,fun _=>none)
 |.ifc=>(fun _=>none,fun _=>none)
 |.pfn=>(fun _=>none,fun _=>none)
 |.slice _=>(fun _=>none,fun _=>none)
def SW(P:Program)(g:TypeId->Shape->Bool):List Field->Nat->Shape->Bool
 | [],_,.unit=>true
 |f::fs,o,.pair a b=>(f.offset==o)&&(P.cellsOf f.type==a.width)&&g f.type a&&SW P g fs (o+a.width) b
 |_,_,_=>false
def BN(P:Program):Nat->TypeId->Shape->Bool
 |0,_,_=>false
 |n+1,t,τ=>match P.underlying t with
  |some (.int k)=>(match τ with|.int k'=>decide (k=k')|_=>false)
  |some .bool=>(match τ with|.bool=>true|_=>false)
  |some (.slice e)=>(match τ with|.slice σ=>(P.cellsOf e==σ.width)&&decide (0<σ.width)&&BN P n e σ|_=>false)
  |some (.struct fs)=>(P.cellsOf t==τ.width)&&SW P (BN P n) fs.toList 0 τ
  |_=>false
theorem aDE{A:Type}{Q:Nat->A->Prop}:∀(n:Nat),(∀i,i<n->∃x,Q i x)->∃xs:List A,xs.length=n/\∀i x,xs[i]? = some x->Q i x
 |0,_=>⟨[],rfl,fun i x h=>by simp at h⟩
 |n+1,h=>by
  obtain⟨xs,h1,h2⟩:=aDE n fun i hi=>h i (by omega)
  obtain⟨x,hx⟩:=h n (by omega)
  refine⟨xs++[x],by simp[h1],fun i y hy=>?_⟩
  rcases au i n with hi|hi
  ·rw[List.getElem?_append_left (by omega)]at hy
   exact h2 i y hy
  ·rw[List.getElem?_append_right (by omega)]at hy
   have:i=n:=by
    have:=(aw.1 hy).1
    simp at this;omega
   subst this
   simp[h1]at hy
   exact hy▸hx
theorem aVr{k:IntKind}{n:Int}(h:(Lit.int k n).wf=true):k.min<=n/\n<=k.max:=by
 simpa[Lit.wf]using h
section
variable {H:Type}{enc:TypeId×Value->H}{P:Program}{W:World}{spare:Nat->Bool}{held:Bool}
theorem aEi{n:Nat}{m:Nat}{cs:List Value}(ih:∀(t:TypeId) (τ:Shape) (cs:List Value) (d:DataW H) (p:List MemPlace),BN P n t τ=true->DataW.trod enc P W 0 spare held m t cs=some (d,p)->∃x:Aa τ,AN W (fun q=>q<W.heap.size) τ x cs/\∀y,(FX τ).1 d=some y->x=y):
  ∀(l:List Field) (o:Nat) (τ:Shape) (xs:List (DataW H×List MemPlace)),SW P (BN P n) l o τ=true->xs.length=l.length->cs.length=o+τ.width ->
   (∀(i:Nat) (f:Field),l[i]? = some f->DataW.trod enc P W 0 spare held m f.type ((cs.drop f.offset).take (P.cellsOf f.type))=xs[i]?) ->
   ∃x:Aa τ,AN W (fun q=>q<W.heap.size) τ x (cs.drop o)/\∀y,(FX τ).2 (xs.map (·.1))=some y->x=y
 | [],o,τ,xs,hf,hx,hl,_=>by
  cases τ<;>simp[SW]at hf
  refine⟨(),?_,fun _ _=>rfl⟩
  show cs.drop o=[]
  apply List.drop_eq_nil_of_le
  simp[Shape.width]at hl
  omega
 |f::fs,o,τ,xs,hf,hx,hl,h=>by
  cases τ with
  |pair a b=>
   simp only[SW,ai,beq_iff_eq]at hf
   obtain⟨⟨⟨ho,hc⟩,hg⟩,hr⟩:=hf
   cases xs with
   |nil=>simp at hx
   |cons x0 xs=>
    have h0:=h 0 f rfl
    rw[ho,hc]at h0
    simp only[List.getElem?_cons_zero]at h0
    obtain⟨xa,ha,hua⟩:=ih f.type a _ x0.1 x0.2 hg h0
    simp only[Shape.width]at hl
    obtain⟨xb,hb,hub⟩:=aEi ih fs (o+a.width) b xs hr (by simpa using hx) (by rw[hl];omega) fun i g hi=>by
     have:=h (i+1) g (by simpa using hi)
     simpa using this
    refine⟨(xa,xb),⟨(cs.drop o).take a.width,cs.drop (o+a.width),?_,ha,hb⟩,fun y hy=>?_⟩
    ·rw[←List.drop_drop,List.take_append_drop]
    ·simp only[FX,List.map_cons]at hy
     split at hy
     ·rename_i e1 e2
      have:=hua _ e1;have:=hub _ e2
      subst_vars
      exact kl hy
     ·cases hy
  |_=>simp[SW]at hf
theorem gR:∀(n:Nat) (m:Nat) (t:TypeId) (τ:Shape) (cs:List Value) (d:DataW H) (p:List MemPlace),BN P n t τ=true->DataW.trod enc P W 0 spare held m t cs=some (d,p) ->
  ∃x:Aa τ,AN W (fun q=>q<W.heap.size) τ x cs/\∀y,(FX τ).1 d=some y->x=y
 |0,_,_,_,_,_,_,h,_=>by simp[BN]at h
 |n+1,m,t,τ,cs,d,p,h,ht=>by
  unfold BN at h
  split at h
  ·rename_i k hk
   cases τ with
   |int k' =>
    simp only[decide_eq_true_eq]at h
    subst h
    obtain⟨v,hv,hx,hw⟩:=DataW.trod_int hk ht
    simp only[dh]at hx
    refine⟨v,⟨hv,aVr hw⟩,fun y hy=>?_⟩
    rw[hx.1]at hy
    simp only[FX,if_true]at hy
    exact kl hy
   |_=>cases h
  ·rename_i hk
   cases τ with
   |bool=>
    obtain⟨v,hv,hx⟩:=DataW.trod_bool hk ht
    simp only[dh]at hx
    refine⟨v,hv,fun y hy=>?_⟩
    rw[hx.1]at hy
    simp only[FX]at hy
    exact kl hy
   |_=>cases h
  ·rename_i e hk
   cases τ with
   |slice σ=>
    simp only[ai,beq_iff_eq,decide_eq_true_eq]at h
    obtain⟨⟨hc,hpos⟩,hf⟩:=h
    rcases DataW.trod_slice hk ht with⟨hcs,hx⟩|⟨a,len,cap,elems,rest,m',rfl,hcs,hx,hb,hlc,hcap,hlen,hel,_⟩
    ·exact⟨[],⟨none,0,hcs,Nat.le_refl _,by decide,fun h=>absurd rfl h⟩,fun y hy=>by simp[FX]at hy⟩
    ·have each:∀i,i<len->∃x:Aa σ,∃ds,W.cells? 0 (a.add (i*P.cellsOf e)) (P.cellsOf e)=some ds/\AN W (fun q=>q<W.heap.size) σ x ds:=fun i hi=>by
      have:=hel i hi
      rw[bc (by omega),Option.bind_eq_some_iff]at this
      obtain⟨ds,h1,h2⟩:=this
      obtain⟨x,hx,_⟩:=gR n m' e σ ds (elems[i]'(by omega)).1 (elems[i]'(by omega)).2 hf h2
      exact⟨x,ds,h1,hx⟩
     obtain⟨xs,hxl,hxs⟩:=aDE len each
     refine⟨xs,⟨some a,cap,by rw[hxl];exact hcs,by omega,by unfold BQ;unfold maxLen at hcap;omega,fun hne=>?_⟩,fun y hy=>by simp[FX]at hy⟩
     have h0:0<xs.length:=List.length_pos_iff.2 hne
     obtain⟨ds0,hd0,_⟩:=hxs 0 xs[0] (bc h0)
     obtain⟨_,hl0,hc0⟩:=pm hd0
     have hz:a.add (0*P.cellsOf e)=a:=by simp[Addr.add]
     have hz':a.add 0=a:=by simp[Addr.add]
     rw[hz]at hc0
     have hc00:=hc0 0 (by omega)
     rw[hz',bc (by omega)]at hc00
     unfold qa at hc00
     split at hc00
     ·rename_i c T fz hheap
      split at hc00
      ·cases hc00
      ·rename_i hspot
       have hs:a.spot=none:=by simpa using hspot
       have hadd:∀q,a.add q=⟨a.block,a.off+q,none⟩:=fun q=>by
        unfold Addr.add
        split
        ·subst_vars;cases a;simp at hs;simp[hs]
        ·rfl
       have ha:a=⟨a.block,a.off,none⟩:=by cases a;simp at hs;simp[hs]
       refine⟨a.block,a.off,c,T,fz,by rw[←ha],?_,hheap,fun i x hi=>?_⟩
       ·exact(dc.1 hheap).1
       ·obtain⟨ds,hd,hr⟩:=hxs i x hi
        refine⟨ds,hr,fun j v hj=>?_⟩
        obtain⟨_,hl,hcj⟩:=pm hd
        have hjl:j<P.cellsOf e:=by rw[←hl];exact(aw.1 hj).1
        have:=hcj j hjl
        rw[hadd,hj]at this
        have hadd2:(⟨a.block,a.off+i*P.cellsOf e,none⟩:Addr).add j=⟨a.block,a.off+i*P.cellsOf e+j,none⟩:=by
         unfold Addr.add
         split
         ·subst_vars;rfl
         ·rfl
        rw[hadd2]at this
        unfold qa at this
        simp only[hheap]at this
        rw[hc]at this
        exact this
     ·cases hc00
   |_=>cases h
  ·rename_i fs hk
   simp only[ai,beq_iff_eq]at h
   obtain⟨hc,hf⟩:=h
   obtain⟨xs,m',rfl,hx,hl,hxl,hel⟩:=DataW.trod_struct hk ht
   simp only[dh]at hx
   obtain⟨x,h1,h2⟩:=aEi (fun t τ cs d p=>gR n m' t τ cs d p) fs.toList 0 τ xs hf (by simpa using hxl) (by rw[hl,hc];omega) fun i f hi=>hel i f (by simpa using hi)
   refine⟨x,by simpa using h1,fun y hy=>h2 y ?_⟩
   rw[hx.1]at hy
   cases τ with
   |pair a b=>exact hy
   |unit=>
    simp only[FX]at hy⊢
    split at hy
    ·rename_i e;simp only[DataW.agg.injEq]at e;rw[e]
    ·cases hy
   |_=>simp[FX]at hy
  ·cases h
end
end Vx
namespace Vx
open Go Go.RowKit Go.ChangeShapes Go.WideShapes
def S9(P:Program)(t:TypeId):Bool:=match P.underlying t with
 |some (.struct _)=>true
 |_=>false
def US(P:Program)(n:Nat):List TypeId->Ab->Bool
 | [],[]=>true
 |t::ts,(a,τ)::r=>BN P n t τ&&(a==S9 P t)&&US P n ts r
 |_,_=>false
section
variable {H:Type}{enc:TypeId×Value->H}{P:Program}{W:World}
theorem aMi{n:Nat}{t:TypeId}{τ:Shape}{r:Reach}{b0:Nat}{v:Value}(hf:BN P n t τ=true)(hs:S9 P t=false)(hv:oh P W r b0 t v):v.cells.toList=[v]:=by
 cases n with
 |zero=>simp[BN]at hf
 |succ n=>
  unfold BN at hf;split at hf
  ·rename_i k hk;obtain⟨_,rfl⟩:=okWide_int hk hv;rfl
  ·rename_i hk;obtain⟨_,rfl⟩:=okWide_bool hk hv;rfl
  ·rename_i e hk;obtain⟨_,_,_,rfl⟩:=okWide_slice hk hv;rfl
  ·rename_i fs hk;simp[S9,hk]at hs
  ·cases hf
theorem aMU{S:Nat->Prop}{a:Bool}{τ:Shape}{x:Aa τ}{y:Value}(ho:J9 a τ=false)(h:D0 W S a τ x y):FZ W S a τ x y []:=by
 cases τ with
 |slice e=>
  cases a with
  |true=>cases ho
  |false=>exact⟨rfl,h⟩
 |_=>exact⟨rfl,h⟩
theorem aDi{n:Nat}{sp:Nat->Bool}{held:Bool}{b0:Nat}:∀(ts:List TypeId) (I:Ab) (vs:List Value) (ds:List (DataW H)) (ps:List MemPlace),US P n ts I=true ->
  (∀(j:Nat) (t:TypeId) (v:Value),ts[j]? = some t->vs[j]? = some v->oh P W .any b0 t v)->DataW.TrodAll enc P W 0 sp held ts vs ds ps->∃x:DenS I,Ct W (fun q=>q<W.heap.size) I x vs []/\wfS I x/\ds.length=ts.length
 | [],[],vs,ds,ps,_,_,h=>by
  cases vs<;>cases ds<;>simp[DataW.TrodAll]at h
  exact⟨(),⟨rfl,rfl⟩,trivial,rfl⟩
 | [],_::_,_,_,_,hf,_,_=>by simp[US]at hf
 |_::_,[],_,_,_,hf,_,_=>by simp[US]at hf
 |t::ts,(a,τ)::I,vs,ds,ps,hf,hv,h=>by
  cases vs with
  |nil=>simp[DataW.TrodAll]at h
  |cons v vs=>
   cases ds with
   |nil=>simp[DataW.TrodAll]at h
   |cons d ds=>
    obtain⟨p,q,⟨m,hp⟩,hq,_⟩:=h
    simp only[US,ai,beq_iff_eq]at hf
    obtain⟨⟨h1,h2⟩,h3⟩:=hf
    obtain⟨x,hx,hw,hl⟩:=aDi ts I vs ds q h3 (fun j t v ht hv'=>hv (j+1) t v (by simpa using ht) (by simpa using hv')) hq
    obtain⟨y,hy,_⟩:=gR n m t τ _ d p h1 hp
    have hok:=hv 0 t v rfl rfl
    refine⟨(y,x),⟨v,vs,[],[],rfl,rfl,aMU ?_ ?_,hx⟩,⟨hy.wfD,hw⟩,by simp[hl]⟩
    ·cases τ with
     |slice σ=>
      show a=false
      rw[h2]
      cases n with
      |zero=>simp[BN]at h1
      |succ n=>
       unfold BN at h1
       unfold S9
       split at h1<;>rename_i hk<;>first|(rw[hk];done)|(simp only[hk];done)|(simp[SW]at h1;done)|skip
     |_=>rfl
    cases a with
    |true=>
     have hs:S9 P t=true:=h2.symm
     unfold S9 at hs
     split at hs
     ·rename_i fs hk
      unfold oh at hok
      rw[hk]at hok
      obtain⟨cs,rfl,_⟩:=hok
      exact⟨cs.toList,by simp,hy⟩
     ·cases hs
    |false=>
     have hs:S9 P t=false:=h2.symm
     rw[aMi h1 hs hok]at hy
     exact hy
theorem aIt(hl:laidOutB P=true){W':World}(hb:Below W.heap.size W W'):∀(ts:List TypeId) (vs:List Value) (ds:List (DataW H)) (ps:List MemPlace),(ts.all fun t=>P.readableRec t&&decide (t<P.types.size))=true ->
  DataW.TrodAll enc P W 0 (fun _=>true) true ts vs ds ps->(∀x∈ps,x.block<W.heap.size)->DataW.TrodAll enc P W' 0 (fun b=>decide (b<W.heap.size)) true ts vs ds ps
 | [],vs,ds,ps,_,h,_=>by
  cases vs<;>cases ds<;>simp[DataW.TrodAll]at h⊢
  exact h
 |t::ts,vs,ds,ps,hr,h,hlt=>by
  cases vs with
  |nil=>simp[DataW.TrodAll]at h
  |cons v vs=>
   cases ds with
   |nil=>simp[DataW.TrodAll]at h
   |cons d ds=>
    obtain⟨p,q,hp,hq,rfl⟩:=h
    simp only[List.all_cons,ai,decide_eq_true_eq]at hr
    exact⟨p,q,Below.trod hl hr.1.1 hr.1.2 hp hb (fun x hx=>hlt x (cz.2 (.inl hx))),
     aIt hl hb ts vs ds q hr.2 hq (fun x hx=>hlt x (cz.2 (.inr hx))),rfl⟩
theorem glob_of{n:String}{g:Nat}{t e:TypeId}{m k:Nat}{τ:Shape}{ds:List (DataW Unit)}{xs:List (Aa τ)}{r:List (String×DataW Unit)}{ps:List MemPlace}
  (hL:DataW.LaidVars P W ((n,.agg ds)::r) ps) (hg:P.globalNamed n=some g) (ht:(P.globals[g]?).map (·.type)=some t) (hu:P.underlying t=some (.array m e)) (hc:P.cellsOf e=τ.width) (hf:BN P k e τ=true)
  (hx:ds.map (FX τ).1=xs.map some) :
  (g<W.heap.size/\∃vs T fz,W.heap[g]? = some (.cells vs T fz)/\Rows W (fun q=>q<W.heap.size) τ vs 0 xs)/\∃ps',DataW.LaidVars P W r ps':=by
 obtain⟨g',t',cs,fuel,p,q,h1,h2,h3,h4,h5,_⟩:=hL;rw[hg]at h1;cases h1;rw[ht]at h2;cases h2;refine⟨?_,q,h5⟩;unfold World.var? at h3;rw[hg]at h3;simp only[Option.bind_some]at h3;split at h3
 ·rename_i c T fz hh;cases h3;refine⟨(dc.1 hh).1,cs,T,fz,hh,?_⟩;obtain⟨ys,m',rfl,hy,hl,hyl,hel⟩:=DataW.trod_array hu h4;simp only[dh,DataW.agg.injEq]at hy;intro i x hi;have hxl:xs.length=m:=by
   have:=congrArg List.length hx;simp[hy.1,hyl]at this;omega
  have him:i<m:=by rw[←hxl];exact(aw.1 hi).1
  have he:=hel i him;have hyi:ys[i]? = some (ys[i]'(by omega)):=bc (by omega);rw[hyi,hc]at he;obtain⟨x',h6,h7⟩:=gR k m' e τ _ _ _ hf he;have hd:(FX τ).1 (ys[i]'(by omega)).1=some x:=by
   have:=congrArg (·[i]?) hx;simp only[List.getElem?_map,hy.1,hyi,hi,Option.map_some]at this;exact kl this
  have:=h7 x hd;subst this;refine⟨_,h6,fun j v hj=>?_⟩;rw[List.getElem?_take]at hj;split at hj
  ·rw[List.getElem?_drop]at hj;simpa using hj
  ·cases hj
 ·cases h3
theorem aTS {G : List (Nat × Sigma fun τ => List (Aa τ))} {f : FuncId} {I : Ab} {T : DenS I -> Option (DenS [(false, .bool)])} {d : DenS [(false, .bool)]} (hS : Sound P G f (Aj I [(false, .bool)] T d)) {x : DenS I} (hT : T x = some (true, ())) (hcal : ∃ fn, P.funcs[f]? = some fn /\ fn.body.isNone = false /\ (fn.name == "runtime.NumGoroutine") = false) {W : World} {args : Array Value}
  (hG:GlobsOk G W fun q=>q<W.heap.size) (ha:Ct W (fun q=>q<W.heap.size) I x args.toList []):Calls P f args W fun e W'=>e=.returned (.bool true)/\Below W.heap.size W W':=by
 have:=hS.calls x (by show(T x).isSome=true;rw[hT];rfl) W (fun q=>q<W.heap.size) args.toList [] (fun q h=>h) hG ha List.nodup_nil (fun r h=>by simp at h)
 rw[Array.toArray_toList]at this
 have this:=this.resolve_right (fun⟨v,hv,_⟩=>by rw[i9 hcal]at hv;cases hv)
 refine this.2.mono fun e W' ⟨zs,rs',he,hb,_,_,hz⟩=>⟨?_,⟨hb.os,hb.tape,hb.output,hb.size,fun k hk=>hb.block k hk (fun h=>by simp at h)⟩⟩
 obtain⟨y,ys,r1,r2,rfl,_,⟨_,h1⟩,rfl,_⟩:=hz
 have h2:[y]=[Value.bool ((T x).getD d).1]:=h1
 rw[hT]at h2
 cases h2
 exact he
theorem law_post{G:List (Nat×Sigma fun τ=>List (Aa τ))}{f:FuncId}{fn:Func}{I:Ab}{T:DenS I->Option (DenS [(false,.bool)])}{d:DenS [(false,.bool)]}{s:ChangeSpec}{n:Nat}{tb:TypeId}
  (hS : Sound P G f (Aj I [(false, .bool)] T d)) (hT : ∀ x, wfS I x -> T x = some (true, ())) (hcal : ∃ fn, P.funcs[f]? = some fn /\ fn.body.isNone = false /\ (fn.name == "runtime.NumGoroutine") = false) (hlay : laidOutB P = true) (hfit : US P n fn.params.toList I = true)
  (hread:(fn.params.toList.all fun t=>P.readableRec t&&decide (t<P.types.size))=true) (hres:fn.resultTypes=#[tb]) (hbool:P.underlying tb=some .bool) (hvars:s.vars=[])
  (hspec:∀ds:List (DataW H),ds.length=fn.params.toList.length->s.fn H ds={results:=[.lit (.bool true)],args:=ds})
  {W:World} {base:Nat} {args:Array Value} {ds gs:List (DataW H)} {before:List MemPlace}
  (hval:∀(j:Nat) (t:TypeId) (v:Value),fn.params[j]? = some t->args[j]? = some v->oh P W .any base t v)
  (hW:DataW.Whole enc P fn.params.toList s.vars false W args.toList ds gs before) (hG:GlobsOk G W fun q=>q<W.heap.size) :
  Calls P f args W fun e W'=>∃v,e=.returned v/\ChangeSpec.post enc P fn s false true false false W args v W':=by
 have hW':=hW
 obtain⟨p,q,hA,hV,rfl,_,_⟩:=hW
 rw[hvars]at hV
 obtain⟨rfl,rfl⟩:=trodVars_none hV
 obtain⟨x,hx,hw,hlen⟩:=aDi (b0:=base) fn.params.toList I args.toList ds p hfit (fun j t v ht hv=>hval j t v (by simpa using ht) (by simpa using hv)) hA
 refine(aTS hS (hT x hw) hcal hG hx).mono fun e W' ⟨he,hb⟩=>⟨.bool true,he,ds,[],p++[],[],p,[],hW',?_,?_,?_,hb.frame _,fun h=>by cases h⟩
 ·rw[dp,hspec ds hlen,hres]
  exact trodAll_mk1 (shut_bool hbool true)
 ·rw[dp,hspec ds hlen]
  exact aIt hlay hb _ _ _ _ hread hA fun y hy=>by simpa using hW'.lt y (by simpa using hy)
 ·rw[dp,hspec ds hlen,hvars]
  rfl
end
theorem globs_nil{W:World}{S:Nat->Prop}:GlobsOk [] W S:=fun _ _ _ h=>by simp[MK]at h
theorem globs_cons{W:World}{S:Nat->Prop}{g:Nat}{τ:Shape}{xs:List (Aa τ)}{G:List (Nat×Sigma fun τ=>List (Aa τ))}(h:S g/\∃vs T fz,W.heap[g]? = some (.cells vs T fz)/\Rows W S τ vs 0 xs)(r:GlobsOk G W S):
  GlobsOk ((g,⟨τ,xs⟩)::G) W S:=fun g' τ' xs' hf=>by
 simp only[MK]at hf
 cases hb:Nat.beq g g' with
 |true=>
  have:=Nat.eq_of_beq_eq_true hb
  subst this
  rw[hb]at hf
  simp only[cond_true,af]at hf
  cases hf
  exact h
 |false=>
  rw[hb]at hf
  exact r g' τ' xs' hf
end Vx
end
