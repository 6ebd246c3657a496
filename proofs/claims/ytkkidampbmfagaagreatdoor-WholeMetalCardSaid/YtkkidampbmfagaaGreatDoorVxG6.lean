/- Part 6 of the proof. What is proved: symbolic execution of the functions, proved sound; what each function of the program computes, and that every run ends with it; what these functions compute, in plain numbers. Conditions: each theorem bears its own. -/
import Derived.Test.YtkkidampbmfagaaGreatDoorVxG5
import Ieee.Arith
set_option linter.all false
set_option exponentiation.threshold 1000000
noncomputable section
namespace VL
open Go Vx
theorem UZ {f:Int} {a:Nat} (h:Aj f a=0):R8 (f,(a:Int),())=some (sF f a,(eF f a:Int),(mF f a:Int),0,()):=by
 obtain ⟨hf,h0⟩:=Ca h
 have ha:=DJ h
 show YK Aw.pre Aw.F C0.pre C0.F f a=_
 unfold YK
 have p0:=IU f a ha
 have p2:=Zr hf a ha
 have hr1:decide (0<=f)=true:=decide_eq_true hf.1
 have hr2:decide (f<((4:Nat):Int))=true:=decide_eq_true hf.2
 simp only [fV hf,hr1,hr2,HW p0,HN p0,fE p2,cS p2,h,cond_true,bne_self_eq_false,cond_false]
theorem jP {f:Int} {a:Nat} (h:Aj f a=0):R3 (f,BL f,(a:Int),())=some ((sF f a,(Af f a:Int),Ag f a,()),()):=by
 obtain ⟨hf,h0⟩:=Ca h
 show YG Cz.pre Cz.F f (BL f) a=_
 unfold YG
 have h1:=BD hf
 have h3:=Eu hf
 have h4:=Jx hf
 have hE:=V6 hf a
 have hM:=HP f a
 have hPp:2^(fP f-1)<=2^52:=Nat.pow_le_pow_right (by decide) (by omega)
 have p0:=UZ h
 have r1:(BL f).2.1=(fP f:Int):=rfl
 have r2:(BL f).2.2.1=1-(fX f:Int):=rfl
 have e0:IntKind.wrap .i64 ((fP f:Int)-1)=((fP f-1:Nat):Int):=Bq _ (by omega)
 have e1:IntKind.wrap .i64 (IntKind.wrap .i64 ((1-(fX f:Int))-(fP f:Int))+1)=1-(fX f:Int)-(fP f:Int)+1:=by
  rw [Au (n:=_-(fP f:Int)) (by omega),Au (by omega)]
 have e2:IntKind.wrap .i64 (eF f a:Int)=(eF f a:Int):=Au (by omega)
 have e3:Bp .u64 1 ((fP f-1:Nat):Int)=((2^(fP f-1):Nat):Int):=Qv (by omega)
 have e4:Bz .u64 (mF f a:Int) ((2^(fP f-1):Nat):Int)=((mF f a+2^(fP f-1):Nat):Int):=by
  have:=JM (a:=mF f a) (b:=1) (k:=fP f-1) hM (by omega)
  rwa [Nat.one_mul] at this
 simp only [W6 p0,Wv p0,cond_true,r1,r2,e0,e1,e2,e3,e4,AU]
 by_cases hz:eF f a=0
 ·have hg:decide ((eF f a:Int)>0)=false:=decide_eq_false (by omega)
  have hm:Af f a=mF f a:=by unfold Af; rw [if_pos hz]
  have hx:Ag f a=1-(fX f:Int)-(fP f:Int)+1:=by unfold Ag; rw [if_pos hz,Int.add_zero]
  rw [hg,cond_false,hm,hx]
 ·have hg:decide ((eF f a:Int)>0)=true:=decide_eq_true (by omega)
  have hm:Af f a=mF f a+2^(fP f-1):=by unfold Af; rw [if_neg hz]
  have hx:IntKind.wrap .i64 ((1-(fX f:Int)-(fP f:Int)+1)+IntKind.wrap .i64 ((eF f a:Int)-1))=Ag f a:=by
   unfold Ag; rw [if_neg hz,Au (n:=(eF f a:Int)-1) (by omega),Au (by omega)]
  rw [hg,cond_true,hm,hx]
theorem VQ (f:Int) (a:Nat):(A4 f a==2||A4 f a==9)=Ao f a:=by
 unfold A4 Ao
 cases eF f a==Av f <;> cases eF f a==0 <;> cases mF f a==0 <;> cases sF f a <;> cases mF f a/2^(fP f-2) != 0 <;> rfl
theorem aB7 (f:Int) (a b:Nat):((Ao f a&&Ao f b)&&(A4 f a != A4 f b))=((Ao f a&&Ao f b)&&!(sF f a==sF f b)):=by
 unfold A4 Ao
 cases eF f a==Av f <;> cases mF f a==0 <;> cases eF f b==Av f <;> cases mF f b==0 <;> first | rfl | (cases sF f a <;> cases sF f b <;> rfl)
theorem Ri (f m:Int) {a b:Nat} (ha:a<2^64) (hb:b<2^64):Nw (f,m,(a:Int),(b:Int),())=some (C8 f m a b):=by
 show XZ AE.pre AE.F Cx.pre Cx.F CJ.pre CJ.F Mx.pre Mx.F Mw.pre Mw.F f m a b=_
 unfold XZ C8
 by_cases hf:Fm f
 ·rw [if_pos hf]
  have p0:=Nx hf
  simp only [HX p0,HO p0,cond_true,bne_self_eq_false,cond_false]
  by_cases hm:0<=m/\m<=5
  ·have hmm:(decide (m<0)||decide (m>5))=false:=by
    rw [decide_eq_false (p:=m<0) (by omega),decide_eq_false (p:=m>5) (by omega)]; rfl
   rw [if_pos hm,hmm,cond_false]
   have c4:∀ x:Nat,Aj f x≠0->Aj f x=4:=fun x h=>by
    unfold Aj at h ⊢
    rw [if_pos hf] at h ⊢
    split at h
    ·exact absurd rfl h
    ·rename_i h1; rw [if_neg h1]
   by_cases hca:Aj f a=0
   ·have p1:=RZ ha hca
    by_cases hcb:Aj f b=0
    ·have p2:=RZ hb hcb
     rw [if_pos ⟨hca,hcb⟩]
     have p3:=UV hf
     have p4:=jP hca
     have p5:=jP hcb
     have p6:=aA3 hf hm (sF f a) (Af f a) (Ag f a) (sF f b) (Af f b) (Ag f b) (GE hf a) (GE hf b) (Of hf a) (Of hf b)
     simp only [JQ p1,JD p1,JQ p2,JD p2,cond_true,bne_self_eq_false,cond_false,W2 p3,Wp p3,uW p4,q8 p4,uW p5,q8 p5,aF4 p6,aDF p6,VQ,aB7]
     unfold SF
     rw [← VR,← VR,← SQ,← SQ]
     generalize ((Ao f a&&Ao f b)&&!(sF f a==sF f b))=w1
     generalize Ao f a=w2
     generalize Ao f b=w3
     generalize (A4 f a==0)=x1
     generalize (A4 f b==0)=x2
     generalize (A4 f a==1)=x3
     generalize (A4 f b==1)=x4
     cases x1 <;> cases x2 <;> cases x3 <;> cases x4 <;> cases w1 <;> cases w2 <;> cases w3 <;> rfl
    ·have p2:=Zq hb hcb
     rw [if_neg (fun h=>hcb h.2)]
     have hne:(Aj f b != 0)=true:=by simpa using hcb
     simp only [JQ p1,JD p1,JQ p2,JD p2,cond_true,bne_self_eq_false,cond_false,hne]
     rw [c4 b hcb]
   ·have p1:=Zq ha hca
    rw [if_neg (fun h=>hca h.1)]
    have hne:(Aj f a != 0)=true:=by simpa using hca
    simp only [JQ p1,JD p1,cond_true,hne]
    rw [c4 a hca]
  ·rw [if_neg hm]
   have:(decide (m<0)||decide (m>5))=true:=by
    by_cases h:m<0
    ·rw [decide_eq_true h]; rfl
    ·rw [decide_eq_true (p:=m>5) (by omega),Bool.or_true]
   rw [this]; rfl
 ·rw [if_neg hf]
  have p0:=R1 hf
  simp only [HX p0,HO p0]
  rfl
theorem aAE (f m:Int) {a b:Nat} (ha:a<2^64) (hb:b<2^64):Rh (f,m,(a:Int),(b:Int),())=some (DM f m a b):=by
 show XY Aw.pre Aw.F Mu.pre Mu.F Dj.pre Dj.F f m a b=_
 unfold XY DM
 have p0:=IU f b hb
 by_cases h:Aj f b=0
 ·have p1:=aA2 h
  have p2:=Ri f m ha (aEw h)
  rw [if_pos h]
  simp only [HW p0,HN p0,h,beq_self_eq_true,cond_true,aF3 p1,aDE p1,TJ p2,Tf p2]
 ·have p2:=Ri f m ha hb
  have hne:(Aj f b==0)=false:=by simpa using h
  rw [if_neg h]
  simp only [HW p0,HN p0,cond_true,hne,cond_false,TJ p2,Tf p2]
end VL
namespace VL
open Go Vx
theorem rM (f:Int) (neg:Bool):Bv f neg=AK f+AZ f neg:=by
 unfold Bv AK Av; rw [Nat.mul_comm]
theorem VA (f:Int) (s:Bool) (x:Nat):x+AZ f s=B2 f s x:=by
 unfold B2 AZ; cases s <;> rfl
theorem Tn {f:Int} (hf:Fm f):AK f=(2*fX f+1)*2^(fP f-1):=by
 unfold AK Av; rw [← S5 hf,Nat.mul_comm]
theorem dQ {f:Int} (hf:Fm f) {a:Nat} (h:AT f a<=AK f):nan f a=false:=by
 unfold nan
 rw [DX hf,Ez hf]
 by_cases he:AT f a/2^(fP f-1)=Av f
 ·have hdm:=Nat.div_add_mod (AT f a) (2^(fP f-1))
  rw [he] at hdm
  unfold AK at h
  have:AT f a%2^(fP f-1)=0:=by omega
  rw [this]; simp
 ·simp [he]
def Du (f m:Int) (neg:Bool) (n:Nat) (e:Int):Nat×Nat :=
 if AA n e>fX f then ((if Oc m neg then AK f else AK f-1),20)
 else
  let q:=B8 f (AA n e)
  let u:=BS m neg n e q false
  if q+Ab u-1>fX f then ((if Oc m neg then AK f else AK f-1),20)
  else ((q-(1-(fX f:Int)-fP f+1)).toNat*2^(fP f-1)+u,
   if DC n e q false=0 then 0 else if D2 f m neg n e false then 24 else 16)
theorem cZ {f:Int} (hf:Fm f):1<=AK f:=by
 rw [Tn hf]
 exact Nat.mul_pos (by omega) (Nat.two_pow_pos _)
theorem nQ {f m:Int} (hf:Fm f) (neg:Bool):Pn f m neg=B2 f neg (if Oc m neg then AK f else AK f-1):=by
 have:=cZ hf
 unfold Pn
 rw [rM,← VA]
 split <;> omega
theorem N6 {f:Int} (hf:Fm f) (m:Int) (neg:Bool) (n:Nat) (e:Int):At f m neg n e false=(B2 f neg (Du f m neg n e).1,(Du f m neg n e).2):=by
 unfold At Du
 by_cases h:AA n e>fX f
 ·rw [if_pos h,if_pos h,nQ hf]
 ·rw [if_neg h,if_neg h]
  dsimp only
  by_cases h2:B8 f (AA n e)+(Ab (BS m neg n e (B8 f (AA n e)) false):Int)-1>fX f
  ·rw [if_pos h2,if_pos h2,nQ hf]
  ·rw [if_neg h2,if_neg h2]
   dsimp only
   rw [VA]
theorem aD5 (f:Int) (hf:Fm f) (t:Int) (ht:¬ t>fX f):t-(fP f:Int)+1<=B8 f t/\1-(fX f:Int)-(fP f:Int)+1<=B8 f t/\B8 f t<=(fX f:Int)-(fP f:Int)+1:=by
 have:=Gz hf
 unfold B8; split <;> refine ⟨?_,?_,?_⟩ <;> omega
theorem aH8 {f m:Int} (hf:Fm f) {neg:Bool} {n:Nat} {e:Int} (h1:¬ AA n e>fX f) (h2:¬ B8 f (AA n e)+(Ab (BS m neg n e (B8 f (AA n e)) false):Int)-1>fX f) :
  (B8 f (AA n e)-(1-(fX f:Int)-fP f+1)).toNat*2^(fP f-1)+BS m neg n e (B8 f (AA n e)) false<AK f:=by
 obtain ⟨g1,g2,g3⟩:=aD5 f hf _ h1
 have hu:=aCh (m:=m) (neg:=neg) hf g1
 generalize B8 f (AA n e)=q at *
 generalize BS m neg n e q false=u at *
 have hP:=BD hf
 have hX:=Gz hf
 have hpp:=Nat.two_pow_pos (fP f-1)
 have h2p:2^fP f=2*2^(fP f-1):=by rw [← Nat.pow_succ',Nat.succ_eq_add_one,Nat.sub_add_cancel (by omega)]
 rw [Tn hf]
 obtain ⟨k,hk⟩:=Int.eq_ofNat_of_zero_le (show 0<=q-(1-(fX f:Int)-(fP f:Int)+1) by omega)
 rw [hk,Int.toNat_natCast]
 rcases Nat.lt_or_ge u (2^fP f) with h | h
 ·have hk2:k+2<=2*fX f+1:=by omega
  have:=Nat.mul_le_mul_right (2^(fP f-1)) hk2
  rw [Nat.add_mul] at this
  omega
 ·have hb:fP f+1<=Ab u:=E2 h
  have hk2:k+3<=2*fX f+1:=by omega
  have:=Nat.mul_le_mul_right (2^(fP f-1)) hk2
  rw [Nat.add_mul] at this
  omega
theorem vG {f:Int} (hf:Fm f) (m:Int) (neg:Bool) (n:Nat) (e:Int):(Du f m neg n e).1<=AK f:=by
 unfold Du
 by_cases h:AA n e>fX f
 ·rw [if_pos h]; dsimp only; split <;> omega
 ·rw [if_neg h]
  dsimp only
  by_cases h2:B8 f (AA n e)+(Ab (BS m neg n e (B8 f (AA n e)) false):Int)-1>fX f
  ·rw [if_pos h2]; dsimp only; split <;> omega
  ·rw [if_neg h2]
   exact Nat.le_of_lt (aH8 hf h h2)
theorem Tl {f:Int} (hf:Fm f):AK f<2^(fW f-1):=by have:=rQ hf; omega
theorem aEd {f:Int} (s:Bool) {x:Nat} (hx:x<2^(fW f-1)):Ay f (B2 f s x)=bif s then -(x:Int) else x:=by
 unfold Ay
 rw [Tx s hx,dN s hx]
theorem aEb {f:Int} (hf:Fm f) (s:Bool) {x:Nat} (hx:x<=AK f):nan f (B2 f s x)=false :=
 dQ hf (by rw [Tx s (Nat.lt_of_le_of_lt hx (Tl hf))]; exact hx)
theorem aH9 {f m:Int} (hf:Fm f) {a:Nat} (h:Aj f a=0) (hfin:eF f a≠Av f) (h0:Af f a≠0):At f m (sF f a) (Af f a) (Ag f a) false=(a,0):=by
 have hP:=BD hf
 have hX:=Gz hf
 have hpp:=Nat.two_pow_pos (fP f-1)
 have h2p:2^fP f=2*2^(fP f-1):=by rw [← Nat.pow_succ',Nat.succ_eq_add_one,Nat.sub_add_cancel (by omega)]
 have hM:=HP f a
 have hEl:eF f a<Av f:=Nat.lt_of_le_of_ne (bJ a) hfin
 have hfull:Av f=2*fX f+1:=by unfold Av; rw [← S5 hf]
 have habs:=HE hf a
 have hpat:=WQ h
 rw [N6 hf]
 have key:Du f m (sF f a) (Af f a) (Ag f a)=(AT f a,0):=by
  have hbits:∃ t,AA (Af f a) (Ag f a)=t/\t<=fX f/\B8 f t=Ag f a/\Ag f a+(Ab (Af f a):Int)-1=t:=by
   refine ⟨_,rfl,?_,?_,rfl⟩
   ·unfold AA Ag
    by_cases he:eF f a=0
    ·have hm:Af f a=mF f a:=by unfold Af; rw [if_pos he]
     have:=Cj (n:=Af f a) (k:=fP f-1) (by rw [hm]; exact hM)
     rw [if_pos he]; omega
    ·have hm:Af f a=mF f a+2^(fP f-1):=by unfold Af; rw [if_neg he]
     have:=Cj (n:=Af f a) (k:=fP f) (by rw [hm]; omega)
     rw [if_neg he]; omega
   ·unfold B8 AA Ag
    by_cases he:eF f a=0
    ·have hm:Af f a=mF f a:=by unfold Af; rw [if_pos he]
     have hb:=Cj (n:=Af f a) (k:=fP f-1) (by rw [hm]; exact hM)
     rw [if_pos he,if_pos (by omega)]; omega
    ·have hm:Af f a=mF f a+2^(fP f-1):=by unfold Af; rw [if_neg he]
     have hb:=Cj (n:=Af f a) (k:=fP f) (by rw [hm]; omega)
     have hb2:=E2 (n:=Af f a) (k:=fP f-1) (by rw [hm]; omega)
     rw [if_neg he]
     by_cases h1:eF f a=1
     ·rw [h1]; split <;> omega
     ·rw [if_neg (by omega)]; omega
  obtain ⟨t,ht,ht2,hlow,htb⟩:=hbits
  have hcut:DC (Af f a) (Ag f a) (Ag f a) false=0:=by rw [MJ,TR (Int.le_refl _)]
  have hcn:BS m (sF f a) (Af f a) (Ag f a) (Ag f a) false=Af f a:=by
   unfold BS
   rw [if_neg (fun hh=>hh.1 hcut),TN (Int.le_refl _),Int.sub_self]
   simp
  unfold Du
  rw [ht,if_neg (by omega),hlow]
  dsimp only
  rw [hcn,if_neg (by omega),hcut,if_pos rfl]
  congr 1
  rw [habs]
  unfold Ag Af
  by_cases he:eF f a=0
  ·rw [if_pos he,if_pos he,he,Nat.mul_zero,Int.add_zero,Int.sub_self]
   simp
  ·rw [if_neg he,if_neg he]
   rw [show (1-(fX f:Int)-(fP f:Int)+1+((eF f a:Int)-1)-(1-(fX f:Int)-(fP f:Int)+1)).toNat=eF f a-1 by omega]
   obtain ⟨k,hk⟩:∃ k,eF f a=k+1:=⟨eF f a-1,by omega⟩
   rw [hk,Nat.add_sub_cancel,Nat.mul_add,Nat.mul_one,Nat.mul_comm k]
   omega
 rw [key]
 dsimp only
 rw [← hpat]
theorem aDQ {f:Int} (hf:Fm f) {a b:Nat} (ha:Aj f a=0) (hb:Aj f b=0) (h1:Ao f a=true) (h2:Ao f b=true) (hs:sF f a=sF f b):a=b:=by
 have e1:AT f a=AK f:=(rN hf a).2 (by unfold Ao at h1; simpa using h1)
 have e2:AT f b=AK f:=(rN hf b).2 (by unfold Ao at h2; simpa using h2)
 rw [WQ ha,WQ hb,e1,e2,hs]
end VL
namespace VL
open Go Vx
def qm (f:Int):Int:=1-(fX f:Int)-(fP f:Int)+1
def A7 (m:Int) (neg:Bool) (n j:Nat):Nat :=
 if Cq (n%2^j) j≠0/\CR m neg (decide (n/2^j%2=1)) (Cq (n%2^j) j)=true then n/2^j+1 else n/2^j
def Ed (f m:Int) (neg:Bool) (n:Nat):Nat:=if n<2^fP f then n else (Ab n-fP f)*2^(fP f-1)+A7 m neg n (Ab n-fP f)
def Tu (f m:Int) (neg:Bool):Nat:=if Oc m neg then AK f else AK f-1
theorem MI (m:Int) (neg:Bool) (n j:Nat):n/2^j<=A7 m neg n j/\A7 m neg n j<=n/2^j+1:=by
 unfold A7; split <;> omega
theorem Xa {f:Int} (hf:Fm f) {n:Nat} (h:¬ n<2^fP f):1<=Ab n-fP f/\2^(fP f-1)<=n/2^(Ab n-fP f)/\n/2^(Ab n-fP f)<2^fP f:=by
 have hP:=BD hf
 have hb:=E2 (n:=n) (k:=fP f) (by omega)
 obtain ⟨j,hj⟩:∃ j,Ab n=fP f+j:=⟨Ab n-fP f,by omega⟩
 have h1:=Eq n
 have h2:=Gu (n:=n) (by have:=Nat.two_pow_pos (fP f); omega)
 rw [hj] at h1 h2 ⊢
 rw [Nat.add_sub_cancel_left]
 refine ⟨by omega,?_,?_⟩
 ·rw [Nat.le_div_iff_mul_le (Nat.two_pow_pos _),← Nat.pow_add]
  refine Nat.le_trans (Nat.pow_le_pow_right (by decide) ?_) h2
  omega
 ·rw [Nat.div_lt_iff_lt_mul (Nat.two_pow_pos _),← Nat.pow_add]
  exact h1
theorem M9 {f:Int} (hf:Fm f):2^fP f=2*2^(fP f-1):=by
 have hP:=BD hf
 rw [← Nat.pow_succ',Nat.succ_eq_add_one,Nat.sub_add_cancel (by omega)]
theorem fR {f:Int} (hf:Fm f) (m:Int) (neg:Bool) {n:Nat} (h0:n≠0) :
  Du f m neg n (qm f)=if AK f<=Ed f m neg n then (Tu f m neg,20) else (Ed f m neg n,if n<2^fP f then 0 else if Cq (n%2^(Ab n-fP f)) (Ab n-fP f)=0 then 0 else 16):=by
 have hP:=BD hf
 have hX:=Gz hf
 have h2p:=M9 hf
 have hpp:=Nat.two_pow_pos (fP f-1)
 have hinf:=Tn hf
 have hb1:=VK h0
 have htop:AA n (qm f)=qm f+(Ab n:Int)-1:=rfl
 have hqm:qm f=1-(fX f:Int)-(fP f:Int)+1:=rfl
 unfold Du
 by_cases h:n<2^fP f
 ·have hb:=Cj h
  have hlow:B8 f (AA n (qm f))=qm f:=by unfold B8; split <;> omega
  have hmu:Ed f m neg n=n:=by unfold Ed; rw [if_pos h]
  have hcut:DC n (qm f) (qm f) false=0:=by rw [MJ,TR (Int.le_refl _)]
  have hcn:BS m neg n (qm f) (qm f) false=n:=by
   unfold BS
   rw [if_neg (fun hh=>hh.1 hcut),TN (Int.le_refl _),Int.sub_self]
   simp
  have hlt:2*2^(fP f-1)<=(2*fX f+1)*2^(fP f-1):=Nat.mul_le_mul_right _ (by omega)
  rw [if_neg (show ¬ AA n (qm f)>fX f by omega),hlow,hmu,if_neg (show ¬ AK f<=n by omega)]
  dsimp only
  rw [hcn,if_neg (show ¬ qm f+(Ab n:Int)-1>fX f by omega),hcut,if_pos rfl,if_pos h,← hqm,Int.sub_self]
  simp
 ·obtain ⟨hj1,hq1,hq2⟩:=Xa hf h
  have hblen:(Ab n:Int)=(fP f:Int)+((Ab n-fP f:Nat):Int):=by omega
  obtain ⟨hc1,hc2⟩:=MI m neg n (Ab n-fP f)
  have hmu:Ed f m neg n=(Ab n-fP f)*2^(fP f-1)+A7 m neg n (Ab n-fP f):=by unfold Ed; rw [if_neg h]
  rw [hmu,if_neg h]
  have hlow:B8 f (AA n (qm f))=qm f+((Ab n-fP f:Nat):Int):=by unfold B8; rw [if_neg (by omega)]; omega
  have htiny:¬ D2 f m neg n (qm f) false:=fun hh=>by have:=hh.1; omega
  have hcr:DC n (qm f) (qm f+((Ab n-fP f:Nat):Int)) false=Cq (n%2^(Ab n-fP f)) (Ab n-fP f):=by
   rw [MJ,TQ (by omega),show (qm f+((Ab n-fP f:Nat):Int)-qm f).toNat=Ab n-fP f by omega]
  have hcn:BS m neg n (qm f) (qm f+((Ab n-fP f:Nat):Int)) false=A7 m neg n (Ab n-fP f):=by
   unfold BS A7
   rw [hcr,TM (by omega),show (qm f+((Ab n-fP f:Nat):Int)-qm f).toNat=Ab n-fP f by omega]
  rw [hlow]
  dsimp only
  rw [hcn,hcr,show (qm f+((Ab n-fP f:Nat):Int)-(1-(fX f:Int)-(fP f:Int)+1)).toNat=Ab n-fP f by omega]
  generalize Ab n-fP f=j at *
  generalize A7 m neg n j=u at *
  generalize n/2^j=Q at *
  by_cases ht:AA n (qm f)>fX f
  ·have hj2:2*fX f+1<=j+1:=by omega
   have:=Nat.mul_le_mul_right (2^(fP f-1)) hj2
   rw [Nat.add_mul j,Nat.one_mul] at this
   rw [if_pos ht,if_pos (show AK f<=j*2^(fP f-1)+u by omega)]
   rfl
  ·rw [if_neg ht]
   rcases Nat.lt_or_ge u (2^fP f) with hu | hu
   ·have hbu:=Cj hu
    have hj2:j+2<=2*fX f+1:=by omega
    have:=Nat.mul_le_mul_right (2^(fP f-1)) hj2
    rw [Nat.add_mul] at this
    rw [if_neg (show ¬ qm f+(j:Int)+(Ab u:Int)-1>fX f by omega),if_neg (show ¬ AK f<=j*2^(fP f-1)+u by omega),if_neg htiny]
   ·have hbu:=E2 hu
    have hbu2:=Cj (n:=u) (k:=fP f+1) (by rw [Nat.pow_succ]; omega)
    by_cases hj2:j+3<=2*fX f+1
    ·have:=Nat.mul_le_mul_right (2^(fP f-1)) hj2
     rw [Nat.add_mul] at this
     rw [if_neg (show ¬ qm f+(j:Int)+(Ab u:Int)-1>fX f by omega),if_neg (show ¬ AK f<=j*2^(fP f-1)+u by omega),if_neg htiny]
    ·have hj3:2*fX f+1<=j+2:=by omega
     have:=Nat.mul_le_mul_right (2^(fP f-1)) hj3
     rw [Nat.add_mul j] at this
     rw [if_pos (show qm f+(j:Int)+(Ab u:Int)-1>fX f by omega),if_pos (show AK f<=j*2^(fP f-1)+u by omega)]
     rfl
theorem aBR {n k:Nat} (h:n<=k):Ab n<=Ab k:=Cj (Nat.lt_of_le_of_lt h (Eq k))
theorem aB5 {r r' j:Nat} (h:r<=r'):Cq r j<=Cq r' j:=by
 unfold Cq
 generalize 2^(j-1)=H
 by_cases h0:r=0
 ·rw [if_pos h0]; exact Nat.zero_le _
 rw [if_neg h0,if_neg (show ¬ r'=0 by omega)]
 by_cases h1:r'<H
 ·rw [if_pos (show r<H by omega),if_pos h1]; exact Nat.le_refl _
 rw [if_neg h1]
 by_cases h2:r'=H
 ·rw [if_pos h2]
  split
  ·decide
  ·rw [if_pos (by omega)]; exact Nat.le_refl _
 ·rw [if_neg h2]
  split
  ·decide
  ·split <;> decide
theorem aB4 (r j:Nat):Cq r j<=3:=by
 unfold Cq
 split
 ·decide
 ·split
  ·decide
  ·split <;> decide
theorem aJm {m:Int} (hm:0<=m/\m<=5) (neg odd:Bool) {c c':Nat} (h:c<=c') (hc':c'<=3) (hu:c≠0/\CR m neg odd c=true):c'≠0/\CR m neg odd c'=true:=by
 obtain ⟨h0,h1⟩:=hu
 refine ⟨by omega,?_⟩
 rcases (show c=1∨c=2∨c=3 by omega) with rfl | rfl | rfl <;> rcases (show c'=1∨c'=2∨c'=3 by omega) with rfl | rfl | rfl <;> rcases aEf hm with rfl | rfl | rfl | rfl | rfl | rfl <;> cases neg <;> cases odd <;> first | rfl | (exfalso; omega) | (revert h1; decide)
theorem aCe {m:Int} (hm:0<=m/\m<=5) (neg:Bool) {n k j:Nat} (h:n<=k):A7 m neg n j<=A7 m neg k j:=by
 have hq:n/2^j<=k/2^j:=Nat.div_le_div_right h
 have h1:=MI m neg n j
 have h2:=MI m neg k j
 rcases Nat.lt_or_ge (n/2^j) (k/2^j) with hlt | hge
 ·omega
 ·have he:n/2^j=k/2^j:=by omega
  have hr:n%2^j<=k%2^j:=by
   have a1:=Nat.div_add_mod n (2^j)
   have a2:=Nat.div_add_mod k (2^j)
   rw [he] at a1
   omega
  unfold A7
  rw [he]
  have hu:=aJm hm neg (decide (k/2^j%2=1)) (aB5 (j:=j) hr) (aB4 _ _)
  split
  ·rename_i hh
   rw [if_pos (hu hh)]
   omega
  ·split <;> omega
theorem aEi {f m:Int} (hf:Fm f) (hm:0<=m/\m<=5) (neg:Bool) {n k:Nat} (h:n<=k):Ed f m neg n<=Ed f m neg k:=by
 have h2p:=M9 hf
 unfold Ed
 by_cases h1:n<2^fP f
 ·by_cases h2:k<2^fP f
  ·rw [if_pos h1,if_pos h2]; exact h
  ·obtain ⟨hj1,hq1,_⟩:=Xa hf h2
   have hc:=(MI m neg k (Ab k-fP f)).1
   have:=Nat.mul_le_mul_right (2^(fP f-1)) hj1
   rw [if_pos h1,if_neg h2]; omega
 ·have h2:¬ k<2^fP f:=by omega
  obtain ⟨hj1,hq1,hq2⟩:=Xa hf h1
  obtain ⟨hj1',hq1',hq2'⟩:=Xa hf h2
  have hc:=MI m neg n (Ab n-fP f)
  have hc':=MI m neg k (Ab k-fP f)
  have hb:=aBR h
  rw [if_neg h1,if_neg h2]
  rcases Nat.lt_or_ge (Ab n-fP f) (Ab k-fP f) with hlt | hge
  ·have:=Nat.mul_le_mul_right (2^(fP f-1)) hlt
   rw [Nat.succ_eq_add_one,Nat.add_mul] at this
   omega
  ·have he:Ab n-fP f=Ab k-fP f:=by omega
   rw [he]
   have:=aCe hm neg (j:=Ab k-fP f) h
   omega
def NY (f m:Int) (neg:Bool) (n:Nat):Nat:=if n=0 then 0 else (Du f m neg n (qm f)).1
def N3 (f m:Int) (S:Int):Int:=if S<0 then -(NY f m true S.natAbs:Int) else (NY f m false S.natAbs:Int)
theorem tA {f m:Int} (hf:Fm f) (hm:0<=m/\m<=5) (neg:Bool) {n k:Nat} (h:n<=k):NY f m neg n<=NY f m neg k:=by
 unfold NY
 by_cases h0:n=0
 ·rw [if_pos h0]; exact Nat.zero_le _
 ·rw [if_neg h0,if_neg (by omega),fR hf m neg h0,fR hf m neg (by omega)]
  have hmm:=aEi hf hm neg h
  have hp:=cZ hf
  unfold Tu
  by_cases h1:AK f<=Ed f m neg n
  ·rw [if_pos h1,if_pos (show AK f<=Ed f m neg k by omega)]
   exact Nat.le_refl _
  ·rw [if_neg h1]
   by_cases h2:AK f<=Ed f m neg k
   ·rw [if_pos h2]
    dsimp only
    split <;> omega
   ·rw [if_neg h2]
    exact hmm
theorem aFk {f m:Int} (hf:Fm f) (hm:0<=m/\m<=5) {S T:Int} (h:S<=T):N3 f m S<=N3 f m T:=by
 unfold N3
 by_cases hS:S<0
 ·rw [if_pos hS]
  by_cases hT:T<0
  ·rw [if_pos hT]
   have:=tA hf hm true (n:=T.natAbs) (k:=S.natAbs) (by omega)
   omega
  ·rw [if_neg hT]; omega
 ·rw [if_neg hS,if_neg (by omega)]
  have:=tA hf hm false (n:=S.natAbs) (k:=T.natAbs) (by omega)
  omega
end VL
namespace VL
open Go Vx
theorem SY {f:Int} (hf:Fm f) (a:Nat):eF f (Cc f a)=eF f a:=by rw [DX hf,DX hf,WI]
theorem WD {f:Int} (hf:Fm f) (a:Nat):mF f (Cc f a)=mF f a:=by rw [Ez hf,Ez hf,WI]
theorem rP {f:Int} (hf:Fm f) (a:Nat):Ao f (Cc f a)=Ao f a:=by unfold Ao; rw [SY hf,WD hf]
theorem tB {f:Int} (hf:Fm f) (a:Nat):Af f (Cc f a)=Af f a:=by unfold Af; rw [SY hf,WD hf]
theorem xM {f:Int} (hf:Fm f) (a:Nat):Ag f (Cc f a)=Ag f a:=by unfold Ag; rw [SY hf]
theorem aFh {f:Int} (hf:Fm f) {a:Nat} (h:Ay f a≠0):Af f a≠0:=fun hm=>by
 have habs:AT f a≠0:=fun h0=>h (by unfold Ay; rw [h0]; cases sF f a <;> rfl)
 have hpp:=Nat.two_pow_pos (fP f-1)
 unfold Af at hm
 split at hm
 ·rename_i he
  exact habs ((xQ hf a).2 ⟨he,hm⟩)
 ·omega
end VL
namespace VL
open Go Vx
def vI (f:Int) (neg:Bool) (X:Nat) (e:Int):Int:=bif neg then -((X*2^(e-qm f).toNat:Nat):Int) else ((X*2^(e-qm f).toNat:Nat):Int)
theorem vM {f:Int} (hf:Fm f) (m:Int) (neg:Bool) {N:Nat} (hN:N≠0) {e:Int} (he:qm f<=e) :
  At f m neg N e false=(B2 f neg (Du f m neg (N*2^(e-qm f).toNat) (qm f)).1,(Du f m neg (N*2^(e-qm f).toNat) (qm f)).2):=by
 have h:=JS (f:=f) (m:=m) (neg:=neg) hf hN (e-qm f).toNat (qm f)
 rw [show qm f+((e-qm f).toNat:Int)=e by omega] at h
 rw [← h,N6 hf]
end VL
namespace VL
open Go Vx
theorem Dx (f:Int) (a:Nat):qm f<=Ag f a:=by
 unfold Ag qm
 split <;> omega
def sl (V:Nat->Int) (i:Nat):List Int:=[if 0<i then V 0 else 0,if 1<i then V 1 else 0,if 2<i then V 2 else 0,if 3<i then V 3 else 0,if 4<i then V 4 else 0,if 5<i then V 5 else 0]
end VL
namespace VL
open Go Vx
def vA (f:Int) (a:Nat):Int:=vI f (sF f a) (Af f a) (Ag f a)
theorem aFl (f m:Int):N3 f m 0=0:=by
 unfold N3 NY
 rw [if_neg (by omega)]
 rfl
theorem m8 {f:Int} (hf:Fm f) {a:Nat} (h:AT f a=0):Af f a=0:=by
 have h0:=(xQ hf a).1 h
 unfold Af; rw [if_pos h0.1]; exact h0.2
theorem v6 {f:Int} (hf:Fm f) {a:Nat} (ha:Aj f a=0) (fa:eF f a≠Av f):Ay f a=N3 f 0 (vA f a):=by
 by_cases h0:Af f a=0
 ·have hv:vA f a=0:=by
   unfold vA vI; rw [h0,Nat.zero_mul]; cases sF f a <;> rfl
  rw [hv,aFl]
  by_cases hp:Ay f a=0
  ·exact hp
  ·exact absurd h0 (aFh hf hp)
 ·have hr:=aH9 (m:=0) hf ha fa h0
  rw [vM hf 0 (sF f a) h0 (Dx f a)] at hr
  have h1:B2 f (sF f a) (Du f 0 (sF f a) (Af f a*2^(Ag f a-qm f).toNat) (qm f)).1=a:=congrArg Prod.fst hr
  have hn0:Af f a*2^(Ag f a-qm f).toNat≠0:=Nat.ne_of_gt (Nat.mul_pos (by omega) (Nat.two_pow_pos _))
  have hle:=vG hf 0 (sF f a) (Af f a*2^(Ag f a-qm f).toNat) (qm f)
  have h2:Ay f a=Ay f (B2 f (sF f a) (Du f 0 (sF f a) (Af f a*2^(Ag f a-qm f).toNat) (qm f)).1):=by rw [h1]
  rw [h2,aEd _ (Nat.lt_of_le_of_lt hle (Tl hf))]
  unfold vA vI N3 NY
  generalize Af f a*2^(Ag f a-qm f).toNat=n at *
  cases sF f a
  ·simp only [cond_false]
   rw [if_neg (show ¬ ((n:Int)<0) by omega),Int.natAbs_natCast,if_neg hn0]
  ·simp only [cond_true]
   rw [if_pos (show (-(n:Int)<0) by omega),Int.natAbs_neg,Int.natAbs_natCast,if_neg hn0]
theorem uA (f:Int) (a:Nat):(Ay f a).natAbs=AT f a:=by
 unfold Ay; cases sF f a <;> simp
theorem aIJ {f:Int} (hf:Fm f) {a b:Nat} (h:Ay f a=Ay f b):vA f a=vA f b:=by
 have habs:AT f a=AT f b:=by rw [← uA,← uA,h]
 by_cases h0:AT f a=0
 ·have e1:=m8 hf h0
  have e2:=m8 hf (habs ▸ h0)
  unfold vA vI
  rw [e1,e2,Nat.zero_mul,Nat.zero_mul]
  cases sF f a <;> cases sF f b <;> rfl
 ·have hs:sF f a=sF f b:=by
   unfold Ay at h
   rw [habs] at h h0
   cases h1:sF f a <;> cases h2:sF f b <;> rw [h1,h2] at h <;> simp only [cond_true,cond_false] at h <;> first | rfl | omega
  have he:eF f a=eF f b:=by rw [DX hf,DX hf,habs]
  have hm:mF f a=mF f b:=by rw [Ez hf,Ez hf,habs]
  unfold vA Af Ag
  rw [hs,he,hm]
end VL
namespace VL
open Go Vx
def tz (n:Nat):Nat:=if n=0 then 0 else if n%2=1 then 0 else tz (n/2)+1
termination_by n
decreasing_by omega
theorem YQ:∀ (t k:Nat),tz (2^t*(2*k+1))=t
 | 0,k=>by
  rw [tz,Nat.pow_zero,Nat.one_mul,if_neg (by omega),if_pos (by omega)]
 | t+1,k=>by
  have e:2^(t+1)*(2*k+1)=2*(2^t*(2*k+1)):=by rw [Nat.pow_succ,Nat.mul_comm (2^t) 2,Nat.mul_assoc]
  have hp:0<2^t*(2*k+1):=Nat.mul_pos (Nat.two_pow_pos t) (by omega)
  have ih:=YQ t k
  rw [e]
  generalize 2^t*(2*k+1)=n at *
  rw [tz,if_neg (by omega),if_neg (by omega),show 2*n/2=n by omega,ih]
theorem T9 {n:Nat} (h:n≠0):∃ k,n=2^tz n*(2*k+1):=by
 obtain ⟨t,k,e⟩:=gQ (x:=n) (by omega)
 refine ⟨k,?_⟩
 have:=YQ t k
 rw [← e] at this
 rw [this]; exact e
theorem aJo {x i t k r:Nat} (hx:x=2^t*(2*k+1)) (ht:t<64):(2^64)^i*(x+2^64*r)=2^(64*i+t)*(2*(k+2^(64-t-1)*r)+1):=by
 have h1:2^64=2^t*(2^(64-t-1)*2):=by rw [← Nat.pow_succ,← Nat.pow_add]; congr 1; omega
 rw [CB,hx,Nat.pow_add,Nat.mul_assoc]
 congr 1
 rw [h1,Nat.mul_assoc,← Nat.mul_add]
 congr 1
 rw [Nat.mul_assoc,Nat.mul_left_comm]
 omega
abbrev gX:=Aa (.pair (.bool) (.pair (.slice (.int .u64)) (.pair (.int .i64) (.unit))))
def dy (s:Bool) (n:Nat) (e:Int):gX:=(s,Dw n,e,())
theorem pH:dy false 0 0=(false,[],0,()):=by unfold dy; rw [D5]
theorem fI (i:Nat) (h:i<=1000000):Cm .i64 ((64*i:Nat):Int) 64=(i:Int):=by
 rw [W9 _ (by omega),show 64*i/64=i by omega]
theorem aA5 (n:Nat) (h0:n≠0) (hl:(dg (2^64) n).length<=1000000) (M:Nl Fo.mem) :
  Sb (((0:Int),(Dw n,((),((),())))),M)=some (.inl ((((64*(tz n/64):Nat):Int),(Dw n,((),((),())))),M)):=by
 have key:=DH (r9 CC.pre CC.F Bu.pre Bu.F C5.pre C5.F) (fun x=>(dg (2^64) n).length-x.1.1.toNat/64)
  (fun x=>∃ i:Nat,i<=(dg (2^64) n).length/\nv (2^64) ((dg (2^64) n).take i)=0/\x=((((64*i:Nat):Int),(Dw n,((),((),())))),M))
  (fun _=>.inl ((((64*(tz n/64):Nat):Int),(Dw n,((),((),())))),M)) ?_ (((0:Int),(Dw n,((),((),())))),M) ⟨0,Nat.zero_le _,rfl,rfl⟩
 ·exact key
 intro L x hx hL
 obtain ⟨i,hi,hz,rfl⟩:=hx
 have hnv:=B9 n
 have ha:=Gx (B:=2^64) (by decide) n
 have hlt:i<(dg (2^64) n).length:=by
  rcases Nat.lt_or_ge i (dg (2^64) n).length with h | h
  ·exact h
  ·rw [List.take_of_length_le h,hnv] at hz; exact absurd hz h0
 unfold PA
 have e64:IntKind.wrap .i64 (((64*i:Nat):Int)+64)=((64*(i+1):Nat):Int):=by rw [Au (by omega)]; omega
 have hxl:=Cs (by decide) ha i
 unfold Dw at hL ⊢
 rcases Nat.eq_zero_or_pos ((dg (2^64) n).getD i 0) with hw | hw
 ·simp (disch:=omega) only [fI,B4,BO,B5,BP,Bq,B6,BK,BJ,BZ,BY,BX,BW,BU,BT,B1,B0,BV,BE,AU,Bx,AX,Bf,BC,Int.toNat_natCast,Int.toNat_zero,cond_true,cond_false,Bool.and_self,Bool.true_and,Bool.and_true,Bool.false_and,Bool.and_false,Bool.not_true,Bool.not_false,Bool.or_self,Bool.true_or,Bool.or_true,Bool.false_or,Bool.or_false,AC,Ci,e64]
  refine hL _ ⟨i+1,by omega,?_,rfl⟩ (by simp only [Int.toNat_natCast]; omega)
  rw [WM _ _ _ hlt,hz,hw,Nat.mul_zero]
 ·simp (disch:=omega) only [fI,B4,BO,B5,BP,Bq,B6,BK,BJ,BZ,BY,BX,BW,BU,BT,B1,B0,BV,BE,AU,Bx,AX,Bf,BC,Int.toNat_natCast,Int.toNat_zero,cond_true,cond_false,Bool.and_self,Bool.true_and,Bool.and_true,Bool.false_and,Bool.and_false,Bool.not_true,Bool.not_false,Bool.or_self,Bool.true_or,Bool.or_true,Bool.false_or,Bool.or_false,AC,Ci]
  obtain ⟨t,k,e⟩:=gQ hw
  have ht:t<64:=by
   have h1:2^t*1<=2^t*(2*k+1):=Nat.mul_le_mul_left _ (by omega)
   exact (Nat.pow_lt_pow_iff_right (a:=2) (by decide)).1 (by omega)
  have hv:n=(2^64)^i*((dg (2^64) n).getD i 0+2^64*nv (2^64) ((dg (2^64) n).drop (i+1))):=by
   have h1:=JJ (2^64) (dg (2^64) n) i hi
   rw [hnv,hz,Nat.zero_add,Qd _ _ _ hlt] at h1
   exact h1
  rw [aJo e ht] at hv
  have htz:tz n=64*i+t:=by rw [hv]; exact YQ _ _
  rw [htz,show (64*i+t)/64=i by omega]
theorem aAl (s:Bool) (l:List Nat) (hl:Ws l) (e:Int) (he:-100000000<=e/\e<=100000000) :
  Nn ((s,Wd l,e,()),())=some (if nv (2^64) l=0 then dy false 0 0 else dy s (nv (2^64) l/2^tz (nv (2^64) l)) (e+tz (nv (2^64) l)),()):=by
 show Xl CC.pre CC.F Bu.pre Bu.F C5.pre C5.F Sb (s,Wd l,e,())=_
 unfold Xl
 dsimp only
 have p0:=Zh l hl
 simp only [WT p0,Wf p0,cond_true]
 have hlt:=Dr (B:=2^64) (by decide) l hl.1
 have hll:=hl.2
 generalize hn:nv (2^64) l=n at *
 have hdl:(dg (2^64) n).length<=1000000:=Nat.le_trans (Da (by decide) _ _ hlt) hll
 by_cases h0:n=0
 ·subst h0
  rw [D5,if_pos rfl,pH]; rfl
 ·have hlen:(((Dw n).length:Int)==0)=false:=AX _ (by have:=Om h0; omega)
  rw [hlen,cond_false,if_neg h0]
  have hw:=aA5 n h0 hdl ((s,Wd l,e,()),(false,[],0,()),())
  rw [show Sb (((0:Int),(Dw n,((),((),())))),((s,Wd l,e,()),((false,([],((0:Int),()))),())))=_ from hw]
  dsimp only [Bh,Bi]
  obtain ⟨k,hk⟩:=T9 h0
  have htl:tz n/64<(dg (2^64) n).length:=by
   rcases Nat.lt_or_ge (tz n/64) (dg (2^64) n).length with h | h
   ·exact h
   ·exfalso
    have h1:=Pt (B:=2^64) (by decide) n
    rw [CB] at h1
    have h2:2^(64*(dg (2^64) n).length)<=2^tz n:=Nat.pow_le_pow_right (by decide) (by omega)
    have h3:2^tz n*1<=2^tz n*(2*k+1):=Nat.mul_le_mul_left _ (by omega)
    omega
  have hword:∃ k',(dg (2^64) n).getD (tz n/64) 0=2^(tz n%64)*(2*k'+1):=by
   have h1:(dg (2^64) n).getD (tz n/64) 0=n/(2^64)^(tz n/64)%2^64:=by
    have h2:dg (2^64) n=pd (2^64) (dg (2^64) n).length n:=WR (by decide) (Gx (by decide) n) rfl (B9 n)
    rw [h2,WS _ _ _ _ htl]
   have h3:n/(2^64)^(tz n/64)=2^(tz n%64)*(2*k+1):=by
    have h4:2^tz n=(2^64)^(tz n/64)*2^(tz n%64):=by rw [CB,← Nat.pow_add]; congr 1; omega
    have h5:n=(2^64)^(tz n/64)*(2^(tz n%64)*(2*k+1)):=by rw [← Nat.mul_assoc,← h4]; exact hk
    have h6:=Nat.mul_div_cancel_left (2^(tz n%64)*(2*k+1)) (show 0<(2^64)^(tz n/64) from Nat.pow_pos (by decide))
    rw [← h5] at h6
    exact h6
   rw [h1,h3]
   have hr:tz n%64<64:=Nat.mod_lt _ (by decide)
   generalize tz n%64=r at *
   have h6:2^64=2^r*(2^(64-r-1)*2):=by rw [← Nat.pow_succ,← Nat.pow_add]; congr 1; omega
   rw [h6,Nat.mul_mod_mul_left]
   refine ⟨(2*k+1)%(2^(64-r-1)*2)/2,?_⟩
   congr 1
   have h7:(2*k+1)%(2^(64-r-1)*2)%2=(2*k+1)%2:=Nat.mod_mod_of_dvd _ ⟨_,Nat.mul_comm _ _⟩
   omega
  obtain ⟨k',hk'⟩:=hword
  have hwl:=Cs (B:=2^64) (by decide) (Gx (by decide) n) (tz n/64)
  have p1:=UX (t:=tz n%64) (k:=k') (by rw [← hk']; exact hwl)
  rw [← hk'] at p1
  have p2:=iY (dg (2^64) n) (oR n hdl) (tz n) (by omega)
  rw [B9] at p2
  have e1:IntKind.wrap .i64 (((64*(tz n/64):Nat):Int)+((tz n%64:Nat):Int))=(tz n:Int):=by rw [Au (by omega)]; omega
  have e2:IntKind.wrap .i64 (e+(tz n:Int))=e+(tz n:Int):=Au (by omega)
  have hg:decide (((tz n/64:Nat):Int)<((dg (2^64) n).length:Int))=true:=decide_eq_true (by omega)
  unfold Dw at *
  simp (disch:=omega) only [fI,B4,BO,B5,BP,Bq,B6,BK,BJ,BZ,BY,BX,BW,BU,BT,B1,B0,BV,BE,AU,Bx,AX,Bf,BC,Int.toNat_natCast,Int.toNat_zero,cond_true,cond_false,Bool.and_self,Bool.true_and,Bool.and_true,Bool.false_and,Bool.and_false,Bool.not_true,Bool.not_false,Bool.or_self,Bool.true_or,Bool.or_true,Bool.false_or,Bool.or_false,AC,Ci,W4 p1,Wt p1,e1,JO p2,JB p2,e2]
  rfl
theorem aAk (s:Bool) {n:Nat} (hn:n<(2^64)^5000) (e:Int) (he:-100000000<=e/\e<=100000000) :
  Nn (dy s n e,())=some (if n=0 then dy false 0 0 else dy s (n/2^tz n) (e+tz n),()):=by
 have:=aAl s (dg (2^64) n) (CX hn) e he
 rw [B9] at this
 exact this
theorem aJk (k:Nat):tz (2*k+1)=0:=by have:=YQ 0 k; rwa [Nat.pow_zero,Nat.one_mul] at this
end VL
namespace VL
open Go Vx
theorem aBb (a b:List Nat) (ha:∀ x∈a,x<2^64) (hb:∀ x∈b,x<2^64) (hla:a.length<=1000000) (hab:a.length=b.length) :
  U2 ((Wd a,(Wd b,((a.length:Int)-1,()))),())=some (if nv (2^64) a=nv (2^64) b then .inl ((),()) else .inr (((if nv (2^64) a<nv (2^64) b then (-1:Int) else 1),()),())):=by
 have key:=DH (sG Ah.pre Ah.F) (fun x=>(x.1.2.2.1+1).toNat)
  (fun x=>∃ j:Nat,j<=a.length/\nv (2^64) (a.drop j)=nv (2^64) (b.drop j)/\x=((Wd a,(Wd b,((j:Int)-1,()))),()))
  (fun _=>if nv (2^64) a=nv (2^64) b then .inl ((),()) else .inr (((if nv (2^64) a<nv (2^64) b then (-1:Int) else 1),()),())) ?_ ((Wd a,(Wd b,((a.length:Int)-1,()))),())
  ⟨a.length,Nat.le_refl _,by rw [List.drop_length,hab,List.drop_length],rfl⟩
 ·exact key
 intro L x hx hL
 obtain ⟨j,hj,hd,rfl⟩:=hx
 unfold PI
 rcases j with _ | i
 ·have e1:decide ((((0:Nat):Int)-1)>=0)=false:=rfl
  rw [List.drop_zero,List.drop_zero] at hd
  simp only [e1,cond_false,if_pos hd]
 ·have e0:(((i+1:Nat):Int)-1)=(i:Int):=by omega
  have e2:IntKind.wrap .i64 ((i:Int)-1)=(i:Int)-1:=Au (by omega)
  have e3:decide ((i:Int)>=0)=true:=decide_eq_true (by omega)
  simp (disch:=omega) only [e0,e2,e3,B4,BO,B5,BP,Bq,B6,BK,BJ,BZ,BY,BX,BW,BU,BT,B1,B0,BV,BE,AU,Bx,AX,Bf,BC,Int.toNat_natCast,Int.toNat_zero,cond_true,cond_false,Bool.and_self,Bool.true_and,Bool.and_true,Bool.false_and,Bool.and_false,Bool.not_true,Bool.not_false,Bool.or_self,Bool.true_or,Bool.or_true,Bool.false_or,Bool.or_false,AC,Ci]
  rcases Nat.lt_trichotomy (a.getD i 0) (b.getD i 0) with h | h | h
  ·have hr:=M4 (by decide) ha (by omega) (by omega) hd h
   simp (disch:=omega) only [B4,BO,B5,BP,Bq,B6,BK,BJ,BZ,BY,BX,BW,BU,BT,B1,B0,BV,BE,AU,Bx,AX,Bf,BC,Int.toNat_natCast,Int.toNat_zero,cond_true,cond_false,Bool.and_self,Bool.true_and,Bool.and_true,Bool.false_and,Bool.and_false,Bool.not_true,Bool.not_false,Bool.or_self,Bool.true_or,Bool.or_true,Bool.false_or,Bool.or_false]
   rw [if_neg (by omega),if_pos hr]
  ·simp (disch:=omega) only [B4,BO,B5,BP,Bq,B6,BK,BJ,BZ,BY,BX,BW,BU,BT,B1,B0,BV,BE,AU,Bx,AX,Bf,BC,Int.toNat_natCast,Int.toNat_zero,cond_true,cond_false,Bool.and_self,Bool.true_and,Bool.and_true,Bool.false_and,Bool.and_false,Bool.not_true,Bool.not_false,Bool.or_self,Bool.true_or,Bool.or_true,Bool.false_or,Bool.or_false]
   refine hL _ ⟨i,by omega,?_,rfl⟩ (by simp only [Int.toNat_natCast]; omega)
   rw [Qd _ a i (by omega),Qd _ b i (by omega),hd,h]
  ·have hr:=M4 (by decide) hb (by omega) (by omega) hd.symm h
   simp (disch:=omega) only [B4,BO,B5,BP,Bq,B6,BK,BJ,BZ,BY,BX,BW,BU,BT,B1,B0,BV,BE,AU,Bx,AX,Bf,BC,Int.toNat_natCast,Int.toNat_zero,cond_true,cond_false,Bool.and_self,Bool.true_and,Bool.and_true,Bool.false_and,Bool.and_false,Bool.not_true,Bool.not_false,Bool.or_self,Bool.true_or,Bool.or_true,Bool.false_or,Bool.or_false]
   rw [if_neg (by omega),if_neg (by omega)]
theorem OJ {x:Nat} (hx:x<(2^64)^5000):Ns (Dw x,())=some (Dw x,()):=by
 have:=Dz (dg (2^64) x) (CX hx).2
 rw [ML (by decide)] at this
 exact this
theorem Zm {x y:Nat} (hx:x<(2^64)^5000) (hy:y<(2^64)^5000):Q7 (Dw x,Dw y,())=some (if x=y then 0 else if x<y then -1 else 1,()):=by
 show XF Ah.pre Ah.F U2 (Dw x) (Dw y)=_
 unfold XF
 have p0:=OJ hx
 have p1:=OJ hy
 have hX:=CX hx
 have hY:=CX hy
 have hlx:=hX.2
 simp only [CS p0,CQ p0,CS p1,CQ p1,cond_true]
 clear p0 p1
 rcases Nat.lt_trichotomy (dg (2^64) x).length (dg (2^64) y).length with h | h | h
 ·have hr:=bG (by decide) h
  unfold Dw
  simp (disch:=omega) only [B4,BO,B5,BP,Bq,B6,BK,BJ,BZ,BY,BX,BW,BU,BT,B1,B0,BV,BE,AU,Bx,AX,Bf,BC,Int.toNat_natCast,Int.toNat_zero,cond_true,cond_false,Bool.and_self,Bool.true_and,Bool.and_true,Bool.false_and,Bool.and_false,Bool.not_true,Bool.not_false,Bool.or_self,Bool.true_or,Bool.or_true,Bool.false_or,Bool.or_false,AC]
  rw [if_neg (by omega),if_pos hr]
 ·have hw:=aBb _ _ hX.1 hY.1 hlx h
  rw [B9,B9] at hw
  have e2:IntKind.wrap .i64 (((dg (2^64) x).length:Int)-1)=((dg (2^64) x).length:Int)-1:=Au (by omega)
  unfold Dw
  simp (disch:=omega) only [B4,BO,B5,BP,Bq,B6,BK,BJ,BZ,BY,BX,BW,BU,BT,B1,B0,BV,BE,AU,Bx,AX,Bf,BC,Int.toNat_natCast,Int.toNat_zero,cond_true,cond_false,Bool.and_self,Bool.true_and,Bool.and_true,Bool.false_and,Bool.and_false,Bool.not_true,Bool.not_false,Bool.or_self,Bool.true_or,Bool.or_true,Bool.false_or,Bool.or_false,AC,e2,hw]
  by_cases he:x=y
  ·rw [if_pos he,if_pos he]; first | rfl | skip
  ·rw [if_neg he,if_neg he]; first | rfl | skip
 ·have hr:=bG (by decide) h
  unfold Dw
  simp (disch:=omega) only [B4,BO,B5,BP,Bq,B6,BK,BJ,BZ,BY,BX,BW,BU,BT,B1,B0,BV,BE,AU,Bx,AX,Bf,BC,Int.toNat_natCast,Int.toNat_zero,cond_true,cond_false,Bool.and_self,Bool.true_and,Bool.and_true,Bool.false_and,Bool.and_false,Bool.not_true,Bool.not_false,Bool.or_self,Bool.true_or,Bool.or_true,Bool.false_or,Bool.or_false,AC]
  rw [if_neg (by omega),if_neg (by omega)]
theorem TU {out a:List Nat} {i v:Nat} (hol:out.length=i) (h:i<a.length):(out++a.drop i).set i v=(out++[v])++a.drop (i+1):=by
 rw [List.set_append_right _ _ (by omega),hol,Nat.sub_self,List.drop_eq_getElem_cons h,List.set_cons_zero,List.append_assoc]
 rfl
theorem aDJ {out a:List Nat} {i:Nat} (hol:out.length=i):(out++a.drop i).getD i 0=a.getD i 0:=by
 rw [List.getD_eq_getElem?_getD,List.getElem?_append_right (by omega),hol,Nat.sub_self,List.getElem?_drop,Nat.add_zero,← List.getD_eq_getElem?_getD]
theorem aA8 (a b:List Nat) (ha:∀ x∈a,x<2^64) (hb:∀ x∈b,x<2^64) (hla:a.length<=1000000) (hba:b.length<=a.length) (hv:nv (2^64) b<=nv (2^64) a) :
  Sc (((a.length:Int),(Wd b,((0:Int),((0:Int),((),()))))),(Wd a,()))=some (.inl (((),()),(Wd (pd (2^64) a.length (nv (2^64) a-nv (2^64) b)),()))):=by
 have key:=DH (sC Bw.pre Bw.F AR.pre AR.F Ah.pre Ah.F) (fun x=>a.length-x.1.2.2.2.1.toNat)
  (fun x=>∃ (i:Nat) (out:List Nat) (c:Nat),i<=a.length/\out.length=i/\(∀ x∈out,x<2^64)/\c<=1/\nv (2^64) (a.take i)+(2^64)^i*c=nv (2^64) (b.take i)+nv (2^64) out /\
   x=(((a.length:Int),(Wd b,((c:Int),((i:Int),((),()))))),(Wd (out++a.drop i),())))
  (fun _=>.inl (((),()),(Wd (pd (2^64) a.length (nv (2^64) a-nv (2^64) b)),()))) ?_ (((a.length:Int),(Wd b,((0:Int),((0:Int),((),()))))),(Wd a,()))
  ⟨0,[],0,Nat.zero_le _,rfl,(fun x hx=>by simp at hx),by decide,by simp [nv],rfl⟩
 ·exact key
 intro L x hx hL
 obtain ⟨i,out,c,hi,hol,hod,hc,hov,rfl⟩:=hx
 unfold PF
 rcases Nat.lt_or_ge i a.length with hlt | hge
 ·have hxa:=Cs (by decide) ha i
  have hxb:=Cs (by decide) hb i
  have hna:=Ef (2^64) a i
  have hnb:=Ef (2^64) b i
  have hzb:b.length<=i->b.getD i 0=0:=fun h=>by rw [List.getD_eq_getElem?_getD,List.getElem?_eq_none h]; rfl
  have hset:=fun v=>TU (v:=v) hol hlt
  have hlen:(out++a.drop i).length=a.length:=by simp; omega
  have hget:=aDJ (a:=a) hol
  generalize hda:a.getD i 0=da at *
  generalize hdb:b.getD i 0=db at *
  have hgo:∀ c' v:Nat,c'<=1->v<2^64->da+2^64*c'=db+c+v->L (((a.length:Int),(Wd b,((c':Int),(((i+1:Nat):Int),((),()))))),(Wd (out++[v]++a.drop (i+1)),()))=_:=fun c' v h1 h2 h3 =>
   hL _ ⟨i+1,out++[v],c',by omega,by simp; omega,SL hod h2,h1,by
    rw [hna,hnb,TD,hol,Nat.pow_succ]
    exact aEa hov h3,rfl⟩ (by simp only [Int.toNat_natCast]; omega)
  have hgo2:=hgo (if da<db+c then 1 else 0) ((da+2^64-db-c)%2^64) (by split <;> omega) (Nat.mod_lt _ (by decide)) (by split <;> omega)
  have hF:=TZ da db c hc hxa hxb
  have hP:=T3 (da:Int) (db:Int) c hc
  rcases Nat.lt_or_ge i b.length with hib | hib
  ·simp (disch:=omega) only [B4,BO,B5,BP,Bq,B6,BK,BJ,BZ,BY,BX,BW,BU,BT,B1,B0,BV,BE,AU,Bx,AX,Bf,BC,Int.toNat_natCast,Int.toNat_zero,cond_true,cond_false,Bool.and_self,Bool.true_and,Bool.and_true,Bool.false_and,Bool.and_false,Bool.not_true,Bool.not_false,Bool.or_self,Bool.true_or,Bool.or_true,Bool.false_or,Bool.or_false,AC,Ci,hdb,hget,hF,hP,hlen,Ep,hset]
   exact hgo2
  ·have h0:=hzb hib
   rw [h0] at hF hP
   simp (disch:=omega) only [B4,BO,B5,BP,Bq,B6,BK,BJ,BZ,BY,BX,BW,BU,BT,B1,B0,BV,BE,AU,Bx,AX,Bf,BC,Int.toNat_natCast,Int.toNat_zero,cond_true,cond_false,Bool.and_self,Bool.true_and,Bool.and_true,Bool.false_and,Bool.and_false,Bool.not_true,Bool.not_false,Bool.or_self,Bool.true_or,Bool.or_true,Bool.false_or,Bool.or_false,AC,Ci,hget]
   have hF':AR.F ((da:Int),((0:Int),((c:Int),())))=_:=hF
   have hP':AR.pre ((da:Int),((0:Int),((c:Int),())))=true:=hP
   rw [h0] at hgo2
   simp (disch:=omega) only [B4,BO,B5,BP,Bq,B6,BK,BJ,BZ,BY,BX,BW,BU,BT,B1,B0,BV,BE,AU,Bx,AX,Bf,BC,Int.toNat_natCast,Int.toNat_zero,cond_true,cond_false,Bool.and_self,Bool.true_and,Bool.and_true,Bool.false_and,Bool.and_false,Bool.not_true,Bool.not_false,Bool.or_self,Bool.true_or,Bool.or_true,Bool.false_or,Bool.or_false,hF',hP',hlen,Ep,hset]
   exact hgo2
 ·have e:i=a.length:=by omega
  subst e
  rw [List.take_length,List.take_of_length_le hba] at hov
  have hlt:=Dr (B:=2^64) (by decide) out hod
  rw [hol] at hlt
  have hc0:(2^64)^a.length*c=0:=by
   rcases (show c=0∨c=1 by omega) with h | h
   ·rw [h,Nat.mul_zero]
   ·rw [h,Nat.mul_one] at hov; omega
  have ho:=WR (B:=2^64) (v:=nv (2^64) a-nv (2^64) b) (by decide) hod hol (by omega)
  rw [List.drop_length,List.append_nil]
  simp (disch:=omega) only [B4,BO,B5,BP,Bq,B6,BK,BJ,BZ,BY,BX,BW,BU,BT,B1,B0,BV,BE,AU,Bx,AX,Bf,BC,Int.toNat_natCast,Int.toNat_zero,cond_true,cond_false,Bool.and_self,Bool.true_and,Bool.and_true,Bool.false_and,Bool.and_false,Bool.not_true,Bool.not_false,Bool.or_self,Bool.true_or,Bool.or_true,Bool.false_or,Bool.or_false,AC]
  rw [← ho]
theorem iS (l:List Nat) (hl:Ws l):No (Wd l,())=some (Dw (nv (2^64) l),()):=by
 show Xs Ah.pre Ah.F (Wd l)=_
 unfold Xs
 have p0:=Dz l hl.2
 have hle:=(Dv l).1
 have h2:=hl.2
 have e3:decide ((((Ai l).length:Nat):Int)*8<=140737488355328)=true:=decide_eq_true (by omega)
 simp (disch:=omega) only [B4,BO,B5,BP,Bq,B6,BK,BJ,BZ,BY,BX,BW,BU,BT,B1,B0,BV,BE,AU,Bx,AX,Bf,BC,Int.toNat_natCast,Int.toNat_zero,cond_true,cond_false,Bool.and_self,Bool.true_and,Bool.and_true,Bool.false_and,Bool.and_false,Bool.not_true,Bool.not_false,Bool.or_self,Bool.true_or,Bool.or_true,Bool.false_or,Bool.or_false,CS p0,CQ p0,AC,e3,List.length_replicate,List.drop_replicate,Nat.sub_self]
 rw [List.take_of_length_le (by rw [AC]; exact Nat.le_refl _),List.replicate_zero,List.append_nil,FE (by decide) l hl.1]
 rfl
theorem aAu {x y:Nat} (hx:x<(2^64)^5000) (h:y<=x):Q8 (Dw x,Dw y,())=some (Dw (x-y),0,()):=by
 show XG LT.pre LT.F CT.pre CT.F Bt.pre Bt.F Cn.pre Cn.F Ah.pre Ah.F Ov.pre Ov.F (Dw x) (Dw y)=_
 unfold XG
 have hy:y<(2^64)^5000:=Nat.lt_of_le_of_lt h hx
 have p0:=Zm hx hy
 have p1:=iS (dg (2^64) x) (CX hx)
 rw [B9] at p1
 have p1:No (Dw x,())=some (Dw x,()):=p1
 have p2:=OJ hy
 have z1:decide ((if x=y then (0:Int) else if x<y then -1 else 1)<0)=false:=by
  by_cases he:x=y
  ·rw [if_pos he]; rfl
  ·rw [if_neg he,if_neg (by omega)]; rfl
 have hX:=CX hx
 have hY:=CX hy
 have hlx:=hX.2
 have p3:QZ (Dw x,Dw y,())=some (Dw (x-y),()):=by
  show Xv Bw.pre Bw.F AR.pre AR.F Ah.pre Ah.F Sc (Dw x) (Dw y)=_
  unfold Xv
  have hw:=aA8 (dg (2^64) x) (dg (2^64) y) hX.1 hY.1 hlx (oQ (by decide) h) (by rw [B9,B9]; exact h)
  rw [B9,B9] at hw
  have q1:=iV (pd (2^64) (dg (2^64) x).length (x-y)) (by rw [E8]; exact hlx)
  have hlt:=Pt (B:=2^64) (by decide) x
  rw [FE (by decide) _ (Qj (by decide) _ _),Qk (by decide) _ _ (by omega)] at q1
  rw [show (Dw x).length=(dg (2^64) x).length from AC _]
  rw [show Sc ((((dg (2^64) x).length:Int),(Dw y,((0:Int),((0:Int),((),()))))),(Dw x,()))=_ from hw]
  show (bif Bw.pre (Wd (pd (2^64) (dg (2^64) x).length (x-y)),()) then some (Bw.F (Wd (pd (2^64) (dg (2^64) x).length (x-y)),())) else none)=_
  simp only [uE q1,qJ q1,cond_true]
  rfl
 simp only [eW p0,cL p0,cond_true,z1,cond_false,eU p1,cJ p1,CS p2,CQ p2,aFt p3,aC4 p3]
def od (s:Bool) (n:Nat) (e:Int):Bool×Nat×Int:=if n=0 then (false,0,0) else (s,n/2^tz n,e+tz n)
def Ea (t:Bool×Nat×Int):gX:=dy t.1 t.2.1 t.2.2
theorem aEC (s:Bool) (n:Nat) (e:Int):(if n=0 then dy false 0 0 else dy s (n/2^tz n) (e+tz n))=Ea (od s n e):=by
 unfold od Ea
 split <;> rfl
theorem JK (s:Bool) (n:Nat) (e:Int):(od s n e=(false,0,0)/\n=0)∨((od s n e).1=s/\(od s n e).2.1%2=1/\n≠0/\n=2^tz n*(od s n e).2.1/\(od s n e).2.2=e+tz n):=by
 unfold od
 by_cases h:n=0
 ·rw [if_pos h]; exact .inl ⟨rfl,h⟩
 ·right
  rw [if_neg h]
  obtain ⟨k,hk⟩:=T9 h
  have hd:n/2^tz n=2*k+1:=by
   have:=Nat.mul_div_cancel_left (2*k+1) (Nat.two_pow_pos (tz n))
   rw [← hk] at this
   exact this
  dsimp only
  rw [hd]
  exact ⟨rfl,by omega,h,hk,rfl⟩
theorem YP {n k:Nat} (h:n<2^k) (h0:n≠0):tz n<k:=by
 obtain ⟨j,hj⟩:=T9 h0
 have h1:2^tz n*1<=2^tz n*(2*j+1):=Nat.mul_le_mul_left _ (by omega)
 exact (Nat.pow_lt_pow_iff_right (a:=2) (by decide)).1 (by omega)
theorem aEB (s:Bool) {n k:Nat} (e:Int) (hn:n<2^k) (he:-20000<=e/\e<=20000):(od s n e).2.1<2^k/\-20000<=(od s n e).2.2/\(od s n e).2.2<=20000+k:=by
 rcases JK s n e with ⟨h,_⟩ | ⟨_,h2,h3,h4,h5⟩
 ·rw [h]; exact ⟨Nat.two_pow_pos _,by dsimp only; omega,by dsimp only; omega⟩
 ·have hle:(od s n e).2.1<=n:=by
   have:=Nat.le_mul_of_pos_left (od s n e).2.1 (Nat.two_pow_pos (tz n))
   omega
  have:=YP hn h3
  refine ⟨by omega,by omega,by omega⟩
theorem aI {n k:Nat} (h:n<2^k) (hk:k<=64*2000):n<(2^64)^2000:=by
 rw [CB]
 exact Nat.lt_of_lt_of_le h (Nat.pow_le_pow_right (by decide) hk)
theorem pG {n k:Nat} (h:n<2^k) (hk:k<=64*1000):(Dw n).length<=1000:=by
 unfold Dw; rw [AC]
 refine Da (by decide) _ _ ?_
 rw [CB]
 exact Nat.lt_of_lt_of_le h (Nat.pow_le_pow_right (by decide) hk)
theorem aAm (s:Bool) {n k:Nat} (h:n<2^k) (hk:k<=64*1000) (e:Int) (he:-40000<=e/\e<=40000):OC (dy s n e,())=some (0,()):=by
 show Xn (s,Dw n,e,())=_
 unfold Xn
 have:=pG h hk
 dsimp only
 rw [decide_eq_false (p:=((Dw n).length:Int)>1024) (by omega),decide_eq_false (p:=e < -40000) (by omega),decide_eq_false (p:=e>40000) (by omega)]
 rfl
theorem aAn (s:Bool) {n:Nat} (h:n<2^6000) (e:Int) (he:-20000<=e/\e<=20000):OD (dy s n e,())=some (Ea (od s n e),0,()):=by
 show Xo LN.pre LN.F (s,Dw n,e,())=_
 unfold Xo
 have p0:=aAk s (dK (aI h (by decide))) e (by omega)
 rw [aEC] at p0
 have p0:Nn ((s,Dw n,e,()),())=some (Ea (od s n e),()):=p0
 have hb:=aEB s e h he
 have hl:=pG hb.1 (by decide)
 have e1:decide ((((Ea (od s n e)).2.1.length:Nat):Int)>1024)=false:=decide_eq_false (by
  show ¬ ((((Dw (od s n e).2.1).length:Nat):Int)>1024)
  omega)
 have e2:decide ((Ea (od s n e)).2.2.1 < -40000)=false:=decide_eq_false (by
  show ¬ ((od s n e).2.2 < -40000)
  omega)
 have e3:decide ((Ea (od s n e)).2.2.1>40000)=false:=decide_eq_false (by
  show ¬ ((od s n e).2.2>40000)
  omega)
 simp only [aFn p0,aCY p0,cond_true,e1,e2,e3,cond_false,Bool.or_self]
theorem Zl {x y:Nat} (hx:x<(2^64)^5000) (hy:y<(2^64)^5000):Nq (Dw x,Dw y,())=some (Dw (x+y),()):=by
 have h1:(dg (2^64) x).length<=5000:=Da (by decide) _ _ hx
 have h2:(dg (2^64) y).length<=5000:=Da (by decide) _ _ hy
 have:=iZ (dg (2^64) x) (dg (2^64) y) (CX hx) (CX hy) (by rw [ML (by decide)]; omega) (by rw [ML (by decide)]; omega)
 rw [B9,B9] at this
 exact this
end VL
namespace VL
open Go Vx
theorem UA {x:Nat} (h0:x≠0) (h:x<2^64):Dw x=(x:Int)::[]:=by
 unfold Dw
 rw [E3 (by decide) (by omega),Nat.mod_eq_of_lt h,Nat.div_eq_of_lt h,DD]; rfl
theorem Zp {f:Int} {a:Nat} (h:Aj f a=0) (hfin:eF f a≠Av f):RI (f,(a:Int),())=some (Ea (od (sF f a) (Af f a) (Ag f a)),0,()):=by
 obtain ⟨hf,h0⟩:=Ca h
 have ha:=DJ h
 show Ym Aw.pre Aw.F C0.pre C0.F Be.pre Be.F Bu.pre Bu.F f a=_
 unfold Ym
 have h1:=BD hf
 have h2:=Ec hf
 have h3:=E4 hf
 have h4:=Jx hf
 have h5:=Eu hf
 have h6:=Gz hf
 have hE:=V6 hf a
 have hM:=HP f a
 have hPp:2^(fP f-1)<=2^52:=Nat.pow_le_pow_right (by decide) (by omega)
 have hpp:=Nat.two_pow_pos (fP f-1)
 have p0:=IU f a ha
 have p1:=UW (fW f-fP f) (by omega)
 have p2:=Zr hf a ha
 have hr1:decide (0<=f)=true:=decide_eq_true hf.1
 have hr2:decide (f<((4:Nat):Int))=true:=decide_eq_true hf.2
 have r1:(BL f).1=(fW f:Int):=rfl
 have r2:(BL f).2.1=(fP f:Int):=rfl
 have r3:(BL f).2.2.1=1-(fX f:Int):=rfl
 have e1:IntKind.wrap .i64 ((fW f:Int)-(fP f:Int))=((fW f-fP f:Nat):Int):=BP _ _ (by omega)
 have e2:IntKind.wrap .i64 ((fP f:Int)-1)=((fP f-1:Nat):Int):=Bq _ (by omega)
 have e3:Bp .u64 1 ((fP f-1:Nat):Int)=((2^(fP f-1):Nat):Int):=Qv (by omega)
 have e4:Bz .u64 (mF f a:Int) ((2^(fP f-1):Nat):Int)=((mF f a+2^(fP f-1):Nat):Int):=by
  have:=JM (a:=mF f a) (b:=1) (k:=fP f-1) hM (by omega)
  rwa [Nat.one_mul] at this
 have hfl:(((eF f a:Nat):Int)==((2^(fW f-fP f)-1:Nat):Int))=false:=by
  rw [NZ]; exact beq_eq_false_iff_ne.2 hfin
 have ew:∀ z:Int,-1000000<=z/\z<=1000000->IntKind.wrap .i64 z=z:=fun z hz=>Au (by omega)
 simp only [fV hf,r1,r2,r3,hr1,hr2,HW p0,HN p0,fE p2,cS p2,h,cond_true,bne_self_eq_false,cond_false,e1,e2,e3,e4,W3 p1,Wq p1,hfl,AU]
 by_cases hz:eF f a=0
 ·have hg:(((eF f a:Nat):Int)==0)=true:=Bx _ hz
  have hm:Af f a=mF f a:=by unfold Af; rw [if_pos hz]
  have hx:Ag f a=1-(fX f:Int)-(fP f:Int)+1:=by unfold Ag; rw [if_pos hz,Int.add_zero]
  rw [hg,cond_true,hm,hx]
  by_cases hm0:mF f a=0
  ·rw [Bx _ hm0,cond_true]
   unfold od Ea
   rw [if_pos hm0,pH]
  ·obtain ⟨k,hk⟩:=T9 hm0
   have htl:=YP (n:=mF f a) (k:=53) (by omega) hm0
   have p3:=UX (t:=tz (mF f a)) (k:=k) (by omega)
   rw [← hk] at p3
   have hq:mF f a/2^tz (mF f a)≠0:=by
    have:=Nat.mul_div_cancel_left (2*k+1) (Nat.two_pow_pos (tz (mF f a)))
    rw [← hk] at this
    omega
   have hql:=Nat.div_le_self (mF f a) (2^tz (mF f a))
   rw [AX _ hm0,cond_false]
   simp only [W4 p3,Wt p3,cond_true,AU,DK (mF f a) (tz (mF f a)) (by omega)]
   rw [← UA hq (by omega)]
   unfold od Ea dy
   rw [if_neg hm0]
   rw [ew 1 (by omega),ew (1-1) (by omega),ew (1-1+_) (by omega),ew (1-1+_-_) (by omega),ew (1-1+_-_+1) (by omega),ew _ (by omega)]
   rw [show (1:Int)-1+(1-(fX f:Int))-(fP f:Int)+1+(tz (mF f a):Int)=1-(fX f:Int)-(fP f:Int)+1+(tz (mF f a):Int) by omega]
 ·have hg:(((eF f a:Nat):Int)==0)=false:=AX _ hz
  have hm:Af f a=mF f a+2^(fP f-1):=by unfold Af; rw [if_neg hz]
  have hx:Ag f a=1-(fX f:Int)-(fP f:Int)+1+((eF f a:Int)-1):=by unfold Ag; rw [if_neg hz]
  rw [hg,cond_false,hm,hx]
  have hm0:mF f a+2^(fP f-1)≠0:=by omega
  have hml:mF f a+2^(fP f-1)<2^54:=by omega
  generalize mF f a+2^(fP f-1)=n at *
  obtain ⟨k,hk⟩:=T9 hm0
  have htl:=YP hml hm0
  have p3:=UX (t:=tz n) (k:=k) (by rw [← hk]; omega)
  rw [← hk] at p3
  have hq:n/2^tz n≠0:=by
   have:=Nat.mul_div_cancel_left (2*k+1) (Nat.two_pow_pos (tz n))
   rw [← hk] at this
   omega
  have hql:=Nat.div_le_self n (2^tz n)
  rw [AX _ hm0,cond_false]
  simp only [W4 p3,Wt p3,cond_true,AU,DK n (tz n) (by omega)]
  rw [← UA hq (by omega)]
  unfold od Ea dy
  rw [if_neg hm0]
  rw [ew (eF f a:Int) (by omega),ew ((eF f a:Int)-1) (by omega),ew ((eF f a:Int)-1+_) (by omega),ew ((eF f a:Int)-1+_-_) (by omega),ew ((eF f a:Int)-1+_-_+1) (by omega),ew _ (by omega)]
  rw [show (eF f a:Int)-1+(1-(fX f:Int))-(fP f:Int)+1+(tz n:Int)=1-(fX f:Int)-(fP f:Int)+1+((eF f a:Int)-1)+(tz n:Int) by omega]
theorem eE (s:Bool) {n:Nat} (e:Int) (hn:n<2^53) (he:-2000<=e/\e<=2000):(od s n e).2.1<2^53/\-2500<=(od s n e).2.2/\(od s n e).2.2<=2500:=by
 rcases JK s n e with ⟨h,_⟩ | ⟨_,h2,h3,h4,h5⟩
 ·rw [h]; exact ⟨Nat.two_pow_pos _,by dsimp only; omega,by dsimp only; omega⟩
 ·have hle:(od s n e).2.1<=n:=by
   have:=Nat.le_mul_of_pos_left (od s n e).2.1 (Nat.two_pow_pos (tz n))
   omega
  have:=YP hn h3
  refine ⟨by omega,by omega,by omega⟩
end VL
namespace VL
open Go Vx
theorem u5 {f:Int} (hf:Fm f):qm f<=0:=by
 have:=Gz hf
 have:=BD hf
 unfold qm; omega
theorem aA1 {f m:Int} (hf:Fm f) (hm:0<=m/\m<=5) (s:Bool) {n:Nat} (hn:n<2^6000) (h0:n≠0) (hodd:n%2=1) (e:Int) (he:-20000<=e/\e<=20000) :
  OQ (f,m,dy s n e,())=some (((At f m s n e false).1:Int),((At f m s n e false).2:Int),0,()):=by
 show YC DR.pre DR.F LQ.pre LQ.F DS.pre DS.F f m (s,Dw n,e,())=_
 unfold YC
 have p0:=Zi hf hm
 have q1:=aAm s hn (by decide) e (by omega)
 have q2:=aAn s hn e he
 have hod:od s n e=(s,n,e):=by
  obtain ⟨k,rfl⟩:∃ k,n=2*k+1:=⟨n/2,by omega⟩
  unfold od
  rw [if_neg (by omega),aJk,Nat.pow_zero,Nat.div_one,Int.natCast_zero,Int.add_zero]
 rw [hod] at q2
 have p1:QU ((s,Dw n,e,()),())=some ((s,Dw n,e,()),0,()):=by
  show Xq LO.pre LO.F LP.pre LP.F (s,Dw n,e,())=_
  unfold Xq
  have q1:OC ((s,Dw n,e,()),())=some (0,()):=q1
  have q2:OD ((s,Dw n,e,()),())=some ((s,Dw n,e,()),0,()):=q2
  simp only [aFo q1,aCZ q1,aFp q2,aC0 q2,cond_true,bne_self_eq_false,cond_false]
 have p2:=Zj s n e false f m hf (aI hn (by decide)) (by omega)
 have hlen:(((Dw n).length:Int)==0)=false:=AX _ (by have:=Om h0; omega)
 simp only [eQ p0,cH p0,cond_true,bne_self_eq_false,cond_false,aFq p1,aC1 p1,hlen,eR p2,cI p2]
end VL
namespace VL
open Go Vx
def Bd (f:Int) (n:Nat) (e:Int):Prop:=qm f<=e/\e<=6000/\n*2^(e-qm f).toNat<2^5000
theorem M2 {f:Int} (hf:Fm f):-1100<=qm f:=by
 have:=Jx hf
 have:=Eu hf
 unfold qm; omega
theorem Bd.lt {f:Int} {n:Nat} {e:Int} (h:Bd f n e):n<2^5000:=by
 have:=Nat.le_mul_of_pos_right n (Nat.two_pow_pos (e-qm f).toNat)
 exact Nat.lt_of_le_of_lt this h.2.2
theorem Bd.od {f:Int} (hf:Fm f) {n:Nat} {e:Int} (s:Bool) (h:Bd f n e):Bd f (VL.od s n e).2.1 (VL.od s n e).2.2:=by
 rcases JK s n e with ⟨hz,_⟩ | ⟨_,h2,h3,h4,h5⟩
 ·rw [hz]
  exact ⟨u5 hf,by dsimp only; omega,by dsimp only; rw [Nat.zero_mul]; exact Nat.two_pow_pos _⟩
 ·have hle:2^(tz n+(e-qm f).toNat)<=n*2^(e-qm f).toNat:=by
   rw [Nat.pow_add]
   refine Nat.mul_le_mul_right _ ?_
   have:=Nat.le_mul_of_pos_right (2^tz n) (show 0<(VL.od s n e).2.1 by omega)
   omega
  have hlt:=(Nat.pow_lt_pow_iff_right (a:=2) (by decide)).1 (Nat.lt_of_le_of_lt hle h.2.2)
  have hq:=u5 hf
  have h1:=h.1
  refine ⟨by omega,by omega,?_⟩
  have e1:(VL.od s n e).2.1*2^((VL.od s n e).2.2-qm f).toNat=n*2^(e-qm f).toNat:=by
   rw [h5,show (e+(tz n:Int)-qm f).toNat=tz n+(e-qm f).toNat by omega,Nat.pow_add,← Nat.mul_assoc,Nat.mul_comm _ (2^tz n),← h4]
  rw [e1]; exact h.2.2
end VL
namespace VL
open Go Vx
theorem MX {f:Int} (hf:Fm f) (a:Nat):Af f a<2^fP f:=by
 have h1:=HP f a
 have h2:=M9 hf
 have hpp:=Nat.two_pow_pos (fP f-1)
 unfold Af
 split <;> omega
theorem VJ {N k P:Nat} (h:N<2^P):N*2^k<2^(P+k):=by
 rw [Nat.pow_add]; exact Nat.mul_lt_mul_of_pos_right h (Nat.two_pow_pos k)
end VL
namespace VL
open Go Vx
structure Hid (p:Prop):Prop where
 out:p
end VL
namespace VL
open Go Vx
theorem f9 {l:List Nat} {j v:Nat} (hj:j<l.length) (h:l.getD j 0=v):l.set j v=l:=by
 rw [List.getD_eq_getElem?_getD,List.getElem?_eq_getElem hj,Option.getD_some] at h
 subst h
 exact List.set_getElem_self hj
end VL
namespace VL
open Go Vx
theorem Gt {n k:Nat} (h:n<2^k) (hk:k<=64*5000):n<(2^64)^5000:=by
 rw [CB]
 exact Nat.lt_of_lt_of_le h (Nat.pow_le_pow_right (by decide) hk)
theorem xR (n:Nat):((((Dw n).length:Nat):Int)==0)=decide (n=0):=by
 by_cases h:n=0
 ·subst h; rw [D5]; rfl
 ·rw [decide_eq_false h]; exact AX _ (by have:=Om h; omega)
end VL
namespace VL
open Go Vx
def fk:FloatKind->Int
 | .f32=>2
 | .f64=>3
theorem Ew (k:FloatKind):Fm (fk k):=by cases k <;> exact ⟨by decide,by decide⟩
theorem bX (k:FloatKind):k.format.signWeight=2^(fW (fk k)-1):=by cases k <;> rfl
theorem bU (k:FloatKind):k.format.binade=2^(fP (fk k)-1):=by cases k <;> rfl
theorem NP (k:FloatKind):k.format.infRung=AK (fk k):=by cases k <;> rfl
theorem bW (k:FloatKind):k.format.leastPlace=qm (fk k):=by cases k <;> rfl
theorem bV (k:FloatKind):k.format.fractionBits=fP (fk k)-1:=by cases k <;> rfl
theorem aC {f:Int} (hf:Fm f) (a:Nat):AT f a%2^(fP f-1)=mF f a/\AT f a/2^(fP f-1)=eF f a:=by
 rw [HE hf,Nat.add_mul_mod_self_left,Nat.mod_eq_of_lt (HP f a),Nat.add_mul_div_left _ _ (Nat.two_pow_pos _),Nat.div_eq_of_lt (HP f a),Nat.zero_add]
 exact ⟨rfl,rfl⟩
theorem JR (k:FloatKind) {a:Nat} (h:Aj (fk k) a=0) :
  k.format.read a=if eF (fk k) a=Av (fk k) then (if mF (fk k) a=0 then .infinity (sF (fk k) a) else .nan (sF (fk k) a) (mF (fk k) a)) else .number (sF (fk k) a) (Af (fk k) a) (Ag (fk k) a):=by
 obtain ⟨hf,h0⟩:=Ca h
 have hneg:(a/k.format.signWeight%2==1)=sF (fk k) a:=by rw [bX]; exact aIM h
 have hab:a%k.format.signWeight=AT (fk k) a:=by rw [bX]; rfl
 obtain ⟨p1,p2⟩:=aC hf a
 have he:=HE hf a
 have hm:=HP (fk k) a
 have hpp:=Nat.two_pow_pos (fP (fk k)-1)
 have hfull:=Tc hf
 have hel:eF (fk k) a<=Av (fk k):=by
  have:=Nat.mod_lt (a/2^(fP (fk k)-1)) (Nat.two_pow_pos (fW (fk k)-fP (fk k)))
  unfold eF Av
  omega
 unfold Ieee.Format.read
 dsimp only
 rw [hneg,hab,bU,NP,bW]
 unfold AK
 by_cases h1:eF (fk k) a=Av (fk k)
 ·rw [if_pos h1]
  rw [h1] at he
  have hge:2^(fP (fk k)-1)*1<=2^(fP (fk k)-1)*Av (fk k):=Nat.mul_le_mul_left _ hfull
  rw [if_neg (by omega),if_neg (by omega)]
  by_cases h2:mF (fk k) a=0
  ·rw [if_pos h2,if_pos (by omega)]
  ·rw [if_neg h2,if_neg (by omega)]
   congr 1
   omega
 ·rw [if_neg h1]
  unfold Af Ag
  by_cases h2:eF (fk k) a=0
  ·rw [h2,Nat.mul_zero,Nat.add_zero] at he
   rw [if_pos (by omega),if_pos h2,if_pos h2,he,Int.add_zero]
   rfl
  ·have h3:2^(fP (fk k)-1)*1<=2^(fP (fk k)-1)*eF (fk k) a:=Nat.mul_le_mul_left _ (by omega)
   have h4:2^(fP (fk k)-1)*(eF (fk k) a+1)<=2^(fP (fk k)-1)*Av (fk k):=Nat.mul_le_mul_left _ (by omega)
   rw [Nat.mul_add,Nat.mul_one] at h4
   rw [if_neg (by omega),if_pos (by omega),if_neg h2,if_neg h2,p1,p2,Nat.add_comm]
   congr 1
   unfold qm
   omega
theorem aFi {f:Int} (hf:Fm f) {a b:Nat} (ha:Aj f a=0) (hb:Aj f b=0) (fa:eF f a≠Av f) (fb:eF f b≠Av f):(Ay f a<Ay f b↔vA f a<vA f b)/\(Ay f a=Ay f b↔vA f a=vA f b):=by
 have key:∀ {a b:Nat},Aj f a=0->Aj f b=0->eF f a≠Av f->eF f b≠Av f->vA f a<=vA f b->Ay f a<=Ay f b:=fun {a b} ha hb fa fb h=>by
  rw [v6 hf ha fa,v6 hf hb fb]
  exact aFk hf (by decide) h
 have heq:Ay f a=Ay f b->vA f a=vA f b:=aIJ hf
 have h1:=fun h=>key ha hb fa fb h
 have h2:=fun h=>key hb ha fb fa h
 refine ⟨⟨fun h=>?_,fun h=>?_⟩,⟨heq,fun h=>?_⟩⟩
 ·rcases Int.lt_or_le (vA f a) (vA f b) with g | g
  ·exact g
  ·have:=h2 g; omega
 ·rcases Int.lt_or_le (Ay f a) (Ay f b) with g | g
  ·exact g
  ·have g1:=h1 (Int.le_of_lt h)
   have:=heq (by omega)
   omega
 ·have g1:=h1 (by omega)
  have g2:=h2 (by omega)
  omega
theorem wC (f:Int) (s:Bool) (m:Nat) {e q:Int} (h1:qm f<=q) (h2:q<=e):Ieee.signed s m (e-q).toNat*(2^(q-qm f).toNat:Nat)=vI f s m e:=by
 unfold Ieee.signed vI
 have hm:m*2^(e-q).toNat*2^(q-qm f).toNat=m*2^(e-qm f).toNat:=by
  rw [Nat.mul_assoc,← Nat.pow_add]; congr 2; omega
 rw [Nat.shiftLeft_eq]
 cases s
 ·rw [if_neg (by decide),cond_false,← hm]
  simp only [Int.natCast_mul]
 ·rw [if_pos rfl,cond_true,← hm]
  simp only [Int.natCast_mul,Int.neg_mul]
theorem oJ {x y z w:Int} (h1:x<y↔z<w) (h2:x=y↔z=w):compare x y=compare z w:=by
 show compareOfLessAndEq x y=compareOfLessAndEq z w
 unfold compareOfLessAndEq
 by_cases g1:x<y
 ·rw [if_pos g1,if_pos (h1.1 g1)]
 ·have g3:¬ z<w:=fun h=>g1 (h1.2 h)
  rw [if_neg g1,if_neg g3]
  by_cases g2:x=y
  ·rw [if_pos g2,if_pos (h2.1 g2)]
  ·have g4:¬ z=w:=fun h=>g2 (h2.2 h)
   rw [if_neg g2,if_neg g4]
theorem aB8 (x y:Int) {c:Nat} (hc:0<c):compare x y=compare (x*(c:Int)) (y*(c:Int)):=by
 have hc':(0:Int)<(c:Int):=by omega
 exact oJ ⟨fun h=>Int.mul_lt_mul_of_pos_right h hc',fun h=>Int.lt_of_mul_lt_mul_right h (by omega)⟩ ⟨fun h=>by rw [h],fun h=>Int.eq_of_mul_eq_mul_right (by omega) h⟩
theorem bA {x y:Int} (h:x<y):compare x y=.lt:=by
 show compareOfLessAndEq x y=_
 unfold compareOfLessAndEq
 rw [if_pos h]
theorem oI (x:Int):compare x x=.eq:=by
 show compareOfLessAndEq x x=_
 unfold compareOfLessAndEq
 rw [if_neg (Int.lt_irrefl x),if_pos rfl]
theorem aZ {x y:Int} (h:y<x):compare x y=.gt:=by
 have h1:¬ x<y:=by omega
 have h2:¬ x=y:=by omega
 show compareOfLessAndEq x y=_
 unfold compareOfLessAndEq
 rw [if_neg h1,if_neg h2]
theorem eM {f:Int} (hf:Fm f) {a:Nat} (h1:eF f a=Av f) (h2:mF f a=0):Ay f a=bif sF f a then -(AK f:Int) else AK f:=by
 unfold Ay AK
 rw [HE hf,h1,h2,Nat.zero_add]
theorem uB {f:Int} (hf:Fm f) {a:Nat} (h1:eF f a≠Av f):-(AK f:Int)<Ay f a/\Ay f a<AK f:=by
 have hel:eF f a<=Av f:=by
  have:=Nat.mod_lt (a/2^(fP f-1)) (Nat.two_pow_pos (fW f-fP f))
  unfold eF Av
  omega
 have he:=HE hf a
 have hm:=HP f a
 have h4:2^(fP f-1)*(eF f a+1)<=2^(fP f-1)*Av f:=Nat.mul_le_mul_left _ (by omega)
 rw [Nat.mul_add,Nat.mul_one] at h4
 unfold Ay AK
 cases sF f a <;> simp only [cond_true,cond_false] <;> omega
theorem aFb (k:FloatKind) {a b:Nat} (ha:Aj (fk k) a=0) (hb:Aj (fk k) b=0) :
  k.format.order a b=if nan (fk k) a||nan (fk k) b then none else some (compare (Ay (fk k) a) (Ay (fk k) b)):=by
 have hf:=Ew k
 unfold Ieee.Format.order
 rw [JR k ha,JR k hb]
 have hpos:=cZ hf
 by_cases fa:eF (fk k) a=Av (fk k)
 ·rw [if_pos fa]
  by_cases ma:mF (fk k) a=0
  ·have na:nan (fk k) a=false:=by unfold nan; simp [ma]
   have pa:=eM hf fa ma
   rw [if_pos ma,na,Bool.false_or]
   by_cases fb:eF (fk k) b=Av (fk k)
   ·rw [if_pos fb]
    by_cases mb:mF (fk k) b=0
    ·have nb:nan (fk k) b=false:=by unfold nan; simp [mb]
     have pb:=eM hf fb mb
     rw [if_pos mb,nb,pa,pb]
     show some (compare (sF (fk k) b).toNat (sF (fk k) a).toNat)=some _
     cases sF (fk k) a <;> cases sF (fk k) b <;> simp only [cond_true,cond_false]
     ·rw [oI]; rfl
     ·rw [aZ (by omega)]; rfl
     ·rw [bA (by omega)]; rfl
     ·rw [oI]; rfl
    ·have nb:nan (fk k) b=true:=by unfold nan; simp [mb,fb]
     rw [if_neg mb,nb]; rfl
   ·have nb:nan (fk k) b=false:=(Qi fb).1
    have pb:=uB hf fb
    rw [if_neg fb,nb,pa]
    show some (if sF (fk k) a=true then Ordering.lt else .gt)=some _
    cases sF (fk k) a <;> simp only [cond_true,cond_false]
    ·rw [aZ pb.2]; rfl
    ·rw [bA pb.1]; rfl
  ·have na:nan (fk k) a=true:=by unfold nan; simp [ma,fa]
   rw [if_neg ma,na]; rfl
 ·have na:nan (fk k) a=false:=(Qi fa).1
  have pa:=uB hf fa
  rw [if_neg fa,na,Bool.false_or]
  by_cases fb:eF (fk k) b=Av (fk k)
  ·rw [if_pos fb]
   by_cases mb:mF (fk k) b=0
   ·have nb:nan (fk k) b=false:=by unfold nan; simp [mb]
    have pb:=eM hf fb mb
    rw [if_pos mb,nb,pb]
    show some (if sF (fk k) b=true then Ordering.gt else .lt)=some _
    cases sF (fk k) b <;> simp only [cond_true,cond_false]
    ·rw [bA pa.2]; rfl
    ·rw [aZ pa.1]; rfl
   ·have nb:nan (fk k) b=true:=by unfold nan; simp [mb,fb]
    rw [if_neg mb,nb]; rfl
  ·have nb:nan (fk k) b=false:=(Qi fb).1
   rw [if_neg fb,nb]
   show some (compare (Ieee.signed (sF (fk k) a) (Af (fk k) a) (Ag (fk k) a-min (Ag (fk k) a) (Ag (fk k) b)).toNat) (Ieee.signed (sF (fk k) b) (Af (fk k) b) (Ag (fk k) b-min (Ag (fk k) a) (Ag (fk k) b)).toNat))=some _
   congr 1
   have g1:=Dx (fk k) a
   have g2:=Dx (fk k) b
   have hb1:qm (fk k)<=min (Ag (fk k) a) (Ag (fk k) b):=by omega
   rw [aB8 _ _ (Nat.two_pow_pos (min (Ag (fk k) a) (Ag (fk k) b)-qm (fk k)).toNat),wC (fk k) _ _ hb1 (by omega),wC (fk k) _ _ hb1 (by omega)]
   obtain ⟨c1,c2⟩:=aFi hf ha hb fa fb
   exact (oJ c1 c2).symm
end VL
namespace VL
open Go Vx
theorem QD (k:FloatKind) (neg:Bool) (r:Nat):k.format.word neg r=B2 (fk k) neg r:=by
 unfold Ieee.Format.word B2
 rw [bX]
 cases neg
 ·rw [if_neg (by decide),cond_false,Nat.add_zero]
 ·rw [if_pos rfl,cond_true,Nat.add_comm]
theorem q9 (neg odd:Bool) (rest:Nat):CR 0 neg odd rest=if rest=2 then odd else decide (2<=rest):=rfl
theorem r7 (n:Nat):n<2^(n.log2+1):=by
 by_cases h:n=0
 ·subst h; decide
 ·have:=Eq n
  unfold Ab at this
  rw [if_neg h] at this
  exact this
theorem oO (neg:Bool) (n drop:Nat):Ieee.Toward.even.cut neg n drop=A7 0 neg n drop:=by
 unfold Ieee.Toward.cut A7
 dsimp only
 rw [Nat.shiftLeft_eq,Nat.one_mul]
 by_cases hd:drop<=n.log2+2
 ·rw [Nat.min_eq_left hd,q9]
  generalize hq:n/2^drop=q
  have hr:=Nat.mod_lt n (Nat.two_pow_pos drop)
  generalize n%2^drop=r at *
  by_cases h0:drop=0
  ·subst h0
   have:r=0:=by rw [Nat.pow_zero] at hr; omega
   subst this
   rfl
  ·have hp:2^drop=2*2^(drop-1):=by rw [Nat.mul_comm,← Nat.pow_succ]; congr 1; omega
   have hpp:=Nat.two_pow_pos (drop-1)
   have hcl:Cq r drop=(if r=0 then 0 else if r<2^(drop-1) then 1 else if r=2^(drop-1) then 2 else 3):=rfl
   rw [hp] at hr ⊢
   generalize Cq r drop=C at *
   generalize 2^(drop-1)=H at *
   by_cases c0:r=0
   ·rw [if_pos c0] at hcl
    subst hcl
    subst c0
    have e1:decide (2*H<2*0)=false:=decide_eq_false (by omega)
    have e2:(2*H==2*0)=false:=beq_eq_false_iff_ne.2 (by omega)
    rw [e1,e2]
    rfl
   ·rw [if_neg c0] at hcl
    by_cases c1:r<H
    ·rw [if_pos c1] at hcl
     subst hcl
     have e1:decide (2*H<2*r)=false:=decide_eq_false (by omega)
     have e2:(2*H==2*r)=false:=beq_eq_false_iff_ne.2 (by omega)
     rw [e1,e2]
     rfl
    ·rw [if_neg c1] at hcl
     by_cases c2:r=H
     ·rw [if_pos c2] at hcl
      subst hcl
      subst c2
      have e1:decide (2*r<2*r)=false:=decide_eq_false (by omega)
      rw [e1,beq_self_eq_true,if_pos rfl,Bool.false_or,Bool.true_and]
      by_cases ho:q%2=1
      ·rw [ho,if_pos ⟨by decide,by rfl⟩]; rfl
      ·rw [if_neg (fun h=>by simpa [ho] using h.2),show q%2=0 by omega]; rfl
     ·rw [if_neg c2] at hcl
      subst hcl
      have e1:decide (2*H<2*r)=true:=decide_eq_true (by omega)
      rw [e1,Bool.true_or,if_pos ⟨by decide,by rfl⟩]; rfl
 ·have hlt:=r7 n
  have h1:n<2^(n.log2+2):=Nat.lt_trans hlt (Nat.pow_lt_pow_right (by decide) (by omega))
  have h2:n<2^(drop-1):=Nat.lt_of_lt_of_le hlt (Nat.pow_le_pow_right (by decide) (by omega))
  have h3:n<2^drop:=Nat.lt_of_lt_of_le hlt (Nat.pow_le_pow_right (by decide) (by omega))
  have h4:2*n<2^(n.log2+2):=by
   rw [show n.log2+2=(n.log2+1)+1 by omega,Nat.pow_succ]; omega
  rw [Nat.min_eq_right (by omega),Nat.div_eq_of_lt h1,Nat.mod_eq_of_lt h1,Nat.div_eq_of_lt h3,Nat.mod_eq_of_lt h3]
  have e1:decide (2^(n.log2+2)<2*n)=false:=decide_eq_false (by omega)
  have e2:(2^(n.log2+2)==2*n)=false:=beq_eq_false_iff_ne.2 (by omega)
  rw [e1,e2,q9]
  unfold Cq
  by_cases c0:n=0
  ·subst c0; rfl
  ·rw [if_neg c0,if_pos h2]; rfl
theorem oN (neg:Bool) (n:Nat):A7 0 neg n 0=n:=by
 unfold A7
 rw [Nat.pow_zero,Nat.mod_one,Nat.div_one]
 rfl
theorem aCd (m:Int) (neg:Bool) (n j:Nat):A7 m neg (n*2^j) j=n:=by
 unfold A7
 rw [Nat.mul_mod_left,Nat.mul_div_cancel _ (Nat.two_pow_pos j)]
 rw [if_neg (fun h=>h.1 rfl)]
theorem aCf (m:Int) (neg:Bool) (n:Nat) {d k:Nat} (hd:1<=d):A7 m neg (n*2^k) (k+d)=A7 m neg n d:=by
 unfold A7
 have e1:n*2^k/2^(k+d)=n/2^d:=by
  rw [Nat.pow_add,← Nat.div_div_eq_div_mul,Nat.mul_div_cancel _ (Nat.two_pow_pos k)]
 have e2:n*2^k%2^(k+d)=2^k*(n%2^d):=by
  rw [Nat.pow_add,Nat.mul_comm n,Nat.mul_mod_mul_left]
 rw [e1,e2,oG hd]
theorem aEt (k:FloatKind) (neg:Bool) {mag:Nat} (h0:mag≠0) {Ay:Int} (hp:qm (fk k)<=Ay) :
  k.format.nearest neg mag Ay=B2 (fk k) neg (Du (fk k) 0 neg (mag*2^(Ay-qm (fk k)).toNat) (qm (fk k))).1:=by
 have hf:=Ew k
 have hP:=BD hf
 obtain ⟨D,hD⟩:=Int.eq_ofNat_of_zero_le (show 0<=Ay-qm (fk k) by omega)
 have hN0:mag*2^D≠0:=Nat.mul_ne_zero h0 (Nat.ne_of_gt (Nat.two_pow_pos D))
 have hbl:Ab (mag*2^D)=mag.log2+1+D:=by
  rw [Nat.mul_comm,← Nat.zero_add (2^D*mag),nX (Nat.two_pow_pos D) (by omega)]
  unfold Ab
  rw [if_neg h0]; omega
 rw [hD,Int.toNat_natCast,fR hf 0 neg hN0]
 have hup:Tu (fk k) 0 neg=AK (fk k):=rfl
 unfold Ieee.Format.nearest
 rw [if_neg h0,QD,bW,bV,bU,NP]
 congr 1
 have key:(max (Ay+(mag.log2:Int)-((fP (fk k)-1:Nat):Int)) (qm (fk k))-qm (fk k)).toNat*2^(fP (fk k)-1) +
   Ieee.Toward.even.cut neg (mag <<< (Ay-max (Ay+(mag.log2:Int)-((fP (fk k)-1:Nat):Int)) (qm (fk k))).toNat) (max (Ay+(mag.log2:Int)-((fP (fk k)-1:Nat):Int)) (qm (fk k))-Ay).toNat=Ed (fk k) 0 neg (mag*2^D):=by
  rw [oO,Nat.shiftLeft_eq]
  unfold Ed
  by_cases hs:mag*2^D<2^fP (fk k)
  ·rw [if_pos hs]
   have hb:=Cj hs
   rw [show max (Ay+(mag.log2:Int)-((fP (fk k)-1:Nat):Int)) (qm (fk k))=qm (fk k) by omega,Int.sub_self,Int.toNat_zero,Nat.zero_mul,Nat.zero_add,hD,Int.toNat_natCast,show (qm (fk k)-Ay).toNat=0 by omega,oN]
  ·rw [if_neg hs]
   have hb:fP (fk k)<Ab (mag*2^D):=by
    rcases Nat.lt_or_ge (fP (fk k)) (Ab (mag*2^D)) with h | h
    ·exact h
    ·exact absurd (Nat.lt_of_lt_of_le (Eq _) (Nat.pow_le_pow_right (by decide) h)) hs
   rw [hbl] at hb ⊢
   obtain ⟨j,hj⟩:∃ j,mag.log2+1+D-fP (fk k)=j:=⟨_,rfl⟩
   have hl:max (Ay+(mag.log2:Int)-((fP (fk k)-1:Nat):Int)) (qm (fk k))=qm (fk k)+(j:Int):=by omega
   rw [hl,hj,show qm (fk k)+(j:Int)-qm (fk k)=(j:Int) by omega,Int.toNat_natCast]
   congr 1
   by_cases hDj:j<=D
   ·rw [show (qm (fk k)+(j:Int)-Ay).toNat=0 by omega,show (Ay-(qm (fk k)+(j:Int))).toNat=D-j by omega,oN]
    have e:mag*2^D=(mag*2^(D-j))*2^j:=by rw [Nat.mul_assoc,← Nat.pow_add]; congr 2; omega
    rw [e,aCd]
   ·rw [show (Ay-(qm (fk k)+(j:Int))).toNat=0 by omega,Nat.pow_zero,Nat.mul_one,show (qm (fk k)+(j:Int)-Ay).toNat=j-D by omega]
    have e:=aCf 0 neg mag (d:=j-D) (k:=D) (by omega)
    rw [show D+(j-D)=j by omega] at e
    exact e.symm
 rw [key,hup]
 by_cases h:AK (fk k)<=Ed (fk k) 0 neg (mag*2^D)
 ·rw [if_pos h,Nat.min_eq_right h]
 ·rw [if_neg h,Nat.min_eq_left (by omega)]
theorem vL (k:FloatKind) (neg:Bool) {mag:Nat} (h0:mag≠0) {Ay:Int} (hp:qm (fk k)<=Ay):k.format.nearest neg mag Ay=(At (fk k) 0 neg mag Ay false).1:=by
 rw [aEt k neg h0 hp,vM (Ew k) 0 neg h0 hp]
theorem WH (k:FloatKind) (neg:Bool) (Ay:Int):k.format.nearest neg 0 Ay=AZ (fk k) neg:=by
 unfold Ieee.Format.nearest
 rw [if_pos rfl,QD,← VA,Nat.zero_add]
theorem aEs (k:FloatKind) (T:Int) (z:Bool) {e:Int} (he:qm (fk k)<=e) :
  k.format.nearest (if T=0 then z else decide (T<0)) T.natAbs e=if T=0 then AZ (fk k) z else (At (fk k) 0 (decide (T<0)) T.natAbs e false).1:=by
 by_cases h:T=0
 ·rw [if_pos h,if_pos h,h]
  exact WH k z e
 ·rw [if_neg h,if_neg h]
  exact vL k _ (by omega) he
theorem aI9 (k:FloatKind) (s:Bool) (m:Nat) (i:Int) (t:Bool) (n:Nat) (j:Int) (hi:qm (fk k)<=i) (hj:qm (fk k)<=j) :
  ((Ieee.Datum.number s m i).sum (.number t n j)).map k.format.write=some (Df (fk k) 0 s m i t n j).1:=by
 have hmin:min i j=(if i<=j then i else j):=by split <;> omega
 show some (k.format.nearest (if Ieee.signed s m (i-min i j).toNat+Ieee.signed t n (j-min i j).toNat=0 then s&&t else decide (Ieee.signed s m (i-min i j).toNat+Ieee.signed t n (j-min i j).toNat<0)) (Ieee.signed s m (i-min i j).toNat+Ieee.signed t n (j-min i j).toNat).natAbs (min i j))=_
 congr 1
 have hq:qm (fk k)<=min i j:=by omega
 rw [aEs k _ _ hq]
 unfold Df Ieee.signed
 rw [hmin]
 rw [Nat.shiftLeft_eq,Nat.shiftLeft_eq]
 dsimp only
 generalize (if i<=j then i else j)=e at *
 generalize m*2^(i-e).toNat=A
 generalize n*2^(j-e).toNat=B
 have eA:∀ {T:Int} {s:Bool} {r:Nat},decide (T<0)=s->T.natAbs=r->(At (fk k) 0 (decide (T<0)) T.natAbs e false).1=(At (fk k) 0 s r e false).1:=fun h1 h2=>by rw [h1,h2]
 cases s <;> cases t
 ·show (if (A:Int)+(B:Int)=0 then AZ (fk k) false else (At (fk k) 0 (decide ((A:Int)+(B:Int)<0)) ((A:Int)+(B:Int)).natAbs e false).1)=(if A+B=0 then (AZ (fk k) false,0) else At (fk k) 0 false (A+B) e false).1
  by_cases h:A+B=0
  ·have h2:(A:Int)+(B:Int)=0:=by omega
   rw [if_pos h,if_pos h2]
  ·have h2:¬ (A:Int)+(B:Int)=0:=by omega
   rw [if_neg h,if_neg h2]
   exact eA (decide_eq_false (by omega)) (by omega)
 ·show (if (A:Int) + -(B:Int)=0 then AZ (fk k) false else (At (fk k) 0 (decide ((A:Int) + -(B:Int)<0)) ((A:Int) + -(B:Int)).natAbs e false).1)=(if A=B then (AZ (fk k) false,0) else if B<A then At (fk k) 0 false (A-B) e false else At (fk k) 0 true (B-A) e false).1
  by_cases h:A=B
  ·have h2:(A:Int) + -(B:Int)=0:=by omega
   rw [if_pos h,if_pos h2]
  ·have h2:¬ (A:Int) + -(B:Int)=0:=by omega
   rw [if_neg h,if_neg h2]
   by_cases h3:B<A
   ·rw [if_pos h3]
    exact eA (decide_eq_false (by omega)) (by omega)
   ·rw [if_neg h3]
    exact eA (decide_eq_true (by omega)) (by omega)
 ·show (if -(A:Int)+(B:Int)=0 then AZ (fk k) false else (At (fk k) 0 (decide (-(A:Int)+(B:Int)<0)) (-(A:Int)+(B:Int)).natAbs e false).1)=(if A=B then (AZ (fk k) false,0) else if B<A then At (fk k) 0 true (A-B) e false else At (fk k) 0 false (B-A) e false).1
  by_cases h:A=B
  ·have h2:-(A:Int)+(B:Int)=0:=by omega
   rw [if_pos h,if_pos h2]
  ·have h2:¬ -(A:Int)+(B:Int)=0:=by omega
   rw [if_neg h,if_neg h2]
   by_cases h3:B<A
   ·rw [if_pos h3]
    exact eA (decide_eq_true (by omega)) (by omega)
   ·rw [if_neg h3]
    exact eA (decide_eq_false (by omega)) (by omega)
 ·show (if -(A:Int) + -(B:Int)=0 then AZ (fk k) true else (At (fk k) 0 (decide (-(A:Int) + -(B:Int)<0)) (-(A:Int) + -(B:Int)).natAbs e false).1)=(if A+B=0 then (AZ (fk k) true,0) else At (fk k) 0 true (A+B) e false).1
  by_cases h:A+B=0
  ·have h2:-(A:Int) + -(B:Int)=0:=by omega
   rw [if_pos h,if_pos h2]
  ·have h2:¬ -(A:Int) + -(B:Int)=0:=by omega
   rw [if_neg h,if_neg h2]
   exact eA (decide_eq_true (by omega)) (by omega)
def CE (f:Int) (o:Option Nat):Nat:=o.getD (By f)
theorem dA (k:FloatKind) {a:Nat} (h:Aj (fk k) a=0) (h1:eF (fk k) a=Av (fk k)) (h2:mF (fk k) a=0):k.format.word (sF (fk k) a) k.format.infRung=a:=by
 have hf:=Ew k
 rw [QD,NP]
 have:=t6 h
 rw [HE hf,h1,h2,Nat.zero_add] at this
 unfold B2 AK
 exact this.symm
theorem nB (k:FloatKind) {a b:Nat} (ha:Aj (fk k) a=0) (hb:Aj (fk k) b=0):(C8 (fk k) 0 a b).1=(CE (fk k) (BI .add k a b):Nat)/\(C8 (fk k) 0 a b).2.2.1=0:=by
 have hf:=Ew k
 unfold C8
 rw [if_pos hf,if_pos ⟨by decide,by decide⟩,if_pos ⟨ha,hb⟩]
 show (SF (fk k) 0 a b).1=(CE (fk k) (((k.format.read a).sum (k.format.read b)).map k.format.write):Nat)/\_
 rw [JR k ha,JR k hb]
 unfold SF
 have sn:∀ x,BM (fk k) x=true->nan (fk k) x=true:=fun x h=>by unfold BM at h; simp only [Bool.and_eq_true] at h; exact h.1
 by_cases na:nan (fk k) a=true
 ·have h1:eF (fk k) a=Av (fk k)/\mF (fk k) a≠0:=by unfold nan at na; simpa using na
  rw [if_pos h1.1,if_neg h1.2,na,Bool.true_or]
  have:∀ d,((Ieee.Datum.nan (sF (fk k) a) (mF (fk k) a)).sum d).map k.format.write=none:=fun d=>rfl
  rw [this]
  cases BM (fk k) a||BM (fk k) b <;> exact ⟨rfl,rfl⟩
 ·have na:nan (fk k) a=false:=by simpa using na
  rw [na,Bool.false_or]
  by_cases nb:nan (fk k) b=true
  ·have h1:eF (fk k) b=Av (fk k)/\mF (fk k) b≠0:=by unfold nan at nb; simpa using nb
   have this:∀ d:Ieee.Datum,(d.sum (Ieee.Datum.nan (sF (fk k) b) (mF (fk k) b))).map k.format.write=none:=fun d=>by cases d <;> rfl
   rw [if_pos (c:=eF (fk k) b=_) h1.1,if_neg (c:=mF (fk k) b=0) h1.2,this,nb]
   cases BM (fk k) a||BM (fk k) b <;> exact ⟨rfl,rfl⟩
  ·have nb:nan (fk k) b=false:=by simpa using nb
   have sa:=HY na
   have sb:=HY nb
   rw [nb,sa,sb,Bool.or_self,cond_false,cond_false]
   by_cases fa:eF (fk k) a=Av (fk k)
   ·have ma:mF (fk k) a=0:=by
     unfold nan at na; rw [fa] at na; simpa using na
    have ia:Ao (fk k) a=true:=by rw [(cG fa).2.2,ma]; rfl
    rw [if_pos fa,if_pos ma,ia,Bool.true_and]
    by_cases fb:eF (fk k) b=Av (fk k)
    ·have mb:mF (fk k) b=0:=by
      unfold nan at nb; rw [fb] at nb; simpa using nb
     have ib:Ao (fk k) b=true:=by rw [(cG fb).2.2,mb]; rfl
     rw [if_pos fb,if_pos mb,ib,Bool.true_and]
     show _/\_
     by_cases hs:sF (fk k) a=sF (fk k) b
     ·have e:(Ieee.Datum.infinity (sF (fk k) a)).sum (.infinity (sF (fk k) b))=some (.infinity (sF (fk k) a)):=by
       show (if sF (fk k) a=sF (fk k) b then _ else _)=_
       rw [if_pos hs]
      rw [e,beq_iff_eq.2 hs]
      refine ⟨?_,rfl⟩
      show (a:Int)=((k.format.word (sF (fk k) a) k.format.infRung:Nat):Int)
      rw [dA k ha fa ma]
     ·have e:(Ieee.Datum.infinity (sF (fk k) a)).sum (.infinity (sF (fk k) b))=none:=by
       show (if sF (fk k) a=sF (fk k) b then _ else _)=_
       rw [if_neg hs]
      rw [e,beq_eq_false_iff_ne.2 hs]
      exact ⟨rfl,rfl⟩
    ·have ib:Ao (fk k) b=false:=(Qi fb).2.2
     rw [if_neg fb,ib,Bool.false_and,cond_false,cond_true]
     refine ⟨?_,rfl⟩
     show (a:Int)=((k.format.word (sF (fk k) a) k.format.infRung:Nat):Int)
     rw [dA k ha fa ma]
   ·have ia:Ao (fk k) a=false:=(Qi fa).2.2
    rw [if_neg fa,ia,Bool.false_and,Bool.false_and,cond_false,cond_false]
    by_cases fb:eF (fk k) b=Av (fk k)
    ·have mb:mF (fk k) b=0:=by
      unfold nan at nb; rw [fb] at nb; simpa using nb
     have ib:Ao (fk k) b=true:=by rw [(cG fb).2.2,mb]; rfl
     rw [if_pos fb,if_pos mb,ib,cond_true]
     refine ⟨?_,rfl⟩
     show (b:Int)=((k.format.word (sF (fk k) b) k.format.infRung:Nat):Int)
     rw [dA k hb fb mb]
    ·have ib:Ao (fk k) b=false:=(Qi fb).2.2
     rw [if_neg fb,ib,cond_false,aI9 k _ _ _ _ _ _ (Dx (fk k) a) (Dx (fk k) b)]
     exact ⟨rfl,rfl⟩
theorem aEv {f:Int} (hf:Fm f) (b:Nat):eF f (Cc f b)=eF f b/\mF f (Cc f b)=mF f b:=by
 obtain ⟨p1,p2⟩:=aC hf b
 obtain ⟨q1,q2⟩:=aC hf (Cc f b)
 rw [WI] at q1 q2
 exact ⟨by rw [← p2,← q2],by rw [← p1,← q1]⟩
theorem aH2 (k:FloatKind) {b:Nat} (hb:Aj (fk k) b=0):(k.format.read b).opposite=k.format.read (Cc (fk k) b):=by
 have hf:=Ew k
 have hn:=MZ hf b
 obtain ⟨e1,e2⟩:=aEv hf b
 rw [JR k hb,JR k hn,e1,e2,dV]
 have e3:Af (fk k) (Cc (fk k) b)=Af (fk k) b:=by unfold Af; rw [e1,e2]
 have e4:Ag (fk k) (Cc (fk k) b)=Ag (fk k) b:=by unfold Ag; rw [e1]
 rw [e3,e4]
 by_cases h1:eF (fk k) b=Av (fk k)
 ·rw [if_pos h1,if_pos h1]
  by_cases h2:mF (fk k) b=0
  ·rw [if_pos h2,if_pos h2]; rfl
  ·rw [if_neg h2,if_neg h2]; rfl
 ·rw [if_neg h1,if_neg h1]; rfl
theorem aIY (k:FloatKind) (a:Nat) {b:Nat} (hb:Aj (fk k) b=0):BI .sub k a b=BI .add k a (Cc (fk k) b):=by
 show ((k.format.read a).sum (k.format.read b).opposite).map k.format.write=((k.format.read a).sum (k.format.read (Cc (fk k) b))).map k.format.write
 rw [aH2 k hb]
theorem aIZ (k:FloatKind) {a b:Nat} (ha:Aj (fk k) a=0) (hb:Aj (fk k) b=0):(DM (fk k) 0 a b).1=(CE (fk k) (BI .sub k a b):Nat)/\(DM (fk k) 0 a b).2.2.1=0:=by
 unfold DM
 rw [if_pos hb,aIY k a hb]
 exact nB k ha (MZ (Ew k) b)
theorem aJs (k:FloatKind) {d:Ieee.Datum} (h:d.isNaN=false):Aj (fk k) (k.format.write d)=0/\nan (fk k) (k.format.write d)=false:=by
 have hf:=Ew k
 have key:∀ s r,r<=AK (fk k)->Aj (fk k) (k.format.word s r)=0/\nan (fk k) (k.format.word s r)=false:=fun s r hr=>by
  have hroom:=rQ hf
  have hlt:r<2^(fW (fk k)-1):=by omega
  rw [QD]
  refine ⟨WF hf s hlt,dQ hf ?_⟩
  rw [Tx s hlt]; exact hr
 cases d with
 | nan s t=>cases h
 | infinity s=>exact key s _ (by rw [NP]; exact Nat.le_refl _)
 | number s m e =>
  show Aj (fk k) (k.format.nearest s m e)=0/\nan (fk k) (k.format.nearest s m e)=false
  unfold Ieee.Format.nearest
  split
  ·exact key s 0 (Nat.zero_le _)
  ·exact key s _ (by rw [NP]; exact Nat.min_le_right _ _)
theorem wJ {d e r:Ieee.Datum} (h:d.sum e=some r):r.isNaN=false:=by
 cases d <;> cases e <;> first | (cases h; done) | skip
 ·cases h; rfl
 ·cases h; rfl
 ·cases h; rfl
 ·rename_i s t
  have h:(if s=t then some (Ieee.Datum.infinity s) else none)=some r:=h
  split at h
  ·cases h; rfl
  ·cases h
end VL
namespace VL
open Go Vx
theorem SD {x:Nat} (h:x<2^64):CK .u64 (x:Int) 4294967295=((x%2^32:Nat):Int):=Pl (n:=32) h (by decide)
theorem N8 (x:Nat):AN .u64 (x:Int) 32=((x/2^32:Nat):Int):=by
 have h:=wB (a:=(x:Int)) 32 (by decide)
 rw [show ((32:Nat):Int)=32 from rfl] at h
 rw [h]; norm_cast
theorem aEl {x0 x1 y0 y1:Nat} (h0:x0<2^32) (h1:x1<2^32) (k0:y0<2^32) (k1:y1<2^32) :
  ((x1*y1%2^64+(x1*y0%2^64+x0*y0%2^64/2^32)%2^64/2^32)%2^64+((x1*y0%2^64+x0*y0%2^64/2^32)%2^64%2^32+x0*y1%2^64)%2^64/2^32)%2^64=(x0+2^32*x1)*(y0+2^32*y1)/2^64:=by
 have b00:x0*y0<=(2^32-1)*(2^32-1):=Nat.mul_le_mul (by omega) (by omega)
 have b01:x0*y1<=(2^32-1)*(2^32-1):=Nat.mul_le_mul (by omega) (by omega)
 have b10:x1*y0<=(2^32-1)*(2^32-1):=Nat.mul_le_mul (by omega) (by omega)
 have b11:x1*y1<=(2^32-1)*(2^32-1):=Nat.mul_le_mul (by omega) (by omega)
 have e1:x0*(2^32*y1)=2^32*(x0*y1):=Nat.mul_left_comm _ _ _
 have e2:2^32*x1*y0=2^32*(x1*y0):=Nat.mul_assoc _ _ _
 have e3:2^32*x1*(2^32*y1)=2^64*(x1*y1):=by
  rw [Nat.mul_assoc,Nat.mul_left_comm x1,← Nat.mul_assoc]
 rw [Nat.add_mul,Nat.mul_add,Nat.mul_add,e1,e2,e3]
 generalize x0*y0=a at *
 generalize x0*y1=b at *
 generalize x1*y0=c at *
 generalize x1*y1=d at *
 have ha:a%2^64=a:=Nat.mod_eq_of_lt (by omega)
 have hb:b%2^64=b:=Nat.mod_eq_of_lt (by omega)
 have hc:c%2^64=c:=Nat.mod_eq_of_lt (by omega)
 have hd:d%2^64=d:=Nat.mod_eq_of_lt (by omega)
 rw [ha,hb,hc,hd]
 have ht:(c+a/2^32)%2^64=c+a/2^32:=Nat.mod_eq_of_lt (by omega)
 rw [ht]
 generalize hT:c+a/2^32=t
 have hw:(t%2^32+b)%2^64=t%2^32+b:=Nat.mod_eq_of_lt (by omega)
 rw [hw]
 have hq:(d+t/2^32)%2^64=d+t/2^32:=Nat.mod_eq_of_lt (by omega)
 rw [hq]
 omega
theorem Zo {x y:Nat} (hx:x<2^64) (hy:y<2^64):Rj ((x:Int),(y:Int),())=some (((x*y/2^64:Nat):Int),((x*y%2^64:Nat):Int),()):=by
 show X0 (x:Int) (y:Int)=_
 unfold X0
 dsimp only
 rw [SD hx,SD hy,N8 x,N8 y]
 have hm:∀ z:Nat,z%2^64<2^64:=fun z=>Nat.mod_lt _ (by decide)
 have am:∀ z:Nat,CK .u64 ((z%2^64:Nat):Int) 4294967295=((z%2^64%2^32:Nat):Int):=fun z=>SD (hm z)
 have wm:∀ a b:Nat,IntKind.wrap .u64 ((a:Int)*(b:Int))=((a*b%2^64:Nat):Int):=fun a b=>by rw [← Int.natCast_mul]; exact YT _
 have wa:∀ a b:Nat,IntKind.wrap .u64 ((a:Int)+(b:Int))=(((a+b)%2^64:Nat):Int):=fun a b=>by rw [← Int.natCast_add]; exact YT _
 simp only [wm,wa,N8,am]
 have e:=aEl (x0:=x%2^32) (x1:=x/2^32) (y0:=y%2^32) (y1:=y/2^32) (by omega) (by omega) (by omega) (by omega)
 rw [Nat.mod_add_div,Nat.mod_add_div] at e
 rw [e]
theorem aAF {x y:Nat} (hx:x<2^64) (hy:y<2^64):Rk ((x:Int),(y:Int),())=some (Wi (x*y),()):=by
 show X1 A9.pre A9.F (x:Int) (y:Int)=_
 unfold X1
 have p:=Zo hx hy
 simp only [fB p,cP p,cond_true]
 rfl
def Ax (f:Int) (a:Nat):Bool:=eF f a==0&&mF f a==0
theorem aY {f:Int} (hf:Fm f) (a:Nat):(A4 f a==5||A4 f a==6)=Ax f a:=by
 have hp:=Tc hf
 have hne:(eF f a==Av f&&eF f a==0)=false:=by
  cases h:eF f a==Av f
  ·rfl
  ·have:=beq_iff_eq.1 h
   rw [Bool.true_and,this]
   exact beq_eq_false_iff_ne.2 (by omega)
 unfold A4 Ax
 cases h1:eF f a==Av f <;> cases h2:eF f a==0 <;> rw [h1,h2] at hne <;> cases mF f a==0 <;> cases sF f a <;> cases mF f a/2^(fP f-2) != 0 <;> first | rfl | cases hne
theorem aJx {f:Int} (hf:Fm f) {a:Nat} (h:eF f a=0) :
  IntKind.wrap .i64 (IntKind.wrap .i64 (IntKind.wrap .i64 (IntKind.wrap .i64 (IntKind.wrap .i64 (1:Int)-1)+(1-(fX f:Int)))-(fP f:Int))+1)=Ag f a:=by
 have h3:=Eu hf
 have h4:=Jx hf
 unfold Ag
 rw [if_pos h,show IntKind.wrap .i64 (1:Int)=1 from rfl,Au (n:=(1:Int)-1) (by omega),Au (n:=(1:Int)-1+(1-(fX f:Int))) (by omega),Au (n:=(1:Int)-1+(1-(fX f:Int))-(fP f:Int)) (by omega),Au (by omega)]
 omega
theorem aJw {f:Int} (hf:Fm f) {a:Nat} (h:eF f a≠0) :
  IntKind.wrap .i64 (IntKind.wrap .i64 (IntKind.wrap .i64 (IntKind.wrap .i64 (IntKind.wrap .i64 (eF f a:Int)-1)+(1-(fX f:Int)))-(fP f:Int))+1)=Ag f a:=by
 have h3:=Eu hf
 have h4:=Jx hf
 have hE:=V6 hf a
 unfold Ag
 rw [if_neg h,Au (n:=(eF f a:Int)) (by omega),Au (n:=(eF f a:Int)-1) (by omega),Au (n:=(eF f a:Int)-1+(1-(fX f:Int))) (by omega),Au (n:=(eF f a:Int)-1+(1-(fX f:Int))-(fP f:Int)) (by omega),Au (by omega)]
 omega
theorem aD8 {f:Int} (hf:Fm f) (a:Nat):Bz .u64 (mF f a:Int) (Bp .u64 1 (IntKind.wrap .i64 ((fP f:Int)-1)))=((mF f a+2^(fP f-1):Nat):Int):=by
 have h1:=BD hf
 have h3:=Eu hf
 have hM:=HP f a
 have hPp:2^(fP f-1)<=2^52:=Nat.pow_le_pow_right (by decide) (by omega)
 have e0:IntKind.wrap .i64 ((fP f:Int)-1)=((fP f-1:Nat):Int):=Bq _ (by omega)
 have e3:Bp .u64 1 ((fP f-1:Nat):Int)=((2^(fP f-1):Nat):Int):=Qv (by omega)
 rw [e0,e3]
 have:=JM (a:=mF f a) (b:=1) (k:=fP f-1) hM (by omega)
 rwa [Nat.one_mul] at this
theorem jI {f:Int} {a:Nat} (h:Aj f a=0):OM (f,BL f,(a:Int),())=some ((A4 f a,sF f a,(Af f a:Int),Ag f a,()),0,()):=by
 obtain ⟨hf,h0⟩:=Ca h
 have ha:=DJ h
 show Qx Cx.pre Cx.F Cz.pre Cz.F f (BL f) a=_
 unfold Qx
 have p1:=RZ ha h
 have p2:=UZ h
 have h1:=BD hf
 have h3:=Eu hf
 have r1:(BL f).2.1=(fP f:Int):=rfl
 have r2:(BL f).2.2.1=1-(fX f:Int):=rfl
 have e0:decide (0<=IntKind.wrap .i64 ((fP f:Int)-1))=true:=by
  rw [Bq _ (by omega)]; exact AU _
 simp only [JQ p1,JD p1,W6 p2,Wv p2,cond_true,bne_self_eq_false,cond_false,r1,r2,e0]
 by_cases hz:eF f a=0
 ·rw [Bx _ hz,cond_true,aJx hf hz]
  have hm:Af f a=mF f a:=by unfold Af; rw [if_pos hz]
  rw [hm]
 ·rw [AX _ hz,cond_false,aJw hf hz,aD8 hf]
  have hm:Af f a=mF f a+2^(fP f-1):=by unfold Af; rw [if_neg hz]
  rw [hm]
theorem jH {f:Int} {a:Nat} (ha:a<2^64) (h:Aj f a≠0):OM (f,BL f,(a:Int),())=some ((0,false,0,0,()),Aj f a,()):=by
 show Qx Cx.pre Cx.F Cz.pre Cz.F f (BL f) a=_
 unfold Qx
 have p1:=Zq ha h
 have e:(Aj f a != 0)=true:=bne_iff_ne.2 h
 simp only [JQ p1,JD p1,cond_true,e]
def Tz (f m:Int) (a b:Nat):Int×Int×Int×Unit :=
 bif nan f a||nan f b then ((By f:Int),(bif BM f a||BM f b then 1 else 0),0,())
 else bif (Ao f a&&Ax f b)||(Ax f a&&Ao f b) then ((By f:Int),1,0,())
 else bif Ao f a||Ao f b then ((Bv f (!(sF f a==sF f b)):Int),0,0,())
 else bif Ax f a||Ax f b then ((AZ f (!(sF f a==sF f b)):Int),0,0,())
 else (((At f m (!(sF f a==sF f b)) (Af f a*Af f b) (Ag f a+Ag f b) false).1:Int),((At f m (!(sF f a==sF f b)) (Af f a*Af f b) (Ag f a+Ag f b) false).2:Int),0,())
def Ee (f m:Int) (a b:Nat):Int×Int×Int×Unit :=
 if ¬ Fm f then (0,0,2,())
 else if m<0∨m>5 then (0,0,3,())
 else if Aj f a≠0 then (0,0,Aj f a,())
 else if Aj f b≠0 then (0,0,Aj f b,())
 else Tz f m a b
theorem CG {f:Int} {a:Nat} (h:Ax f a=false):Af f a≠0:=by
 unfold Ax at h
 unfold Af
 by_cases hz:eF f a=0
 ·rw [if_pos hz]
  intro hm
  rw [hz,hm] at h
  cases h
 ·rw [if_neg hz]
  have:=Nat.two_pow_pos (fP f-1)
  omega
theorem aAL (f m:Int) {a b:Nat} (ha:a<2^64) (hb:b<2^64):Rv (f,m,(a:Int),(b:Int),())=some (Ee f m a b):=by
 show X9 AE.pre AE.F L3.pre L3.F L4.pre L4.F CJ.pre CJ.F L5.pre L5.F Cy.pre Cy.F L6.pre L6.F Bm.pre Bm.F LY.pre LY.F CU.pre CU.F f m a b=_
 unfold X9 Ee
 dsimp only
 by_cases hf:¬ Fm f
 ·have p0:=R1 hf
  rw [if_pos hf]
  simp only [HX p0,HO p0,cond_true]
  rfl
 have hf:=Classical.not_not.1 hf
 have p0:=Nx hf
 rw [if_neg (show ¬ ¬ Fm f from fun h=>h hf)]
 simp only [HX p0,HO p0,cond_true,bne_self_eq_false,cond_false]
 by_cases hm:m<0∨m>5
 ·rw [if_pos hm]
  have:(decide (m<0)||decide (m>5))=true:=by rcases hm with h | h <;> simp [h]
  rw [this,cond_true]
 rw [if_neg hm]
 have hm':0<=m/\m<=5:=by omega
 have:(decide (m<0)||decide (m>5))=false:=by simp; omega
 rw [this,cond_false]
 by_cases hca:Aj f a≠0
 ·have p1:=jH ha hca
  have e:(Aj f a != 0)=true:=bne_iff_ne.2 hca
  rw [if_pos hca]
  simp only [WV p1,Wh p1,cond_true,e]
 have hca:=Classical.not_not.1 hca
 have p1:=jI hca
 rw [if_neg (show ¬ Aj f a≠0 from fun h=>h hca)]
 simp only [WV p1,Wh p1,cond_true,bne_self_eq_false,cond_false]
 by_cases hcb:Aj f b≠0
 ·have p2:=jH hb hcb
  have e:(Aj f b != 0)=true:=bne_iff_ne.2 hcb
  rw [if_pos hcb]
  simp only [WV p2,Wh p2,cond_true,e]
 have hcb:=Classical.not_not.1 hcb
 have p2:=jI hcb
 rw [if_neg (show ¬ Aj f b≠0 from fun h=>h hcb)]
 have n351:∀ (c:Int) (s:Bool) (n e:Int),Rs ((c,s,n,e,()),())=some ((c==1||c==0),()):=fun _ _ _ _=>rfl
 have n352:∀ (c:Int) (s:Bool) (n e:Int),Rt ((c,s,n,e,()),())=some ((c==2||c==9),()):=fun _ _ _ _=>rfl
 have n353:∀ (c:Int) (s:Bool) (n e:Int),Ru ((c,s,n,e,()),())=some ((c==5||c==6),()):=fun _ _ _ _=>rfl
 have q1:=n351 (A4 f a) (sF f a) (Af f a:Int) (Ag f a)
 have q2:=n351 (A4 f b) (sF f b) (Af f b:Int) (Ag f b)
 have q3:=n352 (A4 f a) (sF f a) (Af f a:Int) (Ag f a)
 have q4:=n352 (A4 f b) (sF f b) (Af f b:Int) (Ag f b)
 have q5:=n353 (A4 f a) (sF f a) (Af f a:Int) (Ag f a)
 have q6:=n353 (A4 f b) (sF f b) (Af f b:Int) (Ag f b)
 rw [SQ] at q1 q2
 rw [VQ] at q3 q4
 rw [aY hf] at q5 q6
 have s:=!(sF f a==sF f b)
 have p3:=UV hf
 have p4:=UY hf (!(sF f a==sF f b))
 have p5:=OE hf (!(sF f a==sF f b))
 have ma:=GE hf a
 have mb:=GE hf b
 have xa:=Of hf a
 have xb:=Of hf b
 have hprod:Af f a*Af f b<2^128:=Nat.lt_of_lt_of_le (Nat.mul_lt_mul'' ma mb) (by decide)
 have p6:=aAF (x:=Af f a) (y:=Af f b) (Nat.lt_trans ma (by decide)) (Nat.lt_trans mb (by decide))
 have p7:=Q3 hf hm' (!(sF f a==sF f b)) (Af f a*Af f b) hprod (Ag f a+Ag f b) (by omega) false (fun h=>by cases h)
 have ew:IntKind.wrap .i64 (Ag f a+Ag f b)=Ag f a+Ag f b:=Au (by omega)
 simp only [WV p2,Wh p2,cond_true,bne_self_eq_false,cond_false,uM q1,qR q1,uM q2,qR q2,uN q3,qS q3,uN q4,qS q4,uO q5,qT q5,uO q6,qT q6,W2 p3,Wp p3,W5 p4,Wu p4,Qo p5,Px p5,aFF p6,aDg p6,ew,TH p7,Td p7,Bool.true_or,VR]
 unfold Tz
 cases h1:nan f a||nan f b
 ·simp only [cond_false]
  cases h2:Ao f a&&Ax f b||Ax f a&&Ao f b
  ·simp only [cond_false]
   cases h3:Ao f a||Ao f b
   ·simp only [cond_false]
    cases h4:Ax f a||Ax f b
    ·simp only [cond_false]
     simp only [Bool.or_eq_false_iff] at h4
     rw [if_neg (Nat.mul_ne_zero (CG h4.1) (CG h4.2))]
    ·simp only [cond_true]
   ·simp only [cond_true]
  ·simp only [cond_true]
 ·simp only [cond_true]
  cases BM f a||BM f b <;> rfl
end VL
namespace VL
open Go Vx
def JL (f:Int) (l:List Nat):Bool:=l.all fun a=>Aj f a==0
theorem aV {f:Int} (hf:Fm f) (a:Nat):Aj f a=0∨Aj f a=4:=by
 unfold Aj
 rw [if_pos hf]
 split <;> simp
def aU (f m:Int) (l:List Nat):Int:=if ¬ Fm f then 2 else if m<0∨m>5 then 3 else bif JL f l then 0 else 4
end VL
namespace VL
open Go Vx
theorem oW {q r yn1 yn0 u u1:Nat} (hq:q*yn1+r=u):(2^32*r+u1<q*yn0)↔u*2^32+u1<q*(yn1*2^32+yn0):=by
 rw [Nat.mul_add,← Nat.mul_assoc,← hq,Nat.add_mul]
 omega
theorem oT {q r yn1 yn0 u u1:Nat} (hq:q*yn1+r=u) (hr:r<2^32) (h0:yn0<2^32) (hu1:u1<2^32) (hlt:u<yn1*2^32+yn0) :
  (decide ((q:Int)>=4294967296)||decide (IntKind.wrap .u64 ((q:Int)*(yn0:Int))>IntKind.wrap .u64 (IntKind.wrap .u64 ((4294967296:Int)*(r:Int))+(u1:Int))))=decide (u*2^32+u1<q*(yn1*2^32+yn0)):=by
 rcases Nat.lt_or_ge q (2^32) with h | h
 ·have hm:q*yn0<=(2^32-1)*(2^32-1):=Nat.mul_le_mul (by omega) (by omega)
  have e1:IntKind.wrap .u64 ((q:Int)*(yn0:Int))=((q*yn0:Nat):Int):=gT _ _ (by omega)
  have e2:IntKind.wrap .u64 ((4294967296:Int)*(r:Int))=((2^32*r:Nat):Int):=gT (2^32) r (by omega)
  have e3:IntKind.wrap .u64 (((2^32*r:Nat):Int)+(u1:Int))=((2^32*r+u1:Nat):Int):=YU _ _ (by omega)
  have e4:decide ((q:Int)>=4294967296)=false:=decide_eq_false (by omega)
  rw [e1,e2,e3,e4,Bool.false_or,Bool.eq_iff_iff,decide_eq_true_eq,decide_eq_true_eq,← oW hq]
  omega
 ·have e4:decide ((q:Int)>=4294967296)=true:=decide_eq_true (by omega)
  have hm:2^32*(yn1*2^32+yn0)<=q*(yn1*2^32+yn0):=Nat.mul_le_mul_right _ h
  rw [e4,Bool.true_or,decide_eq_true (by omega)]
theorem oV {yn1 yn0 u u1:Nat} (hy:0<yn1) (hu1:u1<2^32):u*2^32+u1<(u/yn1+1)*(yn1*2^32+yn0):=by
 have h1:u<(u/yn1+1)*yn1:=by
  have:=Nat.lt_div_mul_add hy (a:=u)
  rw [Nat.add_mul,Nat.one_mul]; exact this
 rw [Nat.mul_add,← Nat.mul_assoc]
 omega
theorem oU {q r yn1 yn0 u u1:Nat} (hq:q*yn1+r=u) (h:u*2^32+u1<q*(yn1*2^32+yn0)):1<=q/\(q-1)*yn1+(r+yn1)=u:=by
 have h1:1<=q:=by
  rcases Nat.eq_zero_or_pos q with h0 | h0
  ·rw [h0,Nat.zero_mul] at h; omega
  ·exact h0
 refine ⟨h1,?_⟩
 obtain ⟨p,rfl⟩:∃ p,q=p+1:=⟨q-1,by omega⟩
 rw [Nat.add_mul,Nat.one_mul] at hq
 rw [show p+1-1=p by omega]
 omega
theorem oS {q r yn1 yn0 u u1:Nat} (hq:q*yn1+r=u) (hr:2^32<=r) (h0:yn0<2^32) (hlt:u<yn1*2^32+yn0):q*(yn1*2^32+yn0)<=u*2^32+u1:=by
 have h1:q*yn1<2^32*yn1:=by omega
 have h2:q<2^32:=Nat.lt_of_mul_lt_mul_right h1
 have h3:q*yn0<=2^32*(2^32-1):=Nat.mul_le_mul (by omega) (by omega)
 have h4:¬ 2^32*r+u1<q*yn0:=by omega
 rw [oW hq] at h4
 omega
theorem V0 {a b q:Nat} (h1:q*b<=a) (h2:a<(q+1)*b):a/b=q:=Nat.div_eq_of_lt_le h1 h2
theorem aBh {u u1 yn0 yn1:Nat} (h0:yn0<2^32) (h1:yn1<2^32) (hy:0<yn1) (hu1:u1<2^32) (hlt:u<yn1*2^32+yn0) (u0 y s:Int) :
  U8 ((((u%yn1:Nat):Int),((u:Int),((u1:Int),((yn0:Int),((yn1:Int),(((u/yn1:Nat):Int),(u0,(y,(s,()))))))))),()) =
   some (.inl (((u:Int),((u1:Int),((yn0:Int),((yn1:Int),((((u*2^32+u1)/(yn1*2^32+yn0):Nat):Int),(u0,(y,(s,())))))))),())):=by
 have key:=DH (sM Bg.pre Bg.F) (fun x=>x.1.2.2.2.2.2.1.toNat)
  (fun x=>∃ q r:Nat,q*yn1+r=u/\r<2^32/\u*2^32+u1<(q+1)*(yn1*2^32+yn0)/\x=(((r:Int),((u:Int),((u1:Int),((yn0:Int),((yn1:Int),((q:Int),(u0,(y,(s,()))))))))),()))
  (fun _=>.inl (((u:Int),((u1:Int),((yn0:Int),((yn1:Int),((((u*2^32+u1)/(yn1*2^32+yn0):Nat):Int),(u0,(y,(s,())))))))),())) ?_ _
  ⟨u/yn1,u%yn1,by rw [Nat.mul_comm]; exact Nat.div_add_mod u yn1,Nat.lt_trans (Nat.mod_lt _ hy) h1,oV hy hu1,rfl⟩
 ·exact key
 intro L x hx hL
 obtain ⟨q,r,hq,hr,hup,rfl⟩:=hx
 unfold PO
 have hqu:q<=u:=by
  have:=Nat.le_mul_of_pos_right q hy
  omega
 dsimp only
 rw [oT hq hr h0 hu1 hlt]
 by_cases hc:u*2^32+u1<q*(yn1*2^32+yn0)
 ·obtain ⟨d1,d2⟩:=oU hq hc
  have e1:IntKind.wrap .u64 ((q:Int)-1)=((q-1:Nat):Int):=by rw [Eg (by omega)]; omega
  have e2:IntKind.wrap .u64 ((r:Int)+(yn1:Int))=((r+yn1:Nat):Int):=YU _ _ (by omega)
  rw [decide_eq_true hc,cond_true,e1,e2]
  by_cases hb:2^32<=r+yn1
  ·have e3:decide (((r+yn1:Nat):Int)>=4294967296)=true:=decide_eq_true (by omega)
   rw [e3,cond_true]
   have:=oS (u1:=u1) d2 hb h0 hlt
   rw [V0 this (by rw [show q-1+1=q by omega]; exact hc)]
  ·have e3:decide (((r+yn1:Nat):Int)>=4294967296)=false:=decide_eq_false (by omega)
   rw [e3,cond_false]
   exact hL _ ⟨q-1,r+yn1,d2,by omega,by rw [show q-1+1=q by omega]; exact hc,rfl⟩ (by simp only [Int.toNat_natCast]; omega)
 ·rw [decide_eq_false hc,cond_false,V0 (by omega) hup]
theorem aBi {u u1 yn0 yn1:Nat} (h0:yn0<2^32) (h1:yn1<2^32) (hy:0<yn1) (hu1:u1<2^32) (hlt:u<yn1*2^32+yn0) (q1 y s:Int) :
  U9 (((yn0:Int),(((u%yn1:Nat):Int),((yn1:Int),(q1,((u:Int),((u1:Int),(((u/yn1:Nat):Int),(y,(s,()))))))))),()) =
   some (.inl ((q1,((u:Int),((u1:Int),((((u*2^32+u1)/(yn1*2^32+yn0):Nat):Int),(y,(s,())))))),())):=by
 have key:=DH (sN Bg.pre Bg.F) (fun x=>x.1.2.2.2.2.2.2.1.toNat)
  (fun x=>∃ q r:Nat,q*yn1+r=u/\r<2^32/\u*2^32+u1<(q+1)*(yn1*2^32+yn0)/\x=(((yn0:Int),((r:Int),((yn1:Int),(q1,((u:Int),((u1:Int),((q:Int),(y,(s,()))))))))),()))
  (fun _=>.inl ((q1,((u:Int),((u1:Int),((((u*2^32+u1)/(yn1*2^32+yn0):Nat):Int),(y,(s,())))))),())) ?_ _
  ⟨u/yn1,u%yn1,by rw [Nat.mul_comm]; exact Nat.div_add_mod u yn1,Nat.lt_trans (Nat.mod_lt _ hy) h1,oV hy hu1,rfl⟩
 ·exact key
 intro L x hx hL
 obtain ⟨q,r,hq,hr,hup,rfl⟩:=hx
 unfold PP
 have hqu:q<=u:=by
  have:=Nat.le_mul_of_pos_right q hy
  omega
 dsimp only
 rw [oT hq hr h0 hu1 hlt]
 by_cases hc:u*2^32+u1<q*(yn1*2^32+yn0)
 ·obtain ⟨d1,d2⟩:=oU hq hc
  have e1:IntKind.wrap .u64 ((q:Int)-1)=((q-1:Nat):Int):=by rw [Eg (by omega)]; omega
  have e2:IntKind.wrap .u64 ((r:Int)+(yn1:Int))=((r+yn1:Nat):Int):=YU _ _ (by omega)
  rw [decide_eq_true hc,cond_true,e1,e2]
  by_cases hb:2^32<=r+yn1
  ·have e3:decide (((r+yn1:Nat):Int)>=4294967296)=true:=decide_eq_true (by omega)
   rw [e3,cond_true]
   have:=oS (u1:=u1) d2 hb h0 hlt
   rw [V0 this (by rw [show q-1+1=q by omega]; exact hc)]
  ·have e3:decide (((r+yn1:Nat):Int)>=4294967296)=false:=decide_eq_false (by omega)
   rw [e3,cond_false]
   exact hL _ ⟨q-1,r+yn1,d2,by omega,by rw [show q-1+1=q by omega]; exact hc,rfl⟩ (by simp only [Int.toNat_natCast]; omega)
 ·rw [decide_eq_false hc,cond_false,V0 (by omega) hup]
theorem aCu {A y u32 u1 u0 q1 r1 q0 r0:Nat} (hA:A=(u32*2^32+u1)*2^32+u0) (h1:u32*2^32+u1=q1*y+r1) (h2:r1*2^32+u0=q0*y+r0) (hr:r0<y) :
  A/y=q1*2^32+q0/\A%y=r0:=by
 have e:A=(q1*2^32+q0)*y+r0:=by
  rw [hA,h1,Nat.add_mul,Nat.add_mul,Nat.mul_right_comm]; omega
 have hy:0<y:=by omega
 rw [e,Nat.mul_comm _ y]
 exact ⟨by rw [Nat.mul_add_div hy,Nat.div_eq_of_lt hr,Nat.add_zero],by rw [Nat.mul_add_mod,Nat.mod_eq_of_lt hr]⟩
theorem aIR (U X:Nat):U*2^64+X=(U*2^32+X/2^32)*2^32+X%2^32:=by omega
theorem orL {a b k:Nat} (ha:a<2^k) (h:b*2^k+a<2^64):Bz .u64 ((b*2^k:Nat):Int) (a:Int)=((b*2^k+a:Nat):Int):=by
 rw [TF (by omega) (by omega)]
 congr 1
 have:=Nat.two_pow_add_eq_or_of_lt ha b
 rw [Nat.mul_comm b,← this]
theorem jE {n:Nat} (hn:n<2^64):Rl ((n:Int),())=some (((64-Ab n:Nat):Int),()):=by
 show X2 EU.pre EU.F (n:Int)=_
 unfold X2
 have p0:=jB n hn
 have hb:=Cj hn
 have e:IntKind.wrap .i64 ((64:Int)-(Ab n:Int))=((64-Ab n:Nat):Int):=by rw [Au (by omega)]; omega
 simp only [uJ p0,qO p0,cond_true,e]
theorem jF {hi lo y:Nat} (hlo:lo<2^64) (hy:y<2^64) (hlt:hi<y) :
  Rm ((hi:Int),(lo:Int),(y:Int),())=some ((((hi*2^64+lo)/y:Nat):Int),(((hi*2^64+lo)%y:Nat):Int),()):=by
 have hy0:0<y:=by omega
 show X3 Bg.pre Bg.F U8 U9 (hi:Int) (lo:Int) (y:Int)=_
 unfold X3
 have hbl:=Cj hy
 have hbl1:=VK (n:=y) (by omega)
 have p0:=jE hy
 generalize hs:64-Ab y=s at *
 have e9:IntKind.wrap .u64 (s:Int)=(s:Int):=Ub _ (by omega)
 have e10:IntKind.wrap .u64 ((64:Int)-(s:Int))=((64-s:Nat):Int):=by rw [Eg (by omega)]; omega
 have g0:((y:Int)==0)=false:=AX _ (by omega)
 have g1:decide ((y:Int)<=(hi:Int))=false:=decide_eq_false (by omega)
 have g2:((y:Int) != 0)=true:=Bf _ (by omega)
 dsimp only
 simp only [g0,g1,g2,cond_false,cond_true,uK p0,qP p0,e9,e10]
 by_cases hh:hi=0
 ·subst hh
  have e1:(((0:Nat):Int)==0)=true:=rfl
  rw [e1,cond_true,fJ _ _ hlo hy0,Nat.zero_mul,Nat.zero_add]
  rfl
 have e1:((hi:Int)==0)=false:=AX _ hh
 rw [e1,cond_false]
 have hp:=Nat.two_pow_pos s
 have hyl:=Gu (n:=y) (by omega)
 have hyu:=Eq y
 have hY1:y*2^s<2^64:=by
  have:y*2^s<2^Ab y*2^s:=Nat.mul_lt_mul_of_pos_right hyu hp
  rw [← Nat.pow_add,show Ab y+s=64 by omega] at this
  exact this
 have hY2:2^63<=y*2^s:=by
  have:2^(Ab y-1)*2^s<=y*2^s:=Nat.mul_le_mul_right _ hyl
  rw [← Nat.pow_add,show Ab y-1+s=63 by omega] at this
  exact this
 have hH:hi*2^s<y*2^s:=Nat.mul_lt_mul_of_pos_right hlt hp
 have hlos:lo/2^(64-s)<2^s:=by
  rw [Nat.div_lt_iff_lt_mul (Nat.two_pow_pos _),← Nat.pow_add,show s+(64-s)=64 by omega]
  exact hlo
 have e264:2^64=2^s*2^(64-s):=by rw [← Nat.pow_add]; congr 1; omega
 have hU:hi*2^s+lo/2^(64-s)<y*2^s:=by
  have h1:(hi+1)*2^s<=y*2^s:=Nat.mul_le_mul_right _ hlt
  rw [Nat.add_mul,Nat.one_mul] at h1
  omega
 have hsc:(hi*2^64+lo)*2^s=(hi*2^s+lo/2^(64-s))*2^64+lo*2^s%2^64:=by
  have h1:lo*2^s=lo*2^s/2^64*2^64+lo*2^s%2^64:=by
   have:=Nat.div_add_mod (lo*2^s) (2^64)
   omega
  have h2:lo*2^s/2^64=lo/2^(64-s):=by
   rw [e264,Nat.mul_comm lo,Nat.mul_div_mul_left _ _ hp]
  rw [h2] at h1
  rw [Nat.add_mul,Nat.add_mul,Nat.mul_right_comm]
  omega
 have s1:=GI hi s (by omega)
 have s2:=DK lo (64-s) (by omega)
 have s3:=GI y s (by omega)
 have s4:=GI lo s (by omega)
 rw [Nat.mod_eq_of_lt (by omega)] at s1 s3
 have hY32:y*2^s/2^32*2^32+y*2^s%2^32=y*2^s:=by omega
 have hdiv:(hi*2^64+lo)*2^s/(y*2^s)=(hi*2^64+lo)/y:=Nat.mul_div_mul_right _ _ hp
 have hmod:(hi*2^64+lo)*2^s%(y*2^s)=(hi*2^64+lo)%y*2^s:=Nat.mul_mod_mul_right _ _ _
 have hX:lo*2^s%2^64<2^64:=Nat.mod_lt _ (by decide)
 have s5:=orL (b:=hi) hlos (by omega)
 rw [s1,s2,s3,s4,s5]
 have hq64:(hi*2^64+lo)/y<2^64:=by
  rw [Nat.div_lt_iff_lt_mul hy0]
  have:(hi+1)*2^64<=y*2^64:=Nat.mul_le_mul_right _ hlt
  omega
 rw [hsc] at hdiv hmod
 generalize hi*2^s+lo/2^(64-s)=U at *
 generalize lo*2^s%2^64=X at *
 generalize hYd:y*2^s=Y at *
 rw [N8 Y,N8 X,SD hY1,SD hX]
 have hYY1:Y/2^32<2^32:=by omega
 have hYY0:Y%2^32<2^32:=by omega
 have hYp:0<Y/2^32:=by omega
 have g3:(((Y/2^32:Nat):Int) != 0)=true:=Bf _ (by omega)
 have hrem:∀ V:Nat,V<2^64->IntKind.wrap .u64 ((V:Int)-IntKind.wrap .u64 (((V/(Y/2^32):Nat):Int)*((Y/2^32:Nat):Int)))=((V%(Y/2^32):Nat):Int):=fun V hV=>by
  have hdm:=Nat.div_add_mod V (Y/2^32)
  rw [Nat.mul_comm] at hdm
  rw [gT _ _ (by omega)]
  generalize V/(Y/2^32)*(Y/2^32)=z at *
  generalize V%(Y/2^32)=w at *
  rw [Eg (by omega)]
  omega
 rw [g3,cond_true,fJ _ _ (by omega) hYp,hrem U (by omega)]
 have w1:=aBh hYY0 hYY1 hYp (show X/2^32<2^32 by omega) (u:=U) (by omega) ((X%2^32:Nat):Int) (Y:Int) (s:Int)
 rw [w1,hY32]
 show (bif (((Y/2^32:Nat):Int) != 0) then _ else _)=_
 rw [g3,cond_true]
 dsimp only
 have hd1:=Nat.div_add_mod (U*2^32+X/2^32) Y
 have hr1:=Nat.mod_lt (U*2^32+X/2^32) (show 0<Y by omega)
 have hq1:(U*2^32+X/2^32)/Y<2^32:=by
  rw [Nat.div_lt_iff_lt_mul (by omega)]
  have:(U+1)*2^32<=Y*2^32:=Nat.mul_le_mul_right _ hU
  omega
 have hrem2:∀ a b c q r:Nat,a*2^32+b=Y*q+r->r<Y->IntKind.wrap .u64 (IntKind.wrap .u64 (IntKind.wrap .u64 ((a:Int)*4294967296)+(b:Int))-IntKind.wrap .u64 ((q:Int)*(Y:Int)))=(r:Int):=fun a b _ q r h1 h2=>by
  have e:(q:Int)*(Y:Int)=((Y*q:Nat):Int):=by rw [Int.natCast_mul,Int.mul_comm]
  rw [e]
  generalize Y*q=z at *
  show ((((a:Int)*4294967296)%18446744073709551616+(b:Int))%18446744073709551616-((z:Int)%18446744073709551616))%18446744073709551616=(r:Int)
  omega
 rw [hrem2 U (X/2^32) 0 _ _ hd1.symm hr1]
 clear w1
 obtain ⟨q1,hQ1⟩:∃ q,q=(U*2^32+X/2^32)/Y:=⟨_,rfl⟩
 obtain ⟨r1,hR1⟩:∃ q,q=(U*2^32+X/2^32)%Y:=⟨_,rfl⟩
 rw [← hQ1] at hd1 hq1
 rw [← hR1] at hd1 hr1
 rw [← hQ1,← hR1]
 rw [fJ _ _ (by omega) hYp,hrem r1 (by omega)]
 have w2:=aBi hYY0 hYY1 hYp (show X%2^32<2^32 by omega) (u:=r1) (by omega) (q1:Int) (Y:Int) (s:Int)
 rw [w2,hY32]
 show some (_,(_,()))=_
 dsimp only
 have hd2:=Nat.div_add_mod (r1*2^32+X%2^32) Y
 have hr2:=Nat.mod_lt (r1*2^32+X%2^32) (show 0<Y by omega)
 have hq2:(r1*2^32+X%2^32)/Y<2^32:=by
  rw [Nat.div_lt_iff_lt_mul (by omega)]
  have:(r1+1)*2^32<=Y*2^32:=Nat.mul_le_mul_right _ hr1
  omega
 rw [hrem2 r1 (X%2^32) 0 _ _ hd2.symm hr2]
 obtain ⟨q0,hQ0⟩:∃ q,q=(r1*2^32+X%2^32)/Y:=⟨_,rfl⟩
 obtain ⟨r0,hR0⟩:∃ q,q=(r1*2^32+X%2^32)%Y:=⟨_,rfl⟩
 rw [← hQ0] at hd2 hq2
 rw [← hR0] at hd2 hr2
 rw [← hQ0,← hR0]
 obtain ⟨f1,f2⟩:=aCu (A:=U*2^64+X) (y:=Y) (u32:=U) (u1:=X/2^32) (u0:=X%2^32) (aIR U X) (by rw [Nat.mul_comm q1]; exact hd1.symm) (by rw [Nat.mul_comm q0]; exact hd2.symm) hr2
 rw [hdiv] at f1
 rw [hmod] at f2
 have e5:IntKind.wrap .u64 (IntKind.wrap .u64 ((q1:Int)*4294967296)+(q0:Int))=(((hi*2^64+lo)/y:Nat):Int):=by
  rw [f1]
  show ((((q1:Int)*4294967296)%18446744073709551616)+(q0:Int))%18446744073709551616=_
  omega
 have e6:AN .u64 (r0:Int) (s:Int)=(((hi*2^64+lo)%y:Nat):Int):=by
  rw [DK _ _ (by omega),← f2,Nat.mul_div_cancel _ hp]
 rw [e5,e6]
end VL
namespace VL
open Go Vx
theorem NX {D Y:Type} {Φ:{R:Type}->(D->Option R)->(Y->Option R)->D->Option R} (hp:BG Φ) (μ:D->Nat) (I:D->Prop) (Q:Y->Prop)
  (h:∀ (L:D->Option Y) x,I x->(∀ x',I x'->μ x'<μ x->∃ y,L x'=some y/\Q y)->∃ y,Φ L some x=some y/\Q y):∀ x,I x->∃ y,Bo (fun L=>Φ L some) x=some y/\Q y:=by
 have key:∀ m x,I x->μ x<m->∃ y,CA (fun L=>Φ L some) m x=some y/\Q y:=by
  intro m
  induction m with
  | zero=>intro x _ h; omega
  | succ m ih =>
   intro x hx hm
   simp only [CA]
   exact h _ x hx fun x' hx' hlt=>ih x' hx' (by omega)
 intro x hx
 obtain ⟨y,hy,hQ⟩:=key (μ x+1) x hx (by omega)
 exact ⟨y,rY hp hy,hQ⟩
theorem HV (i:Nat):(2^64)^(i+1)=(2^64)^i*2^64:=Nat.pow_succ ..
theorem Od {A us C:List Nat} {i:Nat} (h:i<us.length):(Wd (A++us++C)).getD (A.length+i) 0=((us.getD i 0:Nat):Int):=by
 rw [Ci]
 congr 1
 rw [List.getD_eq_getElem?_getD,List.getD_eq_getElem?_getD,List.append_assoc,List.getElem?_append_right (by omega),Nat.add_sub_cancel_left,List.getElem?_append_left h]
theorem YR {A us C:List Nat} {i v:Nat} (h:i<us.length):(Wd (A++us++C)).set (A.length+i) (v:Int)=Wd (A++us.set i v++C):=by
 rw [Ep]
 congr 1
 rw [List.append_assoc,List.set_append_right _ _ (by omega),Nat.add_sub_cancel_left,List.set_append_left _ _ h,← List.append_assoc]
theorem VY {out us:List Nat} {i:Nat} (hol:out.length=i) (hi:i<us.length):(out++us.drop i).getD i 0=us.getD i 0:=by
 rw [List.getD_eq_getElem?_getD,List.getD_eq_getElem?_getD,List.getElem?_append_right (by omega),hol,Nat.sub_self,List.getElem?_drop,Nat.add_zero]
theorem aEn {x y c:Nat} (hx:x<2^64) (hy:y<2^64) (hc:c<2^64) :
  x*y+c=2^64*(x*y/2^64+(x*y%2^64+c)/2^64)+(x*y%2^64+c)%2^64/\x*y/2^64+(x*y%2^64+c)/2^64<2^64:=by
 have:x*y<=(2^64-1)*(2^64-1):=Nat.mul_le_mul (by omega) (by omega)
 generalize x*y=z at *
 omega
theorem wF {d l b:Nat} (hd:d<2^64) (hl:l<2^64) (hb:b<=1) :
  (d+2^64-l-b)%2^64+l+b=d+2^64*(if d<l+b then 1 else 0)/\(d+2^64-l-b)%2^64<2^64/\(if d<l+b then 1 else 0)<=1:=by
 split <;> omega
theorem aJf {P U V O x y c b d o l c' b':Nat} (h:O+x*V=U+P*(c+b)) (h1:x*y+c=2^64*c'+l) (h2:o+l+b=d+2^64*b') :
  O+P*o+x*(V+P*y)=U+P*d+P*2^64*(c'+b'):=by
 have h3:P*(c+b+o+x*y)=P*(d+2^64*(c'+b')):=by
  congr 1; omega
 rw [Nat.mul_add P,Nat.mul_add P,Nat.mul_add P d,← Nat.mul_assoc P (2^64)] at h3
 rw [Nat.mul_add x,Nat.mul_left_comm x P y]
 omega
theorem aAG (A us C v:List Nat) (hlen:us.length=v.length+1) (hu:∀ x∈us,x<2^64) (hv:∀ x∈v,x<2^64) (hn:v.length<=1000000) {x:Nat} (hx:x<2^64) :
  ∃ out:List Nat,out.length=us.length/\(∀ z∈out,z<2^64)/\nv (2^64) out+x*nv (2^64) v=nv (2^64) us+(if nv (2^64) us<x*nv (2^64) v then (2^64)^us.length else 0) /\
   Rn ((Wd (A++us++C),(A.length,us.length)),(Wd v,((x:Int),())))=some (Wd (A++out++C),decide (nv (2^64) us<x*nv (2^64) v),()):=by
 show ∃ out:List Nat,_/\_/\_/\X4 A9.pre A9.F Az.pre Az.F AR.pre AR.F Va (Wd (A++us++C),(A.length,us.length)) (Wd v) (x:Int)=_
 have key:=NX (sO A9.pre A9.F Az.pre Az.F AR.pre AR.F) (fun s=>v.length-s.1.2.2.2.1.toNat)
  (fun s=>∃ (i:Nat) (out:List Nat) (c b:Nat),i<=v.length/\out.length=i/\(∀ z∈out,z<2^64)/\c<2^64/\b<=1/\nv (2^64) out+x*nv (2^64) (v.take i)=nv (2^64) (us.take i)+(2^64)^i*(c+b) /\
   s=(((v.length:Int),(Wd v,((x:Int),((i:Int),(Wd v,((A.length,us.length),((c:Int),((b:Int),())))))))),(Wd (A++(out++us.drop i)++C),())))
  (fun y=>∃ (out:List Nat) (c b:Nat),out.length=v.length/\(∀ z∈out,z<2^64)/\c<2^64/\b<=1/\nv (2^64) out+x*nv (2^64) v=nv (2^64) (us.take v.length)+(2^64)^v.length*(c+b) /\
   y=.inl ((Wd v,((A.length,us.length),((c:Int),((b:Int),())))),(Wd (A++(out++us.drop v.length)++C),()))) ?_
  (((v.length:Int),(Wd v,((x:Int),((0:Int),(Wd v,((A.length,us.length),((0:Int),((0:Int),())))))))),(Wd (A++us++C),()))
  ⟨0,[],0,0,Nat.zero_le _,rfl,(fun z hz=>by simp at hz),by decide,by decide,by simp [nv],rfl⟩
 ·obtain ⟨y,hy,out,c,b,k1,k2,k3,k4,k5,rfl⟩:=key
  have hy:Va (((v.length:Int),(Wd v,((x:Int),((0:Int),(Wd v,((A.length,us.length),((0:Int),((0:Int),())))))))),(Wd (A++us++C),()))=_:=hy
  have hlt:v.length<us.length:=by omega
  have hwl:(out++us.drop v.length).length=us.length:=by simp [k1]; omega
  have hdg:=VY (us:=us) k1 hlt
  have hg:=Od (A:=A) (C:=C) (us:=out++us.drop v.length) (i:=v.length) (by omega)
  rw [hdg] at hg
  have hst:=fun z=>YR (A:=A) (C:=C) (us:=out++us.drop v.length) (i:=v.length) (v:=z) (by omega)
  have hsd:=fun z=>TU (a:=us) (v:=z) k1 hlt
  have hd:=Cs (by decide) hu v.length
  obtain ⟨w1,w2,w3⟩:=wF (d:=us.getD v.length 0) (l:=c) (b:=b) hd k3 k4
  have q1:=TZ (us.getD v.length 0) c b k4 hd k3
  have q2:=T3 ((us.getD v.length 0:Nat):Int) (c:Int) b k4
  have hnx:=Ef (2^64) us v.length
  rw [List.take_of_length_le (show us.length<=v.length+1 by omega)] at hnx
  have hnil:us.drop (v.length+1)=[]:=List.drop_of_length_le (by omega)
  unfold X4
  dsimp only
  rw [AC,hy]
  have e0:decide ((0:Int)<=(v.length:Int))=true:=decide_eq_true (by omega)
  have e1:decide ((v.length:Int)<(us.length:Int))=true:=decide_eq_true (by omega)
  dsimp only [Bh,Bi]
  simp only [e0,e1,Bool.and_self,cond_true,AC,Int.toNat_natCast,hg,q2,q1,hst,hsd,hnil,List.append_nil]
  generalize us.getD v.length 0=d at *
  generalize (d+2^64-c-b)%2^64=o at *
  have hO:nv (2^64) (out++[o])+x*nv (2^64) v=nv (2^64) us+(2^64)^us.length*(if d<c+b then 1 else 0):=by
   rw [TD,k1,hnx,hlen,HV]
   have h3:(2^64)^v.length*(o+c+b)=(2^64)^v.length*(d+2^64*(if d<c+b then 1 else 0)):=by rw [w1]
   rw [Nat.mul_add,Nat.mul_add,Nat.mul_add _ d,← Nat.mul_assoc _ (2^64)] at h3
   rw [Nat.mul_add] at k5
   omega
  have hod:=SL k2 w2
  have hOl:=Dr (B:=2^64) (by decide) (out++[o]) hod
  have hol:(out++[o]).length=us.length:=by simp [k1]; omega
  rw [hol] at hOl
  by_cases hb:d<c+b
  ·rw [if_pos hb,Nat.mul_one] at hO
   have hlt2:nv (2^64) us<x*nv (2^64) v:=by omega
   refine ⟨out++[o],hol,hod,by rw [if_pos hlt2]; exact hO,?_⟩
   rw [if_pos hb,decide_eq_true hlt2]; rfl
  ·rw [if_neg hb,Nat.mul_zero,Nat.add_zero] at hO
   have hlt2:¬ nv (2^64) us<x*nv (2^64) v:=by omega
   refine ⟨out++[o],hol,hod,by rw [if_neg hlt2,Nat.add_zero]; exact hO,?_⟩
   rw [if_neg hb,decide_eq_false hlt2]; rfl
 intro L s hs hL
 obtain ⟨i,out,c,b,hi,hol,hod,hc,hb,hinv,rfl⟩:=hs
 unfold PQ
 rcases Nat.lt_or_ge i v.length with hlt | hge
 ·have hy:=Cs (by decide) hv i
  have hd:=Cs (by decide) hu i
  have hnv:=Ef (2^64) v i
  have hnu:=Ef (2^64) us i
  have hwl:(out++us.drop i).length=us.length:=by simp [hol]; omega
  have hdg:=VY (us:=us) hol (by omega)
  have hg:=Od (A:=A) (C:=C) (us:=out++us.drop i) (i:=i) (by omega)
  rw [hdg] at hg
  have hst:=fun z=>YR (A:=A) (C:=C) (us:=out++us.drop i) (i:=i) (v:=z) (by omega)
  have hsd:=fun z=>TU (a:=us) (v:=z) hol (by omega)
  have hgv:(Wd v).getD i 0=((v.getD i 0:Nat):Int):=Ci v i
  generalize v.getD i 0=y at *
  generalize us.getD i 0=d at *
  have p0:=Zo hx hy
  obtain ⟨m1,m2⟩:=aEn hx hy hc
  have q1:=Pi (x*y%2^64) c 0
  have q2:=Pj ((x*y%2^64:Nat):Int) (c:Int) 0 (by decide)
  rw [Nat.add_zero] at q1
  have hl:(x*y%2^64+c)%2^64<2^64:=Nat.mod_lt _ (by decide)
  have e5:=YU (x*y/2^64) ((x*y%2^64+c)/2^64) m2
  generalize x*y/2^64+(x*y%2^64+c)/2^64=c' at *
  generalize hlq:(x*y%2^64+c)%2^64=l at *
  obtain ⟨w1,w2,w3⟩:=wF (d:=d) (l:=l) (b:=b) hd hl hb
  have r1:=TZ d l b hb hd hl
  have r2:=T3 (d:Int) (l:Int) b hb
  generalize (d+2^64-l-b)%2^64=o at *
  generalize (if d<l+b then 1 else 0)=b' at *
  have hstep:=aJf (P:=(2^64)^i) hinv m1 w1
  have e0:decide ((i:Int)<(v.length:Int))=true:=decide_eq_true (by omega)
  have e1:decide ((0:Int)<=(i:Int))=true:=decide_eq_true (by omega)
  have e2:decide ((i:Int)<((us.length:Nat):Int))=true:=decide_eq_true (by omega)
  have e3:IntKind.wrap .i64 ((i:Int)+1)=((i+1:Nat):Int):=by rw [Au (by omega)]; omega
  have z0:((0:Nat):Int)=0:=rfl
  rw [z0] at q1 q2
  dsimp only
  simp only [e0,e1,e2,e3,cond_true,Bool.and_self,AC,Int.toNat_natCast,hgv,hg,fB p0,cP p0,q1,q2,r1,r2,e5,hst,hsd]
  refine hL _ ⟨i+1,out++[o],c',b',by omega,by simp [hol],SL hod w2,m2,w3,?_,rfl⟩ (by simp only [Int.toNat_natCast]; omega)
  rw [TD,hol,hnv,hnu,HV]
  exact hstep
 ·have e:i=v.length:=by omega
  subst e
  have e0:decide ((v.length:Int)<(v.length:Int))=false:=decide_eq_false (by omega)
  simp only [e0,cond_false]
  rw [List.take_length] at hinv
  exact ⟨_,rfl,out,c,b,hol,hod,hc,hb,hinv,rfl⟩
end VL
namespace VL
open Go Vx
theorem nO {P U V O y c d:Nat} (h:O+P*c=U+V):O+P*((d+y+c)%2^64)+P*2^64*((d+y+c)/2^64)=U+P*d+(V+P*y):=by
 have h1:P*((d+y+c)%2^64+2^64*((d+y+c)/2^64))=P*(d+y+c):=by rw [Nat.mod_add_div]
 rw [Nat.mul_add,Nat.mul_add P (d+y),Nat.mul_add,← Nat.mul_assoc P (2^64)] at h1
 omega
theorem aAH (A us C v:List Nat) (hlen:us.length=v.length+1) (hu:∀ x∈us,x<2^64) (hv:∀ x∈v,x<2^64) (hn:v.length<=1000000) :
  ∃ out:List Nat,out.length=us.length/\(∀ z∈out,z<2^64)/\nv (2^64) out+(if (2^64)^us.length<=nv (2^64) us+nv (2^64) v then (2^64)^us.length else 0)=nv (2^64) us+nv (2^64) v /\
   Ro ((Wd (A++us++C),(A.length,us.length)),(Wd v,()))=some (Wd (A++out++C),decide ((2^64)^us.length<=nv (2^64) us+nv (2^64) v),()):=by
 show ∃ out:List Nat,_/\_/\_/\X5 Az.pre Az.F Vb (Wd (A++us++C),(A.length,us.length)) (Wd v)=_
 have key:=NX (sP Az.pre Az.F) (fun s=>v.length-s.1.2.2.1.toNat)
  (fun s=>∃ (i:Nat) (out:List Nat) (c:Nat),i<=v.length/\out.length=i/\(∀ z∈out,z<2^64)/\c<=1/\nv (2^64) out+(2^64)^i*c=nv (2^64) (us.take i)+nv (2^64) (v.take i) /\
   s=(((v.length:Int),(Wd v,((i:Int),(Wd v,((A.length,us.length),((c:Int),())))))),(Wd (A++(out++us.drop i)++C),())))
  (fun y=>∃ (out:List Nat) (c:Nat),out.length=v.length/\(∀ z∈out,z<2^64)/\c<=1/\nv (2^64) out+(2^64)^v.length*c=nv (2^64) (us.take v.length)+nv (2^64) v /\
   y=.inl ((Wd v,((A.length,us.length),((c:Int),()))),(Wd (A++(out++us.drop v.length)++C),()))) ?_
  (((v.length:Int),(Wd v,((0:Int),(Wd v,((A.length,us.length),((0:Int),())))))),(Wd (A++us++C),()))
  ⟨0,[],0,Nat.zero_le _,rfl,(fun z hz=>by simp at hz),by decide,by simp [nv],rfl⟩
 ·obtain ⟨y,hy,out,c,k1,k2,k3,k5,rfl⟩:=key
  have hy:Vb (((v.length:Int),(Wd v,((0:Int),(Wd v,((A.length,us.length),((0:Int),())))))),(Wd (A++us++C),()))=_:=hy
  have hlt:v.length<us.length:=by omega
  have hwl:(out++us.drop v.length).length=us.length:=by simp [k1]; omega
  have hdg:=VY (us:=us) k1 hlt
  have hg:=Od (A:=A) (C:=C) (us:=out++us.drop v.length) (i:=v.length) (by omega)
  rw [hdg] at hg
  have hst:=fun z=>YR (A:=A) (C:=C) (us:=out++us.drop v.length) (i:=v.length) (v:=z) (by omega)
  have hsd:=fun z=>TU (a:=us) (v:=z) k1 hlt
  have hd:=Cs (by decide) hu v.length
  have q1:=Pi (us.getD v.length 0) 0 c
  have q2:=Pj ((us.getD v.length 0:Nat):Int) ((0:Nat):Int) c k3
  have z0:((0:Nat):Int)=0:=rfl
  rw [z0] at q1 q2
  have hnx:=Ef (2^64) us v.length
  rw [List.take_of_length_le (show us.length<=v.length+1 by omega)] at hnx
  have hnil:us.drop (v.length+1)=[]:=List.drop_of_length_le (by omega)
  unfold X5
  dsimp only
  rw [AC,hy]
  have e0:decide ((0:Int)<=(v.length:Int))=true:=decide_eq_true (by omega)
  have e1:decide ((v.length:Int)<(us.length:Int))=true:=decide_eq_true (by omega)
  dsimp only [Bh,Bi]
  simp only [e0,e1,Bool.and_self,cond_true,AC,Int.toNat_natCast,hg,q2,q1,hst,hsd,hnil,List.append_nil]
  have hstep:=nO (P:=(2^64)^v.length) (y:=0) (d:=us.getD v.length 0) k5
  generalize us.getD v.length 0=d at *
  have ho:(d+0+c)%2^64<2^64:=Nat.mod_lt _ (by decide)
  have hO:nv (2^64) (out++[(d+0+c)%2^64])+(2^64)^us.length*((d+0+c)/2^64)=nv (2^64) us+nv (2^64) v:=by
   rw [TD,k1,hnx,hlen,HV]
   rw [Nat.mul_zero] at hstep
   omega
  have hod:=SL k2 ho
  have hOl:=Dr (B:=2^64) (by decide) (out++[(d+0+c)%2^64]) hod
  have hol:(out++[(d+0+c)%2^64]).length=us.length:=by simp [k1]; omega
  rw [hol] at hOl
  by_cases hb:(d+0+c)/2^64=1
  ·rw [hb,Nat.mul_one] at hO
   have hlt2:(2^64)^us.length<=nv (2^64) us+nv (2^64) v:=by omega
   refine ⟨out++[(d+0+c)%2^64],hol,hod,by rw [if_pos hlt2]; exact hO,?_⟩
   rw [hb,decide_eq_true hlt2]; rfl
  ·have hb0:(d+0+c)/2^64=0:=by omega
   rw [hb0,Nat.mul_zero,Nat.add_zero] at hO
   have hlt2:¬ (2^64)^us.length<=nv (2^64) us+nv (2^64) v:=by omega
   refine ⟨out++[(d+0+c)%2^64],hol,hod,by rw [if_neg hlt2,Nat.add_zero]; exact hO,?_⟩
   rw [hb0,decide_eq_false hlt2]; rfl
 intro L s hs hL
 obtain ⟨i,out,c,hi,hol,hod,hc,hinv,rfl⟩:=hs
 unfold PR
 rcases Nat.lt_or_ge i v.length with hlt | hge
 ·have hy:=Cs (by decide) hv i
  have hd:=Cs (by decide) hu i
  have hnv:=Ef (2^64) v i
  have hnu:=Ef (2^64) us i
  have hwl:(out++us.drop i).length=us.length:=by simp [hol]; omega
  have hdg:=VY (us:=us) hol (by omega)
  have hg:=Od (A:=A) (C:=C) (us:=out++us.drop i) (i:=i) (by omega)
  rw [hdg] at hg
  have hst:=fun z=>YR (A:=A) (C:=C) (us:=out++us.drop i) (i:=i) (v:=z) (by omega)
  have hsd:=fun z=>TU (a:=us) (v:=z) hol (by omega)
  have hgv:(Wd v).getD i 0=((v.getD i 0:Nat):Int):=Ci v i
  generalize v.getD i 0=y at *
  generalize us.getD i 0=d at *
  have q1:=Pi d y c
  have q2:=Pj (d:Int) (y:Int) c hc
  have ho:(d+y+c)%2^64<2^64:=Nat.mod_lt _ (by decide)
  have hc':(d+y+c)/2^64<=1:=by omega
  have hstep:=nO (P:=(2^64)^i) (y:=y) (d:=d) hinv
  have e0:decide ((i:Int)<(v.length:Int))=true:=decide_eq_true (by omega)
  have e1:decide ((0:Int)<=(i:Int))=true:=decide_eq_true (by omega)
  have e2:decide ((i:Int)<((us.length:Nat):Int))=true:=decide_eq_true (by omega)
  have e3:IntKind.wrap .i64 ((i:Int)+1)=((i+1:Nat):Int):=by rw [Au (by omega)]; omega
  dsimp only
  simp only [e0,e1,e2,e3,cond_true,Bool.and_self,AC,Int.toNat_natCast,hgv,hg,q1,q2,hst,hsd]
  refine hL _ ⟨i+1,out++[(d+y+c)%2^64],(d+y+c)/2^64,by omega,by simp [hol],SL hod ho,hc',?_,rfl⟩ (by simp only [Int.toNat_natCast]; omega)
  rw [TD,hol,hnv,hnu,HV]
  exact hstep
 ·have e:i=v.length:=by omega
  subst e
  have e0:decide ((v.length:Int)<(v.length:Int))=false:=decide_eq_false (by omega)
  simp only [e0,cond_false]
  rw [List.take_length] at hinv
  exact ⟨_,rfl,out,c,hol,hod,hc,hinv,rfl⟩
theorem aBk (A C v:List Nat) {k U:Nat} (hk:k=v.length+1) (hv:∀ x∈v,x<2^64) (hn:v.length<=1000000) (us:List Nat) (g:Nat) (hlen:us.length=k) (hu:∀ x∈us,x<2^64) (hg:g<2^64)
  (hinv:nv (2^64) us+g*nv (2^64) v=U+(2^64)^k) :
  ∃ out:List Nat,out.length=k/\(∀ z∈out,z<2^64)/\nv (2^64) out=U%nv (2^64) v /\
   Sf ((((g:Int),((A.length,k),(Wd v,()))),(Wd (A++us++C),())):EP.D)=some (.inl ((((U/nv (2^64) v:Nat):Int),()),(Wd (A++out++C),()))):=by
 have key:=NX (sQ AV.pre AV.F A9.pre A9.F Az.pre Az.F BQ.pre BQ.F CD.pre CD.F) (fun s=>s.1.1.toNat)
  (fun s=>∃ (us:List Nat) (g:Nat),us.length=k/\(∀ x∈us,x<2^64)/\g<2^64/\nv (2^64) us+g*nv (2^64) v=U+(2^64)^k /\
   s=(((g:Int),((A.length,k),(Wd v,()))),(Wd (A++us++C),())))
  (fun y=>∃ out:List Nat,out.length=k/\(∀ z∈out,z<2^64)/\nv (2^64) out=U%nv (2^64) v/\y=.inl ((((U/nv (2^64) v:Nat):Int),()),(Wd (A++out++C),()))) ?_
  (((g:Int),((A.length,k),(Wd v,()))),(Wd (A++us++C),())) ⟨us,g,hlen,hu,hg,hinv,rfl⟩
 ·obtain ⟨y,hy,out,k1,k2,k3,rfl⟩:=key
  exact ⟨out,k1,k2,k3,hy⟩
 clear hinv hg hu hlen us g
 intro L s hs hL
 obtain ⟨us,g,hlen,hu,hg,hinv,rfl⟩:=hs
 unfold PS
 obtain ⟨out,o1,o2,o3,o4⟩:=aAH A us C v (by omega) hu hv hn
 rw [hlen] at o1 o3 o4
 have hul:=Dr (B:=2^64) (by decide) us hu
 rw [hlen] at hul
 have hg1:1<=g:=by
  rcases Nat.eq_zero_or_pos g with h | h
  ·rw [h,Nat.zero_mul] at hinv; omega
  ·exact h
 obtain ⟨p,rfl⟩:∃ p,g=p+1:=⟨g-1,by omega⟩
 rw [Nat.add_mul,Nat.one_mul] at hinv
 have e1:IntKind.wrap .u64 (((p+1:Nat):Int)-1)=(p:Int):=by rw [Eg (by omega)]; omega
 dsimp only
 rw [aFH o4,aDi o4,cond_true,e1]
 dsimp only
 by_cases hc:(2^64)^k<=nv (2^64) us+nv (2^64) v
 ·rw [if_pos hc] at o3
  rw [decide_eq_true hc,cond_true]
  have hV:nv (2^64) out<nv (2^64) v:=by omega
  have hd:U=nv (2^64) v*p+nv (2^64) out:=by rw [Nat.mul_comm]; omega
  have hpos:0<nv (2^64) v:=by omega
  refine ⟨_,rfl,out,o1,o2,?_,?_⟩
  ·rw [hd,Nat.mul_add_mod,Nat.mod_eq_of_lt hV]
  ·rw [hd,Nat.mul_add_div hpos,Nat.div_eq_of_lt hV,Nat.add_zero]
 ·rw [if_neg hc] at o3
  rw [decide_eq_false hc,cond_false]
  exact hL _ ⟨out,p,o1,o2,by omega,by omega,rfl⟩ (by simp only [Int.toNat_natCast]; omega)
theorem aD3 {h l r w:Nat} (hl:l<2^64) (hw:w<2^64):(decide ((h:Int)<(r:Int))||(((h:Int)==(r:Int))&&decide ((l:Int)<=(w:Int))))=decide (h*2^64+l<=r*2^64+w):=by
 rw [Bool.eq_iff_iff,Bool.or_eq_true,Bool.and_eq_true,decide_eq_true_eq,decide_eq_true_eq,decide_eq_true_eq,beq_iff_eq]
 omega
theorem aCH {U V P v1 v2 u2 u0 g rest:Nat} (hP:0<P) (hV:(v1*2^64+v2)*P<=V) (hU:U<(u2*2^64+u0+1)*P) (hg:g*v1+rest=u2) (h:¬ g*v2<=rest*2^64+u0):U/V<g:=by
 rcases Nat.lt_or_ge (U/V) g with h1 | h1
 ·exact h1
 ·exfalso
  have h2:g*V<=U:=Nat.le_trans (Nat.mul_le_mul_right V h1) (Nat.div_mul_le_self U V)
  have h3:g*((v1*2^64+v2)*P)<=g*V:=Nat.mul_le_mul_left g hV
  rw [← Nat.mul_assoc] at h3
  have h4:=Nat.lt_of_mul_lt_mul_right (Nat.lt_of_le_of_lt (Nat.le_trans h3 h2) hU)
  rw [Nat.mul_add,← Nat.mul_assoc] at h4
  rw [← hg,Nat.add_mul] at h4
  omega
theorem aCI {U V P v1 v2 u2 u0:Nat} (hP:0<P) (h1:0<v1) (hV:(v1*2^64+v2)*P<=V) (hU:U<(u2*2^64+u0+1)*P) (hu0:u0<2^64):U/V<=u2/v1:=by
 rw [Nat.le_div_iff_mul_le h1]
 have h2:U/V*V<=U:=Nat.div_mul_le_self U V
 have h3:U/V*((v1*2^64+v2)*P)<=U/V*V:=Nat.mul_le_mul_left _ hV
 rw [← Nat.mul_assoc] at h3
 have h4:=Nat.lt_of_mul_lt_mul_right (Nat.lt_of_le_of_lt (Nat.le_trans h3 h2) hU)
 rw [Nat.mul_add,← Nat.mul_assoc] at h4
 omega
theorem xI {v:List Nat} {n:Nat} (hn:v.length=n+2):(v.getD (n+1) 0*2^64+v.getD n 0)*(2^64)^n<=nv (2^64) v:=by
 have h1:=Ef (2^64) v n
 have h2:=Ef (2^64) v (n+1)
 rw [List.take_of_length_le (by omega)] at h2
 rw [h2,h1,HV,Nat.add_mul,Nat.mul_comm _ ((2^64)^n),Nat.mul_comm (v.getD n 0),Nat.mul_assoc,Nat.mul_comm (2^64) (v.getD (n+1) 0)]
 omega
theorem xA {u:List Nat} {n:Nat} (hu:∀ x∈u,x<2^64) (hn:u.length=n+3):nv (2^64) u<((u.getD (n+2) 0*2^64+u.getD (n+1) 0)*2^64+u.getD n 0+1)*(2^64)^n:=by
 have h0:=TE hu n
 have h1:=Ef (2^64) u n
 have h2:=Ef (2^64) u (n+1)
 have h3:=Ef (2^64) u (n+2)
 rw [List.take_of_length_le (show u.length<=n+2+1 by omega)] at h3
 rw [h3,h2,h1]
 rw [show (2^64)^(n+2)=(2^64)^n*2^64*2^64 by rw [show n+2=n+1+1 by omega,HV,HV],HV]
 generalize (2^64)^n=P at *
 generalize u.getD (n+2) 0=a
 generalize u.getD (n+1) 0=b
 generalize u.getD n 0=c
 rw [Nat.mul_comm (_+1) P,Nat.mul_add,Nat.mul_add,Nat.add_mul,Nat.mul_add,Nat.mul_one]
 have e1:P*(a*2^64*2^64)=P*2^64*2^64*a:=by rw [Nat.mul_assoc P,Nat.mul_assoc P,Nat.mul_assoc a,Nat.mul_comm a]
 have e2:P*(b*2^64)=P*2^64*b:=by rw [Nat.mul_assoc P,Nat.mul_comm b]
 rw [e1,e2]
 omega
end VL
namespace VL
open Go Vx
theorem aBj (A us C v:List Nat) {n:Nat} (hvl:v.length=n+2) (hlen:us.length=n+3) (hu:∀ x∈us,x<2^64) (hv:∀ x∈v,x<2^64) (hn:v.length<=1000000)
  (hV0:0<v.getD (n+1) 0) (g rest:Nat) (hg:g<2^64) (hr:rest<2^64) (hinv:g*v.getD (n+1) 0+rest=us.getD (n+2) 0*2^64+us.getD (n+1) 0) (hq:nv (2^64) us/nv (2^64) v<=g) :
  ∃ g':Nat,g'<2^64/\nv (2^64) us/nv (2^64) v<=g' /\
   Vc ((((g:Int),((rest:Int),((v.length:Int),((A.length,us.length),(Wd v,()))))),(Wd (A++us++C),())):EQ.D)=some (.inl (((A.length,us.length),(Wd v,((g':Int),()))),(Wd (A++us++C),()))):=by
 have key:=NX (sR AV.pre AV.F A9.pre A9.F Az.pre Az.F BQ.pre BQ.F CD.pre CD.F) (fun s=>s.1.1.toNat)
  (fun s=>∃ (g rest:Nat),g<2^64/\rest<2^64/\g*v.getD (n+1) 0+rest=us.getD (n+2) 0*2^64+us.getD (n+1) 0/\nv (2^64) us/nv (2^64) v<=g /\
   s=(((g:Int),((rest:Int),((v.length:Int),((A.length,us.length),(Wd v,()))))),(Wd (A++us++C),())))
  (fun y=>∃ g':Nat,g'<2^64/\nv (2^64) us/nv (2^64) v<=g'/\y=.inl (((A.length,us.length),(Wd v,((g':Int),()))),(Wd (A++us++C),()))) ?_
  (((g:Int),((rest:Int),((v.length:Int),((A.length,us.length),(Wd v,()))))),(Wd (A++us++C),())) ⟨g,rest,hg,hr,hinv,hq,rfl⟩
 ·obtain ⟨y,hy,g',k1,k2,rfl⟩:=key
  exact ⟨g',k1,k2,hy⟩
 clear hinv hg hr hq g rest
 intro L s hs hL
 obtain ⟨g,rest,hg,hr,hinv,hq,rfl⟩:=hs
 unfold PT
 have hv1:=Cs (by decide) hv (n+1)
 have hv2:=Cs (by decide) hv n
 have hu0:=Cs (by decide) hu n
 have g1:(Wd v).getD (n+1) 0=((v.getD (n+1) 0:Nat):Int):=Ci v _
 have g2:(Wd v).getD n 0=((v.getD n 0:Nat):Int):=Ci v _
 have g3:=Od (A:=A) (C:=C) (us:=us) (i:=n) (by omega)
 have e11:IntKind.wrap .i64 ((v.length:Int)-2)=(n:Int):=by rw [Au (by omega)]; omega
 have e12:IntKind.wrap .i64 ((v.length:Int)-1)=((n+1:Nat):Int):=by rw [Au (by omega)]; omega
 have p0:=Zo hg hv2
 have e0:decide ((0:Int)<=(n:Int))=true:=decide_eq_true (by omega)
 have e1:decide ((n:Int)<(v.length:Int))=true:=decide_eq_true (by omega)
 have e2:decide ((n:Int)<(us.length:Int))=true:=decide_eq_true (by omega)
 have e3:decide ((0:Int)<=((n+1:Nat):Int))=true:=decide_eq_true (by omega)
 have e4:decide (((n+1:Nat):Int)<(v.length:Int))=true:=decide_eq_true (by omega)
 have hlo:g*v.getD n 0%2^64<2^64:=Nat.mod_lt _ (by decide)
 have hlex:=aD3 (h:=g*v.getD n 0/2^64) (r:=rest) hlo hu0
 rw [show g*v.getD n 0/2^64*2^64+g*v.getD n 0%2^64=g*v.getD n 0 by omega] at hlex
 dsimp only
 simp only [e11,e12,e0,e1,e2,e3,e4,Bool.and_self,Bool.true_or,cond_true,AC,Int.toNat_natCast,g1,g2,g3,fB p0,cP p0,hlex]
 by_cases hc:g*v.getD n 0<=rest*2^64+us.getD n 0
 ·rw [decide_eq_true hc,cond_true]
  exact ⟨_,rfl,g,hg,hq,rfl⟩
 ·rw [decide_eq_false hc,cond_false]
  have hdn:=aCH (Nat.pow_pos (by decide)) (xI hvl) (xA hu hlen) hinv hc
  have hg1:1<=g:=Nat.lt_of_le_of_lt (Nat.zero_le _) hdn
  obtain ⟨p,rfl⟩:∃ p,g=p+1:=⟨g-1,by omega⟩
  have e5:IntKind.wrap .u64 (((p+1:Nat):Int)-1)=(p:Int):=by rw [Eg (by omega)]; omega
  have q1:=Pi rest (v.getD (n+1) 0) 0
  have q2:=Pj (rest:Int) ((v.getD (n+1) 0:Nat):Int) 0 (by decide)
  have z0:((0:Nat):Int)=0:=rfl
  rw [z0] at q1 q2
  simp only [q1,q2,cond_true,e5]
  by_cases hb:(rest+v.getD (n+1) 0+0)/2^64=0
  ·have e6:((((rest+v.getD (n+1) 0+0)/2^64:Nat):Int) != 0)=false:=by rw [hb]; rfl
   rw [e6,cond_false]
   have hs:(rest+v.getD (n+1) 0+0)%2^64=rest+v.getD (n+1) 0:=by omega
   rw [hs]
   refine hL _ ⟨p,rest+v.getD (n+1) 0,by omega,by omega,?_,Nat.le_of_lt_succ hdn,rfl⟩ (by simp only [Int.toNat_natCast]; omega)
   rw [Nat.add_mul,Nat.one_mul] at hinv
   omega
  ·have e6:((((rest+v.getD (n+1) 0+0)/2^64:Nat):Int) != 0)=true:=Bf _ hb
   rw [e6,cond_true]
   exact ⟨_,rfl,p,by omega,Nat.le_of_lt_succ hdn,rfl⟩
theorem aAI (A us C v:List Nat) {n:Nat} (hvl:v.length=n+2) (hlen:us.length=n+3) (hu:∀ x∈us,x<2^64) (hv:∀ x∈v,x<2^64) (hn:v.length<=1000000)
  (hlt:nv (2^64) us<nv (2^64) v*2^64) :
  ∃ out:List Nat,out.length=us.length/\(∀ z∈out,z<2^64)/\nv (2^64) out=nv (2^64) us%nv (2^64) v /\
   Rp ((Wd (A++us++C),(A.length,us.length)),(Wd v,()))=some (Wd (A++out++C),((nv (2^64) us/nv (2^64) v:Nat):Int),()):=by
 show ∃ out:List Nat,_/\_/\_/\X6 AV.pre AV.F A9.pre A9.F Az.pre Az.F BQ.pre BQ.F CD.pre CD.F Vc Sf (Wd (A++us++C),(A.length,us.length)) (Wd v)=_
 have hVp:0<nv (2^64) v:=by omega
 have hq64:nv (2^64) us/nv (2^64) v<2^64:=by rw [Nat.div_lt_iff_lt_mul hVp,Nat.mul_comm]; exact hlt
 have hv1:=Cs (by decide) hv (n+1)
 have hu2:=Cs (by decide) hu (n+2)
 have hu1:=Cs (by decide) hu (n+1)
 have hu0:=Cs (by decide) hu n
 have Ck:∀ g:Nat,g<2^64->nv (2^64) us/nv (2^64) v<=g ->
   ∃ out:List Nat,out.length=us.length/\(∀ z∈out,z<2^64)/\nv (2^64) out=nv (2^64) us%nv (2^64) v /\
    (bif BQ.pre ((Wd (A++us++C),(A.length,us.length)),(Wd v,((g:Int),()))) then
     (bif (BQ.F ((Wd (A++us++C),(A.length,us.length)),(Wd v,((g:Int),())))).2.1 then
      (Vx.Bh (Sf (((g:Int),((A.length,us.length),(Wd v,()))),((BQ.F ((Wd (A++us++C),(A.length,us.length)),(Wd v,((g:Int),())))).1,()))) fun y5 =>
      Vx.Bi y5 (fun y6=>some (y6.2.1,y6.1)) (fun _=>none))
     else some ((BQ.F ((Wd (A++us++C),(A.length,us.length)),(Wd v,((g:Int),())))).1,((g:Int),())))
    else none)=(some (Wd (A++out++C),(((nv (2^64) us/nv (2^64) v:Nat):Int),())):Option (LK.B El×DenS Hg)):=by
  intro g hg hq
  obtain ⟨out,o1,o2,o3,o4⟩:=aAG A us C v (by omega) hu hv hn hg
  have hpr:BQ.pre ((Wd (A++us++C),(A.length,us.length)),(Wd v,((g:Int),())))=true:=aFG o4
  have hfr:BQ.F ((Wd (A++us++C),(A.length,us.length)),(Wd v,((g:Int),())))=(Wd (A++out++C),decide (nv (2^64) us<g*nv (2^64) v),()):=aDh o4
  rw [hpr,hfr]
  rw [cond_true]
  by_cases hb:nv (2^64) us<g*nv (2^64) v
  ·rw [if_pos hb] at o3
   obtain ⟨out2,u1,u2,u3,u4⟩:=aBk A C v (k:=us.length) (U:=nv (2^64) us) (by omega) hv hn out g o1 o2 hg o3
   refine ⟨out2,u1,u2,u3,?_⟩
   dsimp only
   rw [decide_eq_true hb,cond_true,u4]
  ·rw [if_neg hb,Nat.add_zero] at o3
   have h1:nv (2^64) us/nv (2^64) v=g:=by
    have:g<=nv (2^64) us/nv (2^64) v:=by rw [Nat.le_div_iff_mul_le hVp]; omega
    exact Nat.le_antisymm hq this
   have h2:nv (2^64) out=nv (2^64) us%nv (2^64) v:=by
    have:=Nat.div_add_mod (nv (2^64) us) (nv (2^64) v)
    rw [h1,Nat.mul_comm] at this
    omega
   refine ⟨out,o1,o2,h2,?_⟩
   dsimp only
   rw [decide_eq_false hb,cond_false,h1]
 have g1:(Wd v).getD (n+1) 0=((v.getD (n+1) 0:Nat):Int):=Ci v _
 have g2:=Od (A:=A) (C:=C) (us:=us) (i:=n+2) (by omega)
 have g3:=Od (A:=A) (C:=C) (us:=us) (i:=n+1) (by omega)
 have e10:IntKind.wrap .i64 ((v.length:Int)-1)=((n+1:Nat):Int):=by rw [Au (by omega)]; omega
 have e0:decide ((0:Int)<=(v.length:Int))=true:=decide_eq_true (by omega)
 have e1:decide ((v.length:Int)<(us.length:Int))=true:=decide_eq_true (by omega)
 have e2:decide ((0:Int)<=((n+1:Nat):Int))=true:=decide_eq_true (by omega)
 have e3:decide (((n+1:Nat):Int)<(v.length:Int))=true:=decide_eq_true (by omega)
 have e4:decide (((n+1:Nat):Int)<(us.length:Int))=true:=decide_eq_true (by omega)
 have evl:v.length=n+2:=hvl
 have g2':(Wd (A++us++C)).getD (A.length+v.length) 0=((us.getD (n+2) 0:Nat):Int):=by rw [evl]; exact g2
 unfold X6
 dsimp only
 simp only [AC,Int.toNat_natCast,e10,g1,g2',g3,e0,e1,e2,e3,e4,Bool.and_self,cond_true]
 by_cases hc:us.getD (n+2) 0<v.getD (n+1) 0
 ·have e5:decide (((us.getD (n+2) 0:Nat):Int)<((v.getD (n+1) 0:Nat):Int))=true:=decide_eq_true (by omega)
  have p0:=jF hu1 hv1 hc
  simp only [e5,cond_true,uL p0,qQ p0]
  have hgl:(us.getD (n+2) 0*2^64+us.getD (n+1) 0)/v.getD (n+1) 0<2^64:=by
   rw [Nat.div_lt_iff_lt_mul (by omega)]
   have:(us.getD (n+2) 0+1)*2^64<=v.getD (n+1) 0*2^64:=Nat.mul_le_mul_right _ hc
   rw [Nat.add_mul,Nat.one_mul] at this
   rw [Nat.mul_comm (2^64)]
   omega
  have hrl:(us.getD (n+2) 0*2^64+us.getD (n+1) 0)%v.getD (n+1) 0<2^64:=Nat.lt_trans (Nat.mod_lt _ (by omega)) hv1
  have hst:=aCI (Nat.pow_pos (n:=n) (show 0<2^64 by decide)) (show 0<v.getD (n+1) 0 by omega) (xI hvl) (xA hu hlen) hu0
  obtain ⟨g',k1,k2,k3⟩:=aBj A us C v hvl hlen hu hv hn (by omega) _ _ hgl hrl (by rw [Nat.mul_comm]; exact Nat.div_add_mod _ _) hst
  rw [k3]
  obtain ⟨out,o1,o2,o3,o4⟩:=Ck g' k1 k2
  exact ⟨out,o1,o2,o3,o4⟩
 ·have e5:decide (((us.getD (n+2) 0:Nat):Int)<((v.getD (n+1) 0:Nat):Int))=false:=decide_eq_false (by omega)
  simp only [e5,cond_false]
  obtain ⟨out,o1,o2,o3,o4⟩:=Ck (2^64-1) (by decide) (Nat.le_pred_of_lt hq64)
  exact ⟨out,o1,o2,o3,o4⟩
end VL
namespace VL
open Go Vx
theorem aBU {X Q d r a B:Nat} (hX:X=Q*d+r):X*B+a=(Q*B+(r*B+a)/d)*d+(r*B+a)%d:=by
 have h1:=Nat.div_add_mod (r*B+a) d
 rw [hX,Nat.add_mul,Nat.add_mul,Nat.mul_right_comm,Nat.mul_comm ((r*B+a)/d) d]
 omega
theorem aA9 (l:List Nat) (hl:∀ x∈l,x<2^64) (hn:l.length<=1000000) {d:Nat} (hd:0<d) (hd2:d<2^64) :
  ∃ qs:List Nat,qs.length=l.length/\(∀ x∈qs,x<2^64)/\nv (2^64) qs=nv (2^64) l/d /\
   Sd ((((d:Int),(((l.length:Int)-1),((),((0:Int),())))),(Wd l,())):EO.D)=some (.inl (((),(((nv (2^64) l%d:Nat):Int),())),(Wd qs,()))):=by
 have key:=NX (sD AV.pre AV.F Ah.pre Ah.F) (fun s=>(s.1.2.1+1).toNat)
  (fun s=>∃ (k:Nat) (qs:List Nat) (r:Nat),k<=l.length/\qs.length+k=l.length/\(∀ x∈qs,x<2^64)/\r<d/\nv (2^64) (l.drop k)=nv (2^64) qs*d+r /\
   s=(((d:Int),(((k:Int)-1),((),((r:Int),())))),(Wd (l.take k++qs),())))
  (fun y=>∃ qs:List Nat,qs.length=l.length/\(∀ x∈qs,x<2^64)/\nv (2^64) qs=nv (2^64) l/d/\y=.inl (((),(((nv (2^64) l%d:Nat):Int),())),(Wd qs,()))) ?_
  (((d:Int),(((l.length:Int)-1),((),((0:Int),())))),(Wd l,()))
  ⟨l.length,[],0,Nat.le_refl _,by simp,(fun z hz=>by simp at hz),hd,by simp [nv],by simp⟩
 ·obtain ⟨y,hy,qs,k1,k2,k3,rfl⟩:=key
  exact ⟨qs,k1,k2,k3,hy⟩
 intro L s hs hL
 obtain ⟨k,qs,r,hk,hql,hqd,hr,hinv,rfl⟩:=hs
 unfold PG
 rcases k with _ | i
 ·have e0:decide ((((0:Nat):Int)-1)>=0)=false:=rfl
  dsimp only
  rw [e0,cond_false]
  rw [List.drop_zero] at hinv
  have hdv:nv (2^64) l/d=nv (2^64) qs:=by rw [hinv,Nat.mul_comm,Nat.mul_add_div hd,Nat.div_eq_of_lt hr,Nat.add_zero]
  have hmd:nv (2^64) l%d=r:=by rw [hinv,Nat.mul_comm,Nat.mul_add_mod,Nat.mod_eq_of_lt hr]
  exact ⟨_,rfl,qs,by omega,hqd,hdv.symm,by rw [hmd,List.take_zero,List.nil_append]⟩
 ·have ei:(((i+1:Nat):Int)-1)=(i:Int):=by omega
  have ha:=Cs (by decide) hl i
  have hg:(Wd (l.take (i+1)++qs)).getD i 0=((l.getD i 0:Nat):Int):=by
   rw [Ci]
   congr 1
   rw [List.getD_eq_getElem?_getD,List.getD_eq_getElem?_getD,List.getElem?_append_left (by simp; omega),List.getElem?_take_of_lt (by omega)]
  have hdn:=Qd (2^64) l i (by omega)
  have hset:∀ z:Nat,(Wd (l.take (i+1)++qs)).set i (z:Int)=Wd (l.take i++(z::qs)):=fun z=>by
   rw [Ep,List.set_append_left _ _ (by simp; omega),List.take_succ_eq_append_getElem (show i<l.length by omega),List.set_append_right _ _ (by simp; omega)]
   have:i-(l.take i).length=0:=by simp; omega
   rw [this]
   simp
  have hlen:(Wd (l.take (i+1)++qs)).length=l.length:=by rw [AC]; simp; omega
  generalize l.getD i 0=a at *
  have p0:=jF (hi:=r) ha hd2 hr
  have e0:decide ((i:Int)>=0)=true:=decide_eq_true (by omega)
  have e1:decide ((0:Int)<=(i:Int))=true:=decide_eq_true (by omega)
  have e2:decide ((i:Int)<(l.length:Int))=true:=decide_eq_true (by omega)
  have e3:IntKind.wrap .i64 ((i:Int)-1)=(i:Int)-1:=Au (by omega)
  dsimp only
  simp only [ei,e0,e1,e2,e3,hlen,Bool.and_self,cond_true,Int.toNat_natCast,hg,uL p0,qQ p0,hset]
  have hq:(r*2^64+a)/d<2^64:=by
   rw [Nat.div_lt_iff_lt_mul hd]
   have:(r+1)*2^64<=d*2^64:=Nat.mul_le_mul_right _ hr
   rw [Nat.mul_comm (2^64)]
   omega
  refine hL _ ⟨i,(r*2^64+a)/d::qs,(r*2^64+a)%d,by omega,by simp; omega,?_,Nat.mod_lt _ hd,?_,rfl⟩ (by dsimp only; omega)
  ·intro x hx
   rcases List.mem_cons.1 hx with rfl | hx
   ·exact hq
   ·exact hqd x hx
  ·have:=aBU (B:=2^64) (a:=a) hinv
   rw [hdn]
   show a+2^64*_=((r*2^64+a)/d+2^64*nv (2^64) qs)*d+_
   rw [Nat.mul_comm (2^64) (nv (2^64) qs),Nat.add_comm ((r*2^64+a)/d),← this]
   omega
theorem gO {l:List Nat} (h:∀ x∈l,x<2^64):Wd (Ai l)=Dw (nv (2^64) l):=by
 unfold Dw
 rw [FE (by decide) l h]
theorem aAt {a:Nat} (ha:a<(2^64)^5000) {d:Nat} (hd:0<d) (hd2:d<2^64):Q6 (Dw a,(d:Int),())=some (Dw (a/d),((a%d:Nat):Int),()):=by
 show XC AV.pre AV.F Ah.pre Ah.F Sd (Dw a) (d:Int)=_
 unfold XC
 have hw:=CX ha
 obtain ⟨qs,k1,k2,k3,k4⟩:=aA9 (dg (2^64) a) hw.1 hw.2 hd hd2
 rw [B9] at k3 k4
 have hl:(dg (2^64) a).length<=1000000:=hw.2
 have e0:IntKind.wrap .i64 (((Dw a).length:Int)-1)=(((dg (2^64) a).length:Int)-1):=by
  unfold Dw
  rw [AC,Au (by omega)]
 have p0:=Dz qs (by omega)
 rw [e0]
 have k4:Sd ((((d:Int),((((dg (2^64) a).length:Int)-1),((),((0:Int),())))),(Dw a,())):EO.D)=_:=k4
 rw [k4]
 show (bif Ah.pre (Wd qs,()) then some ((Ah.F (Wd qs,())).1,(((a%d:Nat):Int),())) else none)=_
 simp only [CS p0,CQ p0,cond_true,gO k2,k3]
theorem aBl (v:List Nat) {n:Nat} (hvl:v.length=n+2) (hv:∀ x∈v,x<2^64) (hn:v.length<=900000) {X:Nat} (Q:Nat) (hQ:Q<=50000) (s:Int) (us:List Nat) (hus:us.length=Q+n+2)
  (hud:∀ x∈us,x<2^64) (hX:nv (2^64) us=X) (hlt:X<nv (2^64) v*(2^64)^Q) :
  ∃ qs us':List Nat,qs.length=Q/\(∀ x∈qs,x<2^64)/\nv (2^64) qs=X/nv (2^64) v/\us'.length=Q+n+2/\(∀ x∈us',x<2^64)/\nv (2^64) us'=X%nv (2^64) v /\
   Sg (((Wd v,(((Q:Int)-1),((),((),((v.length:Int),(s,())))))),(Wd us,(Wd (List.replicate Q 0),()))):ER.D)=some (.inl (((),((),((v.length:Int),(s,())))),(Wd us',(Wd qs,())))):=by
 have hV0:0<nv (2^64) v:=by
  rcases Nat.eq_zero_or_pos (nv (2^64) v) with h | h
  ·rw [h,Nat.zero_mul] at hlt; omega
  ·exact h
 have hVl:=Dr (B:=2^64) (by decide) v hv
 have key:=NX (sS CT.pre CT.F DT.pre DT.F Bt.pre Bt.F Cn.pre Cn.F Eo.pre Eo.F Bg.pre Bg.F CV.pre CV.F DV.pre DV.F Ah.pre Ah.F Co.pre Co.F) (fun s=>(s.1.2.1+1).toNat)
  (fun x=>∃ (k:Nat) (qs us:List Nat),k<=Q/\qs.length+k=Q/\(∀ x∈qs,x<2^64)/\us.length=Q+n+2/\(∀ x∈us,x<2^64)/\nv (2^64) us<nv (2^64) v*(2^64)^k /\
   X=nv (2^64) qs*(2^64)^k*nv (2^64) v+nv (2^64) us /\
   x=((Wd v,(((k:Int)-1),((),((),((v.length:Int),(s,())))))),(Wd us,(Wd (List.replicate k 0++qs),()))))
  (fun y=>∃ qs us':List Nat,qs.length=Q/\(∀ x∈qs,x<2^64)/\nv (2^64) qs=X/nv (2^64) v/\us'.length=Q+n+2/\(∀ x∈us',x<2^64)/\nv (2^64) us'=X%nv (2^64) v /\
   y=.inl (((),((),((v.length:Int),(s,())))),(Wd us',(Wd qs,())))) ?_
  ((Wd v,(((Q:Int)-1),((),((),((v.length:Int),(s,())))))),(Wd us,(Wd (List.replicate Q 0),())))
  ⟨Q,[],us,Nat.le_refl _,by simp,(fun z hz=>by simp at hz),hus,hud,by rw [hX]; exact hlt,by simp [nv,hX],by simp⟩
 ·obtain ⟨y,hy,qs,us',k1,k2,k3,k4,k5,k6,rfl⟩:=key
  exact ⟨qs,us',k1,k2,k3,k4,k5,k6,hy⟩
 clear hlt hX hud hus us
 intro L x hx hL
 obtain ⟨k,qs,us,hk,hql,hqd,hus,hud,hlt,hinv,rfl⟩:=hx
 unfold PU
 rcases k with _ | j
 ·have e0:decide ((((0:Nat):Int)-1)>=0)=false:=rfl
  dsimp only
  rw [e0,cond_false]
  rw [Nat.pow_zero,Nat.mul_one] at hlt hinv
  have hdv:X/nv (2^64) v=nv (2^64) qs:=by rw [hinv,Nat.mul_comm,Nat.mul_add_div hV0,Nat.div_eq_of_lt hlt,Nat.add_zero]
  have hmd:X%nv (2^64) v=nv (2^64) us:=by rw [hinv,Nat.mul_comm,Nat.mul_add_mod,Nat.mod_eq_of_lt hlt]
  exact ⟨_,rfl,qs,us,by omega,hqd,hdv.symm,hus,hud,hmd.symm,by simp⟩
 ·have ei:(((j+1:Nat):Int)-1)=(j:Int):=by omega
  have hjl:j+(n+3)<=us.length:=by omega
  have hsplit:us=us.take j++(us.drop j).take (n+3)++us.drop (j+(n+3)):=by
   rw [List.append_assoc,← List.drop_drop,List.take_append_drop,List.take_append_drop]
  have hAl:(us.take j).length=j:=by simp; omega
  have hwl:((us.drop j).take (n+3)).length=n+3:=by simp; omega
  have hAd:∀ x∈us.take j,x<2^64:=fun x hx=>hud x (List.mem_of_mem_take hx)
  have hwd:∀ x∈(us.drop j).take (n+3),x<2^64:=fun x hx=>hud x (List.mem_of_mem_drop (List.mem_of_mem_take hx))
  have hCd:∀ x∈us.drop (j+(n+3)),x<2^64:=fun x hx=>hud x (List.mem_of_mem_drop hx)
  have hCl:(us.drop (j+(n+3))).length+j+(n+3)=us.length:=by simp; omega
  generalize us.take j=A at *
  generalize (us.drop j).take (n+3)=w at *
  generalize us.drop (j+(n+3))=C at *
  subst hsplit
  have hAlt:=Dr (B:=2^64) (by decide) A hAd
  have hval:∀ w:List Nat,w.length=n+3->nv (2^64) (A++w++C)=nv (2^64) A+(2^64)^j*nv (2^64) w+(2^64)^(j+(n+3))*nv (2^64) C:=fun w hw=>by
   rw [N1,N1,hAl,show (A++w).length=j+(n+3) by simp [hAl,hw]]
  have hPj:=Nat.pow_pos (n:=j) (show 0<2^64 by decide)
  have hv1:=hval w hwl
  rw [hAl] at hAlt
  have hC0:nv (2^64) C=0:=by
   rcases Nat.eq_zero_or_pos (nv (2^64) C) with h | h
   ·exact h
   ·exfalso
    have h1:(2^64)^(j+(n+3))*1<=(2^64)^(j+(n+3))*nv (2^64) C:=Nat.mul_le_mul_left _ h
    have h2:nv (2^64) v*(2^64)^(j+1)<=(2^64)^(n+2)*(2^64)^(j+1):=Nat.mul_le_mul_right _ (by rw [hvl] at hVl; omega)
    rw [← Nat.pow_add,show n+2+(j+1)=j+(n+3) by omega] at h2
    omega
  rw [hC0,Nat.mul_zero,Nat.add_zero] at hv1
  have hwlt:nv (2^64) w<nv (2^64) v*2^64:=by
   have h1:(2^64)^j*nv (2^64) w<(2^64)^j*(nv (2^64) v*2^64):=by
    rw [HV,← Nat.mul_assoc] at hlt
    rw [Nat.mul_left_comm,← Nat.mul_assoc]
    omega
   exact Nat.lt_of_mul_lt_mul_left h1
  obtain ⟨out,o1,o2,o3,o4⟩:=aAI A w C v hvl hwl hwd hv (by omega) hwlt
  rw [hAl,hwl] at o4
  have hout:out.length=n+3:=by omega
  have hv2:=hval out hout
  rw [hC0,Nat.mul_zero,Nat.add_zero,o3] at hv2
  have hdm:=Nat.div_add_mod (nv (2^64) w) (nv (2^64) v)
  have hml:=Nat.mod_lt (nv (2^64) w) hV0
  have hq64:nv (2^64) w/nv (2^64) v<2^64:=by rw [Nat.div_lt_iff_lt_mul hV0,Nat.mul_comm]; exact hwlt
  have e0:decide ((j:Int)>=0)=true:=decide_eq_true (by omega)
  have e1:decide ((0:Int)<=(j:Int))=true:=decide_eq_true (by omega)
  have e3:IntKind.wrap .i64 (IntKind.wrap .i64 ((j:Int)+(v.length:Int))+1)=((j+(n+3):Nat):Int):=by
   rw [Au (n:=(j:Int)+_) (by omega),Au (by omega)]; omega
  have e4:decide ((j:Int)<=((j+(n+3):Nat):Int))=true:=decide_eq_true (by omega)
  have e5:decide ((((j+(n+3):Nat):Int))<=((Wd (A++w++C)).length:Int))=true:=decide_eq_true (by rw [AC]; simp; omega)
  have e6:decide ((j:Int)<((Wd (List.replicate (j+1) 0++qs)).length:Int))=true:=decide_eq_true (by rw [AC]; simp; omega)
  have e7:IntKind.wrap .i64 ((j:Int)-1)=(j:Int)-1:=Au (by omega)
  have hset:∀ z:Nat,(Wd (List.replicate (j+1) 0++qs)).set j (z:Int)=Wd (List.replicate j 0++(z::qs)):=fun z=>by
   rw [Ep,List.set_append_left _ _ (by simp),List.replicate_succ',List.set_append_right _ _ (by simp)]
   simp
  have e8:j+(n+3)-j=n+3:=by omega
  dsimp only
  simp only [ei,e0,e1,e3,e4,e5,e6,e7,Bool.and_self,cond_true,Int.toNat_natCast,e8]
  rw [aFI o4,aDj o4,cond_true]
  dsimp only
  rw [hset]
  refine hL _ ⟨j,nv (2^64) w/nv (2^64) v::qs,A++out++C,by omega,by simp; omega,?_,by simp; omega,?_,?_,?_,rfl⟩ (by dsimp only; omega)
  ·intro x hx
   rcases List.mem_cons.1 hx with rfl | hx
   ·exact hq64
   ·exact hqd x hx
  ·intro x hx
   rcases List.mem_append.1 hx with hx | hx
   ·rcases List.mem_append.1 hx with hx | hx
    ·exact hAd x hx
    ·exact o2 x hx
   ·exact hCd x hx
  ·rw [hv2]
   have:(2^64)^j*(nv (2^64) w%nv (2^64) v+1)<=(2^64)^j*nv (2^64) v:=Nat.mul_le_mul_left _ hml
   rw [Nat.mul_add,Nat.mul_one] at this
   rw [Nat.mul_comm (nv (2^64) v)]
   omega
  ·rw [hv2,hinv,hv1]
   show _=(nv (2^64) w/nv (2^64) v+2^64*nv (2^64) qs)*(2^64)^j*nv (2^64) v+_
   have h1:(2^64)^j*nv (2^64) w=(2^64)^j*(nv (2^64) v*(nv (2^64) w/nv (2^64) v))+(2^64)^j*(nv (2^64) w%nv (2^64) v):=by rw [← Nat.mul_add,hdm]
   rw [h1,HV,Nat.add_mul,Nat.add_mul]
   generalize nv (2^64) w/nv (2^64) v=q
   generalize nv (2^64) v=V
   generalize (2^64)^j=P
   have h2:nv (2^64) qs*(P*2^64)*V=2^64*nv (2^64) qs*P*V:=by rw [Nat.mul_comm P,← Nat.mul_assoc,Nat.mul_comm (nv (2^64) qs)]
   have h3:P*(V*q)=q*P*V:=by rw [Nat.mul_comm V,← Nat.mul_assoc,Nat.mul_comm P]
   rw [h2,h3]
   omega
end VL
namespace VL
open Go Vx
theorem aCn {x k:Nat} (h:(2^64)^k<=x):k<(dg (2^64) x).length:=by
 have:=Pt (B:=2^64) (by decide) x
 exact (Nat.pow_lt_pow_iff_right (a:=2^64) (by decide)).1 (Nat.lt_of_le_of_lt h this)
theorem aCo {x:Nat} (h0:x≠0):∃ t,(dg (2^64) x).getD ((dg (2^64) x).length-1) 0=t/\t≠0/\t<2^64/\Ab x=64*((dg (2^64) x).length-1)+Ab t/\0<(dg (2^64) x).length:=by
 have hl:0<(dg (2^64) x).length:=by rw [E3 (by decide) (by omega)]; simp
 have ht:=ML (B:=2^64) (by decide) x
 have h1:=T8 (dg (2^64) x) (by rw [ht]; exact hl)
 have h2:=nW (Gx (B:=2^64) (by decide) x) (by rw [ht]; exact hl)
 rw [ht] at h1 h2
 rw [B9] at h2
 exact ⟨_,rfl,h1,Cs (by decide) (Gx (by decide) x) _,h2,hl⟩
theorem Qm (k:Nat):(2^64)^k=2^(64*k):=(Nat.pow_mul ..).symm
theorem aAJ {a b:Nat} (ha:a<(2^64)^4000) (hb:b<(2^64)^4000) (h0:b≠0):Rq (Dw a,Dw b,())=some (Dw (a/b),Dw (a%b),()):=by
 have up:∀ {x:Nat},x<(2^64)^4000->x<(2^64)^5000:=fun h=>Nat.lt_of_lt_of_le h (Nat.pow_le_pow_right (by decide) (by decide))
 show X7 CT.pre CT.F DT.pre DT.F Bt.pre Bt.F Cn.pre Cn.F Eo.pre Eo.F Bg.pre Bg.F CV.pre CV.F DV.pre DV.F Ah.pre Ah.F Co.pre Co.F Sg (Dw a) (Dw b)=_
 unfold X7
 have pa:=OJ (up ha)
 have pb:=OJ (up hb)
 have pc:=Zm (up ha) (up hb)
 have wa:=CX (up ha)
 have wb:=CX (up hb)
 have hla:(dg (2^64) a).length<=4000:=Da (by decide) _ _ ha
 have hlb:(dg (2^64) b).length<=4000:=Da (by decide) _ _ hb
 have pcopy:=iS (dg (2^64) a) wa
 rw [B9] at pcopy
 have pcopy:No (Dw a,())=some (Dw a,()):=pcopy
 obtain ⟨t,ht,ht0,ht64,hbt,hlp⟩:=aCo h0
 have hLen:∀ x:Nat,(Dw x).length=(dg (2^64) x).length:=fun x=>AC _
 have hGet:∀ (x i:Nat),(Dw x).getD i 0=(((dg (2^64) x).getD i 0:Nat):Int):=fun x i=>Ci _ _
 dsimp only
 simp only [CS pa,CQ pa,CS pb,CQ pb,eW pc,cL pc,cond_true]
 by_cases hlt:a<b
 ·have e0:decide ((if a=b then (0:Int) else if a<b then -1 else 1)<0)=true:=by rw [if_neg (by omega),if_pos hlt]; rfl
  simp only [e0,cond_true,eU pcopy,cJ pcopy]
  rw [Nat.div_eq_of_lt hlt,Nat.mod_eq_of_lt hlt,D5]
 have e0:decide ((if a=b then (0:Int) else if a<b then -1 else 1)<0)=false:=by
  rw [if_neg hlt]
  split <;> rfl
 simp only [e0,cond_false]
 by_cases h1:(dg (2^64) b).length=1
 ·have e1:(((Dw b).length:Int)==1)=true:=by rw [hLen,h1]; rfl
  have hb64:b<2^64:=by
   have:=Pt (B:=2^64) (by decide) b
   rw [h1,Nat.pow_one] at this
   exact this
  have e2:decide ((0:Int)<((Dw b).length:Int))=true:=by rw [hLen,h1]; rfl
  have e3:(Dw b).getD (Int.toNat 0) 0=(b:Int):=by rw [Int.toNat_zero,Nc,Nat.mod_eq_of_lt hb64]
  have p0:=aAt (up ha) (Nat.pos_of_ne_zero h0) hb64
  have hr:a%b<b:=Nat.mod_lt _ (Nat.pos_of_ne_zero h0)
  have p1:=Dz [a%b] (by simp)
  rw [gO (by intro x hx; rw [List.mem_singleton] at hx; omega),show nv (2^64) [a%b]=a%b by simp [nv]] at p1
  have p1:Ns ((((a%b:Nat):Int)::[]),())=_:=p1
  simp only [e1,e2,e3,cond_true,eU pcopy,cJ pcopy,aFx p0,aC8 p0,CS p1,CQ p1]
 have e1:(((Dw b).length:Int)==1)=false:=by
  rw [hLen]
  exact P5 _ _ (by omega)
 simp only [e1,cond_false]
 obtain ⟨n,hn⟩:∃ n,(dg (2^64) b).length=n+2:=⟨(dg (2^64) b).length-2,by omega⟩
 have hab:(dg (2^64) b).length<=(dg (2^64) a).length:=oQ (by decide) (by omega)
 obtain ⟨Q,hQ⟩:∃ Q,(dg (2^64) a).length+1=Q+n+2:=⟨(dg (2^64) a).length+1-(n+2),by omega⟩
 rw [show (dg (2^64) b).length-1=n+1 by omega] at ht hbt
 have hbl:=Cj ht64
 have hbl1:=VK ht0
 generalize hs:64-Ab t=s at *
 have p327:=jE ht64
 rw [hs] at p327
 have hub:=Eq b
 have hlob:=Gu h0
 have hp:=Nat.two_pow_pos s
 have hV1:b*2^s<2^(64*(n+2)):=by
  have h2:b*2^s<2^Ab b*2^s:=Nat.mul_lt_mul_of_pos_right hub hp
  rw [← Nat.pow_add,show Ab b+s=64*(n+2) by omega] at h2
  exact h2
 have hV2:2^(64*(n+2)-1)<=b*2^s:=by
  have h2:2^(Ab b-1)*2^s<=b*2^s:=Nat.mul_le_mul_right _ hlob
  rw [← Nat.pow_add,show Ab b-1+s=64*(n+2)-1 by omega] at h2
  exact h2
 have hvlen:(dg (2^64) (b*2^s)).length=n+2:=by
  have h2:(dg (2^64) (b*2^s)).length<=n+2:=Da (by decide) _ _ (by rw [Qm]; exact hV1)
  have h3:=aCn (x:=b*2^s) (k:=n+1) (by
   rw [Qm]
   exact Nat.le_trans (Nat.pow_le_pow_right (by decide) (by omega)) hV2)
  omega
 have hA:a*2^s<2^(64*(dg (2^64) a).length+s):=by
  have h2:=Pt (B:=2^64) (by decide) a
  rw [Qm] at h2
  rw [Nat.pow_add]
  exact Nat.mul_lt_mul_of_pos_right h2 hp
 have hulen:(dg (2^64) (a*2^s)).length<=Q+n+2:=Da (by decide) _ _ (by
  rw [Qm]
  exact Nat.lt_of_lt_of_le hA (Nat.pow_le_pow_right (by decide) (by omega)))
 have hstart:a*2^s<b*2^s*(2^64)^Q:=by
  have h2:2^(64*(n+2)-1)*2^(64*Q)<=b*2^s*2^(64*Q):=Nat.mul_le_mul_right _ hV2
  rw [← Nat.pow_add] at h2
  rw [Qm]
  exact Nat.lt_of_lt_of_le (Nat.lt_of_lt_of_le hA (Nat.pow_le_pow_right (by decide) (by omega))) h2
 have pv:=Zn (dg (2^64) b) wb s (by rw [ML (by decide)]; omega)
 have pu:=Zn (dg (2^64) a) wa s (by rw [ML (by decide)]; omega)
 rw [B9] at pv pu
 have pv:Nv (Dw b,(s:Int),())=some (Dw (b*2^s),()):=pv
 have pu:Nv (Dw a,(s:Int),())=some (Dw (a*2^s),()):=pu
 have e17:IntKind.wrap .i64 (((Dw b).length:Int)-1)=((n+1:Nat):Int):=by rw [hLen,Au (by omega)]; omega
 have e18:IntKind.wrap .i64 (((Dw a).length:Int)+1)=((Q+n+2:Nat):Int):=by rw [hLen,Au (by omega)]; omega
 have eg:(Dw b).getD (Int.toNat ((n+1:Nat):Int)) 0=(t:Int):=by rw [Int.toNat_natCast,hGet,ht]
 have e2:(decide ((0:Int)<=((n+1:Nat):Int))&&decide (((n+1:Nat):Int)<((Dw b).length:Int)))=true:=by
  rw [hLen,decide_eq_true (by omega),decide_eq_true (by omega)]; rfl
 have e3:(decide ((0:Int)<=((Q+n+2:Nat):Int))&&decide (((Q+n+2:Nat):Int)*8<=140737488355328))=true:=by
  rw [decide_eq_true (by omega),decide_eq_true (by omega)]; rfl
 generalize hud:dg (2^64) (a*2^s)++List.replicate (Q+n+2-(dg (2^64) (a*2^s)).length) 0=us
 have husl:us.length=Q+n+2:=by rw [← hud,List.length_append,List.length_replicate]; omega
 have hus:∀ x∈us,x<2^64:=by
  rw [← hud]
  intro x hx
  rcases List.mem_append.1 hx with hx | hx
  ·exact Gx (by decide) _ x hx
  ·have:=(List.mem_replicate.1 hx).2
   omega
 have husv:nv (2^64) us=a*2^s:=by rw [← hud,N1,aEA,Nat.mul_zero,Nat.add_zero,B9]
 have hrow:(Dw (a*2^s)).take (List.replicate (Int.toNat ((Q+n+2:Nat):Int)) (0:Int)).length++(List.replicate (Int.toNat ((Q+n+2:Nat):Int)) (0:Int)).drop (Dw (a*2^s)).length=Wd us:=by
  rw [Int.toNat_natCast,List.length_replicate,Sj,hLen,aBr,List.drop_replicate]
  unfold Dw
  rw [Vg,List.take_of_length_le hulen,← hud]
  unfold Wd
  rw [List.map_append]
 have e11:IntKind.wrap .i64 (((Wd us).length:Int)-((Dw (b*2^s)).length:Int))=(Q:Int):=by
  rw [AC,husl,hLen,hvlen,Au (by omega)]; omega
 have e4:(decide ((0:Int)<=(Q:Int))&&decide ((Q:Int)*8<=140737488355328))=true:=by
  rw [decide_eq_true (by omega),decide_eq_true (by omega)]; rfl
 have e5:IntKind.wrap .i64 (((List.replicate (Int.toNat (Q:Int)) (0:Int)).length:Int)-1)=(Q:Int)-1:=by
  rw [Int.toNat_natCast,List.length_replicate,Au (by omega)]
 obtain ⟨qs,us',k1,k2,k3,k4,k5,k6,k7⟩:=aBl (dg (2^64) (b*2^s)) hvlen (Gx (by decide) _) (by omega) (X:=a*2^s) Q (by omega) (s:Int) us husl hus husv (by rw [B9]; exact hstart)
 rw [B9] at k3 k6
 rw [Nat.mul_div_mul_right _ _ hp] at k3
 rw [Nat.mul_mod_mul_right] at k6
 have k7:Sg (((Dw (b*2^s),(((Q:Int)-1),((),((),(((Dw (b*2^s)).length:Int),((s:Int),())))))),(Wd us,((List.replicate (Int.toNat (Q:Int)) (0:Int)),()))):ER.D)=some (.inl (((),((),(((n+2:Nat):Int),((s:Int),())))),(Wd us',(Wd qs,())))):=by
  rw [Int.toNat_natCast,Sj,hLen]
  rw [hvlen] at k7 ⊢
  exact k7
 simp only [e17,eg,uK p327,qP p327,fA pv,cO pv,fA pu,cO pu,e18,e2,e3,cond_true,hrow,e11,e4,e5]
 rw [k7]
 dsimp only [Bh,Bi]
 have pq:=Dz qs (by omega)
 rw [gO k2,k3] at pq
 have hnl:nv (2^64) (us'.take (n+2))=a%b*2^s:=by
  have h2:=JJ (2^64) us' (n+2) (by omega)
  have h3:nv (2^64) (us'.drop (n+2))=0:=by
   rcases Nat.eq_zero_or_pos (nv (2^64) (us'.drop (n+2))) with h | h
   ·exact h
   ·exfalso
    have h4:(2^64)^(n+2)*1<=(2^64)^(n+2)*nv (2^64) (us'.drop (n+2)):=Nat.mul_le_mul_left _ h
    have h5:a%b*2^s<b*2^s:=Nat.mul_lt_mul_of_pos_right (Nat.mod_lt _ (Nat.pos_of_ne_zero h0)) hp
    rw [Qm] at h4 h2
    omega
  rw [h3,Nat.mul_zero,Nat.add_zero] at h2
  rw [← h2,k6]
 have pr:=i6 (us'.take (n+2)) ⟨fun x hx=>k5 x (List.mem_of_mem_take hx),by simp; omega⟩ s (by omega)
 rw [hnl,Nat.mul_div_cancel _ hp] at pr
 have pr:OI (Wd (us'.take (n+2)),(s:Int),())=some (Dw (a%b),()):=pr
 have e6:(decide ((0:Int)<=((n+2:Nat):Int))&&decide (((n+2:Nat):Int)<=((Wd us').length:Int)))=true:=by
  rw [AC,k4,decide_eq_true (by omega),decide_eq_true (by omega)]; rfl
 have e7:((Wd us').take (Int.toNat ((n+2:Nat):Int))).drop (Int.toNat 0)=Wd (us'.take (n+2)):=by
  rw [Int.toNat_natCast,Int.toNat_zero,Vg,List.drop_zero]
 simp only [CS pq,CQ pq,e6,e7,uI pr,qN pr,cond_true]
theorem aDM {l:List (List Nat)} (hl:∀ x∈l,x.length<=1024) (hn:l.length<=1000000):Mz (l.map Wd,())=some (false,()):=by
 have:=jC l (fun x hx=>by have:=hl x hx; omega) hn
 rw [this,decide_eq_true (fun x hx=>Nat.le_trans (Dv x).1 (hl x hx))]; rfl
theorem aAK {a b:Nat} (ha:a<(2^64)^1024) (hb:b<(2^64)^1024) (h0:b≠0):Rr (Dw a,Dw b,())=some (Dw (a/b),Dw (a%b),0,()):=by
 have up:∀ {x:Nat},x<(2^64)^1024->x<(2^64)^4000:=fun h=>Nat.lt_of_lt_of_le h (Nat.pow_le_pow_right (by decide) (by decide))
 have up5:∀ {x:Nat},x<(2^64)^1024->x<(2^64)^5000:=fun h=>Nat.lt_of_lt_of_le h (Nat.pow_le_pow_right (by decide) (by decide))
 show X8 EV.pre EV.F Ah.pre Ah.F LZ.pre LZ.F (Dw a) (Dw b)=_
 unfold X8
 have p0:=aDM (l:=[dg (2^64) a,dg (2^64) b]) (by
  intro x hx
  rcases List.mem_cons.1 hx with rfl | hx
  ·exact Da (by decide) _ _ ha
  ·rw [List.mem_singleton] at hx
   rw [hx]
   exact Da (by decide) _ _ hb) (by simp)
 have p0:Mz ((Dw a::Dw b::[]),())=some (false,()):=p0
 have p1:=OJ (up5 hb)
 have p2:=aAJ (up ha) (up hb) h0
 have e0:(((Dw b).length:Int)==0)=false:=by rw [xR,decide_eq_false h0]
 simp only [eZ p0,cN p0,CS p1,CQ p1,aFJ p2,aDk p2,cond_true,cond_false,e0]
end VL
namespace VL
open Go Vx
theorem gU {f:Int} (hf:Fm f) (a:Nat):-1100<=Ag f a/\Ag f a<=1100:=by
 have h1:=bJ (f:=f) a
 have e:Av f=2*fX f+1:=by unfold Av; rw [← S5 hf]
 have h2:=Jx hf
 have h3:=Eu hf
 have h4:=BD hf
 unfold Ag
 split <;> omega
theorem Uf (f:Int) (a:Nat):((Af f a:Int)==0)=Ax f a:=by
 cases hz:Ax f a
 ·exact AX _ (CG hz)
 ·unfold Ax at hz
  rw [Bool.and_eq_true,beq_iff_eq,beq_iff_eq] at hz
  unfold Af
  rw [if_pos hz.1,hz.2]; rfl
end VL
namespace VL
open Go Vx
def E7 (f m:Int) (neg:Bool) (d n:Nat):Nat:=(Ab n-fP f-d)*2^(fP f-1)+A7 m neg n (Ab n-fP f-d+d)
theorem fL {f:Int} (hf:Fm f) (d n:Nat):n/2^(Ab n-fP f-d+d)<2^fP f:=by
 rw [Nat.div_lt_iff_lt_mul (Nat.two_pow_pos _),← Nat.pow_add]
 exact Nat.lt_of_lt_of_le (Eq n) (Nat.pow_le_pow_right (by decide) (by omega))
theorem fK {f:Int} (hf:Fm f) {d n:Nat} (h0:n≠0) (hJ:fP f+d<=Ab n):2^(fP f-1)<=n/2^(Ab n-fP f-d+d):=by
 have hP:=BD hf
 rw [Nat.le_div_iff_mul_le (Nat.two_pow_pos _),← Nat.pow_add]
 exact Nat.le_trans (Nat.pow_le_pow_right (by decide) (by omega)) (Gu h0)
theorem Xe {f:Int} (hf:Fm f) (m:Int) (neg:Bool) {n:Nat} (h0:n≠0) (d:Nat) :
  Du f m neg n (qm f-d)=if AK f<=E7 f m neg d n then (Tu f m neg,20) else (E7 f m neg d n,if Cq (n%2^(Ab n-fP f-d+d)) (Ab n-fP f-d+d)=0 then 0 else if D2 f m neg n (qm f-d) false then 24 else 16):=by
 have hP:=BD hf
 have hX:=Gz hf
 have h2p:=M9 hf
 have hpp:=Nat.two_pow_pos (fP f-1)
 have hinf:=Tn hf
 have hb1:=VK h0
 have htop:AA n (qm f-d)=qm f-d+(Ab n:Int)-1:=rfl
 have hqm:qm f=1-(fX f:Int)-(fP f:Int)+1:=rfl
 have hqt:=fL hf d n
 have hql:=fK hf (d:=d) h0
 have hlow:B8 f (AA n (qm f-d))=qm f+((Ab n-fP f-d:Nat):Int):=by unfold B8; split <;> omega
 obtain ⟨hc1,hc2⟩:=MI m neg n (Ab n-fP f-d+d)
 have hcr:DC n (qm f-d) (qm f+((Ab n-fP f-d:Nat):Int)) false=Cq (n%2^(Ab n-fP f-d+d)) (Ab n-fP f-d+d):=by
  rw [MJ]
  rcases Nat.eq_zero_or_pos (Ab n-fP f-d+d) with hz | hz
  ·rw [TR (by omega),hz,Nat.pow_zero,Nat.mod_one]; rfl
  ·rw [TQ (by omega),show (qm f+((Ab n-fP f-d:Nat):Int)-(qm f-d)).toNat=Ab n-fP f-d+d by omega]
 have hcn:BS m neg n (qm f-d) (qm f+((Ab n-fP f-d:Nat):Int)) false=A7 m neg n (Ab n-fP f-d+d):=by
  have hqe:FB n (qm f-d) (qm f+((Ab n-fP f-d:Nat):Int))=n/2^(Ab n-fP f-d+d):=by
   rcases Nat.eq_zero_or_pos (Ab n-fP f-d+d) with hz | hz
   ·rw [TN (by omega),hz,show (qm f-(d:Int)-(qm f+((Ab n-fP f-d:Nat):Int))).toNat=0 by omega,Nat.pow_zero,Nat.mul_one,Nat.div_one]
   ·rw [TM (by omega),show (qm f+((Ab n-fP f-d:Nat):Int)-(qm f-d)).toNat=Ab n-fP f-d+d by omega]
  unfold BS A7
  rw [hcr,hqe]
 unfold Du
 rw [hlow]
 dsimp only
 rw [hcn,hcr,show (qm f+((Ab n-fP f-d:Nat):Int)-(1-(fX f:Int)-(fP f:Int)+1)).toNat=Ab n-fP f-d by omega]
 have hmu:E7 f m neg d n=(Ab n-fP f-d)*2^(fP f-1)+A7 m neg n (Ab n-fP f-d+d):=rfl
 rw [hmu]
 have hJd:fP f+d<=Ab n∨Ab n-fP f-d=0:=by omega
 have hJb:(Ab n:Int)-fP f-d<=((Ab n-fP f-d:Nat):Int):=by omega
 have hJe:fP f+d<=Ab n->(Ab n:Int)=fP f+d+((Ab n-fP f-d:Nat):Int):=by omega
 generalize A7 m neg n (Ab n-fP f-d+d)=u at *
 generalize n/2^(Ab n-fP f-d+d)=Q at *
 generalize Cq (n%2^(Ab n-fP f-d+d)) (Ab n-fP f-d+d)=c at *
 generalize Ab n-fP f-d=j at *
 by_cases ht:AA n (qm f-d)>fX f
 ·have hj2:2*fX f+1<=j+1:=by omega
  have:=Nat.mul_le_mul_right (2^(fP f-1)) hj2
  rw [Nat.add_mul j,Nat.one_mul] at this
  have hql:=hql (by omega)
  rw [if_pos ht,if_pos (show AK f<=j*2^(fP f-1)+u by omega)]
  rfl
 ·rw [if_neg ht]
  have hj0:j+1<=2*fX f:=by
   rcases hJd with h | h
   ·have:=hJe h; omega
   ·omega
  rcases Nat.lt_or_ge u (2^fP f) with hu | hu
  ·have hbu:=Cj hu
   have hj2:j+2<=2*fX f+1:=by omega
   have:=Nat.mul_le_mul_right (2^(fP f-1)) hj2
   rw [Nat.add_mul] at this
   rw [if_neg (show ¬ qm f+(j:Int)+(Ab u:Int)-1>fX f by omega),if_neg (show ¬ AK f<=j*2^(fP f-1)+u by omega)]
  ·have hbu:=E2 hu
   have hbu2:=Cj (n:=u) (k:=fP f+1) (by rw [Nat.pow_succ]; omega)
   by_cases hj2:j+3<=2*fX f+1
   ·have:=Nat.mul_le_mul_right (2^(fP f-1)) hj2
    rw [Nat.add_mul] at this
    rw [if_neg (show ¬ qm f+(j:Int)+(Ab u:Int)-1>fX f by omega),if_neg (show ¬ AK f<=j*2^(fP f-1)+u by omega)]
   ·have hj3:2*fX f+1<=j+2:=by omega
    have:=Nat.mul_le_mul_right (2^(fP f-1)) hj3
    rw [Nat.add_mul j] at this
    rw [if_pos (show qm f+(j:Int)+(Ab u:Int)-1>fX f by omega),if_pos (show AK f<=j*2^(fP f-1)+u by omega)]
    rfl
def pv (f:Int) (x:Nat):Nat:=Af f x*2^(Ag f x-qm f).toNat
theorem aF8 {f:Int} (hf:Fm f) {J u:Nat} (hx:J*2^(fP f-1)+u<=AK f) (hu:u<=2^fP f) (hl:J=0∨2^(fP f-1)<=u):pv f (J*2^(fP f-1)+u)=u*2^J:=by
 have h2p:=M9 hf
 have hpp:=Nat.two_pow_pos (fP f-1)
 have hlt:=Tl hf
 have habs:AT f (J*2^(fP f-1)+u)=J*2^(fP f-1)+u:=Nat.mod_eq_of_lt (by omega)
 have hE:=DX hf (J*2^(fP f-1)+u)
 have hM:=Ez hf (J*2^(fP f-1)+u)
 rw [habs] at hE hM
 have hd:∀ K v:Nat,v<2^(fP f-1)->J*2^(fP f-1)+u=K*2^(fP f-1)+v->eF f (J*2^(fP f-1)+u)=K/\mF f (J*2^(fP f-1)+u)=v:=fun K v hv he=>by
  rw [hE,hM,he,Nat.mul_comm K]
  exact ⟨by rw [Nat.mul_add_div hpp,Nat.div_eq_of_lt hv,Nat.add_zero],by rw [Nat.mul_add_mod,Nat.mod_eq_of_lt hv]⟩
 unfold pv Af Ag
 rcases Nat.lt_or_ge u (2^(fP f-1)) with h1 | h1
 ·have hJ:J=0:=by omega
  obtain ⟨a1,a2⟩:=hd 0 u h1 (by rw [hJ])
  rw [if_pos a1,if_pos a1,a2,hJ]
  unfold qm
  rw [Int.add_zero,Int.sub_self]; rfl
 ·rcases Nat.lt_or_ge u (2^fP f) with h3 | h3
  ·obtain ⟨a1,a2⟩:=hd (J+1) (u-2^(fP f-1)) (by omega) (by rw [Nat.add_mul]; omega)
   rw [if_neg (by omega),if_neg (by omega),a1,a2,Nat.sub_add_cancel h1]
   unfold qm
   congr 2
   omega
  ·have hu2:u=2^fP f:=by omega
   obtain ⟨a1,a2⟩:=hd (J+2) 0 hpp (by rw [Nat.add_mul]; omega)
   rw [if_neg (by omega),if_neg (by omega),a1,a2,Nat.zero_add,hu2,h2p]
   unfold qm
   rw [show (1-(fX f:Int)-(fP f:Int)+1+(((J+2:Nat):Int)-1)-(1-(fX f:Int)-(fP f:Int)+1)).toNat=J+1 by omega,Nat.pow_succ,Nat.mul_comm (2^J) 2,← Nat.mul_assoc,Nat.mul_comm _ 2]
end VL
namespace VL
open Go Vx
theorem vN {f m:Int} {neg:Bool} {N k:Nat} {E:Int} (hf:Fm f) (hn:N/2^k≠0) (hm:N%2^k≠0->fP f+1<=Ab (N/2^k)):At f m neg (N/2^k) (E+k) (decide (N%2^k≠0))=At f m neg N E false:=by
 have ht:=xD (E:=E) hn
 have htd:AA (N/2^k) (E+k)=E+k+(Ab (N/2^k):Int)-1:=rfl
 have hq1:N%2^k≠0->E+k<B8 f (AA N E):=fun h=>by
  have:=hm h
  unfold B8
  split <;> omega
 have hq2:N%2^k≠0->E+k<AA N E-fP f+1:=fun h=>by
  have:=hm h
  omega
 have hti:D2 f m neg (N/2^k) (E+k) (decide (N%2^k≠0))=D2 f m neg N E false:=by
  unfold D2
  rw [ht,VX hq2]
 unfold At
 simp only [ht,VX hq1,(bE hq1).2,hti]
theorem vK {f m:Int} {neg:Bool} {N k:Nat} {E:Int} (hf:Fm f) (hb:fP f+1<=Ab (N/2^k)):At f m neg (N/2^k) E true=At f m neg (2*N+1) (E-k-1) false:=by
 have hP:=BD hf
 have e1:(2*N+1)/2^(k+1)=N/2^k:=by
  rw [Nat.pow_succ,Nat.mul_comm (2^k),← Nat.div_div_eq_div_mul,show (2*N+1)/2=N by omega]
 have e2:(2*N+1)%2^(k+1)≠0:=by
  rw [Nat.pow_succ,Nat.mul_comm (2^k),Nat.mod_mul]; omega
 have h0:N/2^k≠0:=fun h=>by
  rw [h] at hb
  have:Ab 0=0:=rfl
  omega
 have:=vN (f:=f) (m:=m) (neg:=neg) (N:=2*N+1) (k:=k+1) (E:=E-k-1) hf (by rw [e1]; exact h0) (fun _=>by rw [e1]; exact hb)
 rw [e1,decide_eq_true e2,show E-k-1+((k+1:Nat):Int)=E by omega] at this
 exact this
def E9 (f m:Int) (neg:Bool) (R:Nat) (E:Int) (more:Bool):Nat×Nat:=if more=true then At f m neg (2*R+1) (E-1) false else At f m neg R E false
theorem vJ {f m:Int} {neg:Bool} (hf:Fm f) {R:Nat} {E:Int} {more:Bool} (hb:more=true->fP f+1<=Ab R):At f m neg R E more=E9 f m neg R E more:=by
 unfold E9
 cases more
 ·rw [if_neg (by decide)]
 ·have:=vK (f:=f) (m:=m) (neg:=neg) (N:=R) (k:=0) (E:=E) hf (by rw [Nat.pow_zero,Nat.div_one]; exact hb rfl)
  rw [Nat.pow_zero,Nat.div_one] at this
  rw [if_pos rfl,this]
  congr 1
  omega
theorem vH {f m:Int} {neg:Bool} (hf:Fm f) {R k:Nat} {E:Int} {more:Bool} (hb:fP f+1<=Ab (R/2^k)):E9 f m neg (R/2^k) (E+k) (more||decide (R%2^k≠0))=E9 f m neg R E more:=by
 have h0:R/2^k≠0:=fun h=>by
  rw [h] at hb
  have:Ab 0=0:=rfl
  omega
 rw [← vJ hf (fun _=>hb)]
 unfold E9
 cases more
 ·rw [if_neg (by decide),Bool.false_or]
  exact vN hf h0 fun _=>hb
 ·rw [if_pos rfl,Bool.true_or]
  have:=vK (f:=f) (m:=m) (neg:=neg) (N:=R) (k:=k) (E:=E+k) hf hb
  rw [this,show E+(k:Int)-(k:Int)-1=E-1 by omega]
def DE (f m:Int) (neg:Bool) (n k:Nat) (e:Int):Nat×Nat:=E9 f m neg (n*2^300/k) (e-300) (decide (n*2^300%k≠0))
theorem u7 {n k:Nat} (hk:0<k) (t:Nat):(n*2^t/k)/2^t=n/k/\(n%k≠0↔(n*2^t%k≠0∨(n*2^t/k)%2^t≠0)):=by
 have hpp:=Nat.two_pow_pos t
 have h1:(n*2^t/k)/2^t=n/k:=by
  rw [Nat.div_div_eq_div_mul,Nat.mul_comm k,← Nat.div_div_eq_div_mul,Nat.mul_div_cancel _ hpp]
 refine ⟨h1,?_⟩
 have a1:=Nat.div_add_mod (n*2^t) k
 have a2:=Nat.div_add_mod (n*2^t/k) (2^t)
 have a3:=Nat.div_add_mod n k
 rw [h1] at a2
 generalize n*2^t%k=r at *
 generalize hQ:n*2^t/k=Q at *
 generalize Q%2^t=u at *
 generalize n%k=w at *
 generalize n/k=q at *
 have e:k*u+r=w*2^t:=by
  have h2:(k*q+w)*2^t=k*(2^t*q+u)+r:=by rw [a3,a2,a1]
  rw [Nat.add_mul,Nat.mul_add,Nat.mul_right_comm,Nat.mul_assoc k,← Nat.mul_assoc k] at h2
  omega
 constructor
 ·intro hw
  rcases Nat.eq_zero_or_pos r with hr | hr
  ·right
   intro hu
   rw [hu,hr,Nat.mul_zero] at e
   have:=Nat.mul_pos (show 0<w by omega) hpp
   omega
  ·left; omega
 ·intro h hw
  rw [hw,Nat.zero_mul] at e
  rcases h with h | h
  ·omega
  ·have:=Nat.mul_pos hk (show 0<u by omega)
   omega
theorem VZ {f m:Int} {neg:Bool} (hf:Fm f) {n k:Nat} (hn:n≠0) (hk:0<k) (e:Int) {s:Nat} (hs:s<=300) (h:n*2^s%k≠0->fP f+1<=Ab (n*2^s/k)) :
  E9 f m neg (n*2^s/k) (e-s) (decide (n*2^s%k≠0))=DE f m neg n k e:=by
 obtain ⟨t,ht⟩:∃ t,s+t=300:=⟨300-s,by omega⟩
 have e300:n*2^300=n*2^s*2^t:=by rw [Nat.mul_assoc,← Nat.pow_add,ht]
 obtain ⟨q1,q2⟩:=u7 (n:=n*2^s) hk t
 unfold DE
 rw [e300]
 by_cases hex:n*2^s%k=0
 ·-- exact
  have hq:n*2^s=k*(n*2^s/k):=by have:=Nat.div_add_mod (n*2^s) k; omega
  have hq0:n*2^s/k≠0:=fun h0=>by
   rw [h0,Nat.mul_zero] at hq
   exact Nat.mul_ne_zero hn (Nat.ne_of_gt (Nat.two_pow_pos s)) hq
  have h1:n*2^s*2^t/k=(n*2^s/k)*2^t:=by
   rw [hq,Nat.mul_assoc k,Nat.mul_div_cancel_left _ hk,Nat.mul_div_cancel_left _ hk]
  have h2:n*2^s*2^t%k=0:=by
   rw [hq,Nat.mul_assoc k,Nat.mul_mod_right]
  rw [h1,h2,hex]
  unfold E9
  rw [if_neg (by decide),if_neg (by decide),JS hf hq0]
  congr 1
  omega
 ·have hb:=h hex
  have:=vH (f:=f) (m:=m) (neg:=neg) hf (R:=n*2^s*2^t/k) (k:=t) (E:=e-300) (more:=decide (n*2^s*2^t%k≠0)) (by rw [q1]; exact hb)
  rw [← this,q1,show e-300+(t:Int)=e-s by omega]
  congr 1
  rw [Bool.eq_iff_iff,Bool.or_eq_true,decide_eq_true_eq,decide_eq_true_eq,decide_eq_true_eq]
  exact q2
def ST (f m:Int) (a b:Nat):Int×Int×Int×Unit :=
 bif nan f a||nan f b then ((By f:Int),(bif BM f a||BM f b then 1 else 0),0,())
 else bif (Ao f a&&Ao f b)||(Ax f a&&Ax f b) then ((By f:Int),1,0,())
 else bif Ao f a then ((Bv f (!(sF f a==sF f b)):Int),0,0,())
 else bif Ax f b then ((Bv f (!(sF f a==sF f b)):Int),2,0,())
 else bif Ao f b||Ax f a then ((AZ f (!(sF f a==sF f b)):Int),0,0,())
 else (((DE f m (!(sF f a==sF f b)) (Af f a) (Af f b) (Ag f a-Ag f b)).1:Int),((DE f m (!(sF f a==sF f b)) (Af f a) (Af f b) (Ag f a-Ag f b)).2:Int),0,())
def D9 (f m:Int) (a b:Nat):Int×Int×Int×Unit :=
 if ¬ Fm f then (0,0,2,())
 else if m<0∨m>5 then (0,0,3,())
 else if Aj f a≠0 then (0,0,Aj f a,())
 else if Aj f b≠0 then (0,0,Aj f b,())
 else ST f m a b
end VL
namespace VL
open Go Vx
theorem aEu (k:FloatKind) (neg:Bool) {mag:Nat} (h0:mag≠0) (d:Nat):k.format.nearest neg mag (qm (fk k)-d)=B2 (fk k) neg (Du (fk k) 0 neg mag (qm (fk k)-d)).1:=by
 have hf:=Ew k
 have hP:=BD hf
 have hbl:Ab mag=mag.log2+1:=by unfold Ab; rw [if_neg h0]
 rw [Xe hf 0 neg h0 d]
 have hup:Tu (fk k) 0 neg=AK (fk k):=rfl
 unfold Ieee.Format.nearest
 rw [if_neg h0,QD,bW,bV,bU,NP]
 congr 1
 have hl:max (qm (fk k)-(d:Int)+(mag.log2:Int)-((fP (fk k)-1:Nat):Int)) (qm (fk k))=qm (fk k)+((Ab mag-fP (fk k)-d:Nat):Int):=by omega
 have key:(max (qm (fk k)-(d:Int)+(mag.log2:Int)-((fP (fk k)-1:Nat):Int)) (qm (fk k))-qm (fk k)).toNat*2^(fP (fk k)-1) +
   Ieee.Toward.even.cut neg (mag <<< (qm (fk k)-(d:Int)-max (qm (fk k)-(d:Int)+(mag.log2:Int)-((fP (fk k)-1:Nat):Int)) (qm (fk k))).toNat) (max (qm (fk k)-(d:Int)+(mag.log2:Int)-((fP (fk k)-1:Nat):Int)) (qm (fk k))-(qm (fk k)-(d:Int))).toNat=E7 (fk k) 0 neg d mag:=by
  rw [oO,Nat.shiftLeft_eq,hl]
  unfold E7
  generalize Ab mag-fP (fk k)-d=J
  rw [show (qm (fk k)+(J:Int)-qm (fk k)).toNat=J by omega,show (qm (fk k)-(d:Int)-(qm (fk k)+(J:Int))).toNat=0 by omega,Nat.pow_zero,Nat.mul_one,show (qm (fk k)+(J:Int)-(qm (fk k)-(d:Int))).toNat=J+d by omega]
 rw [key,hup]
 by_cases h:AK (fk k)<=E7 (fk k) 0 neg d mag
 ·rw [if_pos h,Nat.min_eq_right h]
 ·rw [if_neg h,Nat.min_eq_left (by omega)]
theorem dU (k:FloatKind) (neg:Bool) {mag:Nat} (h0:mag≠0) (Ay:Int):k.format.nearest neg mag Ay=(At (fk k) 0 neg mag Ay false).1:=by
 rcases Int.le_total (qm (fk k)) Ay with h | h
 ·exact vL k neg h0 h
 ·obtain ⟨d,hd⟩:=Int.eq_ofNat_of_zero_le (show 0<=qm (fk k)-Ay by omega)
  have:=aEu k neg h0 d
  rw [show qm (fk k)-(d:Int)=Ay by omega] at this
  rw [this,N6 (Ew k)]
theorem Oe (s t:Bool):(s ^^ t)=!(s==t):=by cases s <;> cases t <;> rfl
theorem WG (k:FloatKind) {a:Nat} (ha:Aj (fk k) a=0) (h:nan (fk k) a=true):k.format.read a=.nan (sF (fk k) a) (mF (fk k) a):=by
 have h1:eF (fk k) a=Av (fk k)/\mF (fk k) a≠0:=by unfold nan at h; simpa using h
 rw [JR k ha,if_pos h1.1,if_neg h1.2]
theorem P6 (k:FloatKind) {a:Nat} (ha:Aj (fk k) a=0) (h:Ao (fk k) a=true):k.format.read a=.infinity (sF (fk k) a):=by
 have h1:eF (fk k) a=Av (fk k)/\mF (fk k) a=0:=by unfold Ao at h; simpa using h
 rw [JR k ha,if_pos h1.1,if_pos h1.2]
theorem Qc (k:FloatKind) {a:Nat} (ha:Aj (fk k) a=0) (h:nan (fk k) a=false) (h2:Ao (fk k) a=false):k.format.read a=.number (sF (fk k) a) (Af (fk k) a) (Ag (fk k) a):=by
 have h1:eF (fk k) a≠Av (fk k):=fun he=>by
  unfold nan at h
  unfold Ao at h2
  rw [he] at h h2
  simp at h h2
  exact h2 h
 rw [JR k ha,if_neg h1]
theorem Ua (k:FloatKind) (s:Bool):k.format.word s k.format.infRung=Bv (fk k) s:=by
 rw [QD,NP,rM,VA]
theorem aEk (k:FloatKind) {a b:Nat} (ha:Aj (fk k) a=0) (hb:Aj (fk k) b=0):(Ee (fk k) 0 a b).1=(CE (fk k) (BI .mul k a b):Nat)/\(Ee (fk k) 0 a b).2.2.1=0:=by
 have hf:=Ew k
 unfold Ee
 rw [if_neg (show ¬ ¬ Fm (fk k) from fun h=>h hf),if_neg (by decide),if_neg (fun h=>h ha),if_neg (fun h=>h hb)]
 show (Tz (fk k) 0 a b).1=(CE (fk k) (((k.format.read a).product (k.format.read b)).map k.format.write):Nat)/\_
 unfold Tz
 have za:=Uf (fk k) a
 have zb:=Uf (fk k) b
 cases na:nan (fk k) a
 ·cases nb:nan (fk k) b
  ·rw [HY na,HY nb]
   simp only [Bool.or_self,cond_false]
   cases ia:Ao (fk k) a
   ·rw [Qc k ha na ia]
    cases ib:Ao (fk k) b
    ·rw [Qc k hb nb ib]
     simp only [Bool.and_false,Bool.false_and,Bool.or_self,cond_false]
     show _=((k.format.nearest (sF (fk k) a ^^ sF (fk k) b) (Af (fk k) a*Af (fk k) b) (Ag (fk k) a+Ag (fk k) b):Nat):Int)/\_
     rw [Oe]
     cases hz:Ax (fk k) a||Ax (fk k) b
     ·rw [Bool.or_eq_false_iff] at hz
      rw [dU k _ (Nat.mul_ne_zero (CG hz.1) (CG hz.2))]
      exact ⟨rfl,by first | rfl | trivial⟩
     ·have h0:Af (fk k) a*Af (fk k) b=0:=by
       rw [Bool.or_eq_true] at hz
       rcases hz with hz | hz
       ·rw [hz,beq_iff_eq] at za
        rw [show Af (fk k) a=0 by omega,Nat.zero_mul]
       ·rw [hz,beq_iff_eq] at zb
        rw [show Af (fk k) b=0 by omega,Nat.mul_zero]
      rw [h0,WH]
      exact ⟨rfl,by first | rfl | trivial⟩
    ·rw [P6 k hb ib]
     simp only [Bool.and_true,Bool.false_and,Bool.false_or,cond_true]
     show _=(CE (fk k) ((if Af (fk k) a=0 then none else some (Ieee.Datum.infinity (sF (fk k) b ^^ sF (fk k) a))).map k.format.write):Int)/\_
     cases hz:Ax (fk k) a
     ·rw [if_neg (CG hz),cond_false]
      refine ⟨?_,by first | rfl | trivial⟩
      show _=((k.format.word _ k.format.infRung:Nat):Int)
      rw [Ua,Oe]
      cases sF (fk k) a <;> cases sF (fk k) b <;> rfl
     ·rw [hz,beq_iff_eq] at za
      rw [if_pos (by omega),cond_true]
      exact ⟨rfl,by first | rfl | trivial⟩
   ·rw [P6 k ha ia]
    cases ib:Ao (fk k) b
    ·rw [Qc k hb nb ib]
     simp only [Bool.true_and,Bool.and_false,Bool.or_false,cond_true]
     show _=(CE (fk k) ((if Af (fk k) b=0 then none else some (Ieee.Datum.infinity (sF (fk k) a ^^ sF (fk k) b))).map k.format.write):Int)/\_
     cases hz:Ax (fk k) b
     ·rw [if_neg (CG hz),cond_false]
      refine ⟨?_,by first | rfl | trivial⟩
      show _=((k.format.word _ k.format.infRung:Nat):Int)
      rw [Ua,Oe]
     ·rw [hz,beq_iff_eq] at zb
      rw [if_pos (by omega),cond_true]
      exact ⟨rfl,by first | rfl | trivial⟩
    ·rw [P6 k hb ib]
     have z1:Ax (fk k) b=false:=by
      cases hz:Ax (fk k) b
      ·rfl
      ·exfalso
       have h1:eF (fk k) b=Av (fk k)/\mF (fk k) b=0:=by unfold Ao at ib; simpa using ib
       have h2:eF (fk k) b=0/\mF (fk k) b=0:=by unfold Ax at hz; simpa using hz
       have:=Tc hf
       omega
     have z2:Ax (fk k) a=false:=by
      cases hz:Ax (fk k) a
      ·rfl
      ·exfalso
       have h1:eF (fk k) a=Av (fk k)/\mF (fk k) a=0:=by unfold Ao at ia; simpa using ia
       have h2:eF (fk k) a=0/\mF (fk k) a=0:=by unfold Ax at hz; simpa using hz
       have:=Tc hf
       omega
     rw [z1,z2]
     simp only [Bool.and_false,Bool.false_and,Bool.or_self,cond_false,cond_true]
     refine ⟨?_,by first | rfl | trivial⟩
     show _=((k.format.word (sF (fk k) a ^^ sF (fk k) b) k.format.infRung:Nat):Int)
     rw [Ua,Oe]
  ·rw [WG k hb nb]
   have this:∀ d:Ieee.Datum,(d.product (Ieee.Datum.nan (sF (fk k) b) (mF (fk k) b))).map k.format.write=none:=fun d=>by cases d <;> rfl
   rw [this]
   exact ⟨rfl,by first | rfl | trivial⟩
 ·rw [WG k ha na]
  exact ⟨rfl,by first | rfl | trivial⟩
theorem rR (k:FloatKind) {a:Nat} (h:Ao (fk k) a=true):Ax (fk k) a=false:=by
 cases hz:Ax (fk k) a
 ·rfl
 ·exfalso
  have h1:eF (fk k) a=Av (fk k)/\mF (fk k) a=0:=by unfold Ao at h; simpa using h
  have h2:eF (fk k) a=0/\mF (fk k) a=0:=by unfold Ax at hz; simpa using hz
  have:=Tc (Ew k)
  omega
theorem aGb (k:FloatKind) (neg:Bool) {m n:Nat} (hm0:m≠0) (hn0:n≠0) (hm:m<2^53) (hn:n<2^53) (e:Int) :
  k.format.nearest neg (2*(m <<< (k.format.fractionBits+2+n.log2-m.log2)/n)+(m <<< (k.format.fractionBits+2+n.log2-m.log2)%n != 0).toNat) (e-((k.format.fractionBits+2+n.log2-m.log2:Nat):Int)-1)=(DE (fk k) 0 neg m n e).1:=by
 have hf:=Ew k
 have hP:=BD hf
 have hPl:=Eu hf
 have l1:=Nat.log2_self_le hm0
 have l2:=r7 n
 have l3:n.log2<53:=(Nat.log2_lt hn0).2 hn
 rw [bV,Nat.shiftLeft_eq]
 obtain ⟨s,hs⟩:∃ s,fP (fk k)-1+2+n.log2-m.log2=s:=⟨_,rfl⟩
 rw [hs]
 have hlow:2^fP (fk k)<=m*2^s/n:=by
  rw [Nat.le_div_iff_mul_le (by omega)]
  have h1:2^fP (fk k)*n<=2^fP (fk k)*2^(n.log2+1):=Nat.mul_le_mul_left _ (Nat.le_of_lt l2)
  have h2:2^m.log2*2^s<=m*2^s:=Nat.mul_le_mul_right _ l1
  rw [← Nat.pow_add] at h1 h2
  have h3:2^(fP (fk k)+(n.log2+1))<=2^(m.log2+s):=Nat.pow_le_pow_right (by decide) (by omega)
  omega
 have hb:=E2 hlow
 have hq0:m*2^s/n≠0:=by
  have:=Nat.two_pow_pos (fP (fk k))
  omega
 rw [← VZ (m:=0) (neg:=neg) hf hm0 (show 0<n by omega) e (s:=s) (by omega) (fun _=>hb)]
 unfold E9
 by_cases hr:m*2^s%n=0
 ·rw [hr]
  rw [if_neg (by decide),show ((0:Nat) != 0).toNat=0 from rfl,Nat.add_zero,dU k neg (by omega)]
  have:=JS (f:=fk k) (m:=0) (neg:=neg) hf hq0 1 (e-(s:Int)-1)
  rw [Nat.pow_one,Nat.mul_comm,show e-(s:Int)-1+((1:Nat):Int)=e-s by omega] at this
  rw [this]
 ·rw [decide_eq_true hr,if_pos rfl,bne_iff_ne.2 hr,show true.toNat=1 from rfl,dU k neg (by omega)]
theorem aCv (k:FloatKind) {a b:Nat} (ha:Aj (fk k) a=0) (hb:Aj (fk k) b=0):(D9 (fk k) 0 a b).1=(CE (fk k) (BI .quo k a b):Nat)/\(D9 (fk k) 0 a b).2.2.1=0:=by
 have hf:=Ew k
 unfold D9
 rw [if_neg (show ¬ ¬ Fm (fk k) from fun h=>h hf),if_neg (by decide),if_neg (fun h=>h ha),if_neg (fun h=>h hb)]
 show (ST (fk k) 0 a b).1=(CE (fk k) (((k.format.read a).quotient (k.format.fractionBits+2) (k.format.read b)).map k.format.write):Nat)/\_
 unfold ST
 have za:=Uf (fk k) a
 have zb:=Uf (fk k) b
 cases na:nan (fk k) a
 ·cases nb:nan (fk k) b
  ·rw [HY na,HY nb]
   simp only [Bool.or_self,cond_false]
   cases ia:Ao (fk k) a
   ·rw [Qc k ha na ia]
    cases ib:Ao (fk k) b
    ·rw [Qc k hb nb ib]
     simp only [Bool.false_and,Bool.false_or,cond_false]
     show _=(CE (fk k) ((if Af (fk k) b=0 then (if Af (fk k) a=0 then none else some (Ieee.Datum.infinity (sF (fk k) a ^^ sF (fk k) b))) else
      some (Ieee.Datum.number (sF (fk k) a ^^ sF (fk k) b) (2*(Af (fk k) a <<< (k.format.fractionBits+2+(Af (fk k) b).log2-(Af (fk k) a).log2)/Af (fk k) b)+(Af (fk k) a <<< (k.format.fractionBits+2+(Af (fk k) b).log2-(Af (fk k) a).log2)%Af (fk k) b != 0).toNat) (Ag (fk k) a-Ag (fk k) b-((k.format.fractionBits+2+(Af (fk k) b).log2-(Af (fk k) a).log2:Nat):Int)-1))).map k.format.write):Int)/\_
     rw [Oe]
     cases hzb:Ax (fk k) b
     ·rw [if_neg (CG hzb)]
      simp only [Bool.and_false,cond_false]
      show _=((k.format.nearest _ _ _:Nat):Int)/\_
      cases hza:Ax (fk k) a
      ·rw [aGb k _ (CG hza) (CG hzb) (GE hf a) (GE hf b)]
       exact ⟨rfl,by first | rfl | trivial⟩
      ·rw [hza,beq_iff_eq] at za
       rw [show Af (fk k) a=0 by omega,Nat.zero_shiftLeft,Nat.zero_div,Nat.zero_mod,Nat.mul_zero,show ((0:Nat) != 0).toNat=0 from rfl,Nat.add_zero,WH]
       exact ⟨rfl,by first | rfl | trivial⟩
     ·rw [hzb,beq_iff_eq] at zb
      rw [if_pos (by omega)]
      cases hza:Ax (fk k) a
      ·rw [if_neg (CG hza)]
       simp only [Bool.false_and,cond_false,cond_true]
       refine ⟨?_,by first | rfl | trivial⟩
       show _=((k.format.word _ k.format.infRung:Nat):Int)
       rw [Ua]
      ·rw [hza,beq_iff_eq] at za
       rw [if_pos (by omega)]
       exact ⟨rfl,by first | rfl | trivial⟩
    ·rw [P6 k hb ib,rR k ib]
     simp only [Bool.and_true,Bool.and_false,Bool.false_and,Bool.or_false,Bool.or_self,cond_false,Bool.true_or,cond_true]
     refine ⟨?_,by first | rfl | trivial⟩
     show _=((k.format.nearest (sF (fk k) a ^^ sF (fk k) b) 0 0:Nat):Int)
     rw [WH,Oe]
   ·rw [P6 k ha ia]
    cases ib:Ao (fk k) b
    ·rw [Qc k hb nb ib,rR k ia]
     simp only [Bool.and_false,Bool.false_and,Bool.or_self,cond_false,cond_true]
     refine ⟨?_,by first | rfl | trivial⟩
     show _=((k.format.word (sF (fk k) a ^^ sF (fk k) b) k.format.infRung:Nat):Int)
     rw [Ua,Oe]
    ·rw [P6 k hb ib]
     simp only [Bool.and_self,Bool.true_or,cond_true]
     exact ⟨rfl,by first | rfl | trivial⟩
  ·rw [WG k hb nb]
   have this:∀ d:Ieee.Datum,(d.quotient (k.format.fractionBits+2) (Ieee.Datum.nan (sF (fk k) b) (mF (fk k) b))).map k.format.write=none:=fun d=>by cases d <;> rfl
   rw [this]
   exact ⟨rfl,by first | rfl | trivial⟩
 ·rw [WG k ha na]
  exact ⟨rfl,by first | rfl | trivial⟩
end VL
namespace VL
open Go Vx
theorem aBm {f:Int} (hf:Fm f) (l:List Nat) (hl:∀ a∈l,a<2^64) (hlen:l.length<1000) :
  Vd (((l.length:Int),(Wd l,(f,((0:Int),())))),())=some (bif JL f l then .inl ((),()) else .inr (((4:Int),()),())):=by
 have key:=DH (sT AE.pre AE.F Aw.pre Aw.F) (fun x=>l.length-x.1.2.2.2.1.toNat)
  (fun x=>∃ i:Nat,i<=l.length/\JL f (l.take i)=true/\x=(((l.length:Int),(Wd l,(f,((i:Int),())))),()))
  (fun _=>bif JL f l then .inl ((),()) else .inr (((4:Int),()),())) ?_ _ ⟨0,Nat.zero_le _,rfl,rfl⟩
 ·exact key
 intro L x hx hL
 obtain ⟨i,hi,hok,rfl⟩:=hx
 unfold PW
 rcases Nat.lt_or_ge i l.length with hlt | hge
 ·have hg:l.getD i 0=l[i]:=by simp [List.getD_eq_getElem?_getD,hlt]
  have hmem:l[i]∈l:=List.getElem_mem hlt
  have ha:=hl _ hmem
  have p0:=IU f l[i] ha
  have e0:decide ((i:Int)<(l.length:Int))=true:=decide_eq_true (by omega)
  have e1:(decide ((0:Int)<=(i:Int))&&decide ((i:Int)<((Wd l).length:Int)))=true:=by rw [AC,decide_eq_true (by omega),decide_eq_true (by omega)]; rfl
  have e2:(Wd l).getD (Int.toNat (i:Int)) 0=((l[i]:Nat):Int):=by rw [Int.toNat_natCast,Ci,hg]
  have e3:IntKind.wrap .i64 ((i:Int)+1)=((i+1:Nat):Int):=by rw [Au (by omega)]; omega
  have htk:l.take (i+1)=l.take i++[l[i]]:=by rw [List.take_succ_eq_append_getElem hlt]
  dsimp only
  simp only [e0,e1,e2,e3,cond_true,HW p0,HN p0]
  by_cases hc:Aj f l[i]=0
  ·rw [hc,bne_self_eq_false,cond_false]
   refine hL _ ⟨i+1,by omega,?_,rfl⟩ (by simp only [Int.toNat_natCast]; omega)
   unfold JL at hok ⊢
   rw [htk,List.all_append,hok,List.all_cons,hc]; rfl
  ·have h4:Aj f l[i]=4:=(aV hf _).resolve_left hc
   have hno:JL f l=false:=by
    unfold JL
    rw [List.all_eq_false]
    exact ⟨l[i],hmem,by rw [h4]; decide⟩
   rw [h4,hno]; rfl
 ·have e:i=l.length:=by omega
  subst e
  rw [List.take_length] at hok
  have e0:decide ((l.length:Int)<(l.length:Int))=false:=decide_eq_false (by omega)
  simp only [e0,cond_false]
  rw [hok]; rfl
theorem aAM (f m:Int) (l:List Nat) (hl:∀ a∈l,a<2^64) (hlen:l.length<1000):ON (f,m,Wd l,())=some (aU f m l,()):=by
 show Ya AE.pre AE.F Aw.pre Aw.F Vd f m (Wd l)=_
 unfold Ya aU
 by_cases hf:Fm f
 ·have p0:=Nx hf
  rw [if_neg (show ¬ ¬ Fm f from fun h=>h hf)]
  simp only [HX p0,HO p0,cond_true,bne_self_eq_false,cond_false]
  by_cases hm:m<0∨m>5
  ·rw [if_pos hm]
   have:(decide (m<0)||decide (m>5))=true:=by rcases hm with h | h <;> simp [h]
   rw [this,cond_true]
  ·rw [if_neg hm]
   have:(decide (m<0)||decide (m>5))=false:=by
    rw [decide_eq_false (by omega),decide_eq_false (by omega)]; rfl
   rw [this,cond_false,AC,aBm hf l hl hlen]
   cases JL f l <;> rfl
 ·have p0:=R1 hf
  rw [if_pos hf]
  simp only [HX p0,HO p0,cond_true]
  rfl
theorem jJ {f:Int} {a:Nat} (h:Aj f a=0):Rw (f,(a:Int),())=some ((nan f a,BM f a,Ao f a,Ax f a,sF f a,()),()):=by
 show Yb Cx.pre Cx.F Cz.pre Cz.F f a=_
 unfold Yb
 obtain ⟨hf,_⟩:=Ca h
 have p0:=RZ (DJ h) h
 have p1:=UZ h
 simp only [JQ p0,JD p0,W6 p1,Wv p1,cond_true]
 rw [SQ,VR,Bool.or_comm (A4 f a==9),VQ,Bool.or_comm (A4 f a==6),aY hf]
theorem jK {f:Int} (hf:Fm f) (x:Int):Rx (f,x,())=some ((By f:Int),x,0,()):=by
 show Yc CJ.pre CJ.F f x=_
 unfold Yc
 have p0:=UV hf
 simp only [W2 p0,Wp p0,cond_true]
theorem aCj (N:Nat) {k:Nat} (hk:0<k):(k<=2*(N%k)->2*N/k=2*(N/k)+1/\2*N%k=2*(N%k)-k)/\(2*(N%k)<k->2*N/k=2*(N/k)/\2*N%k=2*(N%k)):=by
 have h1:=Nat.div_add_mod N k
 have h2:=Nat.mod_lt N hk
 generalize N/k=q at *
 generalize N%k=r at *
 constructor
 ·intro h
  have e:2*N=k*(2*q+1)+(2*r-k):=by
   rw [Nat.mul_add,Nat.mul_one,Nat.mul_left_comm k 2 q]; omega
  rw [e,Nat.mul_add_div hk,Nat.mul_add_mod,Nat.div_eq_of_lt (by omega),Nat.mod_eq_of_lt (by omega)]
  exact ⟨rfl,rfl⟩
 ·intro h
  have e:2*N=k*(2*q)+2*r:=by
   rw [Nat.mul_left_comm k 2 q]; omega
  rw [e,Nat.mul_add_div hk,Nat.mul_add_mod,Nat.div_eq_of_lt (by omega),Nat.mod_eq_of_lt (by omega)]
  exact ⟨rfl,rfl⟩
theorem aF9 {n k D s:Nat} (hk0:0<k) (hk:k<2^64) (hn0:n≠0) (h:Ab (n*2^s/k)<D):s<64+D/\n*2^s<2^(64+D):=by
 have h1:n*2^s/k<2^D:=Nat.lt_of_lt_of_le (Eq _) (Nat.pow_le_pow_right (by decide) (by omega))
 have h2:n*2^s<2^D*k:=(Nat.div_lt_iff_lt_mul hk0).1 h1
 have h3:2^D*k<=2^D*2^64:=Nat.mul_le_mul_left _ (by omega)
 rw [← Nat.pow_add] at h3
 have h4:1*2^s<=n*2^s:=Nat.mul_le_mul_right _ (by omega)
 rw [Nat.one_mul] at h4
 have h5:2^s<2^(D+64):=by omega
 have h6:=(Nat.pow_lt_pow_iff_right (a:=2) (by decide)).1 h5
 rw [Nat.add_comm 64 D]
 exact ⟨h6,by omega⟩
theorem aBn {n k D s0:Nat} (hk0:0<k) (hk:k<2^64) (hn0:n≠0) (hn:n<2^64) (hD:D<=100) (hs0:s0<=64) :
  ∃ s:Nat,s<=64+D/\(n*2^s%k≠0->D<=Ab (n*2^s/k)) /\
   Ve (((D:Int),(Dw k,(Dw (n*2^s0%k),((),((),()))))),((false,([],((0:Int),(false,())))),((false,(Dw (n*2^s0/k),(-(s0:Int),(false,())))),()))) =
    some (.inl ((Dw (n*2^s%k),((),((),()))),((false,([],((0:Int),(false,())))),((false,(Dw (n*2^s/k),(-(s:Int),(false,())))),())))):=by
 have key:=NX (sU C7.pre C7.F DW.pre DW.F BA.pre BA.F Bt.pre Bt.F DU.pre DU.F C6.pre C6.F) (fun x=>(300+x.2.2.1.2.2.1).toNat)
  (fun x=>∃ s:Nat,s<=64+D/\x=(((D:Int),(Dw k,(Dw (n*2^s%k),((),((),()))))),((false,([],((0:Int),(false,())))),((false,(Dw (n*2^s/k),(-(s:Int),(false,())))),()))))
  (fun y=>∃ s:Nat,s<=64+D/\(n*2^s%k≠0->D<=Ab (n*2^s/k))/\y=.inl ((Dw (n*2^s%k),((),((),()))),((false,([],((0:Int),(false,())))),((false,(Dw (n*2^s/k),(-(s:Int),(false,())))),())))) ?_
  _ ⟨s0,by omega,rfl⟩
 ·obtain ⟨y,hy,s,k1,k2,rfl⟩:=key
  exact ⟨s,k1,k2,hy⟩
 intro L x hx hL
 obtain ⟨s,hs,rfl⟩:=hx
 unfold PX
 have hr:=Nat.mod_lt (n*2^s) hk0
 have hN:n*2^s<2^(64+(64+D)):=by
  rw [Nat.pow_add]
  exact Nat.lt_of_lt_of_le (Nat.mul_lt_mul_of_pos_right hn (Nat.two_pow_pos s)) (Nat.mul_le_mul_left _ (Nat.pow_le_pow_right (by decide) hs))
 have hq:n*2^s/k<2^(64+(64+D)):=Nat.lt_of_le_of_lt (Nat.div_le_self _ _) hN
 have hqb:=Gt hq (by omega)
 have hrb:=Gt (Nat.lt_trans hr hk) (by decide)
 have hkb:=Gt hk (by decide)
 have p0:=Nr hqb
 have e2s:2*(n*2^s)=n*2^(s+1):=by rw [Nat.pow_succ]; ac_rfl
 obtain ⟨d1,d2⟩:=aCj (n*2^s) hk0
 rw [e2s] at d1 d2
 have hstop:=aF9 (n:=n) (k:=k) (D:=D) (s:=s) hk0 hk hn0
 have gen:=hL
 dsimp only at gen ⊢
 generalize hQ:n*2^s/k=q at *
 generalize hR:n*2^s%k=r at *
 simp only [N4 p0,NT p0,cond_true]
 by_cases hgo:Ab q<D/\r≠0
 ·obtain ⟨g1,g2⟩:=hgo
  have hs1:=(hstop g1).1
  rw [decide_eq_true (show (Ab q:Int)<(D:Int) by omega),J3 g2]
  have p1:=Zl hqb hqb
  have p2:=Zl hrb hrb
  have h65:r+r<2^65:=by
   have:(2:Nat)^65=2*2^64:=by decide
   omega
  have hrr:=Gt h65 (by decide)
  have hqq:q+q<2^(65+(64+D)):=by
   have:(2:Nat)^(65+(64+D))=2*2^(64+(64+D)):=by rw [show 65+(64+D)=(64+(64+D))+1 by omega,Nat.pow_succ,Nat.mul_comm]
   omega
  have p3:=Zm hrr hkb
  have ew:IntKind.wrap .i64 (-(s:Int)-1)=-((s+1:Nat):Int):=by rw [Au (by omega)]; omega
  simp only [Bool.and_self,cond_true,JP p1,JC p1,JP p2,JC p2,eW p3,cL p3,ew]
  have hμ:(300 + -((s+1:Nat):Int)).toNat<(300 + -(s:Int)).toNat:=by omega
  by_cases hge:k<=2*r
  ·obtain ⟨f1,f2⟩:=d1 hge
   have p4:=aAu hrr (show k<=r+r by omega)
   have p5:=Zl (Gt hqq (by omega)) (show 1<(2^64)^5000 from Gt (k:=1) (by decide) (by decide))
   rw [xS] at p5
   have eg:decide ((if r+r=k then (0:Int) else if r+r<k then -1 else 1)>=0)=true:=by
    by_cases h:r+r=k
    ·rw [if_pos h]; rfl
    ·rw [if_neg h,if_neg (by omega)]; rfl
   rw [eg]
   simp only [cond_true,aFy p4,aC9 p4,JP p5,JC p5]
   refine gen _ ⟨s+1,by omega,?_⟩ hμ
   rw [f1,f2,show 2*q+1=q+q+1 by omega,show 2*r-k=r+r-k by omega]
  ·obtain ⟨f1,f2⟩:=d2 (by omega)
   have eg:decide ((if r+r=k then (0:Int) else if r+r<k then -1 else 1)>=0)=false:=by
    rw [if_neg (by omega),if_pos (by omega)]; rfl
   rw [eg]
   simp only [cond_false]
   refine gen _ ⟨s+1,by omega,?_⟩ hμ
   rw [f1,f2,show 2*q=q+q by omega,show 2*r=r+r by omega]
 ·have e:(decide ((Ab q:Int)<(D:Int))&&decide (((Dw r).length:Int)>0))=false:=by
   by_cases g1:Ab q<D
   ·have g2:r=0:=Classical.not_not.1 fun h=>hgo ⟨g1,h⟩
    rw [g2,D5]
    exact Bool.and_false _
   ·rw [decide_eq_false (show ¬ (Ab q:Int)<(D:Int) by omega),Bool.false_and]
  rw [e,cond_false]
  refine ⟨_,rfl,s,hs,?_,?_⟩
  ·intro h
   rw [hR] at h
   rw [hQ]
   by_cases g1:Ab q<D
   ·exact absurd ⟨g1,h⟩ hgo
   ·omega
  ·rw [hQ,hR]
theorem aAN {n k D:Nat} (hk0:k≠0) (hk:k<2^64) (hn0:n≠0) (hn:n<2^64) (hD:D<=100) :
  ∃ s:Nat,s<=64+D/\(n*2^s%k≠0->D<=Ab (n*2^s/k)) /\
   Ry (Dw n,Dw k,(D:Int),())=some ((false,Dw (n*2^s/k),(-(s:Int)),decide (n*2^s%k≠0),()),()):=by
 have bk:=Cj hk
 have bn:=Cj hn
 have p0:=Nr (Gt hk (by decide))
 have p1:=Nr (Gt hn (by decide))
 obtain ⟨s0,hs0,hsl⟩:∃ s0:Nat,(if (Ab k:Int)-(Ab n:Int)-1>0 then (Ab k:Int)-(Ab n:Int)-1 else 0)=(s0:Int)/\s0<=64:=by
  by_cases h:(Ab k:Int)-(Ab n:Int)-1>0
  ·exact ⟨Ab k-Ab n-1,by rw [if_pos h]; omega,by omega⟩
  ·exact ⟨0,by rw [if_neg h]; rfl,by omega⟩
 obtain ⟨s,k1,k2,k3⟩:=aBn (D:=D) (s0:=s0) (by omega) hk hn0 hn hD hsl
 refine ⟨s,k1,k2,?_⟩
 show Yd C7.pre C7.F DW.pre DW.F BA.pre BA.F Bt.pre Bt.F DU.pre DU.F C6.pre C6.F Ve (Dw n) (Dw k) D=_
 unfold Yd
 have hN:n*2^s0<2^128:=by
  rw [show (128:Nat)=64+64 from rfl,Nat.pow_add]
  exact Nat.lt_of_lt_of_le (Nat.mul_lt_mul_of_pos_right hn (Nat.two_pow_pos s0)) (Nat.mul_le_mul_left _ (Nat.pow_le_pow_right (by decide) hsl))
 have hN':n*2^s0<(2^64)^1024:=Nat.lt_of_lt_of_le hN (by rw [← Nat.pow_mul]; exact Nat.pow_le_pow_right (by decide) (by decide))
 have hk':k<(2^64)^1024:=Nat.lt_of_lt_of_le hk (by rw [← Nat.pow_mul]; exact Nat.pow_le_pow_right (by decide) (by decide))
 have p2:=jA (dg (2^64) n) (CX (Gt hn (by decide))) s0 (by omega) (by rw [B9]; exact hN')
 rw [B9] at p2
 have p2:Nt (Dw n,(s0:Int),())=_:=p2
 have p3:=aAK hN' hk' hk0
 have w1:IntKind.wrap .i64 ((Ab k:Int)-(Ab n:Int))=(Ab k:Int)-(Ab n:Int):=Au (by omega)
 have w2:IntKind.wrap .i64 ((Ab k:Int)-(Ab n:Int)-1)=(Ab k:Int)-(Ab n:Int)-1:=Au (by omega)
 have w3:IntKind.wrap .i64 (0-(s0:Int))=-(s0:Int):=by rw [Au (by omega)]; omega
 simp only [N4 p0,NT p0,N4 p1,NT p1,cond_true,w1,w2,hs0,TI p2,Te p2,aFK p3,aDl p3,w3,k3]
 show some _=_
 congr 4
 by_cases h:n*2^s%k=0
 ·rw [h,D5]; rfl
 ·rw [J3 h,decide_eq_true h]
theorem iR {n:Nat} (hn:n<(2^64)^5000):OB (Dw n,())=some (Dw n,()):=by
 have p0:=Zh (dg (2^64) n) (CX hn)
 rw [B9] at p0
 exact p0
theorem aAO {f m:Int} (hf:Fm f) (hm:0<=m/\m<=5) (neg:Bool) {n k:Nat} (hk0:k≠0) (hk:k<2^64) (hn0:n≠0) (hn:n<2^64) {e:Int} (he:-40000<=e/\e<=40000) :
  Rz (f,m,neg,Dw n,Dw k,e,())=some (((DE f m neg n k e).1:Int),((DE f m neg n k e).2:Int),0,()):=by
 show Ye DR.pre DR.F CC.pre CC.F Gp.pre Gp.F Mb.pre Mb.F DS.pre DS.F f m neg (Dw n) (Dw k) e=_
 unfold Ye
 have hP:=Ec hf
 have hP2:=Eu hf
 have p0:=Zi hf hm
 have p1:=iR (Gt hk (by decide))
 have p2:=iR (Gt hn (by decide))
 obtain ⟨s,k1,k2,p3⟩:=aAN (D:=fP f+3) hk0 hk hn0 hn (by omega)
 have hN:n*2^s<2^(64+s):=by
  rw [Nat.pow_add]
  exact Nat.mul_lt_mul_of_pos_right hn (Nat.two_pow_pos s)
 have hq:n*2^s/k<2^(64+s):=Nat.lt_of_le_of_lt (Nat.div_le_self _ _) hN
 have p4:=Zj neg (n*2^s/k) (e-s) (decide (n*2^s%k≠0)) f m hf (aI hq (by omega)) (by omega)
 rw [vJ hf (fun h=>by have:=k2 (of_decide_eq_true h); omega),VZ hf hn0 (by omega) e (by omega) (fun h=>by have:=k2 h; omega)] at p4
 have r1:(BL f).2.1=(fP f:Int):=rfl
 have w1:IntKind.wrap .i64 ((fP f:Int)+3)=((fP f+3:Nat):Int):=by rw [Au (by omega)]; omega
 have w2:IntKind.wrap .i64 (-(s:Int)+e)=e-s:=by rw [Au (by omega)]; omega
 have l1:(Dw n).length=1:=by rw [UA hn0 hn]; rfl
 have l2:(Dw k).length=1:=by rw [UA hk0 hk]; rfl
 have w3:decide (IntKind.wrap .i64 (((1:Nat):Int)+((1:Nat):Int))>1024)=false:=by decide
 have w4:(decide (e<(-(40000:Int)))||decide (e>(40000:Int)))=false:=by rw [decide_eq_false (by omega),decide_eq_false (by omega)]; rfl
 have w5:((((1:Nat):Int))==(0:Int))=false:=by decide
 simp only [eQ p0,cH p0,bne_self_eq_false,cond_true,cond_false,WT p1,Wf p1,WT p2,Wf p2,l1,l2,w3,w4,w5,r1,w1,aFN p3,aDo p3,w2,eR p4,cI p4]
theorem aCq {f m:Int} {neg:Bool} (hf:Fm f) {n k t u:Nat} (hn0:n≠0) (hk0:k≠0) (hn:n*2^t<2^53) (hk:k*2^u<2^53) (e:Int) :
  DE f m neg (n*2^t) (k*2^u) e=DE f m neg n k (e+t-u):=by
 have hP:=Eu hf
 have ht:t<53:=by
  have:1*2^t<=n*2^t:=Nat.mul_le_mul_right _ (by omega)
  exact (Nat.pow_lt_pow_iff_right (a:=2) (by decide)).1 (by omega)
 have hu:u<53:=by
  have:1*2^u<=k*2^u:=Nat.mul_le_mul_right _ (by omega)
  exact (Nat.pow_lt_pow_iff_right (a:=2) (by decide)).1 (by omega)
 obtain ⟨s,hs⟩:∃ s,s+u=120+t:=⟨120+t-u,by omega⟩
 have hk1:0<k:=by omega
 have hup:=Nat.two_pow_pos u
 have e1:n*2^t*2^120=n*2^s*2^u:=by
  rw [Nat.mul_assoc,Nat.mul_assoc,← Nat.pow_add,← Nat.pow_add,hs,Nat.add_comm]
 have hbig:fP f+1<=Ab (n*2^s/k):=by
  apply E2
  rw [Nat.le_div_iff_mul_le hk1]
  have h1:2^fP f*(k*2^u)<=2^53*2^53:=Nat.mul_le_mul (Nat.pow_le_pow_right (by decide) hP) (by omega)
  have h2:1*2^(120+t)<=n*2^(120+t):=Nat.mul_le_mul_right _ (by omega)
  have h3:(2:Nat)^53*2^53<=2^(120+t):=by rw [← Nat.pow_add]; exact Nat.pow_le_pow_right (by decide) (by omega)
  have h4:2^fP f*k*2^u<=n*2^s*2^u:=by
   rw [Nat.mul_assoc,Nat.mul_assoc n,← Nat.pow_add,hs]
   omega
  exact Nat.le_of_mul_le_mul_right h4 hup
 have a1:=VZ (f:=f) (m:=m) (neg:=neg) hf (n:=n*2^t) (k:=k*2^u) (Nat.mul_ne_zero hn0 (Nat.ne_of_gt (Nat.two_pow_pos t))) (Nat.mul_pos hk1 hup) e (s:=120) (by decide)
  (by rw [e1,Nat.mul_div_mul_right _ _ hup]; exact fun _=>hbig)
 have a2:=VZ (f:=f) (m:=m) (neg:=neg) hf hn0 hk1 (e+t-u) (s:=s) (by omega) (fun _=>hbig)
 rw [← a1,← a2,e1,Nat.mul_div_mul_right _ _ hup,Nat.mul_mod_mul_right,show e-((120:Nat):Int)=e+(t:Int)-(u:Int)-(s:Int) by omega]
 congr 1
 rw [Bool.eq_iff_iff,decide_eq_true_eq,decide_eq_true_eq]
 constructor
 ·intro h hc
  rw [hc,Nat.zero_mul] at h
  exact h rfl
 ·intro h
  exact Nat.mul_ne_zero h (by omega)
theorem aCp {f m:Int} {neg:Bool} (hf:Fm f) (s s':Bool) {n k:Nat} (hn0:n≠0) (hk0:k≠0) (hn:n<2^53) (hk:k<2^53) (x y:Int) :
  DE f m neg (od s n x).2.1 (od s' k y).2.1 ((od s n x).2.2-(od s' k y).2.2)=DE f m neg n k (x-y):=by
 rcases JK s n x with ⟨_,h⟩ | ⟨_,h2,_,h4,h5⟩
 ·exact absurd h hn0
 rcases JK s' k y with ⟨_,h⟩ | ⟨_,g2,_,g4,g5⟩
 ·exact absurd h hk0
 generalize (od s n x).2.1=n1 at *
 generalize (od s' k y).2.1=k1 at *
 rw [h5,g5]
 rw [Nat.mul_comm] at h4 g4
 have:=aCq (f:=f) (m:=m) (neg:=neg) hf (n:=n1) (k:=k1) (t:=tz n) (u:=tz k) (by omega) (by omega) (by rw [← h4]; exact hn) (by rw [← g4]; exact hk) (x-y)
 rw [← h4,← g4] at this
 rw [this]
 congr 1
 omega
theorem wD {f:Int} {a:Nat} (h:BM f a=true):nan f a=true:=by
 cases hn:nan f a
 ·rw [HY hn] at h; exact absurd h (by decide)
 ·rfl
theorem HL {f:Int} {a:Nat} (h1:nan f a=false) (h2:Ao f a=false):eF f a≠Av f:=fun he=>by
 unfold nan at h1
 unfold Ao at h2
 rw [he] at h1 h2
 simp at h1 h2
 exact h2 h1
theorem aAP (f m:Int) {a b:Nat} (ha:a<2^64) (hb:b<2^64):RA (f,m,(a:Int),(b:Int),())=some (D9 f m a b):=by
 show Yf L8.pre L8.F L9.pre L9.F Ma.pre Ma.F Cy.pre Cy.F Bm.pre Bm.F EW.pre EW.F Mc.pre Mc.F f m a b=_
 unfold Yf D9
 have p0:=aAM f m [a,b] (fun c hc=>by
  rcases List.mem_cons.1 hc with rfl | hc
  ·exact ha
  ·rw [List.mem_singleton] at hc; omega) (show (2:Nat)<1000 by decide)
 have p0:ON (f,m,((a:Int)::((b:Int)::[])),())=_:=p0
 simp only [aFM p0,aDn p0,cond_true]
 clear p0
 unfold aU
 by_cases hf:¬ Fm f
 ·rw [if_pos hf,if_pos hf]; rfl
 have hf:=Classical.not_not.1 hf
 rw [if_neg (show ¬ ¬ Fm f from fun h=>h hf),if_neg (show ¬ ¬ Fm f from fun h=>h hf)]
 by_cases hm:m<0∨m>5
 ·rw [if_pos hm,if_pos hm]; rfl
 rw [if_neg hm,if_neg hm]
 have hm':0<=m/\m<=5:=by omega
 have ho:JL f [a,b]=(Aj f a==0&&(Aj f b==0&&true)):=rfl
 rw [ho]
 by_cases hca:Aj f a≠0
 ·have h4:=(aV hf a).resolve_left hca
  rw [if_pos hca,h4]; rfl
 have hca:=Classical.not_not.1 hca
 rw [if_neg (fun h=>h hca),hca]
 by_cases hcb:Aj f b≠0
 ·have h4:=(aV hf b).resolve_left hcb
  rw [if_pos hcb,h4]; rfl
 have hcb:=Classical.not_not.1 hcb
 rw [if_neg (fun h=>h hcb),hcb]
 have e0:((bif ((0:Int)==0&&((0:Int)==0&&true)) then (0:Int) else 4) != 0)=false:=rfl
 rw [e0,cond_false]
 have p1:=jJ hca
 have p2:=jJ hcb
 have p3:=jK hf 0
 have p4:=jK hf 1
 have p5:=UY hf (!(sF f a==sF f b))
 have p6:=OE hf (!(sF f a==sF f b))
 have ma:=GE hf a
 have mb:=GE hf b
 have xa:=Of hf a
 have xb:=Of hf b
 simp only [uP p1,qU p1,uP p2,qU p2,cond_true,uQ p3,qV p3,uQ p4,qV p4,W5 p5,Wu p5,Qo p6,Px p6]
 unfold ST
 cases sa:BM f a
 ·cases sb:BM f b
  ·simp only [Bool.or_self,cond_false]
   cases na:nan f a
   ·cases nb:nan f b
    ·simp only [Bool.or_self,cond_false]
     cases hi:Ao f a&&Ao f b||Ax f a&&Ax f b
     ·simp only [cond_false]
      cases ia:Ao f a
      ·simp only [cond_false]
       cases zb:Ax f b
       ·simp only [cond_false]
        cases iz:Ao f b||Ax f a
        ·simp only [cond_false]
         rw [Bool.or_eq_false_iff] at iz
         have q1:=Zp hca (HL na ia)
         have q2:=Zp hcb (HL nb iz.1)
         have mza:=CG iz.2
         have mzb:=CG zb
         obtain ⟨o1,o2,o3⟩:=eE (sF f a) (n:=Af f a) (Ag f a) ma xa
         obtain ⟨o4,o5,o6⟩:=eE (sF f b) (n:=Af f b) (Ag f b) mb xb
         have n1:(od (sF f a) (Af f a) (Ag f a)).2.1≠0:=by
          rcases JK (sF f a) (Af f a) (Ag f a) with ⟨_,h⟩ | ⟨_,h2,_,_,_⟩
          ·exact absurd h mza
          ·omega
         have n2:(od (sF f b) (Af f b) (Ag f b)).2.1≠0:=by
          rcases JK (sF f b) (Af f b) (Ag f b) with ⟨_,h⟩ | ⟨_,h2,_,_,_⟩
          ·exact absurd h mzb
          ·omega
         have q3:=aAO hf hm' (!(sF f a==sF f b)) (n:=(od (sF f a) (Af f a) (Ag f a)).2.1) (k:=(od (sF f b) (Af f b) (Ag f b)).2.1) n2 (by omega) n1 (by omega) (e:=(od (sF f a) (Af f a) (Ag f a)).2.2-(od (sF f b) (Af f b) (Ag f b)).2.2) (by omega)
         rw [aCp hf _ _ mza mzb ma mb] at q3
         have w1:IntKind.wrap .i64 ((od (sF f a) (Af f a) (Ag f a)).2.2-(od (sF f b) (Af f b) (Ag f b)).2.2)=(od (sF f a) (Af f a) (Ag f a)).2.2-(od (sF f b) (Af f b) (Ag f b)).2.2:=Au (by omega)
         have d1:∀ t:Bool×Nat×Int,(Ea t).2.1=Dw t.2.1:=fun _=>rfl
         have d2:∀ t:Bool×Nat×Int,(Ea t).2.2.1=t.2.2:=fun _=>rfl
         simp only [fD q1,cR q1,fD q2,cR q2,cond_true,d1,d2,w1,aFO q3,aDp q3]
        ·rfl
       ·rfl
      ·rfl
     ·rfl
    ·rfl
   ·cases nb:nan f b <;> rfl
  ·have nb:=wD sb
   rw [nb,Bool.or_true,Bool.or_true]; rfl
 ·have na:=wD sa
  rw [na]; rfl
end VL
namespace VL
open Go Vx
theorem aF5 {d e r:Ieee.Datum} (h:d.product e=some r):r.isNaN=false:=by
 unfold Ieee.Datum.product at h
 split at h
 all_goals first | (cases h; done) | (cases h; rfl) | (split at h <;> first | (cases h; done) | (cases h; rfl))
theorem aGc {g:Nat} {d e r:Ieee.Datum} (h:d.quotient g e=some r):r.isNaN=false:=by
 unfold Ieee.Datum.quotient at h
 split at h
 all_goals first | (cases h; done) | (cases h; rfl) | skip
 split at h
 ·split at h
  ·cases h
  ·cases h; rfl
 ·cases h; rfl
theorem xC (k:FloatKind) {op:BinOp} (hop:op=.add∨op=.sub∨op=.mul∨op=.quo) (a b:Nat) :
  (bif Dp k (BH op k (some a) (some b)) (BH op k (some a) (some b)) != some .eq then By (fk k) else (BH op k (some a) (some b)).getD 0)=CE (fk k) (BI op k a b) /\
  ((Dp k (BH op k (some a) (some b)) (BH op k (some a) (some b)) != some .eq)=false->(BH op k (some a) (some b)).isSome=true):=by
 have e:BH op k (some a) (some b)=BI op k a b:=rfl
 rw [e]
 have hnum:∀ r,BI op k a b=some r->Aj (fk k) r=0/\nan (fk k) r=false:=fun r h=>by
  have key:∀ {o:Option Ieee.Datum},(∀ d,o=some d->d.isNaN=false)->o.map k.format.write=some r->Aj (fk k) r=0/\nan (fk k) r=false:=fun {o} ho h=>by
   cases o with
   | none=>cases h
   | some d=>cases h; exact aJs k (ho d rfl)
  rcases hop with rfl | rfl | rfl | rfl
  ·exact key (fun d hd=>wJ hd) h
  ·exact key (fun d hd=>wJ hd) h
  ·exact key (fun d hd=>aF5 hd) h
  ·exact key (fun d hd=>aGc hd) h
 cases h:BI op k a b with
 | none =>
  exact ⟨rfl,fun h=>by cases h⟩
 | some r =>
  obtain ⟨h1,h2⟩:=hnum r h
  have ho:Dp k (some r) (some r)=some .eq:=by
   show k.format.order r r=_
   rw [aFb k h1 h1,h2,Bool.or_self,if_neg (by decide)]
   congr 1
   show compareOfLessAndEq _ _=_
   unfold compareOfLessAndEq
   rw [if_neg (by omega),if_pos rfl]
  rw [ho]
  exact ⟨rfl,fun _=>rfl⟩
theorem aBV {op:BinOp} (a b:Nat):CE 2 (BI op .f32 a b)<2^32:=by
 unfold CE
 cases h:BI op .f32 a b with
 | none=>decide
 | some r=>exact p9 h
end VL
namespace VL
open Go Vx
theorem eP {f:Int} (hf:Fm f) {x:Nat} (h:x<AK f):x<2^(fW f-1)/\x<2^fW f/\x<2^64:=by
 have h1:=Tl hf
 have h2:=xH hf
 have h3:=E4 hf
 have:2^fW f<=2^64:=Nat.pow_le_pow_right (by decide) h3
 omega
theorem eO {f:Int} (hf:Fm f) {x:Nat} (h:x<AK f):AT f x=x:=Nat.mod_eq_of_lt (eP hf h).1
theorem uD {f:Int} (hf:Fm f) {x:Nat} (h:x<AK f):Aj f x=0/\sF f x=false/\nan f x=false/\Ao f x=false/\eF f x≠Av f/\BM f x=false:=by
 obtain ⟨h1,h2,h3⟩:=eP hf h
 have ha:=eO hf h
 have hn:nan f x=false:=dQ hf (by omega)
 have hE:eF f x≠Av f:=by
  rw [DX hf,ha]
  intro he
  have:=Nat.div_add_mod x (2^(fP f-1))
  rw [he] at this
  unfold AK at h
  omega
 refine ⟨SP hf h2,?_,hn,?_,hE,HY hn⟩
 ·unfold sF
  rw [Nat.div_eq_of_lt h1]; rfl
 ·unfold Ao
  rw [beq_eq_false_iff_ne.2 hE]; rfl
theorem aFj {f:Int} (hf:Fm f) {x:Nat} (h:x<AK f):Ax f x=decide (x=0):=by
 have ha:=eO hf h
 unfold Ax
 rw [DX hf,Ez hf,ha,Bool.eq_iff_iff,Bool.and_eq_true,beq_iff_eq,beq_iff_eq,decide_eq_true_eq]
 have:=Nat.div_add_mod x (2^(fP f-1))
 constructor
 ·rintro ⟨h1,h2⟩
  rw [h1,h2] at this
  omega
 ·rintro rfl
  exact ⟨Nat.zero_div _,Nat.zero_mod _⟩
def VV (f:Int) (x:Nat):Nat:=Af f x*2^(Ag f x+2600).toNat
theorem R9 {f:Int} {x:Nat} (h:Af f x≠0):VV f x≠0:=Nat.mul_ne_zero h (Nat.ne_of_gt (Nat.two_pow_pos _))
end VL
namespace VL
open Go Vx
theorem VW (neg:Bool) (n j:Nat):A7 0 neg n j=n/2^j+(if 2^j<2*(n%2^j)∨(2^j=2*(n%2^j)/\(n/2^j)%2=1) then 1 else 0):=by
 unfold A7
 have hr:=Nat.mod_lt n (Nat.two_pow_pos j)
 generalize n/2^j=q
 rcases Nat.eq_zero_or_pos j with h0 | h0
 ·subst h0
  rw [Nat.pow_zero,Nat.mod_one]
  rw [if_neg (fun h=>h.1 rfl),if_neg (by omega),Nat.add_zero]
 ·have hp:2^j=2*2^(j-1):=by rw [Nat.mul_comm,← Nat.pow_succ]; congr 1; omega
  generalize n%2^j=r at *
  have hpp:=Nat.two_pow_pos (j-1)
  rw [hp] at hr ⊢
  unfold Cq
  generalize 2^(j-1)=H at *
  by_cases h1:r=0
  ·subst h1
   rw [if_pos rfl,if_neg (fun h=>h.1 rfl),if_neg (by omega),Nat.add_zero]
  rw [if_neg h1]
  by_cases h2:r<H
  ·rw [if_pos h2]
   have:CR 0 neg (decide (q%2=1)) 1=false:=rfl
   rw [this,if_neg (fun h=>by cases h.2),if_neg (by omega),Nat.add_zero]
  rw [if_neg h2]
  by_cases h3:r=H
  ·rw [if_pos h3]
   have:CR 0 neg (decide (q%2=1)) 2=decide (q%2=1):=rfl
   rw [this]
   by_cases h4:q%2=1
   ·rw [if_pos ⟨by decide,decide_eq_true h4⟩,if_pos (.inr ⟨by omega,h4⟩)]
   ·rw [if_neg (fun h=>h4 (of_decide_eq_true h.2)),if_neg (by omega),Nat.add_zero]
  ·rw [if_neg h3]
   have:CR 0 neg (decide (q%2=1)) 3=true:=rfl
   rw [this,if_pos ⟨by decide,rfl⟩,if_pos (.inl (by omega))]
theorem oL (neg:Bool) (u j:Nat):A7 0 neg (u*2^j) j=u:=by
 rw [VW,Nat.mul_mod_left,Nat.mul_div_cancel _ (Nat.two_pow_pos j),if_neg]
 ·rfl
 ·have:=Nat.two_pow_pos j
  omega
theorem oM (neg:Bool) (n j:Nat):2*n<=2*(A7 0 neg n j*2^j)+2^j/\2*(A7 0 neg n j*2^j)<=2*n+2^j:=by
 rw [VW]
 have h1:=Nat.div_add_mod n (2^j)
 have h2:=Nat.mod_lt n (Nat.two_pow_pos j)
 rw [Nat.mul_comm] at h1
 generalize n/2^j=q at *
 generalize n%2^j=r at *
 rw [Nat.add_mul]
 split
 ·omega
 ·omega
theorem aEh {f:Int} (hf:Fm f) (neg:Bool) {d J u:Nat} (hu:u<=2^fP f) (hl:J=0∨2^(fP f-1)<=u):E7 f 0 neg d (u*2^(J+d))=J*2^(fP f-1)+u:=by
 have hP:=BD hf
 have h2p:=M9 hf
 unfold E7
 rcases Nat.lt_or_ge u (2^fP f) with h | h
 ·have hb:Ab (u*2^(J+d))-fP f-d=J:=by
   have h1:u*2^(J+d)<2^(fP f+(J+d)):=VJ h
   have h2:=Cj h1
   rcases hl with hl | hl
   ·omega
   ·have h3:2^(fP f-1)*2^(J+d)<=u*2^(J+d):=Nat.mul_le_mul_right _ hl
    rw [← Nat.pow_add] at h3
    have h4:=E2 h3
    omega
  rw [hb,oL]
 ·have hu2:u=2^fP f:=by omega
  subst hu2
  rw [← Nat.pow_add]
  have hb:Ab (2^(fP f+(J+d)))=fP f+(J+d)+1:=nV (Nat.le_refl _) (Nat.pow_lt_pow_right (by decide) (by omega))
  rw [hb]
  have hj:fP f+(J+d)+1-fP f-d=J+1:=by omega
  have e:2^(fP f+(J+d))=2^(fP f-1)*2^(J+1+d):=by rw [← Nat.pow_add]; congr 1; omega
  rw [hj,e,oL,h2p,Nat.add_mul]
  omega
theorem dT {N X b x M μ:Nat} (hb:0<b) (hX:X=b*x) (hM:M=b*μ) (h2:2*X<=2*N+b) (h:N<=M):X<=M:=by
 subst hX hM
 have h3:b*(2*x)<=b*(2*μ+1):=by rw [Nat.mul_add,Nat.mul_one,Nat.mul_left_comm b 2,Nat.mul_left_comm b 2]; omega
 have h4:=Nat.le_of_mul_le_mul_left h3 hb
 exact Nat.mul_le_mul_left _ (by omega)
theorem dS {N X b x M μ:Nat} (hb:0<b) (hX:X=b*x) (hM:M=b*μ) (h1:2*N<=2*X+b) (h:M<=N):M<=X:=by
 subst hX hM
 have h3:b*(2*μ)<=b*(2*x+1):=by rw [Nat.mul_add,Nat.mul_one,Nat.mul_left_comm b 2,Nat.mul_left_comm b 2]; omega
 have h4:=Nat.le_of_mul_le_mul_left h3 hb
 exact Nat.mul_le_mul_left _ (by omega)
theorem aCk {f:Int} (hf:Fm f) (neg:Bool) {d N j X:Nat} (h0:N≠0) (hj:j+1<=Ab N-fP f-d+d) (hX:X%2^j=0) (h1:2*N<=2*X+2^j) (h2:2*X<=2*N+2^j)
  (hmid:X≠N->X%2^(Ab N-fP f-d+d)≠2^(Ab N-fP f-d+d-1)):E7 f 0 neg d X=E7 f 0 neg d N:=by
 by_cases hXN:X=N
 ·rw [hXN]
 have hmid:=hmid hXN
 have hP:=BD hf
 have h2p:=M9 hf
 have hqt:=fL hf d N
 have hql:=fK hf (d:=d) h0
 have hb0:=Nat.two_pow_pos j
 obtain ⟨x,hx⟩:∃ x,X=2^j*x:=⟨X/2^j,by have:=Nat.div_add_mod X (2^j); omega⟩
 rw [show E7 f 0 neg d N=(Ab N-fP f-d)*2^(fP f-1)+A7 0 neg N (Ab N-fP f-d+d) from rfl,VW]
 have hN:=Nat.div_add_mod N (2^(Ab N-fP f-d+d))
 have hr:=Nat.mod_lt N (Nat.two_pow_pos (Ab N-fP f-d+d))
 have hJP:Ab N-fP f-d=0∨fP f+d<=Ab N:=by omega
 generalize hJ:Ab N-fP f-d=J at *
 have hH:2^(J+d)=2*2^(J+d-1):=by rw [Nat.mul_comm,← Nat.pow_succ]; congr 1; omega
 have hc:2^(J+d-1)=2^j*2^(J+d-1-j):=by rw [← Nat.pow_add]; congr 1; omega
 have hHp:=Nat.two_pow_pos (J+d-1)
 generalize hq:N/2^(J+d)=q at *
 generalize hrr:N%2^(J+d)=r at *
 have m0:2^(J+d)*q=2^j*(2*2^(J+d-1-j)*q):=by rw [hH,hc]; ac_rfl
 have m1:2^(J+d)*(q+1)=2^j*(2*2^(J+d-1-j)*(q+1)):=by rw [hH,hc]; ac_rfl
 have mh:2^(J+d)*q+2^(J+d-1)=2^j*(2^(J+d-1-j)*(2*q+1)):=by
  rw [hH,hc,Nat.mul_add,Nat.mul_one,Nat.mul_add]
  congr 1
  ac_rfl
 have k0:=dS hb0 hx m0 h1 (by omega)
 have k1:=dT hb0 hx m1 h2 (by rw [Nat.mul_add,Nat.mul_one]; omega)
 have kl:r<=2^(J+d-1)->X<=2^(J+d)*q+2^(J+d-1):=fun h=>dT hb0 hx mh h2 (by omega)
 have kg:2^(J+d-1)<=r->2^(J+d)*q+2^(J+d-1)<=X:=fun h=>dS hb0 hx mh h1 (by omega)
 rw [Nat.mul_add,Nat.mul_one] at k1
 have hl2:J=0∨2^(fP f-1)<=q:=by
  rcases hJP with h | h
  ·exact .inl h
  ·exact .inr (hql h)
 rcases Nat.lt_or_ge X (2^(J+d)*q+2^(J+d)) with hlt | hge
 ·-- below the next
  obtain ⟨r',hr',hrl⟩:∃ r',X=2^(J+d)*q+r'/\r'<2^(J+d):=⟨X-2^(J+d)*q,by omega,by omega⟩
  have hXq:X/2^(J+d)=q:=by rw [hr',Nat.mul_add_div (by omega),Nat.div_eq_of_lt hrl,Nat.add_zero]
  have hXr:X%2^(J+d)=r':=by rw [hr',Nat.mul_add_mod,Nat.mod_eq_of_lt hrl]
  have hbX:Ab X-fP f-d=J:=by
   have g1:X<2^(fP f+(J+d)):=by
    have:2^(J+d)*(q+1)<=2^(J+d)*2^fP f:=Nat.mul_le_mul_left _ (by omega)
    rw [← Nat.pow_add,Nat.mul_add,Nat.mul_one] at this
    rw [Nat.add_comm (fP f)]
    omega
   have g2:=Cj g1
   rcases hl2 with h | h
   ·omega
   ·have g3:2^(J+d)*2^(fP f-1)<=2^(J+d)*q:=Nat.mul_le_mul_left _ h
    rw [← Nat.pow_add] at g3
    have g4:=E2 (n:=X) (k:=J+d+(fP f-1)) (by omega)
    omega
  unfold E7
  rw [hbX,VW,hXq,hXr]
  rw [hXr] at hmid
  congr 2
  rcases Nat.lt_trichotomy r (2^(J+d-1)) with h | h | h
  ·have:=kl (by omega)
   rw [if_neg (by omega),if_neg (by omega)]
  ·exfalso
   have:=kl (by omega)
   have:=kg (by omega)
   exact hXN (by omega)
  ·have:=kg (by omega)
   rw [if_pos (by omega),if_pos (by omega)]
 ·-- the next itself
  have hXe:X=(q+1)*2^(J+d):=by rw [Nat.add_mul,Nat.one_mul,Nat.mul_comm q]; omega
  have hrH:2^(J+d-1)<r:=by
   rcases Nat.lt_or_ge (2^(J+d-1)) r with h | h
   ·exact h
   ·have:=kl h
    omega
  rw [hXe,aEh hf neg (by omega) (by omega),if_pos (by omega)]
end VL
namespace VL
open Go Vx
theorem pL {f:Int} (hf:Fm f) {a:Nat} (h:eF f a≠Av f):AT f a<AK f:=by
 rw [DX hf] at h
 have hlt:=SE (f:=f) a
 have h2:AT f a/2^(fP f-1)<2^(fW f-fP f):=by
  rw [Nat.div_lt_iff_lt_mul (Nat.two_pow_pos _),← Nat.pow_add]
  have:=Ec hf
  have:=BD hf
  rw [show fW f-fP f+(fP f-1)=fW f-1 by omega]
  exact hlt
 have h3:AT f a/2^(fP f-1)<Av f:=by unfold Av at *; omega
 rw [Nat.div_lt_iff_lt_mul (Nat.two_pow_pos _),Nat.mul_comm] at h3
 exact h3
end VL
namespace VL
open Go Vx
theorem Xf {f m:Int} {neg:Bool} (hf:Fm f) {n n':Nat} {e e':Int} (c:Int) (hn:n≠0) (hn':n'≠0) (h1:c<=e) (h2:c<=e') (h:n*2^(e-c).toNat=n'*2^(e'-c).toNat):At f m neg n e false=At f m neg n' e' false:=by
 have a1:=JS (m:=m) (neg:=neg) hf hn (e-c).toNat c
 have a2:=JS (m:=m) (neg:=neg) hf hn' (e'-c).toNat c
 rw [h,a2] at a1
 rw [show c+((e-c).toNat:Int)=e by omega,show c+((e'-c).toNat:Int)=e' by omega] at a1
 exact a1.symm
theorem tC {f:Int} (hf:Fm f) (a:Nat):Af f (AT f a)=Af f a/\Ag f (AT f a)=Ag f a:=by
 have h1:AT f (AT f a)=AT f a:=Nat.mod_mod _ _
 have e1:eF f (AT f a)=eF f a:=by rw [DX hf,DX hf,h1]
 have e2:mF f (AT f a)=mF f a:=by rw [Ez hf,Ez hf,h1]
 unfold Af Ag
 rw [e1,e2]
 exact ⟨rfl,rfl⟩
end VL
namespace VL
open Go Vx
def TC (w:Int) (neg:Bool) (x:Nat):Prop:=Aj w x=0/\sF w x=neg/\nan w x=false/\Ao w x=false/\Ax w x=false/\eF w x≠Av w
theorem aEc {w:Int} (hw:Fm w) (neg:Bool) {r:Nat} (h:r<AK w) (h0:r≠0):TC w neg (B2 w neg r)/\Af w (B2 w neg r)=Af w r/\Ag w (B2 w neg r)=Ag w r:=by
 obtain ⟨h1,h2,h3⟩:=eP hw h
 have ha:=Tx (f:=w) neg h1
 have hr:=eO hw h
 obtain ⟨_,_,_,_,p5,_⟩:=uD hw h
 have hE:eF w (B2 w neg r)=eF w r:=by rw [DX hw,ha,DX hw,hr]
 have hM:mF w (B2 w neg r)=mF w r:=by rw [Ez hw,ha,Ez hw,hr]
 have hz:Ax w (B2 w neg r)=Ax w r:=by unfold Ax; rw [hE,hM]
 refine ⟨⟨WF hw neg h1,dN neg h1,aEb hw neg (by omega),?_,?_,by rw [hE]; exact p5⟩,by unfold Af; rw [hE,hM],by unfold Ag; rw [hE]⟩
 ·unfold Ao
  rw [hE,beq_eq_false_iff_ne.2 p5]; rfl
 ·rw [hz,aFj hw h,decide_eq_false h0]
theorem vO {w:Int} (hw:Fm w) (neg:Bool) {N d:Nat} (h0:N≠0) (hlow:2^d<=N) (htop:qm w-d+Ab N<=fX w) :
  TC w neg (At w 0 neg N (qm w-d) false).1 /\
   Af w (At w 0 neg N (qm w-d) false).1*2^(Ag w (At w 0 neg N (qm w-d) false).1-(qm w-d)).toNat=A7 0 neg N (Ab N-fP w-d+d)*2^(Ab N-fP w-d+d):=by
 have hP:=BD hw
 have hX:=Gz hw
 have h2p:=M9 hw
 have hpp:=Nat.two_pow_pos (fP w-1)
 have hinf:=Tn hw
 have hqt:=fL hw d N
 have hql:=fK hw (d:=d) h0
 have hqm:qm w=1-(fX w:Int)-(fP w:Int)+1:=rfl
 obtain ⟨c1,c2⟩:=MI 0 neg N (Ab N-fP w-d+d)
 have hJ2:Ab N-fP w-d<=2*fX w-2:=by omega
 have hlowJ:Ab N-fP w-d=0∨2^(fP w-1)<=A7 0 neg N (Ab N-fP w-d+d):=by
  rcases Nat.eq_zero_or_pos (Ab N-fP w-d) with h | h
  ·exact .inl h
  ·right
   have:=hql (by omega)
   omega
 have hu0:(Ab N-fP w-d)*2^(fP w-1)+A7 0 neg N (Ab N-fP w-d+d)≠0:=by
  rcases hlowJ with h | h
  ·rw [h,Nat.zero_add] at c1 ⊢
   have:1<=N/2^d:=(Nat.le_div_iff_mul_le (Nat.two_pow_pos d)).2 (by omega)
   omega
  ·omega
 have hlt:(Ab N-fP w-d)*2^(fP w-1)+A7 0 neg N (Ab N-fP w-d+d)<AK w:=by
  have h3:(Ab N-fP w-d+2)*2^(fP w-1)<=(2*fX w)*2^(fP w-1):=Nat.mul_le_mul_right _ (by omega)
  have h4:(2*fX w+1)*2^(fP w-1)=(2*fX w)*2^(fP w-1)+2^(fP w-1):=by rw [Nat.add_mul,Nat.one_mul]
  have h5:(Ab N-fP w-d+2)*2^(fP w-1)=(Ab N-fP w-d)*2^(fP w-1)+2*2^(fP w-1):=Nat.add_mul _ _ _
  omega
 have hr:(At w 0 neg N (qm w-d) false).1=B2 w neg ((Ab N-fP w-d)*2^(fP w-1)+A7 0 neg N (Ab N-fP w-d+d)):=by
  rw [N6 hw,Xe hw 0 neg h0]
  unfold E7
  rw [if_neg (by omega)]
 rw [hr]
 obtain ⟨n1,n2,n3⟩:=aEc hw neg hlt hu0
 refine ⟨n1,?_⟩
 rw [n2,n3]
 have hpv:=aF8 hw (J:=Ab N-fP w-d) (u:=A7 0 neg N (Ab N-fP w-d+d)) (by omega) (by omega) hlowJ
 unfold pv at hpv
 have hx:=Dx w ((Ab N-fP w-d)*2^(fP w-1)+A7 0 neg N (Ab N-fP w-d+d))
 rw [show (Ag w ((Ab N-fP w-d)*2^(fP w-1)+A7 0 neg N (Ab N-fP w-d+d))-(qm w-d)).toNat=(Ag w ((Ab N-fP w-d)*2^(fP w-1)+A7 0 neg N (Ab N-fP w-d+d))-qm w).toNat+d by omega,Nat.pow_add,← Nat.mul_assoc,hpv,Nat.pow_add,Nat.mul_assoc]
def Bb (w:Int) (N:Nat) (E:Int):Nat:=Ab N-fP w-(qm w-E).toNat+(qm w-E).toNat
theorem aJh {f w:Int} (hf:Fm f) (hw:Fm w) (hPP:fP f+1<=fP w) (hq:qm w+1<=qm f) (neg:Bool) {N:Nat} {E:Int} (h0:N≠0) (hE:E<=qm w) (hlow:2^(qm w-E).toNat<=N) (htop:E+Ab N<=fX w)
  (hmid:∀ X,X%2^Bb w N E=0->2*N<=2*X+2^Bb w N E->2*X<=2*N+2^Bb w N E->X≠N->X%2^Bb f N E≠2^(Bb f N E-1)) :
  TC w neg (At w 0 neg N E false).1/\(At f 0 neg (Af w (At w 0 neg N E false).1) (Ag w (At w 0 neg N E false).1) false).1=(At f 0 neg N E false).1:=by
 obtain ⟨d,hd⟩:=Int.eq_ofNat_of_zero_le (show 0<=qm w-E by omega)
 obtain ⟨d',hd'⟩:=Int.eq_ofNat_of_zero_le (show 0<=qm f-E by omega)
 have hEw:E=qm w-d:=by omega
 have hEf:E=qm f-d':=by omega
 have t1:(qm w-E).toNat=d:=by omega
 have t2:(qm f-E).toNat=d':=by omega
 unfold Bb at hmid
 rw [t1] at hmid hlow
 rw [t2] at hmid
 obtain ⟨v1,v2⟩:=vO hw neg h0 hlow (by rw [← hEw]; exact htop)
 rw [← hEw] at v1 v2
 refine ⟨v1,?_⟩
 have hm0:=CG v1.2.2.2.2.1
 have hxq:=Dx w (At w 0 neg N E false).1
 obtain ⟨n1,n2⟩:=oM neg N (Ab N-fP w-d+d)
 have hk:=aCk hf neg (d:=d') (j:=Ab N-fP w-d+d) (X:=A7 0 neg N (Ab N-fP w-d+d)*2^(Ab N-fP w-d+d)) h0 (by omega) (Nat.mul_mod_left _ _) n1 n2
  (hmid _ (Nat.mul_mod_left _ _) n1 n2)
 have hX0:A7 0 neg N (Ab N-fP w-d+d)*2^(Ab N-fP w-d+d)≠0:=by
  rw [← v2]
  exact Nat.mul_ne_zero hm0 (Nat.ne_of_gt (Nat.two_pow_pos _))
 generalize A7 0 neg N (Ab N-fP w-d+d)*2^(Ab N-fP w-d+d)=X at *
 rw [Xf hf E hm0 hX0 (by omega) (Int.le_refl E) (by rw [v2,Int.sub_self]; exact (Nat.mul_one X).symm)]
 rw [N6 hf,N6 hf,hEf,Xe hf 0 neg hX0,Xe hf 0 neg h0,hk]
 dsimp only
 split <;> rfl
theorem dR {N X j:Nat} (hN:N%2^j=0) (hX:X%2^j=0) (h1:2*N<=2*X+2^j) (h2:2*X<=2*N+2^j):X=N:=by
 have hb:=Nat.two_pow_pos j
 have eN:N=2^j*(N/2^j):=by have:=Nat.div_add_mod N (2^j); omega
 have eX:X=2^j*(X/2^j):=by have:=Nat.div_add_mod X (2^j); omega
 exact Nat.le_antisymm (dT hb eX eN h2 (Nat.le_refl _)) (dS hb eX eN h1 (Nat.le_refl _))
theorem Ty {N i j:Nat} (h:N%2^i=0) (hj:j<=i):N%2^j=0 :=
 Nat.mod_eq_zero_of_dvd (Nat.dvd_trans (Nat.pow_dvd_pow 2 hj) (Nat.dvd_of_mod_eq_zero h))
theorem aCM {w:Int} (hw:Fm w) (neg:Bool) {N:Nat} {E:Int} (h0:N≠0) (hE:E<=qm w) (htop:E+Ab N<=fX w) {n i:Nat} (hn:n<2^fP w) (hi:(qm w-E).toNat<=i) (hN:N=n*2^i) :
  TC w neg (At w 0 neg N E false).1/\Af w (At w 0 neg N E false).1*2^(Ag w (At w 0 neg N E false).1-E).toNat=N:=by
 obtain ⟨d,hd⟩:=Int.eq_ofNat_of_zero_le (show 0<=qm w-E by omega)
 have hEw:E=qm w-d:=by omega
 have t1:(qm w-E).toNat=d:=by omega
 rw [t1] at hi
 have hn0:n≠0:=fun h=>h0 (by rw [hN,h,Nat.zero_mul])
 have hlow:2^d<=N:=by
  have h1:2^d<=2^i:=Nat.pow_le_pow_right (by decide) hi
  have h2:1*2^i<=n*2^i:=Nat.mul_le_mul_right _ (by omega)
  omega
 obtain ⟨v1,v2⟩:=vO hw neg h0 hlow (by rw [← hEw]; exact htop)
 rw [← hEw] at v1 v2
 refine ⟨v1,?_⟩
 rw [v2]
 have hb:Ab N<=fP w+i:=Cj (by rw [hN]; exact VJ hn)
 obtain ⟨n1,n2⟩:=oM neg N (Ab N-fP w-d+d)
 exact dR (Ty (i:=i) (by rw [hN]; exact Nat.mul_mod_left _ _) (by omega)) (Nat.mul_mod_left _ _) n1 n2
theorem aCL {f w:Int} {N:Nat} {E:Int} {n i p:Nat} (hn:n<2^p) (hp:p<=fP w) (hi:(qm w-E).toNat<=i) (hN:N=n*2^i) :
  ∀ X,X%2^Bb w N E=0->2*N<=2*X+2^Bb w N E->2*X<=2*N+2^Bb w N E->X≠N->X%2^Bb f N E≠2^(Bb f N E-1):=by
 intro X hX h1 h2 hne
 have hb:Ab N<=p+i:=Cj (by rw [hN]; exact VJ hn)
 exact absurd (dR (Ty (i:=i) (by rw [hN]; exact Nat.mul_mod_left _ _) (by unfold Bb; omega)) hX h1 h2) hne
theorem aB3 {A X J:Nat} (hJ:0<J) (hA:A%2^J=0) (h1:X<A+2^(J-1)) (h2:A<X+2^(J-1)):X%2^J≠2^(J-1):=by
 intro h
 have hp:2^J=2*2^(J-1):=by rw [Nat.mul_comm,← Nat.pow_succ]; congr 1; omega
 have hb:=Nat.two_pow_pos (J-1)
 have e1:=Nat.div_add_mod X (2^J)
 have e2:=Nat.div_add_mod A (2^J)
 rw [h] at e1
 rw [hA] at e2
 rw [hp] at e1 e2
 generalize 2^(J-1)=H at *
 generalize X/(2*H)=x at *
 generalize A/(2*H)=a at *
 rcases Nat.lt_trichotomy x a with g | g | g
 ·have:2*H*(x+1)<=2*H*a:=Nat.mul_le_mul_left _ g
  rw [Nat.mul_add,Nat.mul_one] at this
  omega
 ·subst g; omega
 ·have:2*H*(a+1)<=2*H*x:=Nat.mul_le_mul_left _ g
  rw [Nat.mul_add,Nat.mul_one] at this
  omega
theorem wH {f w:Int} (hf:Fm f) (hP:2*fP f+2<=fP w) (hq:qm w+1<=qm f) {n k i j N:Nat} {E:Int} (hE:E<=qm w) (hn:n<2^fP f) (hk:k<2^fP f) (hij:j<=i) (hj:(qm f-E).toNat<=j) (h0:N≠0)
  (hN:N=n*2^i+k*2^j∨N+k*2^j=n*2^i∨N+n*2^i=k*2^j) :
  ∀ X,X%2^Bb w N E=0->2*N<=2*X+2^Bb w N E->2*X<=2*N+2^Bb w N E->X≠N->X%2^Bb f N E≠2^(Bb f N E-1):=by
 intro X hX h1 h2 hne
 have hP8:=BD hf
 have e1:n*2^i=n*2^(i-j)*2^j:=by rw [Nat.mul_assoc,← Nat.pow_add]; congr 2; omega
 have hNj:N%2^j=0:=by
  have a1:n*2^i%2^j=0:=by rw [e1]; exact Nat.mul_mod_left _ _
  have a2:k*2^j%2^j=0:=Nat.mul_mod_left _ _
  have d1:=Nat.dvd_of_mod_eq_zero a1
  have d2:=Nat.dvd_of_mod_eq_zero a2
  apply Nat.mod_eq_zero_of_dvd
  rcases hN with h | h | h
  ·rw [h]; exact Nat.dvd_add d1 d2
  ·exact (Nat.dvd_add_left d2).1 (by rw [h]; exact d1)
  ·exact (Nat.dvd_add_left d1).1 (by rw [h]; exact d2)
 rcases Nat.lt_or_ge j (Bb w N E) with hjw | hjw
 ·-- the parts are far from each other
  have hb:fP w+j<Ab N/\Bb w N E=Ab N-fP w/\Bb f N E=Ab N-fP f:=by unfold Bb at *; omega
  obtain ⟨b1,b2,b3⟩:=hb
  rw [b2] at hX h1 h2
  rw [b3]
  have hNlo:=Gu h0
  have hNhi:=Eq N
  have hkj:k*2^j<2^(fP f+j):=by rw [Nat.pow_add]; exact Nat.mul_lt_mul_of_pos_right hk (Nat.two_pow_pos j)
  have hni:n*2^i<2^(fP f+i):=by rw [Nat.pow_add]; exact Nat.mul_lt_mul_of_pos_right hn (Nat.two_pow_pos i)
  obtain ⟨J,hJ⟩:∃ J,Ab N-fP f=J:=⟨_,rfl⟩
  have q1:2^(fP f+j)<=2^(J-3):=Nat.pow_le_pow_right (by decide) (by omega)
  have q2:2^(Ab N-fP w)<=2^(J-3):=Nat.pow_le_pow_right (by decide) (by omega)
  have q3:2^(J-1)=4*2^(J-3):=by rw [show J-1=(J-3)+2 by omega,Nat.pow_add]; omega
  have q4:2^(J-1)<=2^(Ab N-2):=Nat.pow_le_pow_right (by decide) (by omega)
  have q5:2^(Ab N-1)=2*2^(Ab N-2):=by rw [show Ab N-1=(Ab N-2)+1 by omega,Nat.pow_succ]; omega
  have q6:=Nat.two_pow_pos (J-3)
  rw [hJ]
  have hcase:N=n*2^i+k*2^j∨N+k*2^j=n*2^i:=by
   rcases hN with h | h | h
   ·exact .inl h
   ·exact .inr h
   ·omega
  have hiJ:J<=i:=by
   rcases Nat.lt_or_ge i J with g | g
   ·exfalso
    have hi1:fP f+i<=Ab N-1:=by omega
    have hA:n*2^i<2^(Ab N-1):=Nat.lt_of_lt_of_le hni (Nat.pow_le_pow_right (by decide) hi1)
    rcases hcase with h | h
    ·-- a step below a power of two
     rcases Nat.lt_or_ge (fP f+i) (Ab N-1) with g2 | g2
     ·have:n*2^i<2^(Ab N-2):=Nat.lt_of_lt_of_le hni (Nat.pow_le_pow_right (by decide) (by omega))
      omega
     ·have hi2:i=J-1:=by omega
      have hn1:(n+1)*2^i<=2^fP f*2^i:=Nat.mul_le_mul_right _ hn
      rw [← Nat.pow_add,Nat.add_mul,Nat.one_mul,show fP f+i=Ab N-1 by omega,hi2] at hn1
      rw [hi2] at h
      omega
    ·omega
   ·exact g
  refine aB3 (by omega) (A:=n*2^i) (Ty (i:=i) (Nat.mul_mod_left _ _) hiJ) ?_ ?_
  ·rcases hcase with h | h <;> omega
  ·rcases hcase with h | h <;> omega
 ·exact absurd (dR (Ty hNj hjw) hX h1 h2) hne
theorem u6 {P Pw n k s N X jw jf:Nat} (hP:2*P+2<=Pw) (hn:n<2^P) (hk:k<2^P) (hk0:0<k) (hs:k<=2^s) (h0:N≠0) (hN1:n*2^s<k*N+k) (hN2:k*N<n*2^s+k)
  (hb:Pw<Ab N) (hjw:jw=Ab N-Pw) (hjf:Ab N-P<=jf) (h1:2*N<=2*X+2^jw) (h2:2*X<=2*N+2^jw) (hne:n*2^s≠k*X):X%2^jf≠2^(jf-1):=by
 intro hmid
 have hNlo:=Gu h0
 have hw2:2^jw=2*2^(jw-1):=by rw [Nat.mul_comm,← Nat.pow_succ]; congr 1; omega
 have hwp:=Nat.two_pow_pos (jw-1)
 have hkX1:k*N<=k*X+k*2^(jw-1):=by rw [← Nat.mul_add]; exact Nat.mul_le_mul_left _ (by omega)
 have hkX2:k*X<=k*N+k*2^(jw-1):=by rw [← Nat.mul_add]; exact Nat.mul_le_mul_left _ (by omega)
 have hkk:k+k*2^(jw-1)<=k*2^jw:=by
  rw [hw2,show k+k*2^(jw-1)=k*(1+2^(jw-1)) by rw [Nat.mul_add,Nat.mul_one]]
  exact Nat.mul_le_mul_left _ (by omega)
 have d1:n*2^s<k*X+k*2^jw:=by omega
 have d2:k*X<n*2^s+k*2^jw:=by omega
 have eX:X=2^(jf-1)*(2*(X/2^jf)+1):=by
  have:=Nat.div_add_mod X (2^jf)
  rw [hmid,show 2^jf=2^(jf-1)*2 by rw [← Nat.pow_succ]; congr 1; omega] at this
  rw [Nat.mul_add,Nat.mul_one,← Nat.mul_assoc]
  rw [show 2^jf=2^(jf-1)*2 by rw [← Nat.pow_succ]; congr 1; omega]
  exact this.symm
 generalize 2*(X/2^jf)+1=μ at eX
 have hkjw:k*2^jw<2^(P+jw):=by rw [Nat.pow_add]; exact Nat.mul_lt_mul_of_pos_right hk (Nat.two_pow_pos jw)
 rcases Nat.lt_or_ge s (jf-1) with hsj | hsj
 ·-- a multiple of 2^s
  have hk2:k*2^(Ab N-1)<=k*N:=Nat.mul_le_mul_left _ hNlo
  have hn2:(n+1)*2^s<=2^P*2^s:=Nat.mul_le_mul_right _ hn
  rw [Nat.add_mul,Nat.one_mul,← Nat.pow_add] at hn2
  have hk3:k*2^(Ab N-1)=k*2^jw*2^(Pw-1):=by rw [Nat.mul_assoc,← Nat.pow_add]; congr 2; omega
  have hk4:k*2^jw*2^(Pw-1)<2^(P+s):=by omega
  have hk5:k*2^jw<2^s:=by
   rcases Nat.lt_or_ge (k*2^jw) (2^s) with g | g
   ·exact g
   ·exfalso
    have g2:2^s*2^(Pw-1)<=k*2^jw*2^(Pw-1):=Nat.mul_le_mul_right _ g
    rw [← Nat.pow_add] at g2
    have g3:2^(P+s)<=2^(s+(Pw-1)):=Nat.pow_le_pow_right (by decide) (by omega)
    omega
  have e:k*X=(k*(2^(jf-1-s)*μ))*2^s:=by
   rw [eX,show 2^(jf-1)=2^(jf-1-s)*2^s by rw [← Nat.pow_add]; congr 1; omega]
   ac_rfl
  rw [e] at d1 d2 hne
  generalize k*(2^(jf-1-s)*μ)=c at *
  rcases Nat.lt_trichotomy n c with g | g | g
  ·have:(n+1)*2^s<=c*2^s:=Nat.mul_le_mul_right _ g
   rw [Nat.add_mul,Nat.one_mul] at this
   omega
  ·exact hne (by rw [g])
  ·have:(c+1)*2^s<=n*2^s:=Nat.mul_le_mul_right _ g
   rw [Nat.add_mul,Nat.one_mul] at this
   omega
 ·have hk5:k*2^jw<2^(jf-1):=Nat.lt_of_lt_of_le hkjw (Nat.pow_le_pow_right (by decide) (by omega))
  have e:k*X=(k*μ)*2^(jf-1):=by rw [eX]; ac_rfl
  have e2:n*2^s=(n*2^(s-(jf-1)))*2^(jf-1):=by rw [Nat.mul_assoc,← Nat.pow_add]; congr 2; omega
  rw [e,e2] at d1 d2 hne
  generalize k*μ=c at *
  generalize n*2^(s-(jf-1))=m at *
  rcases Nat.lt_trichotomy m c with g | g | g
  ·have:(m+1)*2^(jf-1)<=c*2^(jf-1):=Nat.mul_le_mul_right _ g
   rw [Nat.add_mul,Nat.one_mul] at this
   omega
  ·exact hne (by rw [g])
  ·have:(c+1)*2^(jf-1)<=m*2^(jf-1):=Nat.mul_le_mul_right _ g
   rw [Nat.add_mul,Nat.one_mul] at this
   omega
theorem aJi {a b:Nat} (h:a=b+1):(2:Nat)^a=2*2^b:=by rw [h,Nat.pow_succ,Nat.mul_comm]
end VL
namespace VL
open Go Vx
def Bc (c:Int) (n:Nat) (e:Int):Prop:=c<=e/\e<=6000/\n*2^(e-c).toNat<2^5000
theorem Bc.lt {c:Int} {n:Nat} {e:Int} (h:Bc c n e):n<2^5000:=by
 have:=Nat.le_mul_of_pos_right n (Nat.two_pow_pos (e-c).toNat)
 exact Nat.lt_of_le_of_lt this h.2.2
theorem Bc.od {c:Int} (hc:-4000<=c/\c<=0) {n:Nat} {e:Int} (s:Bool) (h:Bc c n e):Bc c (VL.od s n e).2.1 (VL.od s n e).2.2:=by
 rcases JK s n e with ⟨hz,_⟩ | ⟨_,h2,h3,h4,h5⟩
 ·rw [hz]
  exact ⟨hc.2,by dsimp only; omega,by dsimp only; rw [Nat.zero_mul]; exact Nat.two_pow_pos _⟩
 ·have hle:2^(tz n+(e-c).toNat)<=n*2^(e-c).toNat:=by
   rw [Nat.pow_add]
   refine Nat.mul_le_mul_right _ ?_
   have:=Nat.le_mul_of_pos_right (2^tz n) (show 0<(VL.od s n e).2.1 by omega)
   omega
  have hlt:=(Nat.pow_lt_pow_iff_right (a:=2) (by decide)).1 (Nat.lt_of_le_of_lt hle h.2.2)
  have hq:=hc.2
  have h1:=h.1
  refine ⟨by omega,by omega,?_⟩
  have e1:(VL.od s n e).2.1*2^((VL.od s n e).2.2-c).toNat=n*2^(e-c).toNat:=by
   rw [h5,show (e+(tz n:Int)-c).toNat=tz n+(e-c).toNat by omega,Nat.pow_add,← Nat.mul_assoc,Nat.mul_comm _ (2^tz n),← h4]
  rw [e1]; exact h.2.2
end VL
namespace VL
open Go Vx
theorem xN {f:Int} (hf:Fm f) {x:Nat} (h:x<AK f):Af f x<2^fP f/\Ag f x+fP f<=fX f+1:=by
 have h1:=MX hf x
 obtain ⟨_,_,_,_,h5,_⟩:=uD hf h
 have h2:=bJ (f:=f) x
 have e:Av f=2*fX f+1:=by unfold Av; rw [← S5 hf]
 have h3:=Gz hf
 refine ⟨h1,?_⟩
 unfold Ag
 split <;> omega
theorem aA4 {f:Int} (hf:Fm f) {x:Nat} (h:x<AK f):VV f x<2^(fX f+2601):=by
 obtain ⟨h1,h2⟩:=xN hf h
 have h3:=gU hf x
 have h4:VV f x<2^fP f*2^(Ag f x+2600).toNat:=Nat.mul_lt_mul_of_pos_right h1 (Nat.two_pow_pos _)
 rw [← Nat.pow_add] at h4
 exact Nat.lt_of_lt_of_le h4 (Nat.pow_le_pow_right (by decide) (by omega))
structure Beside (f:Int) (R d:Nat) (more:Bool) (B:Nat) (inex:Bool) (r:Int->Nat×Nat):Prop where
 Ck:B+1<AK f
 pos:B≠0
 low:pv f B*2^d<=R
 high:R<pv f (B+1)*2^d
 ex:inex=(more||decide (pv f B*2^d≠R))
 any:∀ m,0<=m/\m<=5->((r m).1=B∨(inex=true/\(r m).1=B+1))/\(r m).2=(bif inex then 16 else 0)
 down:(r 4).1=B
 up:(r 3).1=B+(bif inex then 1 else 0)
end VL
end
