/- Part 7 of the proof. What is proved: symbolic execution of the functions, proved sound; what each function of the program computes, and that every run ends with it; what these functions compute, in plain numbers. Conditions: each theorem bears its own. -/
import Derived.Test.YtjaianlbnfomiaaGreatDoorVxG6
set_option linter.all false
set_option exponentiation.threshold 1000000
namespace VL
open Go Vx
theorem a32 {x:Nat} (h:x<2^64):andI .u64 (x:Int) 4294967295=((x%2^32:Nat):Int):=andI_mask (n:=32) h (by decide)
theorem s32 (x:Nat):shrI .u64 (x:Int) 32=((x/2^32:Nat):Int):=by
 have h:=shrI_u64 (a:=(x:Int)) 32 (by decide)
 rw [show ((32:Nat):Int)=32 from rfl] at h
 rw [h]; norm_cast
theorem mul_hi {x0 x1 y0 y1:Nat} (h0:x0<2^32) (h1:x1<2^32) (k0:y0<2^32) (k1:y1<2^32) :
  ((x1*y1%2^64+(x1*y0%2^64+x0*y0%2^64/2^32)%2^64/2^32)%2^64+((x1*y0%2^64+x0*y0%2^64/2^32)%2^64%2^32+x0*y1%2^64)%2^64/2^32)%2^64=(x0+2^32*x1)*(y0+2^32*y1)/2^64:=by
 have b00:x0*y0≤(2^32-1)*(2^32-1):=Nat.mul_le_mul (by omega) (by omega)
 have b01:x0*y1≤(2^32-1)*(2^32-1):=Nat.mul_le_mul (by omega) (by omega)
 have b10:x1*y0≤(2^32-1)*(2^32-1):=Nat.mul_le_mul (by omega) (by omega)
 have b11:x1*y1≤(2^32-1)*(2^32-1):=Nat.mul_le_mul (by omega) (by omega)
 have e1:x0*(2^32*y1)=2^32*(x0*y1):=Nat.mul_left_comm _ _ _
 have e2:2^32*x1*y0=2^32*(x1*y0):=Nat.mul_assoc _ _ _
 have e3:2^32*x1*(2^32*y1)=2^64*(x1*y1):=by
  rw [Nat.mul_assoc,Nat.mul_left_comm x1,← Nat.mul_assoc]
 rw [Nat.add_mul,Nat.mul_add,Nat.mul_add,e1,e2,e3]
 generalize x0*y0=a at *
 generalize x0*y1=b at *
 generalize x1*y0=c at *
 generalize x1*y1=d at *
 have ha:a%2^64=a:=Nat.mod_eq_of_lt (by omega)
 have hb:b%2^64=b:=Nat.mod_eq_of_lt (by omega)
 have hc:c%2^64=c:=Nat.mod_eq_of_lt (by omega)
 have hd:d%2^64=d:=Nat.mod_eq_of_lt (by omega)
 rw [ha,hb,hc,hd]
 have ht:(c+a/2^32)%2^64=c+a/2^32:=Nat.mod_eq_of_lt (by omega)
 rw [ht]
 generalize hT:c+a/2^32=t
 have hw:(t%2^32+b)%2^64=t%2^32+b:=Nat.mod_eq_of_lt (by omega)
 rw [hw]
 have hq:(d+t/2^32)%2^64=d+t/2^32:=Nat.mod_eq_of_lt (by omega)
 rw [hq]
 omega
theorem T315_eq {x y:Nat} (hx:x<2^64) (hy:y<2^64):T315 ((x:Int),(y:Int),())=some (((x*y/2^64:Nat):Int),((x*y%2^64:Nat):Int),()):=by
 show t315 (x:Int) (y:Int)=_
 unfold t315
 dsimp only
 rw [a32 hx,a32 hy,s32 x,s32 y]
 have hm:∀ z:Nat,z%2^64<2^64:=fun z=>Nat.mod_lt _ (by decide)
 have am:∀ z:Nat,andI .u64 ((z%2^64:Nat):Int) 4294967295=((z%2^64%2^32:Nat):Int):=fun z=>a32 (hm z)
 have wm:∀ a b:Nat,IntKind.wrap .u64 ((a:Int)*(b:Int))=((a*b%2^64:Nat):Int):=fun a b=>by rw [← Int.natCast_mul]; exact wrapN _
 have wa:∀ a b:Nat,IntKind.wrap .u64 ((a:Int)+(b:Int))=(((a+b)%2^64:Nat):Int):=fun a b=>by rw [← Int.natCast_add]; exact wrapN _
 simp only [wm,wa,s32,am]
 have e:=mul_hi (x0:=x%2^32) (x1:=x/2^32) (y0:=y%2^32) (y1:=y/2^32) (by omega) (by omega) (by omega) (by omega)
 rw [Nat.mod_add_div,Nat.mod_add_div] at e
 rw [e]
theorem T316_eq {x y:Nat} (hx:x<2^64) (hy:y<2^64):T316 ((x:Int),(y:Int),())=some (Wi (x*y),()):=by
 show t316 S315.pre S315.F (x:Int) (y:Int)=_
 unfold t316
 have p:=T315_eq hx hy
 simp only [pre315 p,fun315 p,cond_true]
 rfl
def zro (f:Int) (a:Nat):Bool:=eF f a==0&&mF f a==0
theorem cls_zro {f:Int} (hf:Fm f) (a:Nat):(cls f a==5||cls f a==6)=zro f a:=by
 have hp:=full_pos hf
 have hne:(eF f a==fullF f&&eF f a==0)=false:=by
  cases h:eF f a==fullF f
  ·rfl
  ·have:=beq_iff_eq.1 h
   rw [Bool.true_and,this]
   exact beq_eq_false_iff_ne.2 (by omega)
 unfold cls zro
 cases h1:eF f a==fullF f <;> cases h2:eF f a==0 <;> rw [h1,h2] at hne <;> cases mF f a==0 <;> cases sF f a <;> cases mF f a/2^(fP f-2) != 0 <;> first | rfl | cases hne
theorem xpn_one {f:Int} (hf:Fm f) {a:Nat} (h:eF f a=0) :
  IntKind.wrap .i64 (IntKind.wrap .i64 (IntKind.wrap .i64 (IntKind.wrap .i64 (IntKind.wrap .i64 (1:Int)-1)+(1-(fX f:Int)))-(fP f:Int))+1)=xpn f a:=by
 have h3:=fP_le hf
 have h4:=fX_le hf
 unfold xpn
 rw [if_pos h,show IntKind.wrap .i64 (1:Int)=1 from rfl,wrapI (n:=(1:Int)-1) (by omega),wrapI (n:=(1:Int)-1+(1-(fX f:Int))) (by omega),wrapI (n:=(1:Int)-1+(1-(fX f:Int))-(fP f:Int)) (by omega),wrapI (by omega)]
 omega
theorem xpn_exp {f:Int} (hf:Fm f) {a:Nat} (h:eF f a≠0) :
  IntKind.wrap .i64 (IntKind.wrap .i64 (IntKind.wrap .i64 (IntKind.wrap .i64 (IntKind.wrap .i64 (eF f a:Int)-1)+(1-(fX f:Int)))-(fP f:Int))+1)=xpn f a:=by
 have h3:=fP_le hf
 have h4:=fX_le hf
 have hE:=eF_lt hf a
 unfold xpn
 rw [if_neg h,wrapI (n:=(eF f a:Int)) (by omega),wrapI (n:=(eF f a:Int)-1) (by omega),wrapI (n:=(eF f a:Int)-1+(1-(fX f:Int))) (by omega),wrapI (n:=(eF f a:Int)-1+(1-(fX f:Int))-(fP f:Int)) (by omega),wrapI (by omega)]
 omega
theorem mant_or {f:Int} (hf:Fm f) (a:Nat):orI .u64 (mF f a:Int) (shlI .u64 1 (IntKind.wrap .i64 ((fP f:Int)-1)))=((mF f a+2^(fP f-1):Nat):Int):=by
 have h1:=fP_ge hf
 have h3:=fP_le hf
 have hM:=mF_lt f a
 have hPp:2^(fP f-1)≤2^52:=Nat.pow_le_pow_right (by decide) (by omega)
 have e0:IntKind.wrap .i64 ((fP f:Int)-1)=((fP f-1:Nat):Int):=wsub1 _ (by omega)
 have e3:shlI .u64 1 ((fP f-1:Nat):Int)=((2^(fP f-1):Nat):Int):=shlI_one (by omega)
 rw [e0,e3]
 have:=orN (a:=mF f a) (b:=1) (k:=fP f-1) hM (by omega)
 rwa [Nat.one_mul] at this
theorem T350_ok {f:Int} {a:Nat} (h:chk f a=0):T350 (f,rowOf f,(a:Int),())=some ((cls f a,sF f a,(mant f a:Int),xpn f a,()),0,()):=by
 obtain ⟨hf,h0⟩:=chk_zero h
 have ha:=pat_lt h
 show t350 S65.pre S65.F S98.pre S98.F f (rowOf f) a=_
 unfold t350
 have p1:=T65_ok ha h
 have p2:=T98_ok h
 have h1:=fP_ge hf
 have h3:=fP_le hf
 have r1:(rowOf f).2.1=(fP f:Int):=rfl
 have r2:(rowOf f).2.2.1=1-(fX f:Int):=rfl
 have e0:decide (0≤IntKind.wrap .i64 ((fP f:Int)-1))=true:=by
  rw [wsub1 _ (by omega)]; exact nnn _
 simp only [pre65 p1,fun65 p1,pre98 p2,fun98 p2,cond_true,bne_self_eq_false,cond_false,r1,r2,e0]
 by_cases hz:eF f a=0
 ·rw [beq0_t _ hz,cond_true,xpn_one hf hz]
  have hm:mant f a=mF f a:=by unfold mant; rw [if_pos hz]
  rw [hm]
 ·rw [beq0_f _ hz,cond_false,xpn_exp hf hz,mant_or hf]
  have hm:mant f a=mF f a+2^(fP f-1):=by unfold mant; rw [if_neg hz]
  rw [hm]
theorem T350_bad {f:Int} {a:Nat} (ha:a<2^64) (h:chk f a≠0):T350 (f,rowOf f,(a:Int),())=some ((0,false,0,0,()),chk f a,()):=by
 show t350 S65.pre S65.F S98.pre S98.F f (rowOf f) a=_
 unfold t350
 have p1:=T65_bad ha h
 have e:(chk f a != 0)=true:=bne_iff_ne.2 h
 simp only [pre65 p1,fun65 p1,cond_true,e]
def mulR (f m:Int) (a b:Nat):Int×Int×Int×Unit :=
 bif nan f a||nan f b then ((nanF f:Int),(bif snan f a||snan f b then 1 else 0),0,())
 else bif (isInf f a&&zro f b)||(zro f a&&isInf f b) then ((nanF f:Int),1,0,())
 else bif isInf f a||isInf f b then ((infB f (!(sF f a==sF f b)):Int),0,0,())
 else bif zro f a||zro f b then ((sgnF f (!(sF f a==sF f b)):Int),0,0,())
 else (((rndN f m (!(sF f a==sF f b)) (mant f a*mant f b) (xpn f a+xpn f b) false).1:Int),((rndN f m (!(sF f a==sF f b)) (mant f a*mant f b) (xpn f a+xpn f b) false).2:Int),0,())
def mulA (f m:Int) (a b:Nat):Int×Int×Int×Unit :=
 if ¬ Fm f then (0,0,2,())
 else if m<0∨m>5 then (0,0,3,())
 else if chk f a≠0 then (0,0,chk f a,())
 else if chk f b≠0 then (0,0,chk f b,())
 else mulR f m a b
theorem zro_mant {f:Int} {a:Nat} (h:zro f a=false):mant f a≠0:=by
 unfold zro at h
 unfold mant
 by_cases hz:eF f a=0
 ·rw [if_pos hz]
  intro hm
  rw [hz,hm] at h
  cases h
 ·rw [if_neg hz]
  have:=Nat.two_pow_pos (fP f-1)
  omega
theorem T354_eq (f m:Int) {a b:Nat} (ha:a<2^64) (hb:b<2^64):T354 (f,m,(a:Int),(b:Int),())=some (mulA f m a b):=by
 show t354 S69.pre S69.F S350.pre S350.F S351.pre S351.F S70.pre S70.F S352.pre S352.F S97.pre S97.F S353.pre S353.F S118.pre S118.F S316.pre S316.F S122.pre S122.F f m a b=_
 unfold t354 mulA
 dsimp only
 by_cases hf:¬ Fm f
 ·have p0:=T69_bad hf
  rw [if_pos hf]
  simp only [pre69 p0,fun69 p0,cond_true]
  rfl
 have hf:=Classical.not_not.1 hf
 have p0:=T69_ok hf
 rw [if_neg (show ¬ ¬ Fm f from fun h=>h hf)]
 simp only [pre69 p0,fun69 p0,cond_true,bne_self_eq_false,cond_false]
 by_cases hm:m<0∨m>5
 ·rw [if_pos hm]
  have:(decide (m<0)||decide (m>5))=true:=by rcases hm with h | h <;> simp [h]
  rw [this,cond_true]
 rw [if_neg hm]
 have hm':0≤m∧m≤5:=by omega
 have:(decide (m<0)||decide (m>5))=false:=by simp; omega
 rw [this,cond_false]
 by_cases hca:chk f a≠0
 ·have p1:=T350_bad ha hca
  have e:(chk f a != 0)=true:=bne_iff_ne.2 hca
  rw [if_pos hca]
  simp only [pre350 p1,fun350 p1,cond_true,e]
 have hca:=Classical.not_not.1 hca
 have p1:=T350_ok hca
 rw [if_neg (show ¬ chk f a≠0 from fun h=>h hca)]
 simp only [pre350 p1,fun350 p1,cond_true,bne_self_eq_false,cond_false]
 by_cases hcb:chk f b≠0
 ·have p2:=T350_bad hb hcb
  have e:(chk f b != 0)=true:=bne_iff_ne.2 hcb
  rw [if_pos hcb]
  simp only [pre350 p2,fun350 p2,cond_true,e]
 have hcb:=Classical.not_not.1 hcb
 have p2:=T350_ok hcb
 rw [if_neg (show ¬ chk f b≠0 from fun h=>h hcb)]
 have n351:∀ (c:Int) (s:Bool) (n e:Int),T351 ((c,s,n,e,()),())=some ((c==1||c==0),()):=fun _ _ _ _=>rfl
 have n352:∀ (c:Int) (s:Bool) (n e:Int),T352 ((c,s,n,e,()),())=some ((c==2||c==9),()):=fun _ _ _ _=>rfl
 have n353:∀ (c:Int) (s:Bool) (n e:Int),T353 ((c,s,n,e,()),())=some ((c==5||c==6),()):=fun _ _ _ _=>rfl
 have q1:=n351 (cls f a) (sF f a) (mant f a:Int) (xpn f a)
 have q2:=n351 (cls f b) (sF f b) (mant f b:Int) (xpn f b)
 have q3:=n352 (cls f a) (sF f a) (mant f a:Int) (xpn f a)
 have q4:=n352 (cls f b) (sF f b) (mant f b:Int) (xpn f b)
 have q5:=n353 (cls f a) (sF f a) (mant f a:Int) (xpn f a)
 have q6:=n353 (cls f b) (sF f b) (mant f b:Int) (xpn f b)
 rw [cls_nan] at q1 q2
 rw [cls_isInf] at q3 q4
 rw [cls_zro hf] at q5 q6
 have s:=!(sF f a==sF f b)
 have p3:=T70_ok hf
 have p4:=T97_ok hf (!(sF f a==sF f b))
 have p5:=T118_ok hf (!(sF f a==sF f b))
 have ma:=mant_lt hf a
 have mb:=mant_lt hf b
 have xa:=xpn_bound hf a
 have xb:=xpn_bound hf b
 have hprod:mant f a*mant f b<2^128:=Nat.lt_of_lt_of_le (Nat.mul_lt_mul'' ma mb) (by decide)
 have p6:=T316_eq (x:=mant f a) (y:=mant f b) (Nat.lt_trans ma (by decide)) (Nat.lt_trans mb (by decide))
 have p7:=T122_eq hf hm' (!(sF f a==sF f b)) (mant f a*mant f b) hprod (xpn f a+xpn f b) (by omega) false (fun h=>by cases h)
 have ew:IntKind.wrap .i64 (xpn f a+xpn f b)=xpn f a+xpn f b:=wrapI (by omega)
 simp only [pre350 p2,fun350 p2,cond_true,bne_self_eq_false,cond_false,pre351 q1,fun351 q1,pre351 q2,fun351 q2,pre352 q3,fun352 q3,pre352 q4,fun352 q4,pre353 q5,fun353 q5,pre353 q6,fun353 q6,pre70 p3,fun70 p3,pre97 p4,fun97 p4,pre118 p5,fun118 p5,pre316 p6,fun316 p6,ew,pre122 p7,fun122 p7,Bool.true_or,cls_snan]
 unfold mulR
 cases h1:nan f a||nan f b
 ·simp only [cond_false]
  cases h2:isInf f a&&zro f b||zro f a&&isInf f b
  ·simp only [cond_false]
   cases h3:isInf f a||isInf f b
   ·simp only [cond_false]
    cases h4:zro f a||zro f b
    ·simp only [cond_false]
     simp only [Bool.or_eq_false_iff] at h4
     rw [if_neg (Nat.mul_ne_zero (zro_mant h4.1) (zro_mant h4.2))]
    ·simp only [cond_true]
   ·simp only [cond_true]
  ·simp only [cond_true]
 ·simp only [cond_true]
  cases snan f a||snan f b <;> rfl
end VL
namespace VL
open Go Vx
theorem ex_sqrt (n:Nat):∃ r,r*r≤n∧n<(r+1)*(r+1):=by
 induction n with
 | zero=>exact ⟨0,by decide,by decide⟩
 | succ n ih =>
  obtain ⟨r,h1,h2⟩:=ih
  by_cases h:n+1<(r+1)*(r+1)
  ·exact ⟨r,by omega,h⟩
  ·refine ⟨r+1,by omega,?_⟩
   have:(r+1+1)*(r+1+1)=(r+1)*(r+1)+2*(r+1)+1:=by
    rw [Nat.mul_add (r+1+1),Nat.add_mul (r+1) 1 (r+1)]; omega
   omega
noncomputable def isq (n:Nat):Nat:=Classical.choose (ex_sqrt n)
theorem isq_le (n:Nat):isq n*isq n≤n:=(Classical.choose_spec (ex_sqrt n)).1
theorem isq_lt (n:Nat):n<(isq n+1)*(isq n+1):=(Classical.choose_spec (ex_sqrt n)).2
theorem sq_mono {a b:Nat} (h:a≤b):a*a≤b*b:=Nat.mul_le_mul h h
theorem sq_lt {a b:Nat} (h:a*a<b*b):a<b:=by
 rcases Nat.lt_or_ge a b with h1 | h1
 ·exact h1
 ·exact absurd (sq_mono h1) (by omega)
theorem isq_of {n r:Nat} (h1:r*r≤n) (h2:n<(r+1)*(r+1)):isq n=r:=by
 have h3:=isq_le n
 have h4:=isq_lt n
 have:=sq_lt (show r*r<(isq n+1)*(isq n+1) by omega)
 have:=sq_lt (show isq n*isq n<(r+1)*(r+1) by omega)
 omega
theorem isq_ge {n r:Nat} (h:r*r≤n):r≤isq n:=by
 have:=sq_lt (show r*r<(isq n+1)*(isq n+1) from Nat.lt_of_le_of_lt h (isq_lt n))
 omega
theorem isq_sq (r:Nat):isq (r*r)=r:=isq_of (Nat.le_refl _) (by rw [Nat.mul_add,Nat.add_mul]; omega)
theorem isq_pos {n:Nat} (h:n≠0):1≤isq n:=isq_ge (by omega)
theorem mul_sq (a b:Nat):(a*b)*(a*b)=a*a*(b*b):=by
 rw [Nat.mul_assoc,Nat.mul_left_comm b a b,Nat.mul_assoc]
theorem isq_scale (n K:Nat) (hK:0<K):isq (n*(K*K))/K=isq n:=by
 symm
 have h1:=isq_le (n*(K*K))
 have h2:=isq_lt (n*(K*K))
 generalize isq (n*(K*K))=R at *
 have hKK:=Nat.mul_pos hK hK
 apply isq_of
 ·have h3:=sq_mono (Nat.div_mul_le_self R K)
  rw [mul_sq] at h3
  exact Nat.le_of_mul_le_mul_right (Nat.le_trans h3 h1) hKK
 ·have h3:R+1≤(R/K+1)*K:=by
   have:=Nat.lt_div_mul_add hK (a:=R)
   rw [Nat.add_mul,Nat.one_mul]; omega
  have h4:=sq_mono h3
  rw [mul_sq] at h4
  exact Nat.lt_of_mul_lt_mul_right (Nat.lt_of_lt_of_le h2 h4)
theorem sq_pow2:∀ (k R n:Nat),R*R=n*(2^k*2^k)→∃ q,R=q*2^k∧q*q=n
 | 0,R,n,h=>⟨R,by omega,by omega⟩
 | k+1,R,n,h=>by
  have e:n*(2^(k+1)*2^(k+1))=4*(n*(2^k*2^k)):=by
   rw [Nat.pow_succ,mul_sq,← Nat.mul_assoc n,Nat.mul_comm]
  rw [e] at h
  have hev:R%2=0:=by
   rcases Nat.mod_two_eq_zero_or_one R with h1 | h1
   ·exact h1
   ·have h2:R=2*(R/2)+1:=by omega
    have h3:R*R%2=1:=by rw [Nat.mul_mod,h1]
    omega
  obtain ⟨S,rfl⟩:∃ S,R=2*S:=⟨R/2,by omega⟩
  rw [mul_sq] at h
  obtain ⟨q,h1,h2⟩:=sq_pow2 k S n (by omega)
  exact ⟨q,by rw [h1,Nat.pow_succ,Nat.mul_comm (2^k) 2,Nat.mul_left_comm],h2⟩
theorem isq_exact (n k:Nat):isq (n*(2^k*2^k))*isq (n*(2^k*2^k))=n*(2^k*2^k)↔isq n*isq n=n:=by
 constructor
 ·intro h
  obtain ⟨q,h1,h2⟩:=sq_pow2 k _ n h
  rw [← h2,isq_sq]
 ·intro h
  have e:n*(2^k*2^k)=(isq n*2^k)*(isq n*2^k):=by rw [mul_sq,h]
  rw [e,isq_sq]
theorem isq_even {n k:Nat} (h:isq n*isq n=n):isq (n*(2^k*2^k))=isq n*2^k:=by
 have e:n*(2^k*2^k)=(isq n*2^k)*(isq n*2^k):=by rw [mul_sq,h]
 rw [e,isq_sq]
theorem rnd_more {f m:Int} {neg:Bool} {N:Nat} {E:Int} (hf:Fm f) (hb:fP f+2≤blen N):rndN f m neg N E true=rndN f m neg (2*N+1) (E-1) false:=by
 have hP:=fP_ge hf
 have e1:(2*N+1)/2^1=N:=by omega
 have e2:(2*N+1)%2^1≠0:=by omega
 have h0:N≠0:=fun h=>by
  rw [h] at hb
  have:blen 0=0:=rfl
  omega
 have:=rnd_trunc (f:=f) (m:=m) (neg:=neg) (N:=2*N+1) (k:=1) (E:=E-1) hf (by rw [e1]; exact h0) (fun _=>by rw [e1]; exact hb)
 rw [e1,decide_eq_true e2,show E-1+((1:Nat):Int)=E by omega] at this
 exact this
theorem rnd_fine {f m:Int} {neg:Bool} {N k:Nat} {E:Int} (hf:Fm f) (hb:fP f+2≤blen (N/2^k)):rndN f m neg (N/2^k) E true=rndN f m neg (2*N+1) (E-k-1) false:=by
 have hP:=fP_ge hf
 have e1:(2*N+1)/2^(k+1)=N/2^k:=by
  rw [Nat.pow_succ,Nat.mul_comm (2^k),← Nat.div_div_eq_div_mul,show (2*N+1)/2=N by omega]
 have e2:(2*N+1)%2^(k+1)≠0:=by
  rw [Nat.pow_succ,Nat.mul_comm (2^k),Nat.mod_mul]; omega
 have h0:N/2^k≠0:=fun h=>by
  rw [h] at hb
  have:blen 0=0:=rfl
  omega
 have:=rnd_trunc (f:=f) (m:=m) (neg:=neg) (N:=2*N+1) (k:=k+1) (E:=E-k-1) hf (by rw [e1]; exact h0) (fun _=>by rw [e1]; exact hb)
 rw [e1,decide_eq_true e2,show E-k-1+((k+1:Nat):Int)=E by omega] at this
 exact this
noncomputable def rootB (f m:Int) (X:Nat) (E:Int):Nat×Nat :=
 if isq X*isq X=X then rndN f m false (isq X) E false else rndN f m false (2*isq X+1) (E-1) false
theorem rootB_mark {f m:Int} (hf:Fm f) {X:Nat} {E:Int} (hb:fP f+2≤blen (isq X)):rootB f m X E=rndN f m false (isq X) E (!decide (isq X*isq X=X)):=by
 unfold rootB
 by_cases h:isq X*isq X=X
 ·rw [if_pos h,decide_eq_true h]; rfl
 ·rw [if_neg h,decide_eq_false h,Bool.not_false,rnd_more hf hb]
theorem rootB_fine {f m:Int} (hf:Fm f) {X k:Nat} {E:Int} (h0:X≠0) (hb:fP f+2≤blen (isq X)):rootB f m (X*(2^k*2^k)) (E-k)=rootB f m X E:=by
 have hpos:=isq_pos h0
 have hsc:=isq_scale X (2^k) (Nat.two_pow_pos k)
 unfold rootB
 by_cases h:isq X*isq X=X
 ·rw [if_pos h,if_pos ((isq_exact X k).2 h),isq_even h,rnd_scale hf (by omega),show E-(k:Int)+(k:Int)=E by omega]
 ·rw [if_neg h,if_neg (fun h2=>h ((isq_exact X k).1 h2)),← rnd_more hf hb]
  have:=rnd_fine (f:=f) (m:=m) (neg:=false) (N:=isq (X*(2^k*2^k))) (k:=k) (E:=E) hf (by rw [hsc]; exact hb)
  rw [hsc] at this
  exact this.symm
theorem isq_blen {X k:Nat} (h:2^(2*k)≤X):k+1≤blen (isq X):=by
 apply blen_ge
 apply isq_ge
 rw [← Nat.pow_add,show k+k=2*k by omega]
 exact h
theorem isq_bound {X k:Nat} (h:X<2^(2*k)):isq X<2^k:=by
 apply sq_lt
 rw [← Nat.pow_add,show k+k=2*k by omega]
 exact Nat.lt_of_le_of_lt (isq_le X) h
end VL
namespace VL
open Go Vx
theorem tmodP (e:Int):(Int.tmod e 2 != 0)=decide (e%2=1):=by
 have:Int.tmod e 2=0↔e%2=0:=by
  rw [← Int.dvd_iff_tmod_eq_zero,Int.dvd_iff_emod_eq_zero]
 rw [Bool.eq_iff_iff,bne_iff_ne,decide_eq_true_eq]
 omega
theorem quo2 (z:Int) (h:-1000000≤z∧z≤1000000):quoI .i64 (2*z) 2=z:=by
 unfold quoI
 rw [Int.mul_tdiv_cancel_left z (by decide)]
 exact wrapI (by omega)
theorem W317_eq (n:Nat) (hn:n<2^128):W317_2 ((((0:Int),((0:Int),((),()))),(Wi n,())):Pat.D P317_2)=some (.inl (((isq n:Int),((),())),(Wi n,()))):=by
 have hb:isq n<2^64:=isq_bound (k:=64) hn
 have key:=lfix_ind (m317_2 S123.pre S123.F S316.pre S316.F) (fun x=>64-x.1.1.toNat)
  (fun x=>∃ i:Nat,i≤64∧x=(((i:Int),(((isq n/2^(64-i)*2^(64-i):Nat):Int),((),()))),(Wi n,())))
  (fun _=>.inl (((isq n:Int),((),())),(Wi n,()))) ?_ _ ⟨0,by omega,by rw [Nat.div_eq_of_lt hb]⟩
 ·exact key
 intro L x hx hL
 obtain ⟨i,hi,rfl⟩:=hx
 unfold h317_2
 rcases Nat.lt_or_ge i 64 with hlt | hge
 ·have e5:IntKind.wrap .i64 ((63:Int)-(i:Int))=((63-i:Nat):Int):=by rw [wrapI (by omega)]; omega
  have e6:IntKind.wrap .i64 ((i:Int)+1)=((i+1:Nat):Int):=by rw [wrapI (by omega)]; omega
  have e7:decide ((0:Int)≤((63-i:Nat):Int))=true:=decide_eq_true (by omega)
  have e8:decide ((i:Int)<64)=true:=decide_eq_true (by omega)
  have es:64-i=(63-i)+1:=by omega
  rw [es]
  generalize hs:63-i=s at *
  have hs63:s≤63:=by omega
  have hsh:=shlI_one hs63
  have hp:=Nat.two_pow_pos s
  have hd:isq n/2^(s+1)=isq n/2^s/2:=by rw [Nat.pow_succ,Nat.div_div_eq_div_mul]
  have hdm:=Nat.div_add_mod (isq n) (2^s)
  have hml:=Nat.mod_lt (isq n) hp
  have hps:2^(s+1)=2^s*2:=Nat.pow_succ ..
  generalize hc:isq n/2^s=c at *
  have hcle:c*2^s≤isq n:=by rw [Nat.mul_comm]; omega
  have e1:c/2*2^(s+1)=2^s*(2*(c/2)):=by rw [hps,Nat.mul_comm,Nat.mul_assoc]
  have hw:orI .u64 ((c/2*2^(s+1):Nat):Int) ((2^s:Nat):Int)=((2^s*(2*(c/2)+1):Nat):Int):=by
   have hlt2:2^s*(2*(c/2)+1)<2^64:=by
    have h1:isq n<2^s*(c+1):=by rw [Nat.mul_add,Nat.mul_one]; omega
    have h2:2^s*(c+1)≤2^64:=by
     have e:2^64=2^s*2^(64-s):=by rw [← Nat.pow_add]; congr 1; omega
     have h3:c<2^(64-s):=by
      rw [e] at hb
      have:2^s*c<2^s*2^(64-s):=by omega
      exact Nat.lt_of_mul_lt_mul_left this
     rw [e]
     exact Nat.mul_le_mul_left _ h3
    have e2:2^64=2^(s+1)*2^(63-s):=by rw [← Nat.pow_add]; congr 1; omega
    have h4:c/2<2^(63-s):=by
     have h3:2^s*c<2^64:=by omega
     rw [e2,hps,Nat.mul_assoc] at h3
     have:=Nat.lt_of_mul_lt_mul_left h3
     omega
    have h5:2^s*(2*(c/2)+1)<2^s*(2*(c/2+1)):=Nat.mul_lt_mul_of_pos_left (by omega) hp
    have h6:2^s*(2*(c/2+1))≤2^64:=by
     rw [e2,hps,Nat.mul_assoc]
     exact Nat.mul_le_mul_left _ (Nat.mul_le_mul_left _ h4)
    omega
   have ha:c/2*2^(s+1)<2^64:=by
    rw [e1]
    have:=Nat.mul_le_mul_left (2^s) (show 2*(c/2)≤2*(c/2)+1 by omega)
    omega
   rw [orN2 ha (Nat.pow_lt_pow_right (by decide) (by omega))]
   congr 1
   have:=Nat.two_pow_add_eq_or_of_lt (i:=s+1) (b:=2^s) (by rw [hps]; omega) (c/2)
   rw [Nat.mul_comm (c/2),← this,hps,Nat.mul_add,Nat.mul_one,Nat.mul_assoc]
  have hW:2^s*(2*(c/2)+1)<2^64:=by
   have h3:2^s*c<2^64:=by omega
   have e:2^64=2^s*(2*2^(63-s)):=by rw [← Nat.mul_assoc,← Nat.pow_succ,← Nat.pow_add]; congr 1; omega
   rw [e] at h3 ⊢
   have h4:=Nat.lt_of_mul_lt_mul_left h3
   exact Nat.mul_lt_mul_of_pos_left (by omega) hp
  have p0:=T316_eq hW hW
  have p1:=T123_eq (2^s*(2*(c/2)+1)*(2^s*(2*(c/2)+1))) n
  have hle:decide ((if 2^s*(2*(c/2)+1)*(2^s*(2*(c/2)+1))=n then (0:Int) else if 2^s*(2*(c/2)+1)*(2^s*(2*(c/2)+1))<n then -1 else 1)≤0)=decide (c%2=1):=by
   have h1:2^s*(2*(c/2)+1)*(2^s*(2*(c/2)+1))≤n↔c%2=1:=by
    constructor
    ·intro h
     have h2:=isq_ge h
     have h3:2^s*(2*(c/2)+1)<2^s*(c+1):=by rw [Nat.mul_add (2^s) c,Nat.mul_one]; omega
     have:=Nat.lt_of_mul_lt_mul_left h3
     omega
    ·intro h
     have e:2*(c/2)+1=c:=by omega
     rw [e,Nat.mul_comm (2^s) c]
     exact Nat.le_trans (sq_mono hcle) (isq_le n)
   rw [Bool.eq_iff_iff,decide_eq_true_eq,decide_eq_true_eq,← h1]
   split
   ·omega
   ·split <;> omega
  dsimp only
  simp only [e5,e6,e7,e8,hd,hsh,hw,cond_true,pre316 p0,fun316 p0,pre123 p1,fun123 p1,hle]
  by_cases hc1:c%2=1
  ·rw [decide_eq_true hc1,cond_true]
   have e:2*(c/2)+1=c:=by omega
   rw [e]
   exact hL _ ⟨i+1,by omega,by rw [show 64-(i+1)=s by omega,hc,Nat.mul_comm]⟩ (by simp only [Int.toNat_natCast]; omega)
  ·rw [decide_eq_false hc1,cond_false]
   have e:2*(c/2)=c:=by omega
   rw [e1,e]
   exact hL _ ⟨i+1,by omega,by rw [show 64-(i+1)=s by omega,hc,Nat.mul_comm]⟩ (by simp only [Int.toNat_natCast]; omega)
 ·have e:i=64:=by omega
  subst e
  have e8:decide (((64:Nat):Int)<64)=false:=rfl
  simp only [e8,cond_false,Nat.sub_self,Nat.pow_zero,Nat.div_one,Nat.mul_one]
theorem Wi_eq {a b:Nat}:(((Wi a).1==(Wi b).1)&&((Wi a).2.1==(Wi b).2.1))=decide (a=b):=by
 show (((a/2^64:Nat):Int)==((b/2^64:Nat):Int)&&((a%2^64:Nat):Int)==((b%2^64:Nat):Int))=_
 rw [nbeq,nbeq,Bool.eq_iff_iff,Bool.and_eq_true,beq_iff_eq,beq_iff_eq,decide_eq_true_eq]
 omega
theorem T317_eq (n:Nat) (hn:n<2^128):T317 (Wi n,())=some ((isq n:Int),decide (isq n*isq n=n),()):=by
 have hb:isq n<2^64:=isq_bound (k:=64) hn
 show t317 S123.pre S123.F S316.pre S316.F W317_2 (Wi n)=_
 unfold t317
 have hw:=W317_eq n hn
 have p0:=T316_eq hb hb
 show Vx.obind (W317_2 (((0:Int),((0:Int),((),()))),(Wi n,()))) _=_
 rw [hw]
 show (bif S316.pre ((isq n:Int),((isq n:Int),())) then some ((isq n:Int),((((S316.F ((isq n:Int),((isq n:Int),()))).1.1==(Wi n).1)&&((S316.F ((isq n:Int),((isq n:Int),()))).1.2.1==(Wi n).2.1)),())) else none)=_
 simp only [pre316 p0,fun316 p0,cond_true]
 exact congrArg (fun b:Bool=>some ((isq n:Int),(b,()))) Wi_eq
theorem T314_lo {n:Nat} (hn:n<2^64):T314 (((0:Int),((n:Int),())),())=some ((blen n:Int),()):=by
 show t314 S178.pre S178.F ((0:Int),((n:Int),()))=_
 unfold t314
 have p0:=T178_eq n hn
 simp only [bne_self_eq_false,cond_false,pre178 p0,fun178 p0,cond_true]
theorem T313_eq {f:Int} {a:Nat} (h:chk f a=0):T313 (f,rowOf f,(a:Int),())=some ((mant f a:Int),xpn f a,()):=by
 obtain ⟨hf,h0⟩:=chk_zero h
 show t313 S98.pre S98.F f (rowOf f) a=_
 unfold t313
 have h1:=fP_ge hf
 have h2:=fP_lt hf
 have h3:=fW_le hf
 have h4:=fX_le hf
 have h5:=fP_le hf
 have h6:=fX_ge hf
 have hE:=eF_lt hf a
 have hM:=mF_lt f a
 have hPp:2^(fP f-1)≤2^52:=Nat.pow_le_pow_right (by decide) (by omega)
 have p98:=T98_ok h
 have r2:(rowOf f).2.1=(fP f:Int):=rfl
 have r3:(rowOf f).2.2.1=1-(fX f:Int):=rfl
 have e2:IntKind.wrap .i64 ((fP f:Int)-1)=((fP f-1:Nat):Int):=wsub1 _ (by omega)
 have e3:shlI .u64 1 ((fP f-1:Nat):Int)=((2^(fP f-1):Nat):Int):=shlI_one (by omega)
 have e4:orI .u64 (mF f a:Int) ((2^(fP f-1):Nat):Int)=((mF f a+2^(fP f-1):Nat):Int):=by
  have:=orN (a:=mF f a) (b:=1) (k:=fP f-1) hM (by omega)
  rwa [Nat.one_mul] at this
 have hE2:eF f a<65536:=by
  have:=e_le (f:=f) a
  have e:fullF f=2*fX f+1:=by unfold fullF; rw [← fX_eq hf]
  omega
 have e5:∀ k:Nat,k<65536→IntKind.wrap .i64 (IntKind.wrap .i64 (IntKind.wrap .i64 (IntKind.wrap .i64 (IntKind.wrap .i64 (k:Int)-1)+(1-(fX f:Int)))-(fP f:Int))+1)=(k:Int)-1+(1-(fX f:Int))-(fP f:Int)+1:=fun k hk=>by
  rw [wrapI (n:=(k:Int)) (by omega),wrapI (n:=(k:Int)-1) (by omega),wrapI (n:=(k:Int)-1+_) (by omega),wrapI (n:=(k:Int)-1+_-_) (by omega),wrapI (by omega)]
 have e6:=e5 1 (by decide)
 rw [show ((1:Nat):Int)=1 from rfl] at e6
 dsimp only
 simp only [r2,r3,e2,nnn,cond_true,pre98 p98,fun98 p98,e3,e4,e6,e5 _ hE2,nbeq0]
 unfold mant xpn
 by_cases hz:eF f a=0
 ·rw [hz,if_pos rfl,if_pos rfl]
  show some ((mF f a:Int),((1:Int)-1+(1-(fX f:Int))-(fP f:Int)+1,()))=_
  rw [show (1:Int)-1+(1-(fX f:Int))-(fP f:Int)+1=1-(fX f:Int)-(fP f:Int)+1+0 by omega]
 ·have:(eF f a==0)=false:=by simpa using hz
  rw [this,cond_false,if_neg hz,if_neg hz]
  rw [show (eF f a:Int)-1+(1-(fX f:Int))-(fP f:Int)+1=1-(fX f:Int)-(fP f:Int)+1+((eF f a:Int)-1) by omega]
def okL (f:Int) (l:List Nat):Bool:=l.all fun a=>chk f a==0
theorem chk_cases {f:Int} (hf:Fm f) (a:Nat):chk f a=0∨chk f a=4:=by
 unfold chk
 rw [if_pos hf]
 split <;> simp
theorem W311_eq {f:Int} (hf:Fm f) (l:List Nat) (hl:∀ a∈l,a<2^64) (hlen:l.length<1000) (z r:Den (.pair (.int .i64) (.pair (.int .i64) (.pair (.int .i64) (.pair (.int .i64) (.unit)))))) :
  W311_7 ((((l.length:Int),(Wd l,(f,((0:Int),((),((),())))))),(z,(r,()))):Pat.D P311_7)=some (bif okL f l then .inl (((),((),())),(z,(r,()))) else .inr (((),((4:Int),())),(r,()))):=by
 have key:=lfix_ind (m311_7 S69.pre S69.F S66.pre S66.F) (fun x=>l.length-x.1.2.2.2.1.toNat)
  (fun x=>∃ i:Nat,i≤l.length∧okL f (l.take i)=true∧x=(((l.length:Int),(Wd l,(f,((i:Int),((),((),())))))),(z,(r,()))))
  (fun _=>bif okL f l then .inl (((),((),())),(z,(r,()))) else .inr (((),((4:Int),())),(r,()))) ?_ _ ⟨0,Nat.zero_le _,rfl,rfl⟩
 ·exact key
 intro L x hx hL
 obtain ⟨i,hi,hok,rfl⟩:=hx
 unfold h311_7
 rcases Nat.lt_or_ge i l.length with hlt | hge
 ·have hg:l.getD i 0=l[i]:=by simp [List.getD_eq_getElem?_getD,hlt]
  have hmem:l[i]∈l:=List.getElem_mem hlt
  have ha:=hl _ hmem
  have p0:=T66_eq f l[i] ha
  have e0:decide ((i:Int)<(l.length:Int))=true:=decide_eq_true (by omega)
  have e1:(decide ((0:Int)≤(i:Int))&&decide ((i:Int)<((Wd l).length:Int)))=true:=by rw [Wd_len,decide_eq_true (by omega),decide_eq_true (by omega)]; rfl
  have e2:(Wd l).getD (Int.toNat (i:Int)) 0=((l[i]:Nat):Int):=by rw [Int.toNat_natCast,Wd_getD,hg]
  have e3:IntKind.wrap .i64 ((i:Int)+1)=((i+1:Nat):Int):=by rw [wrapI (by omega)]; omega
  have htk:l.take (i+1)=l.take i++[l[i]]:=by rw [List.take_succ_eq_append_getElem hlt]
  dsimp only
  simp only [e0,e1,e2,e3,cond_true,pre66 p0,fun66 p0]
  by_cases hc:chk f l[i]=0
  ·rw [hc,bne_self_eq_false,cond_false]
   refine hL _ ⟨i+1,by omega,?_,rfl⟩ (by simp only [Int.toNat_natCast]; omega)
   unfold okL at hok ⊢
   rw [htk,List.all_append,hok,List.all_cons,hc]; rfl
  ·have h4:chk f l[i]=4:=(chk_cases hf _).resolve_left hc
   have hno:okL f l=false:=by
    unfold okL
    rw [List.all_eq_false]
    exact ⟨l[i],hmem,by rw [h4]; decide⟩
   rw [h4,hno]; rfl
 ·have e:i=l.length:=by omega
  subst e
  rw [List.take_length] at hok
  have e0:decide ((l.length:Int)<(l.length:Int))=false:=decide_eq_false (by omega)
  simp only [e0,cond_false]
  rw [hok]; rfl
noncomputable def chkL (f m:Int) (l:List Nat):Int:=if ¬ Fm f then 2 else if m<0∨m>5 then 3 else bif okL f l then 0 else 4
theorem T311_ok {f m:Int} (hf:Fm f) (l:List Nat) (hl:∀ a∈l,a<2^64) (hlen:l.length<1000):T311 (f,m,Wd l,())=some (rowOf f,chkL f m l,()):=by
 show t311 S69.pre S69.F S66.pre S66.F W311_7 f m (Wd l)=_
 unfold t311 chkL
 have p0:=T69_ok hf
 rw [if_neg (show ¬ ¬ Fm f from fun h=>h hf)]
 simp only [pre69 p0,fun69 p0,cond_true,bne_self_eq_false,cond_false]
 by_cases hm:m<0∨m>5
 ·have:(decide (m<0)||decide (m>5))=true:=by rw [Bool.or_eq_true,decide_eq_true_eq,decide_eq_true_eq]; exact hm
  rw [this,if_pos hm]; rfl
 ·have:(decide (m<0)||decide (m>5))=false:=by rw [Bool.or_eq_false_iff,decide_eq_false_iff_not,decide_eq_false_iff_not]; omega
  rw [this,if_neg hm,cond_false,Wd_len,W311_eq hf l hl hlen]
  cases okL f l <;> rfl
theorem T311_bad {f m:Int} (hf:¬ Fm f) (l:List Nat):T311 (f,m,Wd l,())=some ((0,0,0,0,()),2,()):=by
 show t311 S69.pre S69.F S66.pre S66.F W311_7 f m (Wd l)=_
 unfold t311
 have p0:=T69_bad hf
 simp only [pre69 p0,fun69 p0,cond_true]
 rfl
theorem T312_eq {f:Int} (hf:Fm f) (c:Int):T312 (f,c,())=some (bif c==1 then ((nanF f:Int),0,true,()) else bif (c==0||c==2||c==3||c==4) then ((nanF f:Int),1,true,()) else ((0:Int),0,false,())):=by
 show t312 S70.pre S70.F f c=_
 unfold t312
 have p0:=T70_ok hf
 simp only [pre70 p0,fun70 p0,cond_true]
 cases c==1 <;> cases c==0 <;> cases c==2 <;> cases c==3 <;> cases c==4 <;> rfl
theorem cls_below {f:Int} (hf:Fm f) (a:Nat):(cls f a==2||cls f a==3||cls f a==4)=(sF f a&&!zro f a&&!nan f a):=by
 have hfull:=full_pos hf
 unfold cls zro nan
 simp only [bne]
 cases h1:eF f a==fullF f <;> cases h2:mF f a==0 <;> cases sF f a <;> cases h3:eF f a==0 <;> cases mF f a/2^(fP f-2)==0 <;> first | rfl | (exfalso; rw [beq_iff_eq] at h1 h3; omega)
theorem cls_up {f:Int} (hf:Fm f) (a:Nat):(cls f a==9)=(isInf f a&&!sF f a):=by
 have hfull:=full_pos hf
 unfold cls isInf
 simp only [bne]
 cases h1:eF f a==fullF f <;> cases h2:mF f a==0 <;> cases sF f a <;> cases h3:eF f a==0 <;> cases mF f a/2^(fP f-2)==0 <;> first | rfl | (exfalso; rw [beq_iff_eq] at h1 h3; omega)
noncomputable def rootX (f m:Int) (n:Nat) (e:Int):Nat×Nat:=if e%2=1 then rootB f m (n*2*2^200) ((e-1)/2-100) else rootB f m (n*2^200) (e/2-100)
noncomputable def sqrtF (f m:Int) (a:Nat):Int×Int×Int×Unit :=
 if chkL f m [a]≠0 then (0,0,chkL f m [a],())
 else bif nan f a then ((nanF f:Int),(bif snan f a then 1 else 0),0,())
 else bif sF f a&&!zro f a then ((nanF f:Int),1,0,())
 else bif zro f a||isInf f a then ((a:Int),0,0,())
 else (((rootX f m (mant f a) (xpn f a)).1:Int),((rootX f m (mant f a) (xpn f a)).2:Int),0,())
theorem chkL_zero {f m:Int} {l:List Nat} (h:chkL f m l=0):Fm f∧(0≤m∧m≤5)∧∀ a∈l,chk f a=0:=by
 unfold chkL at h
 by_cases hf:Fm f
 ·rw [if_neg (show ¬ ¬ Fm f from fun h=>h hf)] at h
  by_cases hm:m<0∨m>5
  ·rw [if_pos hm] at h; cases h
  ·rw [if_neg hm] at h
   refine ⟨hf,by omega,?_⟩
   cases hk:okL f l
   ·rw [hk] at h; cases h
   ·unfold okL at hk
    rw [List.all_eq_true] at hk
    exact fun a ha=>by simpa using hk a ha
 ·rw [if_pos hf] at h; cases h
theorem rootX_prog {f m:Int} (hf:Fm f) {n:Nat} (h0:n≠0) (hn:n<2^64) (e:Int) (s:Nat) (hs:blen n+s=126∨blen n+s=127) (hpar:(e-s)%2=0) :
  rootX f m n e=rootB f m (n*2^s) ((e-s)/2)∧63≤blen (isq (n*2^s))∧n*2^s<2^128:=by
 have hPl:=fP_le hf
 have hb:=blen_bound hn
 have hb1:=blen_pos h0
 have hle:=blen_le h0
 have hlt:=blen_lt n
 have hlow:2^(2*62)≤n*2^s:=by
  have:2^(blen n-1)*2^s≤n*2^s:=Nat.mul_le_mul_right _ hle
  rw [← Nat.pow_add] at this
  exact Nat.le_trans (Nat.pow_le_pow_right (by decide) (by omega)) this
 have hbl:=isq_blen hlow
 have hX0:n*2^s≠0:=fun h=>by rw [h] at hlow; exact absurd hlow (by decide)
 have hup:n*2^s<2^128:=by
  have:n*2^s<2^blen n*2^s:=Nat.mul_lt_mul_of_pos_right hlt (Nat.two_pow_pos s)
  rw [← Nat.pow_add] at this
  exact Nat.lt_of_lt_of_le this (Nat.pow_le_pow_right (by decide) (by omega))
 refine ⟨?_,hbl,hup⟩
 unfold rootX
 by_cases ho:e%2=1
 ·rw [if_pos ho]
  obtain ⟨k,hk⟩:∃ k,s+2*k=201:=⟨(201-s)/2,by omega⟩
  have:=rootB_fine (f:=f) (m:=m) (k:=k) (E:=(e-s)/2) hf hX0 (by omega)
  rw [← this]
  have e1:n*2*2^200=n*2^s*(2^k*2^k):=by
   rw [Nat.mul_assoc n 2,show 2*2^200=2^201 by decide,← hk,← Nat.pow_add,show k+k=2*k by omega,Nat.pow_add,Nat.mul_assoc]
  rw [e1,show (e-1)/2-100=(e-(s:Int))/2-(k:Int) by omega]
 ·rw [if_neg ho]
  obtain ⟨k,hk⟩:∃ k,s+2*k=200:=⟨(200-s)/2,by omega⟩
  have:=rootB_fine (f:=f) (m:=m) (k:=k) (E:=(e-s)/2) hf hX0 (by omega)
  rw [← this]
  have e1:n*2^200=n*2^s*(2^k*2^k):=by
   rw [← hk,← Nat.pow_add,show k+k=2*k by omega,Nat.pow_add,Nat.mul_assoc]
  rw [e1,show e/2-100=(e-(s:Int))/2-(k:Int) by omega]
theorem T318_eq (f m:Int) {a:Nat} (ha:a<2^64):T318 (f,m,(a:Int),())=some (sqrtF f m a):=by
 show t318 S311.pre S311.F S65.pre S65.F S312.pre S312.F S313.pre S313.F S314.pre S314.F S119.pre S119.F S317.pre S317.F S122.pre S122.F f m a=_
 unfold t318 sqrtF
 rw [show ((a:Int)::[])=Wd [a] from rfl]
 by_cases hf:Fm f
 case neg =>
  have p0:=T311_bad (m:=m) hf [a]
  have e0:chkL f m [a]=2:=by unfold chkL; rw [if_pos hf]
  rw [e0]
  simp only [pre311 p0,fun311 p0,cond_true]
  rfl
 have p0:=T311_ok (m:=m) hf [a] (fun b hb=>by rw [List.mem_singleton] at hb; omega) (show (1:Nat)<1000 by decide)
 by_cases hk:chkL f m [a]≠0
 ·rw [if_pos hk]
  have:(chkL f m [a] != 0)=true:=bne_iff_ne.2 hk
  simp only [pre311 p0,fun311 p0,cond_true,this]
 have hk:chkL f m [a]=0:=Classical.not_not.1 hk
 obtain ⟨_,hm,hc⟩:=chkL_zero hk
 have h:=hc a (List.mem_singleton.2 rfl)
 rw [if_neg (show ¬ chkL f m [a]≠0 from fun h=>h hk)]
 rw [hk] at p0
 have p1:=T65_ok ha h
 have p2:=T312_eq hf (cls f a)
 have hcn:=cls_nan f a
 have hcs:=cls_snan f a
 have hcb:=cls_below hf a
 have hcz:=cls_zro hf a
 have hcu:=cls_up hf a
 simp only [pre311 p0,fun311 p0,cond_true,bne_self_eq_false,cond_false,pre65 p1,fun65 p1,pre312 p2,fun312 p2]
 cases hn:nan f a
 case true =>
  cases hs:snan f a
  ·rw [hs] at hcs
   rw [hn,hcs,Bool.or_false] at hcn
   rw [hcn]; rfl
  ·rw [hs] at hcs
   have h1:(cls f a==1)=false:=by
    rw [beq_iff_eq] at hcs
    rw [hcs]; rfl
   rw [h1,hcs]; rfl
 rw [hn,Bool.or_eq_false_iff] at hcn
 rw [hn,Bool.not_false,Bool.and_true] at hcb
 rw [hcn.1,hcn.2,Bool.false_or]
 simp only [cond_false]
 rw [hcb]
 cases hb:sF f a&&!zro f a
 case true=>rfl
 simp only [cond_false]
 have e1:((cls f a==9)||(cls f a==6)||(cls f a==5))=(zro f a||isInf f a):=by
  rw [Bool.or_assoc,Bool.or_comm (cls f a==6),hcz,hcu]
  cases hz:zro f a
  ·rw [hz,Bool.not_false,Bool.and_true] at hb
   rw [hb]; cases isInf f a <;> rfl
  ·rw [Bool.or_true,Bool.true_or]
 rw [e1]
 cases hzi:zro f a||isInf f a
 case true=>rfl
 simp only [cond_false]
 rw [Bool.or_eq_false_iff] at hzi
 have h0:=zro_mant hzi.1
 have hml:=mant_lt hf a
 have hx:=xpn_bound hf a
 have h64:mant f a<2^64:=Nat.lt_of_lt_of_le hml (Nat.pow_le_pow_right (by decide) (by decide))
 have hbl:=blen_bound hml
 have hbl1:=blen_pos h0
 have p3:=T313_eq h
 have p4:=T314_lo h64
 have hWi:((0:Int),((mant f a:Int),()))=Wi (mant f a):=by
  unfold Wi
  rw [Nat.div_eq_of_lt h64,Nat.mod_eq_of_lt h64]; rfl
 rw [hWi] at p4
 generalize hs:126-blen (mant f a)=s at *
 have e12:IntKind.wrap .i64 ((126:Int)-(blen (mant f a):Int))=(s:Int):=by rw [wrapI (by omega)]; omega
 have e11:IntKind.wrap .i64 ((s:Int)+1)=((s+1:Nat):Int):=by rw [wrapI (by omega)]; omega
 have e13:IntKind.wrap .i64 (xpn f a-(s:Int))=xpn f a-(s:Int):=wrapI (by omega)
 have e14:IntKind.wrap .i64 (xpn f a-((s+1:Nat):Int))=xpn f a-((s+1:Nat):Int):=wrapI (by omega)
 have go:∀ t:Nat,(blen (mant f a)+t=126∨blen (mant f a)+t=127)→(xpn f a-t)%2=0 →
   T119 (Wi (mant f a),(t:Int),())=some (Wi (mant f a*2^t),()) ∧
   T317 (Wi (mant f a*2^t),())=some ((isq (mant f a*2^t):Int),decide (isq (mant f a*2^t)*isq (mant f a*2^t)=mant f a*2^t),()) ∧
   quoI .i64 (xpn f a-(t:Int)) 2=(xpn f a-(t:Int))/2 ∧
   T122 (f,m,false,((0:Int),((isq (mant f a*2^t):Int),())),(xpn f a-(t:Int))/2,!decide (isq (mant f a*2^t)*isq (mant f a*2^t)=mant f a*2^t),()) =
    some (((rootX f m (mant f a) (xpn f a)).1:Int),((rootX f m (mant f a) (xpn f a)).2:Int),0,()):=fun t ht hp=>by
  obtain ⟨r1,r2,r3⟩:=rootX_prog (m:=m) hf h0 h64 (xpn f a) t ht hp
  have q1:=T119_eq (mant f a) t (Nat.lt_of_lt_of_le h64 (Nat.pow_le_pow_right (by decide) (by decide)))
  rw [Nat.mod_eq_of_lt r3] at q1
  have hq:quoI .i64 (xpn f a-(t:Int)) 2=(xpn f a-(t:Int))/2:=by
   have:=quo2 ((xpn f a-(t:Int))/2) (by omega)
   rw [show 2*((xpn f a-(t:Int))/2)=xpn f a-(t:Int) by omega] at this
   exact this
  have hr64:isq (mant f a*2^t)<2^64:=isq_bound (k:=64) r3
  have hr0:isq (mant f a*2^t)≠0:=fun h=>by
   rw [h] at r2
   have:blen 0=0:=rfl
   omega
  have hPl:=fP_le hf
  have q4:=T122_eq hf hm false (isq (mant f a*2^t)) (Nat.lt_of_lt_of_le hr64 (Nat.pow_le_pow_right (by decide) (by decide))) ((xpn f a-(t:Int))/2) (by omega) (!decide (isq (mant f a*2^t)*isq (mant f a*2^t)=mant f a*2^t)) (fun _=>by omega)
  rw [if_neg hr0,← rootB_mark hf (by omega),← r1] at q4
  have hWr:Wi (isq (mant f a*2^t))=((0:Int),((isq (mant f a*2^t):Int),())):=by
   unfold Wi
   rw [Nat.div_eq_of_lt hr64,Nat.mod_eq_of_lt hr64]; rfl
  rw [hWr] at q4
  exact ⟨q1,T317_eq _ r3,hq,q4⟩
 simp only [pre313 p3,fun313 p3,pre314 p4,fun314 p4,cond_true,e12,e11,e13,e14,tmodP,hWi]
 by_cases ho:(xpn f a-(s:Int))%2=1
 ·obtain ⟨q1,q2,q3,q4⟩:=go (s+1) (by omega) (by omega)
  rw [decide_eq_true ho]
  simp only [pre119 q1,fun119 q1,pre317 q2,fun317 q2,q3,pre122 q4,fun122 q4,cond_true]
 ·obtain ⟨q1,q2,q3,q4⟩:=go s (by omega) (by omega)
  rw [decide_eq_false ho]
  simp only [pre119 q1,fun119 q1,pre317 q2,fun317 q2,q3,pre122 q4,fun122 q4,cond_true,cond_false]
end VL
namespace VL
open Go Vx
theorem dig_test {q r yn1 yn0 u u1:Nat} (hq:q*yn1+r=u):(2^32*r+u1<q*yn0)↔u*2^32+u1<q*(yn1*2^32+yn0):=by
 rw [Nat.mul_add,← Nat.mul_assoc,← hq,Nat.add_mul]
 omega
theorem dig_cond {q r yn1 yn0 u u1:Nat} (hq:q*yn1+r=u) (hr:r<2^32) (h0:yn0<2^32) (hu1:u1<2^32) (hlt:u<yn1*2^32+yn0) :
  (decide ((q:Int)≥4294967296)||decide (IntKind.wrap .u64 ((q:Int)*(yn0:Int))>IntKind.wrap .u64 (IntKind.wrap .u64 ((4294967296:Int)*(r:Int))+(u1:Int))))=decide (u*2^32+u1<q*(yn1*2^32+yn0)):=by
 rcases Nat.lt_or_ge q (2^32) with h | h
 ·have hm:q*yn0≤(2^32-1)*(2^32-1):=Nat.mul_le_mul (by omega) (by omega)
  have e1:IntKind.wrap .u64 ((q:Int)*(yn0:Int))=((q*yn0:Nat):Int):=wu_mul _ _ (by omega)
  have e2:IntKind.wrap .u64 ((4294967296:Int)*(r:Int))=((2^32*r:Nat):Int):=wu_mul (2^32) r (by omega)
  have e3:IntKind.wrap .u64 (((2^32*r:Nat):Int)+(u1:Int))=((2^32*r+u1:Nat):Int):=wu_add _ _ (by omega)
  have e4:decide ((q:Int)≥4294967296)=false:=decide_eq_false (by omega)
  rw [e1,e2,e3,e4,Bool.false_or,Bool.eq_iff_iff,decide_eq_true_eq,decide_eq_true_eq,← dig_test hq]
  omega
 ·have e4:decide ((q:Int)≥4294967296)=true:=decide_eq_true (by omega)
  have hm:2^32*(yn1*2^32+yn0)≤q*(yn1*2^32+yn0):=Nat.mul_le_mul_right _ h
  rw [e4,Bool.true_or,decide_eq_true (by omega)]
theorem dig_start {yn1 yn0 u u1:Nat} (hy:0<yn1) (hu1:u1<2^32):u*2^32+u1<(u/yn1+1)*(yn1*2^32+yn0):=by
 have h1:u<(u/yn1+1)*yn1:=by
  have:=Nat.lt_div_mul_add hy (a:=u)
  rw [Nat.add_mul,Nat.one_mul]; exact this
 rw [Nat.mul_add,← Nat.mul_assoc]
 omega
theorem dig_down {q r yn1 yn0 u u1:Nat} (hq:q*yn1+r=u) (h:u*2^32+u1<q*(yn1*2^32+yn0)):1≤q∧(q-1)*yn1+(r+yn1)=u:=by
 have h1:1≤q:=by
  rcases Nat.eq_zero_or_pos q with h0 | h0
  ·rw [h0,Nat.zero_mul] at h; omega
  ·exact h0
 refine ⟨h1,?_⟩
 obtain ⟨p,rfl⟩:∃ p,q=p+1:=⟨q-1,by omega⟩
 rw [Nat.add_mul,Nat.one_mul] at hq
 rw [show p+1-1=p by omega]
 omega
theorem dig_break {q r yn1 yn0 u u1:Nat} (hq:q*yn1+r=u) (hr:2^32≤r) (h0:yn0<2^32) (hlt:u<yn1*2^32+yn0):q*(yn1*2^32+yn0)≤u*2^32+u1:=by
 have h1:q*yn1<2^32*yn1:=by omega
 have h2:q<2^32:=Nat.lt_of_mul_lt_mul_right h1
 have h3:q*yn0≤2^32*(2^32-1):=Nat.mul_le_mul (by omega) (by omega)
 have h4:¬ 2^32*r+u1<q*yn0:=by omega
 rw [dig_test hq] at h4
 omega
theorem div_is {a b q:Nat} (h1:q*b≤a) (h2:a<(q+1)*b):a/b=q:=Nat.div_eq_of_lt_le h1 h2
theorem W328a_eq {u u1 yn0 yn1:Nat} (h0:yn0<2^32) (h1:yn1<2^32) (hy:0<yn1) (hu1:u1<2^32) (hlt:u<yn1*2^32+yn0) (u0 y s:Int) :
  W328_17 ((((u%yn1:Nat):Int),((u:Int),((u1:Int),((yn0:Int),((yn1:Int),(((u/yn1:Nat):Int),(u0,(y,(s,()))))))))),()) =
   some (.inl (((u:Int),((u1:Int),((yn0:Int),((yn1:Int),((((u*2^32+u1)/(yn1*2^32+yn0):Nat):Int),(u0,(y,(s,())))))))),())):=by
 have key:=lfix_ind (m328_17 S327.pre S327.F) (fun x=>x.1.2.2.2.2.2.1.toNat)
  (fun x=>∃ q r:Nat,q*yn1+r=u∧r<2^32∧u*2^32+u1<(q+1)*(yn1*2^32+yn0)∧x=(((r:Int),((u:Int),((u1:Int),((yn0:Int),((yn1:Int),((q:Int),(u0,(y,(s,()))))))))),()))
  (fun _=>.inl (((u:Int),((u1:Int),((yn0:Int),((yn1:Int),((((u*2^32+u1)/(yn1*2^32+yn0):Nat):Int),(u0,(y,(s,())))))))),())) ?_ _
  ⟨u/yn1,u%yn1,by rw [Nat.mul_comm]; exact Nat.div_add_mod u yn1,Nat.lt_trans (Nat.mod_lt _ hy) h1,dig_start hy hu1,rfl⟩
 ·exact key
 intro L x hx hL
 obtain ⟨q,r,hq,hr,hup,rfl⟩:=hx
 unfold h328_17
 have hqu:q≤u:=by
  have:=Nat.le_mul_of_pos_right q hy
  omega
 dsimp only
 rw [dig_cond hq hr h0 hu1 hlt]
 by_cases hc:u*2^32+u1<q*(yn1*2^32+yn0)
 ·obtain ⟨d1,d2⟩:=dig_down hq hc
  have e1:IntKind.wrap .u64 ((q:Int)-1)=((q-1:Nat):Int):=by rw [wrapU (by omega)]; omega
  have e2:IntKind.wrap .u64 ((r:Int)+(yn1:Int))=((r+yn1:Nat):Int):=wu_add _ _ (by omega)
  rw [decide_eq_true hc,cond_true,e1,e2]
  by_cases hb:2^32≤r+yn1
  ·have e3:decide (((r+yn1:Nat):Int)≥4294967296)=true:=decide_eq_true (by omega)
   rw [e3,cond_true]
   have:=dig_break (u1:=u1) d2 hb h0 hlt
   rw [div_is this (by rw [show q-1+1=q by omega]; exact hc)]
  ·have e3:decide (((r+yn1:Nat):Int)≥4294967296)=false:=decide_eq_false (by omega)
   rw [e3,cond_false]
   exact hL _ ⟨q-1,r+yn1,d2,by omega,by rw [show q-1+1=q by omega]; exact hc,rfl⟩ (by simp only [Int.toNat_natCast]; omega)
 ·rw [decide_eq_false hc,cond_false,div_is (by omega) hup]
theorem W328b_eq {u u1 yn0 yn1:Nat} (h0:yn0<2^32) (h1:yn1<2^32) (hy:0<yn1) (hu1:u1<2^32) (hlt:u<yn1*2^32+yn0) (q1 y s:Int) :
  W328_24 (((yn0:Int),(((u%yn1:Nat):Int),((yn1:Int),(q1,((u:Int),((u1:Int),(((u/yn1:Nat):Int),(y,(s,()))))))))),()) =
   some (.inl ((q1,((u:Int),((u1:Int),((((u*2^32+u1)/(yn1*2^32+yn0):Nat):Int),(y,(s,())))))),())):=by
 have key:=lfix_ind (m328_24 S327.pre S327.F) (fun x=>x.1.2.2.2.2.2.2.1.toNat)
  (fun x=>∃ q r:Nat,q*yn1+r=u∧r<2^32∧u*2^32+u1<(q+1)*(yn1*2^32+yn0)∧x=(((yn0:Int),((r:Int),((yn1:Int),(q1,((u:Int),((u1:Int),((q:Int),(y,(s,()))))))))),()))
  (fun _=>.inl ((q1,((u:Int),((u1:Int),((((u*2^32+u1)/(yn1*2^32+yn0):Nat):Int),(y,(s,())))))),())) ?_ _
  ⟨u/yn1,u%yn1,by rw [Nat.mul_comm]; exact Nat.div_add_mod u yn1,Nat.lt_trans (Nat.mod_lt _ hy) h1,dig_start hy hu1,rfl⟩
 ·exact key
 intro L x hx hL
 obtain ⟨q,r,hq,hr,hup,rfl⟩:=hx
 unfold h328_24
 have hqu:q≤u:=by
  have:=Nat.le_mul_of_pos_right q hy
  omega
 dsimp only
 rw [dig_cond hq hr h0 hu1 hlt]
 by_cases hc:u*2^32+u1<q*(yn1*2^32+yn0)
 ·obtain ⟨d1,d2⟩:=dig_down hq hc
  have e1:IntKind.wrap .u64 ((q:Int)-1)=((q-1:Nat):Int):=by rw [wrapU (by omega)]; omega
  have e2:IntKind.wrap .u64 ((r:Int)+(yn1:Int))=((r+yn1:Nat):Int):=wu_add _ _ (by omega)
  rw [decide_eq_true hc,cond_true,e1,e2]
  by_cases hb:2^32≤r+yn1
  ·have e3:decide (((r+yn1:Nat):Int)≥4294967296)=true:=decide_eq_true (by omega)
   rw [e3,cond_true]
   have:=dig_break (u1:=u1) d2 hb h0 hlt
   rw [div_is this (by rw [show q-1+1=q by omega]; exact hc)]
  ·have e3:decide (((r+yn1:Nat):Int)≥4294967296)=false:=decide_eq_false (by omega)
   rw [e3,cond_false]
   exact hL _ ⟨q-1,r+yn1,d2,by omega,by rw [show q-1+1=q by omega]; exact hc,rfl⟩ (by simp only [Int.toNat_natCast]; omega)
 ·rw [decide_eq_false hc,cond_false,div_is (by omega) hup]
theorem div_digits {A y u32 u1 u0 q1 r1 q0 r0:Nat} (hA:A=(u32*2^32+u1)*2^32+u0) (h1:u32*2^32+u1=q1*y+r1) (h2:r1*2^32+u0=q0*y+r0) (hr:r0<y) :
  A/y=q1*2^32+q0∧A%y=r0:=by
 have e:A=(q1*2^32+q0)*y+r0:=by
  rw [hA,h1,Nat.add_mul,Nat.add_mul,Nat.mul_right_comm]; omega
 have hy:0<y:=by omega
 rw [e,Nat.mul_comm _ y]
 exact ⟨by rw [Nat.mul_add_div hy,Nat.div_eq_of_lt hr,Nat.add_zero],by rw [Nat.mul_add_mod,Nat.mod_eq_of_lt hr]⟩
theorem split64 (U X:Nat):U*2^64+X=(U*2^32+X/2^32)*2^32+X%2^32:=by omega
theorem orL {a b k:Nat} (ha:a<2^k) (h:b*2^k+a<2^64):orI .u64 ((b*2^k:Nat):Int) (a:Int)=((b*2^k+a:Nat):Int):=by
 rw [orN2 (by omega) (by omega)]
 congr 1
 have:=Nat.two_pow_add_eq_or_of_lt ha b
 rw [Nat.mul_comm b,← this]
theorem T327_eq {n:Nat} (hn:n<2^64):T327 ((n:Int),())=some (((64-blen n:Nat):Int),()):=by
 show t327 S178.pre S178.F (n:Int)=_
 unfold t327
 have p0:=T178_eq n hn
 have hb:=blen_bound hn
 have e:IntKind.wrap .i64 ((64:Int)-(blen n:Int))=((64-blen n:Nat):Int):=by rw [wrapI (by omega)]; omega
 simp only [pre178 p0,fun178 p0,cond_true,e]
theorem T328_eq {hi lo y:Nat} (hlo:lo<2^64) (hy:y<2^64) (hlt:hi<y) :
  T328 ((hi:Int),(lo:Int),(y:Int),())=some ((((hi*2^64+lo)/y:Nat):Int),(((hi*2^64+lo)%y:Nat):Int),()):=by
 have hy0:0<y:=by omega
 show t328 S327.pre S327.F W328_17 W328_24 (hi:Int) (lo:Int) (y:Int)=_
 unfold t328
 have hbl:=blen_bound hy
 have hbl1:=blen_pos (n:=y) (by omega)
 have p0:=T327_eq hy
 generalize hs:64-blen y=s at *
 have e9:IntKind.wrap .u64 (s:Int)=(s:Int):=wu_id _ (by omega)
 have e10:IntKind.wrap .u64 ((64:Int)-(s:Int))=((64-s:Nat):Int):=by rw [wrapU (by omega)]; omega
 have g0:((y:Int)==0)=false:=beq0_f _ (by omega)
 have g1:decide ((y:Int)≤(hi:Int))=false:=decide_eq_false (by omega)
 have g2:((y:Int) != 0)=true:=bne0_t _ (by omega)
 dsimp only
 simp only [g0,g1,g2,cond_false,cond_true,pre327 p0,fun327 p0,e9,e10]
 by_cases hh:hi=0
 ·subst hh
  have e1:(((0:Nat):Int)==0)=true:=rfl
  rw [e1,cond_true,quoM _ _ hlo hy0,Nat.zero_mul,Nat.zero_add]
  rfl
 have e1:((hi:Int)==0)=false:=beq0_f _ hh
 rw [e1,cond_false]
 have hp:=Nat.two_pow_pos s
 have hyl:=blen_le (n:=y) (by omega)
 have hyu:=blen_lt y
 have hY1:y*2^s<2^64:=by
  have:y*2^s<2^blen y*2^s:=Nat.mul_lt_mul_of_pos_right hyu hp
  rw [← Nat.pow_add,show blen y+s=64 by omega] at this
  exact this
 have hY2:2^63≤y*2^s:=by
  have:2^(blen y-1)*2^s≤y*2^s:=Nat.mul_le_mul_right _ hyl
  rw [← Nat.pow_add,show blen y-1+s=63 by omega] at this
  exact this
 have hH:hi*2^s<y*2^s:=Nat.mul_lt_mul_of_pos_right hlt hp
 have hlos:lo/2^(64-s)<2^s:=by
  rw [Nat.div_lt_iff_lt_mul (Nat.two_pow_pos _),← Nat.pow_add,show s+(64-s)=64 by omega]
  exact hlo
 have e264:2^64=2^s*2^(64-s):=by rw [← Nat.pow_add]; congr 1; omega
 have hU:hi*2^s+lo/2^(64-s)<y*2^s:=by
  have h1:(hi+1)*2^s≤y*2^s:=Nat.mul_le_mul_right _ hlt
  rw [Nat.add_mul,Nat.one_mul] at h1
  omega
 have hsc:(hi*2^64+lo)*2^s=(hi*2^s+lo/2^(64-s))*2^64+lo*2^s%2^64:=by
  have h1:lo*2^s=lo*2^s/2^64*2^64+lo*2^s%2^64:=by
   have:=Nat.div_add_mod (lo*2^s) (2^64)
   omega
  have h2:lo*2^s/2^64=lo/2^(64-s):=by
   rw [e264,Nat.mul_comm lo,Nat.mul_div_mul_left _ _ hp]
  rw [h2] at h1
  rw [Nat.add_mul,Nat.add_mul,Nat.mul_right_comm]
  omega
 have s1:=shlN hi s (by omega)
 have s2:=shrN lo (64-s) (by omega)
 have s3:=shlN y s (by omega)
 have s4:=shlN lo s (by omega)
 rw [Nat.mod_eq_of_lt (by omega)] at s1 s3
 have hY32:y*2^s/2^32*2^32+y*2^s%2^32=y*2^s:=by omega
 have hdiv:(hi*2^64+lo)*2^s/(y*2^s)=(hi*2^64+lo)/y:=Nat.mul_div_mul_right _ _ hp
 have hmod:(hi*2^64+lo)*2^s%(y*2^s)=(hi*2^64+lo)%y*2^s:=Nat.mul_mod_mul_right _ _ _
 have hX:lo*2^s%2^64<2^64:=Nat.mod_lt _ (by decide)
 have s5:=orL (b:=hi) hlos (by omega)
 rw [s1,s2,s3,s4,s5]
 have hq64:(hi*2^64+lo)/y<2^64:=by
  rw [Nat.div_lt_iff_lt_mul hy0]
  have:(hi+1)*2^64≤y*2^64:=Nat.mul_le_mul_right _ hlt
  omega
 rw [hsc] at hdiv hmod
 generalize hi*2^s+lo/2^(64-s)=U at *
 generalize lo*2^s%2^64=X at *
 generalize hYd:y*2^s=Y at *
 rw [s32 Y,s32 X,a32 hY1,a32 hX]
 have hYY1:Y/2^32<2^32:=by omega
 have hYY0:Y%2^32<2^32:=by omega
 have hYp:0<Y/2^32:=by omega
 have g3:(((Y/2^32:Nat):Int) != 0)=true:=bne0_t _ (by omega)
 have hrem:∀ V:Nat,V<2^64→IntKind.wrap .u64 ((V:Int)-IntKind.wrap .u64 (((V/(Y/2^32):Nat):Int)*((Y/2^32:Nat):Int)))=((V%(Y/2^32):Nat):Int):=fun V hV=>by
  have hdm:=Nat.div_add_mod V (Y/2^32)
  rw [Nat.mul_comm] at hdm
  rw [wu_mul _ _ (by omega)]
  generalize V/(Y/2^32)*(Y/2^32)=z at *
  generalize V%(Y/2^32)=w at *
  rw [wrapU (by omega)]
  omega
 rw [g3,cond_true,quoM _ _ (by omega) hYp,hrem U (by omega)]
 have w1:=W328a_eq hYY0 hYY1 hYp (show X/2^32<2^32 by omega) (u:=U) (by omega) ((X%2^32:Nat):Int) (Y:Int) (s:Int)
 rw [w1,hY32]
 show (bif (((Y/2^32:Nat):Int) != 0) then _ else _)=_
 rw [g3,cond_true]
 dsimp only
 have hd1:=Nat.div_add_mod (U*2^32+X/2^32) Y
 have hr1:=Nat.mod_lt (U*2^32+X/2^32) (show 0<Y by omega)
 have hq1:(U*2^32+X/2^32)/Y<2^32:=by
  rw [Nat.div_lt_iff_lt_mul (by omega)]
  have:(U+1)*2^32≤Y*2^32:=Nat.mul_le_mul_right _ hU
  omega
 have hrem2:∀ a b c q r:Nat,a*2^32+b=Y*q+r→r<Y→IntKind.wrap .u64 (IntKind.wrap .u64 (IntKind.wrap .u64 ((a:Int)*4294967296)+(b:Int))-IntKind.wrap .u64 ((q:Int)*(Y:Int)))=(r:Int):=fun a b _ q r h1 h2=>by
  have e:(q:Int)*(Y:Int)=((Y*q:Nat):Int):=by rw [Int.natCast_mul,Int.mul_comm]
  rw [e]
  generalize Y*q=z at *
  show ((((a:Int)*4294967296)%18446744073709551616+(b:Int))%18446744073709551616-((z:Int)%18446744073709551616))%18446744073709551616=(r:Int)
  omega
 rw [hrem2 U (X/2^32) 0 _ _ hd1.symm hr1]
 clear w1
 obtain ⟨q1,hQ1⟩:∃ q,q=(U*2^32+X/2^32)/Y:=⟨_,rfl⟩
 obtain ⟨r1,hR1⟩:∃ q,q=(U*2^32+X/2^32)%Y:=⟨_,rfl⟩
 rw [← hQ1] at hd1 hq1
 rw [← hR1] at hd1 hr1
 rw [← hQ1,← hR1]
 rw [quoM _ _ (by omega) hYp,hrem r1 (by omega)]
 have w2:=W328b_eq hYY0 hYY1 hYp (show X%2^32<2^32 by omega) (u:=r1) (by omega) (q1:Int) (Y:Int) (s:Int)
 rw [w2,hY32]
 show some (_,(_,()))=_
 dsimp only
 have hd2:=Nat.div_add_mod (r1*2^32+X%2^32) Y
 have hr2:=Nat.mod_lt (r1*2^32+X%2^32) (show 0<Y by omega)
 have hq2:(r1*2^32+X%2^32)/Y<2^32:=by
  rw [Nat.div_lt_iff_lt_mul (by omega)]
  have:(r1+1)*2^32≤Y*2^32:=Nat.mul_le_mul_right _ hr1
  omega
 rw [hrem2 r1 (X%2^32) 0 _ _ hd2.symm hr2]
 obtain ⟨q0,hQ0⟩:∃ q,q=(r1*2^32+X%2^32)/Y:=⟨_,rfl⟩
 obtain ⟨r0,hR0⟩:∃ q,q=(r1*2^32+X%2^32)%Y:=⟨_,rfl⟩
 rw [← hQ0] at hd2 hq2
 rw [← hR0] at hd2 hr2
 rw [← hQ0,← hR0]
 obtain ⟨f1,f2⟩:=div_digits (A:=U*2^64+X) (y:=Y) (u32:=U) (u1:=X/2^32) (u0:=X%2^32) (split64 U X) (by rw [Nat.mul_comm q1]; exact hd1.symm) (by rw [Nat.mul_comm q0]; exact hd2.symm) hr2
 rw [hdiv] at f1
 rw [hmod] at f2
 have e5:IntKind.wrap .u64 (IntKind.wrap .u64 ((q1:Int)*4294967296)+(q0:Int))=(((hi*2^64+lo)/y:Nat):Int):=by
  rw [f1]
  show ((((q1:Int)*4294967296)%18446744073709551616)+(q0:Int))%18446744073709551616=_
  omega
 have e6:shrI .u64 (r0:Int) (s:Int)=(((hi*2^64+lo)%y:Nat):Int):=by
  rw [shrN _ _ (by omega),← f2,Nat.mul_div_cancel _ hp]
 rw [e5,e6]
end VL
namespace VL
open Go Vx
theorem lfix_ex {D Y:Type} {Φ:{R:Type}→(D→Option R)→(Y→Option R)→D→Option R} (hp:Par Φ) (μ:D→Nat) (I:D→Prop) (Q:Y→Prop)
  (h:∀ (L:D→Option Y) x,I x→(∀ x',I x'→μ x'<μ x→∃ y,L x'=some y∧Q y)→∃ y,Φ L some x=some y∧Q y):∀ x,I x→∃ y,lfix (fun L=>Φ L some) x=some y∧Q y:=by
 have key:∀ m x,I x→μ x<m→∃ y,iter (fun L=>Φ L some) m x=some y∧Q y:=by
  intro m
  induction m with
  | zero=>intro x _ h; omega
  | succ m ih =>
   intro x hx hm
   simp only [iter]
   exact h _ x hx fun x' hx' hlt=>ih x' hx' (by omega)
 intro x hx
 obtain ⟨y,hy,hQ⟩:=key (μ x+1) x hx (by omega)
 exact ⟨y,lfix_of hp hy,hQ⟩
theorem pow_up (i:Nat):(2^64)^(i+1)=(2^64)^i*2^64:=Nat.pow_succ ..
theorem win_get {A us C:List Nat} {i:Nat} (h:i<us.length):(Wd (A++us++C)).getD (A.length+i) 0=((us.getD i 0:Nat):Int):=by
 rw [Wd_getD]
 congr 1
 rw [List.getD_eq_getElem?_getD,List.getD_eq_getElem?_getD,List.append_assoc,List.getElem?_append_right (by omega),Nat.add_sub_cancel_left,List.getElem?_append_left h]
theorem win_set {A us C:List Nat} {i v:Nat} (h:i<us.length):(Wd (A++us++C)).set (A.length+i) (v:Int)=Wd (A++us.set i v++C):=by
 rw [Wd_set]
 congr 1
 rw [List.append_assoc,List.set_append_right _ _ (by omega),Nat.add_sub_cancel_left,List.set_append_left _ _ h,← List.append_assoc]
theorem digits_eq {out us:List Nat} {i:Nat} (hol:out.length=i) (hi:i<us.length):(out++us.drop i).getD i 0=us.getD i 0:=by
 rw [List.getD_eq_getElem?_getD,List.getD_eq_getElem?_getD,List.getElem?_append_right (by omega),hol,Nat.sub_self,List.getElem?_drop,Nat.add_zero]
theorem mul_word {x y c:Nat} (hx:x<2^64) (hy:y<2^64) (hc:c<2^64) :
  x*y+c=2^64*(x*y/2^64+(x*y%2^64+c)/2^64)+(x*y%2^64+c)%2^64∧x*y/2^64+(x*y%2^64+c)/2^64<2^64:=by
 have:x*y≤(2^64-1)*(2^64-1):=Nat.mul_le_mul (by omega) (by omega)
 generalize x*y=z at *
 omega
theorem sub_word {d l b:Nat} (hd:d<2^64) (hl:l<2^64) (hb:b≤1) :
  (d+2^64-l-b)%2^64+l+b=d+2^64*(if d<l+b then 1 else 0)∧(d+2^64-l-b)%2^64<2^64∧(if d<l+b then 1 else 0)≤1:=by
 split <;> omega
theorem take_step {P U V O x y c b d o l c' b':Nat} (h:O+x*V=U+P*(c+b)) (h1:x*y+c=2^64*c'+l) (h2:o+l+b=d+2^64*b') :
  O+P*o+x*(V+P*y)=U+P*d+P*2^64*(c'+b'):=by
 have h3:P*(c+b+o+x*y)=P*(d+2^64*(c'+b')):=by
  congr 1; omega
 rw [Nat.mul_add P,Nat.mul_add P,Nat.mul_add P d,← Nat.mul_assoc P (2^64)] at h3
 rw [Nat.mul_add x,Nat.mul_left_comm x P y]
 omega
theorem T330_eq (A us C v:List Nat) (hlen:us.length=v.length+1) (hu:∀ x∈us,x<2^64) (hv:∀ x∈v,x<2^64) (hn:v.length≤1000000) {x:Nat} (hx:x<2^64) :
  ∃ out:List Nat,out.length=us.length∧(∀ z∈out,z<2^64)∧nv (2^64) out+x*nv (2^64) v=nv (2^64) us+(if nv (2^64) us<x*nv (2^64) v then (2^64)^us.length else 0) ∧
   T330 ((Wd (A++us++C),(A.length,us.length)),(Wd v,((x:Int),())))=some (Wd (A++out++C),decide (nv (2^64) us<x*nv (2^64) v),()):=by
 show ∃ out:List Nat,_∧_∧_∧t330 S315.pre S315.F S155.pre S155.F S157.pre S157.F W330_3 (Wd (A++us++C),(A.length,us.length)) (Wd v) (x:Int)=_
 have key:=lfix_ex (m330_3 S315.pre S315.F S155.pre S155.F S157.pre S157.F) (fun s=>v.length-s.1.2.2.2.1.toNat)
  (fun s=>∃ (i:Nat) (out:List Nat) (c b:Nat),i≤v.length∧out.length=i∧(∀ z∈out,z<2^64)∧c<2^64∧b≤1∧nv (2^64) out+x*nv (2^64) (v.take i)=nv (2^64) (us.take i)+(2^64)^i*(c+b) ∧
   s=(((v.length:Int),(Wd v,((x:Int),((i:Int),(Wd v,((A.length,us.length),((c:Int),((b:Int),())))))))),(Wd (A++(out++us.drop i)++C),())))
  (fun y=>∃ (out:List Nat) (c b:Nat),out.length=v.length∧(∀ z∈out,z<2^64)∧c<2^64∧b≤1∧nv (2^64) out+x*nv (2^64) v=nv (2^64) (us.take v.length)+(2^64)^v.length*(c+b) ∧
   y=.inl ((Wd v,((A.length,us.length),((c:Int),((b:Int),())))),(Wd (A++(out++us.drop v.length)++C),()))) ?_
  (((v.length:Int),(Wd v,((x:Int),((0:Int),(Wd v,((A.length,us.length),((0:Int),((0:Int),())))))))),(Wd (A++us++C),()))
  ⟨0,[],0,0,Nat.zero_le _,rfl,(fun z hz=>by simp at hz),by decide,by decide,by simp [nv],rfl⟩
 ·obtain ⟨y,hy,out,c,b,k1,k2,k3,k4,k5,rfl⟩:=key
  have hy:W330_3 (((v.length:Int),(Wd v,((x:Int),((0:Int),(Wd v,((A.length,us.length),((0:Int),((0:Int),())))))))),(Wd (A++us++C),()))=_:=hy
  have hlt:v.length<us.length:=by omega
  have hwl:(out++us.drop v.length).length=us.length:=by simp [k1]; omega
  have hdg:=digits_eq (us:=us) k1 hlt
  have hg:=win_get (A:=A) (C:=C) (us:=out++us.drop v.length) (i:=v.length) (by omega)
  rw [hdg] at hg
  have hst:=fun z=>win_set (A:=A) (C:=C) (us:=out++us.drop v.length) (i:=v.length) (v:=z) (by omega)
  have hsd:=fun z=>set_drop (a:=us) (v:=z) k1 hlt
  have hd:=getD_lt (by decide) hu v.length
  obtain ⟨w1,w2,w3⟩:=sub_word (d:=us.getD v.length 0) (l:=c) (b:=b) hd k3 k4
  have q1:=subF (us.getD v.length 0) c b k4 hd k3
  have q2:=subP ((us.getD v.length 0:Nat):Int) (c:Int) b k4
  have hnx:=nv_take_next (2^64) us v.length
  rw [List.take_of_length_le (show us.length≤v.length+1 by omega)] at hnx
  have hnil:us.drop (v.length+1)=[]:=List.drop_of_length_le (by omega)
  unfold t330
  dsimp only
  rw [Wd_len,hy]
  have e0:decide ((0:Int)≤(v.length:Int))=true:=decide_eq_true (by omega)
  have e1:decide ((v.length:Int)<(us.length:Int))=true:=decide_eq_true (by omega)
  dsimp only [obind,obind2]
  simp only [e0,e1,Bool.and_self,cond_true,Wd_len,Int.toNat_natCast,hg,q2,q1,hst,hsd,hnil,List.append_nil]
  generalize us.getD v.length 0=d at *
  generalize (d+2^64-c-b)%2^64=o at *
  have hO:nv (2^64) (out++[o])+x*nv (2^64) v=nv (2^64) us+(2^64)^us.length*(if d<c+b then 1 else 0):=by
   rw [nv_snoc,k1,hnx,hlen,pow_up]
   have h3:(2^64)^v.length*(o+c+b)=(2^64)^v.length*(d+2^64*(if d<c+b then 1 else 0)):=by rw [w1]
   rw [Nat.mul_add,Nat.mul_add,Nat.mul_add _ d,← Nat.mul_assoc _ (2^64)] at h3
   rw [Nat.mul_add] at k5
   omega
  have hod:=app_lt k2 w2
  have hOl:=nv_lt (B:=2^64) (by decide) (out++[o]) hod
  have hol:(out++[o]).length=us.length:=by simp [k1]; omega
  rw [hol] at hOl
  by_cases hb:d<c+b
  ·rw [if_pos hb,Nat.mul_one] at hO
   have hlt2:nv (2^64) us<x*nv (2^64) v:=by omega
   refine ⟨out++[o],hol,hod,by rw [if_pos hlt2]; exact hO,?_⟩
   rw [if_pos hb,decide_eq_true hlt2]; rfl
  ·rw [if_neg hb,Nat.mul_zero,Nat.add_zero] at hO
   have hlt2:¬ nv (2^64) us<x*nv (2^64) v:=by omega
   refine ⟨out++[o],hol,hod,by rw [if_neg hlt2,Nat.add_zero]; exact hO,?_⟩
   rw [if_neg hb,decide_eq_false hlt2]; rfl
 intro L s hs hL
 obtain ⟨i,out,c,b,hi,hol,hod,hc,hb,hinv,rfl⟩:=hs
 unfold h330_3
 rcases Nat.lt_or_ge i v.length with hlt | hge
 ·have hy:=getD_lt (by decide) hv i
  have hd:=getD_lt (by decide) hu i
  have hnv:=nv_take_next (2^64) v i
  have hnu:=nv_take_next (2^64) us i
  have hwl:(out++us.drop i).length=us.length:=by simp [hol]; omega
  have hdg:=digits_eq (us:=us) hol (by omega)
  have hg:=win_get (A:=A) (C:=C) (us:=out++us.drop i) (i:=i) (by omega)
  rw [hdg] at hg
  have hst:=fun z=>win_set (A:=A) (C:=C) (us:=out++us.drop i) (i:=i) (v:=z) (by omega)
  have hsd:=fun z=>set_drop (a:=us) (v:=z) hol (by omega)
  have hgv:(Wd v).getD i 0=((v.getD i 0:Nat):Int):=Wd_getD v i
  generalize v.getD i 0=y at *
  generalize us.getD i 0=d at *
  have p0:=T315_eq hx hy
  obtain ⟨m1,m2⟩:=mul_word hx hy hc
  have q1:=addF (x*y%2^64) c 0
  have q2:=addP ((x*y%2^64:Nat):Int) (c:Int) 0 (by decide)
  rw [Nat.add_zero] at q1
  have hl:(x*y%2^64+c)%2^64<2^64:=Nat.mod_lt _ (by decide)
  have e5:=wu_add (x*y/2^64) ((x*y%2^64+c)/2^64) m2
  generalize x*y/2^64+(x*y%2^64+c)/2^64=c' at *
  generalize hlq:(x*y%2^64+c)%2^64=l at *
  obtain ⟨w1,w2,w3⟩:=sub_word (d:=d) (l:=l) (b:=b) hd hl hb
  have r1:=subF d l b hb hd hl
  have r2:=subP (d:Int) (l:Int) b hb
  generalize (d+2^64-l-b)%2^64=o at *
  generalize (if d<l+b then 1 else 0)=b' at *
  have hstep:=take_step (P:=(2^64)^i) hinv m1 w1
  have e0:decide ((i:Int)<(v.length:Int))=true:=decide_eq_true (by omega)
  have e1:decide ((0:Int)≤(i:Int))=true:=decide_eq_true (by omega)
  have e2:decide ((i:Int)<((us.length:Nat):Int))=true:=decide_eq_true (by omega)
  have e3:IntKind.wrap .i64 ((i:Int)+1)=((i+1:Nat):Int):=by rw [wrapI (by omega)]; omega
  have z0:((0:Nat):Int)=0:=rfl
  rw [z0] at q1 q2
  dsimp only
  simp only [e0,e1,e2,e3,cond_true,Bool.and_self,Wd_len,Int.toNat_natCast,hgv,hg,pre315 p0,fun315 p0,q1,q2,r1,r2,e5,hst,hsd]
  refine hL _ ⟨i+1,out++[o],c',b',by omega,by simp [hol],app_lt hod w2,m2,w3,?_,rfl⟩ (by simp only [Int.toNat_natCast]; omega)
  rw [nv_snoc,hol,hnv,hnu,pow_up]
  exact hstep
 ·have e:i=v.length:=by omega
  subst e
  have e0:decide ((v.length:Int)<(v.length:Int))=false:=decide_eq_false (by omega)
  simp only [e0,cond_false]
  rw [List.take_length] at hinv
  exact ⟨_,rfl,out,c,b,hol,hod,hc,hb,hinv,rfl⟩
end VL
namespace VL
open Go Vx
theorem back_step {P U V O y c d:Nat} (h:O+P*c=U+V):O+P*((d+y+c)%2^64)+P*2^64*((d+y+c)/2^64)=U+P*d+(V+P*y):=by
 have h1:P*((d+y+c)%2^64+2^64*((d+y+c)/2^64))=P*(d+y+c):=by rw [Nat.mod_add_div]
 rw [Nat.mul_add,Nat.mul_add P (d+y),Nat.mul_add,← Nat.mul_assoc P (2^64)] at h1
 omega
theorem T331_eq (A us C v:List Nat) (hlen:us.length=v.length+1) (hu:∀ x∈us,x<2^64) (hv:∀ x∈v,x<2^64) (hn:v.length≤1000000) :
  ∃ out:List Nat,out.length=us.length∧(∀ z∈out,z<2^64)∧nv (2^64) out+(if (2^64)^us.length≤nv (2^64) us+nv (2^64) v then (2^64)^us.length else 0)=nv (2^64) us+nv (2^64) v ∧
   T331 ((Wd (A++us++C),(A.length,us.length)),(Wd v,()))=some (Wd (A++out++C),decide ((2^64)^us.length≤nv (2^64) us+nv (2^64) v),()):=by
 show ∃ out:List Nat,_∧_∧_∧t331 S155.pre S155.F W331_3 (Wd (A++us++C),(A.length,us.length)) (Wd v)=_
 have key:=lfix_ex (m331_3 S155.pre S155.F) (fun s=>v.length-s.1.2.2.1.toNat)
  (fun s=>∃ (i:Nat) (out:List Nat) (c:Nat),i≤v.length∧out.length=i∧(∀ z∈out,z<2^64)∧c≤1∧nv (2^64) out+(2^64)^i*c=nv (2^64) (us.take i)+nv (2^64) (v.take i) ∧
   s=(((v.length:Int),(Wd v,((i:Int),(Wd v,((A.length,us.length),((c:Int),())))))),(Wd (A++(out++us.drop i)++C),())))
  (fun y=>∃ (out:List Nat) (c:Nat),out.length=v.length∧(∀ z∈out,z<2^64)∧c≤1∧nv (2^64) out+(2^64)^v.length*c=nv (2^64) (us.take v.length)+nv (2^64) v ∧
   y=.inl ((Wd v,((A.length,us.length),((c:Int),()))),(Wd (A++(out++us.drop v.length)++C),()))) ?_
  (((v.length:Int),(Wd v,((0:Int),(Wd v,((A.length,us.length),((0:Int),())))))),(Wd (A++us++C),()))
  ⟨0,[],0,Nat.zero_le _,rfl,(fun z hz=>by simp at hz),by decide,by simp [nv],rfl⟩
 ·obtain ⟨y,hy,out,c,k1,k2,k3,k5,rfl⟩:=key
  have hy:W331_3 (((v.length:Int),(Wd v,((0:Int),(Wd v,((A.length,us.length),((0:Int),())))))),(Wd (A++us++C),()))=_:=hy
  have hlt:v.length<us.length:=by omega
  have hwl:(out++us.drop v.length).length=us.length:=by simp [k1]; omega
  have hdg:=digits_eq (us:=us) k1 hlt
  have hg:=win_get (A:=A) (C:=C) (us:=out++us.drop v.length) (i:=v.length) (by omega)
  rw [hdg] at hg
  have hst:=fun z=>win_set (A:=A) (C:=C) (us:=out++us.drop v.length) (i:=v.length) (v:=z) (by omega)
  have hsd:=fun z=>set_drop (a:=us) (v:=z) k1 hlt
  have hd:=getD_lt (by decide) hu v.length
  have q1:=addF (us.getD v.length 0) 0 c
  have q2:=addP ((us.getD v.length 0:Nat):Int) ((0:Nat):Int) c k3
  have z0:((0:Nat):Int)=0:=rfl
  rw [z0] at q1 q2
  have hnx:=nv_take_next (2^64) us v.length
  rw [List.take_of_length_le (show us.length≤v.length+1 by omega)] at hnx
  have hnil:us.drop (v.length+1)=[]:=List.drop_of_length_le (by omega)
  unfold t331
  dsimp only
  rw [Wd_len,hy]
  have e0:decide ((0:Int)≤(v.length:Int))=true:=decide_eq_true (by omega)
  have e1:decide ((v.length:Int)<(us.length:Int))=true:=decide_eq_true (by omega)
  dsimp only [obind,obind2]
  simp only [e0,e1,Bool.and_self,cond_true,Wd_len,Int.toNat_natCast,hg,q2,q1,hst,hsd,hnil,List.append_nil]
  have hstep:=back_step (P:=(2^64)^v.length) (y:=0) (d:=us.getD v.length 0) k5
  generalize us.getD v.length 0=d at *
  have ho:(d+0+c)%2^64<2^64:=Nat.mod_lt _ (by decide)
  have hO:nv (2^64) (out++[(d+0+c)%2^64])+(2^64)^us.length*((d+0+c)/2^64)=nv (2^64) us+nv (2^64) v:=by
   rw [nv_snoc,k1,hnx,hlen,pow_up]
   rw [Nat.mul_zero] at hstep
   omega
  have hod:=app_lt k2 ho
  have hOl:=nv_lt (B:=2^64) (by decide) (out++[(d+0+c)%2^64]) hod
  have hol:(out++[(d+0+c)%2^64]).length=us.length:=by simp [k1]; omega
  rw [hol] at hOl
  by_cases hb:(d+0+c)/2^64=1
  ·rw [hb,Nat.mul_one] at hO
   have hlt2:(2^64)^us.length≤nv (2^64) us+nv (2^64) v:=by omega
   refine ⟨out++[(d+0+c)%2^64],hol,hod,by rw [if_pos hlt2]; exact hO,?_⟩
   rw [hb,decide_eq_true hlt2]; rfl
  ·have hb0:(d+0+c)/2^64=0:=by omega
   rw [hb0,Nat.mul_zero,Nat.add_zero] at hO
   have hlt2:¬ (2^64)^us.length≤nv (2^64) us+nv (2^64) v:=by omega
   refine ⟨out++[(d+0+c)%2^64],hol,hod,by rw [if_neg hlt2,Nat.add_zero]; exact hO,?_⟩
   rw [hb0,decide_eq_false hlt2]; rfl
 intro L s hs hL
 obtain ⟨i,out,c,hi,hol,hod,hc,hinv,rfl⟩:=hs
 unfold h331_3
 rcases Nat.lt_or_ge i v.length with hlt | hge
 ·have hy:=getD_lt (by decide) hv i
  have hd:=getD_lt (by decide) hu i
  have hnv:=nv_take_next (2^64) v i
  have hnu:=nv_take_next (2^64) us i
  have hwl:(out++us.drop i).length=us.length:=by simp [hol]; omega
  have hdg:=digits_eq (us:=us) hol (by omega)
  have hg:=win_get (A:=A) (C:=C) (us:=out++us.drop i) (i:=i) (by omega)
  rw [hdg] at hg
  have hst:=fun z=>win_set (A:=A) (C:=C) (us:=out++us.drop i) (i:=i) (v:=z) (by omega)
  have hsd:=fun z=>set_drop (a:=us) (v:=z) hol (by omega)
  have hgv:(Wd v).getD i 0=((v.getD i 0:Nat):Int):=Wd_getD v i
  generalize v.getD i 0=y at *
  generalize us.getD i 0=d at *
  have q1:=addF d y c
  have q2:=addP (d:Int) (y:Int) c hc
  have ho:(d+y+c)%2^64<2^64:=Nat.mod_lt _ (by decide)
  have hc':(d+y+c)/2^64≤1:=by omega
  have hstep:=back_step (P:=(2^64)^i) (y:=y) (d:=d) hinv
  have e0:decide ((i:Int)<(v.length:Int))=true:=decide_eq_true (by omega)
  have e1:decide ((0:Int)≤(i:Int))=true:=decide_eq_true (by omega)
  have e2:decide ((i:Int)<((us.length:Nat):Int))=true:=decide_eq_true (by omega)
  have e3:IntKind.wrap .i64 ((i:Int)+1)=((i+1:Nat):Int):=by rw [wrapI (by omega)]; omega
  dsimp only
  simp only [e0,e1,e2,e3,cond_true,Bool.and_self,Wd_len,Int.toNat_natCast,hgv,hg,q1,q2,hst,hsd]
  refine hL _ ⟨i+1,out++[(d+y+c)%2^64],(d+y+c)/2^64,by omega,by simp [hol],app_lt hod ho,hc',?_,rfl⟩ (by simp only [Int.toNat_natCast]; omega)
  rw [nv_snoc,hol,hnv,hnu,pow_up]
  exact hstep
 ·have e:i=v.length:=by omega
  subst e
  have e0:decide ((v.length:Int)<(v.length:Int))=false:=decide_eq_false (by omega)
  simp only [e0,cond_false]
  rw [List.take_length] at hinv
  exact ⟨_,rfl,out,c,hol,hod,hc,hinv,rfl⟩
theorem W332b_eq (A C v:List Nat) {k U:Nat} (hk:k=v.length+1) (hv:∀ x∈v,x<2^64) (hn:v.length≤1000000) (us:List Nat) (g:Nat) (hlen:us.length=k) (hu:∀ x∈us,x<2^64) (hg:g<2^64)
  (hinv:nv (2^64) us+g*nv (2^64) v=U+(2^64)^k) :
  ∃ out:List Nat,out.length=k∧(∀ z∈out,z<2^64)∧nv (2^64) out=U%nv (2^64) v ∧
   W332_13 ((((g:Int),((A.length,k),(Wd v,()))),(Wd (A++us++C),())):P332_13.D)=some (.inl ((((U/nv (2^64) v:Nat):Int),()),(Wd (A++out++C),()))):=by
 have key:=lfix_ex (m332_13 S328.pre S328.F S315.pre S315.F S155.pre S155.F S330.pre S330.F S331.pre S331.F) (fun s=>s.1.1.toNat)
  (fun s=>∃ (us:List Nat) (g:Nat),us.length=k∧(∀ x∈us,x<2^64)∧g<2^64∧nv (2^64) us+g*nv (2^64) v=U+(2^64)^k ∧
   s=(((g:Int),((A.length,k),(Wd v,()))),(Wd (A++us++C),())))
  (fun y=>∃ out:List Nat,out.length=k∧(∀ z∈out,z<2^64)∧nv (2^64) out=U%nv (2^64) v∧y=.inl ((((U/nv (2^64) v:Nat):Int),()),(Wd (A++out++C),()))) ?_
  (((g:Int),((A.length,k),(Wd v,()))),(Wd (A++us++C),())) ⟨us,g,hlen,hu,hg,hinv,rfl⟩
 ·obtain ⟨y,hy,out,k1,k2,k3,rfl⟩:=key
  exact ⟨out,k1,k2,k3,hy⟩
 clear hinv hg hu hlen us g
 intro L s hs hL
 obtain ⟨us,g,hlen,hu,hg,hinv,rfl⟩:=hs
 unfold h332_13
 obtain ⟨out,o1,o2,o3,o4⟩:=T331_eq A us C v (by omega) hu hv hn
 rw [hlen] at o1 o3 o4
 have hul:=nv_lt (B:=2^64) (by decide) us hu
 rw [hlen] at hul
 have hg1:1≤g:=by
  rcases Nat.eq_zero_or_pos g with h | h
  ·rw [h,Nat.zero_mul] at hinv; omega
  ·exact h
 obtain ⟨p,rfl⟩:∃ p,g=p+1:=⟨g-1,by omega⟩
 rw [Nat.add_mul,Nat.one_mul] at hinv
 have e1:IntKind.wrap .u64 (((p+1:Nat):Int)-1)=(p:Int):=by rw [wrapU (by omega)]; omega
 dsimp only
 rw [pre331 o4,fun331 o4,cond_true,e1]
 dsimp only
 by_cases hc:(2^64)^k≤nv (2^64) us+nv (2^64) v
 ·rw [if_pos hc] at o3
  rw [decide_eq_true hc,cond_true]
  have hV:nv (2^64) out<nv (2^64) v:=by omega
  have hd:U=nv (2^64) v*p+nv (2^64) out:=by rw [Nat.mul_comm]; omega
  have hpos:0<nv (2^64) v:=by omega
  refine ⟨_,rfl,out,o1,o2,?_,?_⟩
  ·rw [hd,Nat.mul_add_mod,Nat.mod_eq_of_lt hV]
  ·rw [hd,Nat.mul_add_div hpos,Nat.div_eq_of_lt hV,Nat.add_zero]
 ·rw [if_neg hc] at o3
  rw [decide_eq_false hc,cond_false]
  exact hL _ ⟨out,p,o1,o2,by omega,by omega,rfl⟩ (by simp only [Int.toNat_natCast]; omega)
theorem lex_le {h l r w:Nat} (hl:l<2^64) (hw:w<2^64):(decide ((h:Int)<(r:Int))||(((h:Int)==(r:Int))&&decide ((l:Int)≤(w:Int))))=decide (h*2^64+l≤r*2^64+w):=by
 rw [Bool.eq_iff_iff,Bool.or_eq_true,Bool.and_eq_true,decide_eq_true_eq,decide_eq_true_eq,decide_eq_true_eq,beq_iff_eq]
 omega
theorem est_down {U V P v1 v2 u2 u0 g rest:Nat} (hP:0<P) (hV:(v1*2^64+v2)*P≤V) (hU:U<(u2*2^64+u0+1)*P) (hg:g*v1+rest=u2) (h:¬ g*v2≤rest*2^64+u0):U/V<g:=by
 rcases Nat.lt_or_ge (U/V) g with h1 | h1
 ·exact h1
 ·exfalso
  have h2:g*V≤U:=Nat.le_trans (Nat.mul_le_mul_right V h1) (Nat.div_mul_le_self U V)
  have h3:g*((v1*2^64+v2)*P)≤g*V:=Nat.mul_le_mul_left g hV
  rw [← Nat.mul_assoc] at h3
  have h4:=Nat.lt_of_mul_lt_mul_right (Nat.lt_of_le_of_lt (Nat.le_trans h3 h2) hU)
  rw [Nat.mul_add,← Nat.mul_assoc] at h4
  rw [← hg,Nat.add_mul] at h4
  omega
theorem est_start {U V P v1 v2 u2 u0:Nat} (hP:0<P) (h1:0<v1) (hV:(v1*2^64+v2)*P≤V) (hU:U<(u2*2^64+u0+1)*P) (hu0:u0<2^64):U/V≤u2/v1:=by
 rw [Nat.le_div_iff_mul_le h1]
 have h2:U/V*V≤U:=Nat.div_mul_le_self U V
 have h3:U/V*((v1*2^64+v2)*P)≤U/V*V:=Nat.mul_le_mul_left _ hV
 rw [← Nat.mul_assoc] at h3
 have h4:=Nat.lt_of_mul_lt_mul_right (Nat.lt_of_le_of_lt (Nat.le_trans h3 h2) hU)
 rw [Nat.mul_add,← Nat.mul_assoc] at h4
 omega
theorem two_top {v:List Nat} {n:Nat} (hn:v.length=n+2):(v.getD (n+1) 0*2^64+v.getD n 0)*(2^64)^n≤nv (2^64) v:=by
 have h1:=nv_take_next (2^64) v n
 have h2:=nv_take_next (2^64) v (n+1)
 rw [List.take_of_length_le (by omega)] at h2
 rw [h2,h1,pow_up,Nat.add_mul,Nat.mul_comm _ ((2^64)^n),Nat.mul_comm (v.getD n 0),Nat.mul_assoc,Nat.mul_comm (2^64) (v.getD (n+1) 0)]
 omega
theorem three_top {u:List Nat} {n:Nat} (hu:∀ x∈u,x<2^64) (hn:u.length=n+3):nv (2^64) u<((u.getD (n+2) 0*2^64+u.getD (n+1) 0)*2^64+u.getD n 0+1)*(2^64)^n:=by
 have h0:=nv_take_lt hu n
 have h1:=nv_take_next (2^64) u n
 have h2:=nv_take_next (2^64) u (n+1)
 have h3:=nv_take_next (2^64) u (n+2)
 rw [List.take_of_length_le (show u.length≤n+2+1 by omega)] at h3
 rw [h3,h2,h1]
 rw [show (2^64)^(n+2)=(2^64)^n*2^64*2^64 by rw [show n+2=n+1+1 by omega,pow_up,pow_up],pow_up]
 generalize (2^64)^n=P at *
 generalize u.getD (n+2) 0=a
 generalize u.getD (n+1) 0=b
 generalize u.getD n 0=c
 rw [Nat.mul_comm (_+1) P,Nat.mul_add,Nat.mul_add,Nat.add_mul,Nat.mul_add,Nat.mul_one]
 have e1:P*(a*2^64*2^64)=P*2^64*2^64*a:=by rw [Nat.mul_assoc P,Nat.mul_assoc P,Nat.mul_assoc a,Nat.mul_comm a]
 have e2:P*(b*2^64)=P*2^64*b:=by rw [Nat.mul_assoc P,Nat.mul_comm b]
 rw [e1,e2]
 omega
end VL
namespace VL
open Go Vx
theorem W332a_eq (A us C v:List Nat) {n:Nat} (hvl:v.length=n+2) (hlen:us.length=n+3) (hu:∀ x∈us,x<2^64) (hv:∀ x∈v,x<2^64) (hn:v.length≤1000000)
  (hV0:0<v.getD (n+1) 0) (g rest:Nat) (hg:g<2^64) (hr:rest<2^64) (hinv:g*v.getD (n+1) 0+rest=us.getD (n+2) 0*2^64+us.getD (n+1) 0) (hq:nv (2^64) us/nv (2^64) v≤g) :
  ∃ g':Nat,g'<2^64∧nv (2^64) us/nv (2^64) v≤g' ∧
   W332_6 ((((g:Int),((rest:Int),((v.length:Int),((A.length,us.length),(Wd v,()))))),(Wd (A++us++C),())):P332_6.D)=some (.inl (((A.length,us.length),(Wd v,((g':Int),()))),(Wd (A++us++C),()))):=by
 have key:=lfix_ex (m332_6 S328.pre S328.F S315.pre S315.F S155.pre S155.F S330.pre S330.F S331.pre S331.F) (fun s=>s.1.1.toNat)
  (fun s=>∃ (g rest:Nat),g<2^64∧rest<2^64∧g*v.getD (n+1) 0+rest=us.getD (n+2) 0*2^64+us.getD (n+1) 0∧nv (2^64) us/nv (2^64) v≤g ∧
   s=(((g:Int),((rest:Int),((v.length:Int),((A.length,us.length),(Wd v,()))))),(Wd (A++us++C),())))
  (fun y=>∃ g':Nat,g'<2^64∧nv (2^64) us/nv (2^64) v≤g'∧y=.inl (((A.length,us.length),(Wd v,((g':Int),()))),(Wd (A++us++C),()))) ?_
  (((g:Int),((rest:Int),((v.length:Int),((A.length,us.length),(Wd v,()))))),(Wd (A++us++C),())) ⟨g,rest,hg,hr,hinv,hq,rfl⟩
 ·obtain ⟨y,hy,g',k1,k2,rfl⟩:=key
  exact ⟨g',k1,k2,hy⟩
 clear hinv hg hr hq g rest
 intro L s hs hL
 obtain ⟨g,rest,hg,hr,hinv,hq,rfl⟩:=hs
 unfold h332_6
 have hv1:=getD_lt (by decide) hv (n+1)
 have hv2:=getD_lt (by decide) hv n
 have hu0:=getD_lt (by decide) hu n
 have g1:(Wd v).getD (n+1) 0=((v.getD (n+1) 0:Nat):Int):=Wd_getD v _
 have g2:(Wd v).getD n 0=((v.getD n 0:Nat):Int):=Wd_getD v _
 have g3:=win_get (A:=A) (C:=C) (us:=us) (i:=n) (by omega)
 have e11:IntKind.wrap .i64 ((v.length:Int)-2)=(n:Int):=by rw [wrapI (by omega)]; omega
 have e12:IntKind.wrap .i64 ((v.length:Int)-1)=((n+1:Nat):Int):=by rw [wrapI (by omega)]; omega
 have p0:=T315_eq hg hv2
 have e0:decide ((0:Int)≤(n:Int))=true:=decide_eq_true (by omega)
 have e1:decide ((n:Int)<(v.length:Int))=true:=decide_eq_true (by omega)
 have e2:decide ((n:Int)<(us.length:Int))=true:=decide_eq_true (by omega)
 have e3:decide ((0:Int)≤((n+1:Nat):Int))=true:=decide_eq_true (by omega)
 have e4:decide (((n+1:Nat):Int)<(v.length:Int))=true:=decide_eq_true (by omega)
 have hlo:g*v.getD n 0%2^64<2^64:=Nat.mod_lt _ (by decide)
 have hlex:=lex_le (h:=g*v.getD n 0/2^64) (r:=rest) hlo hu0
 rw [show g*v.getD n 0/2^64*2^64+g*v.getD n 0%2^64=g*v.getD n 0 by omega] at hlex
 dsimp only
 simp only [e11,e12,e0,e1,e2,e3,e4,Bool.and_self,Bool.true_or,cond_true,Wd_len,Int.toNat_natCast,g1,g2,g3,pre315 p0,fun315 p0,hlex]
 by_cases hc:g*v.getD n 0≤rest*2^64+us.getD n 0
 ·rw [decide_eq_true hc,cond_true]
  exact ⟨_,rfl,g,hg,hq,rfl⟩
 ·rw [decide_eq_false hc,cond_false]
  have hdn:=est_down (Nat.pow_pos (by decide)) (two_top hvl) (three_top hu hlen) hinv hc
  have hg1:1≤g:=Nat.lt_of_le_of_lt (Nat.zero_le _) hdn
  obtain ⟨p,rfl⟩:∃ p,g=p+1:=⟨g-1,by omega⟩
  have e5:IntKind.wrap .u64 (((p+1:Nat):Int)-1)=(p:Int):=by rw [wrapU (by omega)]; omega
  have q1:=addF rest (v.getD (n+1) 0) 0
  have q2:=addP (rest:Int) ((v.getD (n+1) 0:Nat):Int) 0 (by decide)
  have z0:((0:Nat):Int)=0:=rfl
  rw [z0] at q1 q2
  simp only [q1,q2,cond_true,e5]
  by_cases hb:(rest+v.getD (n+1) 0+0)/2^64=0
  ·have e6:((((rest+v.getD (n+1) 0+0)/2^64:Nat):Int) != 0)=false:=by rw [hb]; rfl
   rw [e6,cond_false]
   have hs:(rest+v.getD (n+1) 0+0)%2^64=rest+v.getD (n+1) 0:=by omega
   rw [hs]
   refine hL _ ⟨p,rest+v.getD (n+1) 0,by omega,by omega,?_,Nat.le_of_lt_succ hdn,rfl⟩ (by simp only [Int.toNat_natCast]; omega)
   rw [Nat.add_mul,Nat.one_mul] at hinv
   omega
  ·have e6:((((rest+v.getD (n+1) 0+0)/2^64:Nat):Int) != 0)=true:=bne0_t _ hb
   rw [e6,cond_true]
   exact ⟨_,rfl,p,by omega,Nat.le_of_lt_succ hdn,rfl⟩
theorem T332_eq (A us C v:List Nat) {n:Nat} (hvl:v.length=n+2) (hlen:us.length=n+3) (hu:∀ x∈us,x<2^64) (hv:∀ x∈v,x<2^64) (hn:v.length≤1000000)
  (hlt:nv (2^64) us<nv (2^64) v*2^64) :
  ∃ out:List Nat,out.length=us.length∧(∀ z∈out,z<2^64)∧nv (2^64) out=nv (2^64) us%nv (2^64) v ∧
   T332 ((Wd (A++us++C),(A.length,us.length)),(Wd v,()))=some (Wd (A++out++C),((nv (2^64) us/nv (2^64) v:Nat):Int),()):=by
 show ∃ out:List Nat,_∧_∧_∧t332 S328.pre S328.F S315.pre S315.F S155.pre S155.F S330.pre S330.F S331.pre S331.F W332_6 W332_13 (Wd (A++us++C),(A.length,us.length)) (Wd v)=_
 have hVp:0<nv (2^64) v:=by omega
 have hq64:nv (2^64) us/nv (2^64) v<2^64:=by rw [Nat.div_lt_iff_lt_mul hVp,Nat.mul_comm]; exact hlt
 have hv1:=getD_lt (by decide) hv (n+1)
 have hu2:=getD_lt (by decide) hu (n+2)
 have hu1:=getD_lt (by decide) hu (n+1)
 have hu0:=getD_lt (by decide) hu n
 have fin:∀ g:Nat,g<2^64→nv (2^64) us/nv (2^64) v≤g →
   ∃ out:List Nat,out.length=us.length∧(∀ z∈out,z<2^64)∧nv (2^64) out=nv (2^64) us%nv (2^64) v ∧
    (bif S330.pre ((Wd (A++us++C),(A.length,us.length)),(Wd v,((g:Int),()))) then
     (bif (S330.F ((Wd (A++us++C),(A.length,us.length)),(Wd v,((g:Int),())))).2.1 then
      (Vx.obind (W332_13 (((g:Int),((A.length,us.length),(Wd v,()))),((S330.F ((Wd (A++us++C),(A.length,us.length)),(Wd v,((g:Int),())))).1,()))) fun y5 =>
      Vx.obind2 y5 (fun y6=>some (y6.2.1,y6.1)) (fun _=>none))
     else some ((S330.F ((Wd (A++us++C),(A.length,us.length)),(Wd v,((g:Int),())))).1,((g:Int),())))
    else none)=(some (Wd (A++out++C),(((nv (2^64) us/nv (2^64) v:Nat):Int),())):Option (LK.B K332×DenS O332)):=by
  intro g hg hq
  obtain ⟨out,o1,o2,o3,o4⟩:=T330_eq A us C v (by omega) hu hv hn hg
  have hpr:S330.pre ((Wd (A++us++C),(A.length,us.length)),(Wd v,((g:Int),())))=true:=pre330 o4
  have hfr:S330.F ((Wd (A++us++C),(A.length,us.length)),(Wd v,((g:Int),())))=(Wd (A++out++C),decide (nv (2^64) us<g*nv (2^64) v),()):=fun330 o4
  rw [hpr,hfr]
  rw [cond_true]
  by_cases hb:nv (2^64) us<g*nv (2^64) v
  ·rw [if_pos hb] at o3
   obtain ⟨out2,u1,u2,u3,u4⟩:=W332b_eq A C v (k:=us.length) (U:=nv (2^64) us) (by omega) hv hn out g o1 o2 hg o3
   refine ⟨out2,u1,u2,u3,?_⟩
   dsimp only
   rw [decide_eq_true hb,cond_true,u4]
  ·rw [if_neg hb,Nat.add_zero] at o3
   have h1:nv (2^64) us/nv (2^64) v=g:=by
    have:g≤nv (2^64) us/nv (2^64) v:=by rw [Nat.le_div_iff_mul_le hVp]; omega
    exact Nat.le_antisymm hq this
   have h2:nv (2^64) out=nv (2^64) us%nv (2^64) v:=by
    have:=Nat.div_add_mod (nv (2^64) us) (nv (2^64) v)
    rw [h1,Nat.mul_comm] at this
    omega
   refine ⟨out,o1,o2,h2,?_⟩
   dsimp only
   rw [decide_eq_false hb,cond_false,h1]
 have g1:(Wd v).getD (n+1) 0=((v.getD (n+1) 0:Nat):Int):=Wd_getD v _
 have g2:=win_get (A:=A) (C:=C) (us:=us) (i:=n+2) (by omega)
 have g3:=win_get (A:=A) (C:=C) (us:=us) (i:=n+1) (by omega)
 have e10:IntKind.wrap .i64 ((v.length:Int)-1)=((n+1:Nat):Int):=by rw [wrapI (by omega)]; omega
 have e0:decide ((0:Int)≤(v.length:Int))=true:=decide_eq_true (by omega)
 have e1:decide ((v.length:Int)<(us.length:Int))=true:=decide_eq_true (by omega)
 have e2:decide ((0:Int)≤((n+1:Nat):Int))=true:=decide_eq_true (by omega)
 have e3:decide (((n+1:Nat):Int)<(v.length:Int))=true:=decide_eq_true (by omega)
 have e4:decide (((n+1:Nat):Int)<(us.length:Int))=true:=decide_eq_true (by omega)
 have evl:v.length=n+2:=hvl
 have g2':(Wd (A++us++C)).getD (A.length+v.length) 0=((us.getD (n+2) 0:Nat):Int):=by rw [evl]; exact g2
 unfold t332
 dsimp only
 simp only [Wd_len,Int.toNat_natCast,e10,g1,g2',g3,e0,e1,e2,e3,e4,Bool.and_self,cond_true]
 by_cases hc:us.getD (n+2) 0<v.getD (n+1) 0
 ·have e5:decide (((us.getD (n+2) 0:Nat):Int)<((v.getD (n+1) 0:Nat):Int))=true:=decide_eq_true (by omega)
  have p0:=T328_eq hu1 hv1 hc
  simp only [e5,cond_true,pre328 p0,fun328 p0]
  have hgl:(us.getD (n+2) 0*2^64+us.getD (n+1) 0)/v.getD (n+1) 0<2^64:=by
   rw [Nat.div_lt_iff_lt_mul (by omega)]
   have:(us.getD (n+2) 0+1)*2^64≤v.getD (n+1) 0*2^64:=Nat.mul_le_mul_right _ hc
   rw [Nat.add_mul,Nat.one_mul] at this
   rw [Nat.mul_comm (2^64)]
   omega
  have hrl:(us.getD (n+2) 0*2^64+us.getD (n+1) 0)%v.getD (n+1) 0<2^64:=Nat.lt_trans (Nat.mod_lt _ (by omega)) hv1
  have hst:=est_start (Nat.pow_pos (n:=n) (show 0<2^64 by decide)) (show 0<v.getD (n+1) 0 by omega) (two_top hvl) (three_top hu hlen) hu0
  obtain ⟨g',k1,k2,k3⟩:=W332a_eq A us C v hvl hlen hu hv hn (by omega) _ _ hgl hrl (by rw [Nat.mul_comm]; exact Nat.div_add_mod _ _) hst
  rw [k3]
  obtain ⟨out,o1,o2,o3,o4⟩:=fin g' k1 k2
  exact ⟨out,o1,o2,o3,o4⟩
 ·have e5:decide (((us.getD (n+2) 0:Nat):Int)<((v.getD (n+1) 0:Nat):Int))=false:=decide_eq_false (by omega)
  simp only [e5,cond_false]
  obtain ⟨out,o1,o2,o3,o4⟩:=fin (2^64-1) (by decide) (Nat.le_pred_of_lt hq64)
  exact ⟨out,o1,o2,o3,o4⟩
end VL
namespace VL
open Go Vx
theorem byword_step {X Q d r a B:Nat} (hX:X=Q*d+r):X*B+a=(Q*B+(r*B+a)/d)*d+(r*B+a)%d:=by
 have h1:=Nat.div_add_mod (r*B+a) d
 rw [hX,Nat.add_mul,Nat.add_mul,Nat.mul_right_comm,Nat.mul_comm ((r*B+a)/d) d]
 omega
theorem W1329_eq (l:List Nat) (hl:∀ x∈l,x<2^64) (hn:l.length≤1000000) {d:Nat} (hd:0<d) (hd2:d<2^64) :
  ∃ qs:List Nat,qs.length=l.length∧(∀ x∈qs,x<2^64)∧nv (2^64) qs=nv (2^64) l/d ∧
   W1329_3 ((((d:Int),(((l.length:Int)-1),((),((0:Int),())))),(Wd l,())):P1329_3.D)=some (.inl (((),(((nv (2^64) l%d:Nat):Int),())),(Wd qs,()))):=by
 have key:=lfix_ex (m1329_3 S328.pre S328.F S173.pre S173.F) (fun s=>(s.1.2.1+1).toNat)
  (fun s=>∃ (k:Nat) (qs:List Nat) (r:Nat),k≤l.length∧qs.length+k=l.length∧(∀ x∈qs,x<2^64)∧r<d∧nv (2^64) (l.drop k)=nv (2^64) qs*d+r ∧
   s=(((d:Int),(((k:Int)-1),((),((r:Int),())))),(Wd (l.take k++qs),())))
  (fun y=>∃ qs:List Nat,qs.length=l.length∧(∀ x∈qs,x<2^64)∧nv (2^64) qs=nv (2^64) l/d∧y=.inl (((),(((nv (2^64) l%d:Nat):Int),())),(Wd qs,()))) ?_
  (((d:Int),(((l.length:Int)-1),((),((0:Int),())))),(Wd l,()))
  ⟨l.length,[],0,Nat.le_refl _,by simp,(fun z hz=>by simp at hz),hd,by simp [nv],by simp⟩
 ·obtain ⟨y,hy,qs,k1,k2,k3,rfl⟩:=key
  exact ⟨qs,k1,k2,k3,hy⟩
 intro L s hs hL
 obtain ⟨k,qs,r,hk,hql,hqd,hr,hinv,rfl⟩:=hs
 unfold h1329_3
 rcases k with _ | i
 ·have e0:decide ((((0:Nat):Int)-1)≥0)=false:=rfl
  dsimp only
  rw [e0,cond_false]
  rw [List.drop_zero] at hinv
  have hdv:nv (2^64) l/d=nv (2^64) qs:=by rw [hinv,Nat.mul_comm,Nat.mul_add_div hd,Nat.div_eq_of_lt hr,Nat.add_zero]
  have hmd:nv (2^64) l%d=r:=by rw [hinv,Nat.mul_comm,Nat.mul_add_mod,Nat.mod_eq_of_lt hr]
  exact ⟨_,rfl,qs,by omega,hqd,hdv.symm,by rw [hmd,List.take_zero,List.nil_append]⟩
 ·have ei:(((i+1:Nat):Int)-1)=(i:Int):=by omega
  have ha:=getD_lt (by decide) hl i
  have hg:(Wd (l.take (i+1)++qs)).getD i 0=((l.getD i 0:Nat):Int):=by
   rw [Wd_getD]
   congr 1
   rw [List.getD_eq_getElem?_getD,List.getD_eq_getElem?_getD,List.getElem?_append_left (by simp; omega),List.getElem?_take_of_lt (by omega)]
  have hdn:=nv_drop_next (2^64) l i (by omega)
  have hset:∀ z:Nat,(Wd (l.take (i+1)++qs)).set i (z:Int)=Wd (l.take i++(z::qs)):=fun z=>by
   rw [Wd_set,List.set_append_left _ _ (by simp; omega),List.take_succ_eq_append_getElem (show i<l.length by omega),List.set_append_right _ _ (by simp; omega)]
   have:i-(l.take i).length=0:=by simp; omega
   rw [this]
   simp
  have hlen:(Wd (l.take (i+1)++qs)).length=l.length:=by rw [Wd_len]; simp; omega
  generalize l.getD i 0=a at *
  have p0:=T328_eq (hi:=r) ha hd2 hr
  have e0:decide ((i:Int)≥0)=true:=decide_eq_true (by omega)
  have e1:decide ((0:Int)≤(i:Int))=true:=decide_eq_true (by omega)
  have e2:decide ((i:Int)<(l.length:Int))=true:=decide_eq_true (by omega)
  have e3:IntKind.wrap .i64 ((i:Int)-1)=(i:Int)-1:=wrapI (by omega)
  dsimp only
  simp only [ei,e0,e1,e2,e3,hlen,Bool.and_self,cond_true,Int.toNat_natCast,hg,pre328 p0,fun328 p0,hset]
  have hq:(r*2^64+a)/d<2^64:=by
   rw [Nat.div_lt_iff_lt_mul hd]
   have:(r+1)*2^64≤d*2^64:=Nat.mul_le_mul_right _ hr
   rw [Nat.mul_comm (2^64)]
   omega
  refine hL _ ⟨i,(r*2^64+a)/d::qs,(r*2^64+a)%d,by omega,by simp; omega,?_,Nat.mod_lt _ hd,?_,rfl⟩ (by dsimp only; omega)
  ·intro x hx
   rcases List.mem_cons.1 hx with rfl | hx
   ·exact hq
   ·exact hqd x hx
  ·have:=byword_step (B:=2^64) (a:=a) hinv
   rw [hdn]
   show a+2^64*_=((r*2^64+a)/d+2^64*nv (2^64) qs)*d+_
   rw [Nat.mul_comm (2^64) (nv (2^64) qs),Nat.add_comm ((r*2^64+a)/d),← this]
   omega
theorem trim_Dw {l:List Nat} (h:∀ x∈l,x<2^64):Wd (trimL l)=Dw (nv (2^64) l):=by
 unfold Dw
 rw [trim_dg (by decide) l h]
theorem T1329_eq {a:Nat} (ha:a<(2^64)^5000) {d:Nat} (hd:0<d) (hd2:d<2^64):T1329 (Dw a,(d:Int),())=some (Dw (a/d),((a%d:Nat):Int),()):=by
 show t1329 S328.pre S328.F S173.pre S173.F W1329_3 (Dw a) (d:Int)=_
 unfold t1329
 have hw:=Dw_ws ha
 obtain ⟨qs,k1,k2,k3,k4⟩:=W1329_eq (dg (2^64) a) hw.1 hw.2 hd hd2
 rw [nv_Dw] at k3 k4
 have hl:(dg (2^64) a).length≤1000000:=hw.2
 have e0:IntKind.wrap .i64 (((Dw a).length:Int)-1)=(((dg (2^64) a).length:Int)-1):=by
  unfold Dw
  rw [Wd_len,wrapI (by omega)]
 have p0:=T173_eq qs (by omega)
 rw [e0]
 have k4:W1329_3 ((((d:Int),((((dg (2^64) a).length:Int)-1),((),((0:Int),())))),(Dw a,())):P1329_3.D)=_:=k4
 rw [k4]
 show (bif S173.pre (Wd qs,()) then some ((S173.F (Wd qs,())).1,(((a%d:Nat):Int),())) else none)=_
 simp only [pre173 p0,fun173 p0,cond_true,trim_Dw k2,k3]
theorem W333_eq (v:List Nat) {n:Nat} (hvl:v.length=n+2) (hv:∀ x∈v,x<2^64) (hn:v.length≤900000) {X:Nat} (Q:Nat) (hQ:Q≤50000) (s:Int) (us:List Nat) (hus:us.length=Q+n+2)
  (hud:∀ x∈us,x<2^64) (hX:nv (2^64) us=X) (hlt:X<nv (2^64) v*(2^64)^Q) :
  ∃ qs us':List Nat,qs.length=Q∧(∀ x∈qs,x<2^64)∧nv (2^64) qs=X/nv (2^64) v∧us'.length=Q+n+2∧(∀ x∈us',x<2^64)∧nv (2^64) us'=X%nv (2^64) v ∧
   W333_14 (((Wd v,(((Q:Int)-1),((),((),((v.length:Int),(s,())))))),(Wd us,(Wd (List.replicate Q 0),()))):P333_14.D)=some (.inl (((),((),((v.length:Int),(s,())))),(Wd us',(Wd qs,())))):=by
 have hV0:0<nv (2^64) v:=by
  rcases Nat.eq_zero_or_pos (nv (2^64) v) with h | h
  ·rw [h,Nat.zero_mul] at hlt; omega
  ·exact h
 have hVl:=nv_lt (B:=2^64) (by decide) v hv
 have key:=lfix_ex (m333_14 S1146.pre S1146.F S1329.pre S1329.F S144.pre S144.F S146.pre S146.F S329.pre S329.F S327.pre S327.F S186.pre S186.F S332.pre S332.F S173.pre S173.F S171.pre S171.F) (fun s=>(s.1.2.1+1).toNat)
  (fun x=>∃ (k:Nat) (qs us:List Nat),k≤Q∧qs.length+k=Q∧(∀ x∈qs,x<2^64)∧us.length=Q+n+2∧(∀ x∈us,x<2^64)∧nv (2^64) us<nv (2^64) v*(2^64)^k ∧
   X=nv (2^64) qs*(2^64)^k*nv (2^64) v+nv (2^64) us ∧
   x=((Wd v,(((k:Int)-1),((),((),((v.length:Int),(s,())))))),(Wd us,(Wd (List.replicate k 0++qs),()))))
  (fun y=>∃ qs us':List Nat,qs.length=Q∧(∀ x∈qs,x<2^64)∧nv (2^64) qs=X/nv (2^64) v∧us'.length=Q+n+2∧(∀ x∈us',x<2^64)∧nv (2^64) us'=X%nv (2^64) v ∧
   y=.inl (((),((),((v.length:Int),(s,())))),(Wd us',(Wd qs,())))) ?_
  ((Wd v,(((Q:Int)-1),((),((),((v.length:Int),(s,())))))),(Wd us,(Wd (List.replicate Q 0),())))
  ⟨Q,[],us,Nat.le_refl _,by simp,(fun z hz=>by simp at hz),hus,hud,by rw [hX]; exact hlt,by simp [nv,hX],by simp⟩
 ·obtain ⟨y,hy,qs,us',k1,k2,k3,k4,k5,k6,rfl⟩:=key
  exact ⟨qs,us',k1,k2,k3,k4,k5,k6,hy⟩
 clear hlt hX hud hus us
 intro L x hx hL
 obtain ⟨k,qs,us,hk,hql,hqd,hus,hud,hlt,hinv,rfl⟩:=hx
 unfold h333_14
 rcases k with _ | j
 ·have e0:decide ((((0:Nat):Int)-1)≥0)=false:=rfl
  dsimp only
  rw [e0,cond_false]
  rw [Nat.pow_zero,Nat.mul_one] at hlt hinv
  have hdv:X/nv (2^64) v=nv (2^64) qs:=by rw [hinv,Nat.mul_comm,Nat.mul_add_div hV0,Nat.div_eq_of_lt hlt,Nat.add_zero]
  have hmd:X%nv (2^64) v=nv (2^64) us:=by rw [hinv,Nat.mul_comm,Nat.mul_add_mod,Nat.mod_eq_of_lt hlt]
  exact ⟨_,rfl,qs,us,by omega,hqd,hdv.symm,hus,hud,hmd.symm,by simp⟩
 ·have ei:(((j+1:Nat):Int)-1)=(j:Int):=by omega
  have hjl:j+(n+3)≤us.length:=by omega
  have hsplit:us=us.take j++(us.drop j).take (n+3)++us.drop (j+(n+3)):=by
   rw [List.append_assoc,← List.drop_drop,List.take_append_drop,List.take_append_drop]
  have hAl:(us.take j).length=j:=by simp; omega
  have hwl:((us.drop j).take (n+3)).length=n+3:=by simp; omega
  have hAd:∀ x∈us.take j,x<2^64:=fun x hx=>hud x (List.mem_of_mem_take hx)
  have hwd:∀ x∈(us.drop j).take (n+3),x<2^64:=fun x hx=>hud x (List.mem_of_mem_drop (List.mem_of_mem_take hx))
  have hCd:∀ x∈us.drop (j+(n+3)),x<2^64:=fun x hx=>hud x (List.mem_of_mem_drop hx)
  have hCl:(us.drop (j+(n+3))).length+j+(n+3)=us.length:=by simp; omega
  generalize us.take j=A at *
  generalize (us.drop j).take (n+3)=w at *
  generalize us.drop (j+(n+3))=C at *
  subst hsplit
  have hAlt:=nv_lt (B:=2^64) (by decide) A hAd
  have hval:∀ w:List Nat,w.length=n+3→nv (2^64) (A++w++C)=nv (2^64) A+(2^64)^j*nv (2^64) w+(2^64)^(j+(n+3))*nv (2^64) C:=fun w hw=>by
   rw [nv_append,nv_append,hAl,show (A++w).length=j+(n+3) by simp [hAl,hw]]
  have hPj:=Nat.pow_pos (n:=j) (show 0<2^64 by decide)
  have hv1:=hval w hwl
  rw [hAl] at hAlt
  have hC0:nv (2^64) C=0:=by
   rcases Nat.eq_zero_or_pos (nv (2^64) C) with h | h
   ·exact h
   ·exfalso
    have h1:(2^64)^(j+(n+3))*1≤(2^64)^(j+(n+3))*nv (2^64) C:=Nat.mul_le_mul_left _ h
    have h2:nv (2^64) v*(2^64)^(j+1)≤(2^64)^(n+2)*(2^64)^(j+1):=Nat.mul_le_mul_right _ (by rw [hvl] at hVl; omega)
    rw [← Nat.pow_add,show n+2+(j+1)=j+(n+3) by omega] at h2
    omega
  rw [hC0,Nat.mul_zero,Nat.add_zero] at hv1
  have hwlt:nv (2^64) w<nv (2^64) v*2^64:=by
   have h1:(2^64)^j*nv (2^64) w<(2^64)^j*(nv (2^64) v*2^64):=by
    rw [pow_up,← Nat.mul_assoc] at hlt
    rw [Nat.mul_left_comm,← Nat.mul_assoc]
    omega
   exact Nat.lt_of_mul_lt_mul_left h1
  obtain ⟨out,o1,o2,o3,o4⟩:=T332_eq A w C v hvl hwl hwd hv (by omega) hwlt
  rw [hAl,hwl] at o4
  have hout:out.length=n+3:=by omega
  have hv2:=hval out hout
  rw [hC0,Nat.mul_zero,Nat.add_zero,o3] at hv2
  have hdm:=Nat.div_add_mod (nv (2^64) w) (nv (2^64) v)
  have hml:=Nat.mod_lt (nv (2^64) w) hV0
  have hq64:nv (2^64) w/nv (2^64) v<2^64:=by rw [Nat.div_lt_iff_lt_mul hV0,Nat.mul_comm]; exact hwlt
  have e0:decide ((j:Int)≥0)=true:=decide_eq_true (by omega)
  have e1:decide ((0:Int)≤(j:Int))=true:=decide_eq_true (by omega)
  have e3:IntKind.wrap .i64 (IntKind.wrap .i64 ((j:Int)+(v.length:Int))+1)=((j+(n+3):Nat):Int):=by
   rw [wrapI (n:=(j:Int)+_) (by omega),wrapI (by omega)]; omega
  have e4:decide ((j:Int)≤((j+(n+3):Nat):Int))=true:=decide_eq_true (by omega)
  have e5:decide ((((j+(n+3):Nat):Int))≤((Wd (A++w++C)).length:Int))=true:=decide_eq_true (by rw [Wd_len]; simp; omega)
  have e6:decide ((j:Int)<((Wd (List.replicate (j+1) 0++qs)).length:Int))=true:=decide_eq_true (by rw [Wd_len]; simp; omega)
  have e7:IntKind.wrap .i64 ((j:Int)-1)=(j:Int)-1:=wrapI (by omega)
  have hset:∀ z:Nat,(Wd (List.replicate (j+1) 0++qs)).set j (z:Int)=Wd (List.replicate j 0++(z::qs)):=fun z=>by
   rw [Wd_set,List.set_append_left _ _ (by simp),List.replicate_succ',List.set_append_right _ _ (by simp)]
   simp
  have e8:j+(n+3)-j=n+3:=by omega
  dsimp only
  simp only [ei,e0,e1,e3,e4,e5,e6,e7,Bool.and_self,cond_true,Int.toNat_natCast,e8]
  rw [pre332 o4,fun332 o4,cond_true]
  dsimp only
  rw [hset]
  refine hL _ ⟨j,nv (2^64) w/nv (2^64) v::qs,A++out++C,by omega,by simp; omega,?_,by simp; omega,?_,?_,?_,rfl⟩ (by dsimp only; omega)
  ·intro x hx
   rcases List.mem_cons.1 hx with rfl | hx
   ·exact hq64
   ·exact hqd x hx
  ·intro x hx
   rcases List.mem_append.1 hx with hx | hx
   ·rcases List.mem_append.1 hx with hx | hx
    ·exact hAd x hx
    ·exact o2 x hx
   ·exact hCd x hx
  ·rw [hv2]
   have:(2^64)^j*(nv (2^64) w%nv (2^64) v+1)≤(2^64)^j*nv (2^64) v:=Nat.mul_le_mul_left _ hml
   rw [Nat.mul_add,Nat.mul_one] at this
   rw [Nat.mul_comm (nv (2^64) v)]
   omega
  ·rw [hv2,hinv,hv1]
   show _=(nv (2^64) w/nv (2^64) v+2^64*nv (2^64) qs)*(2^64)^j*nv (2^64) v+_
   have h1:(2^64)^j*nv (2^64) w=(2^64)^j*(nv (2^64) v*(nv (2^64) w/nv (2^64) v))+(2^64)^j*(nv (2^64) w%nv (2^64) v):=by rw [← Nat.mul_add,hdm]
   rw [h1,pow_up,Nat.add_mul,Nat.add_mul]
   generalize nv (2^64) w/nv (2^64) v=q
   generalize nv (2^64) v=V
   generalize (2^64)^j=P
   have h2:nv (2^64) qs*(P*2^64)*V=2^64*nv (2^64) qs*P*V:=by rw [Nat.mul_comm P,← Nat.mul_assoc,Nat.mul_comm (nv (2^64) qs)]
   have h3:P*(V*q)=q*P*V:=by rw [Nat.mul_comm V,← Nat.mul_assoc,Nat.mul_comm P]
   rw [h2,h3]
   omega
end VL
namespace VL
open Go Vx
theorem dg_len_ge {x k:Nat} (h:(2^64)^k≤x):k<(dg (2^64) x).length:=by
 have:=dg_len_gt (B:=2^64) (by decide) x
 exact (Nat.pow_lt_pow_iff_right (a:=2^64) (by decide)).1 (Nat.lt_of_le_of_lt h this)
theorem dg_top {x:Nat} (h0:x≠0):∃ t,(dg (2^64) x).getD ((dg (2^64) x).length-1) 0=t∧t≠0∧t<2^64∧blen x=64*((dg (2^64) x).length-1)+blen t∧0<(dg (2^64) x).length:=by
 have hl:0<(dg (2^64) x).length:=by rw [dg_pos (by decide) (by omega)]; simp
 have ht:=dg_trim (B:=2^64) (by decide) x
 have h1:=trim_last (dg (2^64) x) (by rw [ht]; exact hl)
 have h2:=blen_row (dg_lt (B:=2^64) (by decide) x) (by rw [ht]; exact hl)
 rw [ht] at h1 h2
 rw [nv_Dw] at h2
 exact ⟨_,rfl,h1,getD_lt (by decide) (dg_lt (by decide) x) _,h2,hl⟩
theorem pow64_2 (k:Nat):(2^64)^k=2^(64*k):=(Nat.pow_mul ..).symm
theorem T333_eq {a b:Nat} (ha:a<(2^64)^4000) (hb:b<(2^64)^4000) (h0:b≠0):T333 (Dw a,Dw b,())=some (Dw (a/b),Dw (a%b),()):=by
 have up:∀ {x:Nat},x<(2^64)^4000→x<(2^64)^5000:=fun h=>Nat.lt_of_lt_of_le h (Nat.pow_le_pow_right (by decide) (by decide))
 show t333 S1146.pre S1146.F S1329.pre S1329.F S144.pre S144.F S146.pre S146.F S329.pre S329.F S327.pre S327.F S186.pre S186.F S332.pre S332.F S173.pre S173.F S171.pre S171.F W333_14 (Dw a) (Dw b)=_
 unfold t333
 have pa:=T173_dw (up ha)
 have pb:=T173_dw (up hb)
 have pc:=T144_eq (up ha) (up hb)
 have wa:=Dw_ws (up ha)
 have wb:=Dw_ws (up hb)
 have hla:(dg (2^64) a).length≤4000:=dg_len_le (by decide) _ _ ha
 have hlb:(dg (2^64) b).length≤4000:=dg_len_le (by decide) _ _ hb
 have pcopy:=T1146_eq (dg (2^64) a) wa
 rw [nv_Dw] at pcopy
 have pcopy:T1146 (Dw a,())=some (Dw a,()):=pcopy
 obtain ⟨t,ht,ht0,ht64,hbt,hlp⟩:=dg_top h0
 have hLen:∀ x:Nat,(Dw x).length=(dg (2^64) x).length:=fun x=>Wd_len _
 have hGet:∀ (x i:Nat),(Dw x).getD i 0=(((dg (2^64) x).getD i 0:Nat):Int):=fun x i=>Wd_getD _ _
 dsimp only
 simp only [pre173 pa,fun173 pa,pre173 pb,fun173 pb,pre144 pc,fun144 pc,cond_true]
 by_cases hlt:a<b
 ·have e0:decide ((if a=b then (0:Int) else if a<b then -1 else 1)<0)=true:=by rw [if_neg (by omega),if_pos hlt]; rfl
  simp only [e0,cond_true,pre1146 pcopy,fun1146 pcopy]
  rw [Nat.div_eq_of_lt hlt,Nat.mod_eq_of_lt hlt,Dw_zero]
 have e0:decide ((if a=b then (0:Int) else if a<b then -1 else 1)<0)=false:=by
  rw [if_neg hlt]
  split <;> rfl
 simp only [e0,cond_false]
 by_cases h1:(dg (2^64) b).length=1
 ·have e1:(((Dw b).length:Int)==1)=true:=by rw [hLen,h1]; rfl
  have hb64:b<2^64:=by
   have:=dg_len_gt (B:=2^64) (by decide) b
   rw [h1,Nat.pow_one] at this
   exact this
  have e2:decide ((0:Int)<((Dw b).length:Int))=true:=by rw [hLen,h1]; rfl
  have e3:(Dw b).getD (Int.toNat 0) 0=(b:Int):=by rw [Int.toNat_zero,Dw_get,Nat.mod_eq_of_lt hb64]
  have p0:=T1329_eq (up ha) (Nat.pos_of_ne_zero h0) hb64
  have hr:a%b<b:=Nat.mod_lt _ (Nat.pos_of_ne_zero h0)
  have p1:=T173_eq [a%b] (by simp)
  rw [trim_Dw (by intro x hx; rw [List.mem_singleton] at hx; omega),show nv (2^64) [a%b]=a%b by simp [nv]] at p1
  have p1:T173 ((((a%b:Nat):Int)::[]),())=_:=p1
  simp only [e1,e2,e3,cond_true,pre1146 pcopy,fun1146 pcopy,pre1329 p0,fun1329 p0,pre173 p1,fun173 p1]
 have e1:(((Dw b).length:Int)==1)=false:=by
  rw [hLen]
  exact ibeq_f _ _ (by omega)
 simp only [e1,cond_false]
 obtain ⟨n,hn⟩:∃ n,(dg (2^64) b).length=n+2:=⟨(dg (2^64) b).length-2,by omega⟩
 have hab:(dg (2^64) b).length≤(dg (2^64) a).length:=dg_len_mono (by decide) (by omega)
 obtain ⟨Q,hQ⟩:∃ Q,(dg (2^64) a).length+1=Q+n+2:=⟨(dg (2^64) a).length+1-(n+2),by omega⟩
 rw [show (dg (2^64) b).length-1=n+1 by omega] at ht hbt
 have hbl:=blen_bound ht64
 have hbl1:=blen_pos ht0
 generalize hs:64-blen t=s at *
 have p327:=T327_eq ht64
 rw [hs] at p327
 have hub:=blen_lt b
 have hlob:=blen_le h0
 have hp:=Nat.two_pow_pos s
 have hV1:b*2^s<2^(64*(n+2)):=by
  have h2:b*2^s<2^blen b*2^s:=Nat.mul_lt_mul_of_pos_right hub hp
  rw [← Nat.pow_add,show blen b+s=64*(n+2) by omega] at h2
  exact h2
 have hV2:2^(64*(n+2)-1)≤b*2^s:=by
  have h2:2^(blen b-1)*2^s≤b*2^s:=Nat.mul_le_mul_right _ hlob
  rw [← Nat.pow_add,show blen b-1+s=64*(n+2)-1 by omega] at h2
  exact h2
 have hvlen:(dg (2^64) (b*2^s)).length=n+2:=by
  have h2:(dg (2^64) (b*2^s)).length≤n+2:=dg_len_le (by decide) _ _ (by rw [pow64_2]; exact hV1)
  have h3:=dg_len_ge (x:=b*2^s) (k:=n+1) (by
   rw [pow64_2]
   exact Nat.le_trans (Nat.pow_le_pow_right (by decide) (by omega)) hV2)
  omega
 have hA:a*2^s<2^(64*(dg (2^64) a).length+s):=by
  have h2:=dg_len_gt (B:=2^64) (by decide) a
  rw [pow64_2] at h2
  rw [Nat.pow_add]
  exact Nat.mul_lt_mul_of_pos_right h2 hp
 have hulen:(dg (2^64) (a*2^s)).length≤Q+n+2:=dg_len_le (by decide) _ _ (by
  rw [pow64_2]
  exact Nat.lt_of_lt_of_le hA (Nat.pow_le_pow_right (by decide) (by omega)))
 have hstart:a*2^s<b*2^s*(2^64)^Q:=by
  have h2:2^(64*(n+2)-1)*2^(64*Q)≤b*2^s*2^(64*Q):=Nat.mul_le_mul_right _ hV2
  rw [← Nat.pow_add] at h2
  rw [pow64_2]
  exact Nat.lt_of_lt_of_le (Nat.lt_of_lt_of_le hA (Nat.pow_le_pow_right (by decide) (by omega))) h2
 have pv:=T186_eq (dg (2^64) b) wb s (by rw [dg_trim (by decide)]; omega)
 have pu:=T186_eq (dg (2^64) a) wa s (by rw [dg_trim (by decide)]; omega)
 rw [nv_Dw] at pv pu
 have pv:T186 (Dw b,(s:Int),())=some (Dw (b*2^s),()):=pv
 have pu:T186 (Dw a,(s:Int),())=some (Dw (a*2^s),()):=pu
 have e17:IntKind.wrap .i64 (((Dw b).length:Int)-1)=((n+1:Nat):Int):=by rw [hLen,wrapI (by omega)]; omega
 have e18:IntKind.wrap .i64 (((Dw a).length:Int)+1)=((Q+n+2:Nat):Int):=by rw [hLen,wrapI (by omega)]; omega
 have eg:(Dw b).getD (Int.toNat ((n+1:Nat):Int)) 0=(t:Int):=by rw [Int.toNat_natCast,hGet,ht]
 have e2:(decide ((0:Int)≤((n+1:Nat):Int))&&decide (((n+1:Nat):Int)<((Dw b).length:Int)))=true:=by
  rw [hLen,decide_eq_true (by omega),decide_eq_true (by omega)]; rfl
 have e3:(decide ((0:Int)≤((Q+n+2:Nat):Int))&&decide (((Q+n+2:Nat):Int)*8≤140737488355328))=true:=by
  rw [decide_eq_true (by omega),decide_eq_true (by omega)]; rfl
 generalize hud:dg (2^64) (a*2^s)++List.replicate (Q+n+2-(dg (2^64) (a*2^s)).length) 0=us
 have husl:us.length=Q+n+2:=by rw [← hud,List.length_append,List.length_replicate]; omega
 have hus:∀ x∈us,x<2^64:=by
  rw [← hud]
  intro x hx
  rcases List.mem_append.1 hx with hx | hx
  ·exact dg_lt (by decide) _ x hx
  ·have:=(List.mem_replicate.1 hx).2
   omega
 have husv:nv (2^64) us=a*2^s:=by rw [← hud,nv_append,nv_rep,Nat.mul_zero,Nat.add_zero,nv_Dw]
 have hrow:(Dw (a*2^s)).take (List.replicate (Int.toNat ((Q+n+2:Nat):Int)) (0:Int)).length++(List.replicate (Int.toNat ((Q+n+2:Nat):Int)) (0:Int)).drop (Dw (a*2^s)).length=Wd us:=by
  rw [Int.toNat_natCast,List.length_replicate,Wd_rep,hLen,Wd_drop,List.drop_replicate]
  unfold Dw
  rw [Wd_take,List.take_of_length_le hulen,← hud]
  unfold Wd
  rw [List.map_append]
 have e11:IntKind.wrap .i64 (((Wd us).length:Int)-((Dw (b*2^s)).length:Int))=(Q:Int):=by
  rw [Wd_len,husl,hLen,hvlen,wrapI (by omega)]; omega
 have e4:(decide ((0:Int)≤(Q:Int))&&decide ((Q:Int)*8≤140737488355328))=true:=by
  rw [decide_eq_true (by omega),decide_eq_true (by omega)]; rfl
 have e5:IntKind.wrap .i64 (((List.replicate (Int.toNat (Q:Int)) (0:Int)).length:Int)-1)=(Q:Int)-1:=by
  rw [Int.toNat_natCast,List.length_replicate,wrapI (by omega)]
 obtain ⟨qs,us',k1,k2,k3,k4,k5,k6,k7⟩:=W333_eq (dg (2^64) (b*2^s)) hvlen (dg_lt (by decide) _) (by omega) (X:=a*2^s) Q (by omega) (s:Int) us husl hus husv (by rw [nv_Dw]; exact hstart)
 rw [nv_Dw] at k3 k6
 rw [Nat.mul_div_mul_right _ _ hp] at k3
 rw [Nat.mul_mod_mul_right] at k6
 have k7:W333_14 (((Dw (b*2^s),(((Q:Int)-1),((),((),(((Dw (b*2^s)).length:Int),((s:Int),())))))),(Wd us,((List.replicate (Int.toNat (Q:Int)) (0:Int)),()))):P333_14.D)=some (.inl (((),((),(((n+2:Nat):Int),((s:Int),())))),(Wd us',(Wd qs,())))):=by
  rw [Int.toNat_natCast,Wd_rep,hLen]
  rw [hvlen] at k7 ⊢
  exact k7
 simp only [e17,eg,pre327 p327,fun327 p327,pre186 pv,fun186 pv,pre186 pu,fun186 pu,e18,e2,e3,cond_true,hrow,e11,e4,e5]
 rw [k7]
 dsimp only [obind,obind2]
 have pq:=T173_eq qs (by omega)
 rw [trim_Dw k2,k3] at pq
 have hnl:nv (2^64) (us'.take (n+2))=a%b*2^s:=by
  have h2:=nv_split (2^64) us' (n+2) (by omega)
  have h3:nv (2^64) (us'.drop (n+2))=0:=by
   rcases Nat.eq_zero_or_pos (nv (2^64) (us'.drop (n+2))) with h | h
   ·exact h
   ·exfalso
    have h4:(2^64)^(n+2)*1≤(2^64)^(n+2)*nv (2^64) (us'.drop (n+2)):=Nat.mul_le_mul_left _ h
    have h5:a%b*2^s<b*2^s:=Nat.mul_lt_mul_of_pos_right (Nat.mod_lt _ (Nat.pos_of_ne_zero h0)) hp
    rw [pow64_2] at h4 h2
    omega
  rw [h3,Nat.mul_zero,Nat.add_zero] at h2
  rw [← h2,k6]
 have pr:=T171_eq (us'.take (n+2)) ⟨fun x hx=>k5 x (List.mem_of_mem_take hx),by simp; omega⟩ s (by omega)
 rw [hnl,Nat.mul_div_cancel _ hp] at pr
 have pr:T171 (Wd (us'.take (n+2)),(s:Int),())=some (Dw (a%b),()):=pr
 have e6:(decide ((0:Int)≤((n+2:Nat):Int))&&decide (((n+2:Nat):Int)≤((Wd us').length:Int)))=true:=by
  rw [Wd_len,k4,decide_eq_true (by omega),decide_eq_true (by omega)]; rfl
 have e7:((Wd us').take (Int.toNat ((n+2:Nat):Int))).drop (Int.toNat 0)=Wd (us'.take (n+2)):=by
  rw [Int.toNat_natCast,Int.toNat_zero,Wd_take,List.drop_zero]
 simp only [pre173 pq,fun173 pq,e6,e7,pre171 pr,fun171 pr,cond_true]
theorem great_no {l:List (List Nat)} (hl:∀ x∈l,x.length≤1024) (hn:l.length≤1000000):T185 (l.map Wd,())=some (false,()):=by
 have:=T185_eq l (fun x hx=>by have:=hl x hx; omega) hn
 rw [this,decide_eq_true (fun x hx=>Nat.le_trans (trim_len x).1 (hl x hx))]; rfl
theorem T345_eq {a b:Nat} (ha:a<(2^64)^1024) (hb:b<(2^64)^1024) (h0:b≠0):T345 (Dw a,Dw b,())=some (Dw (a/b),Dw (a%b),0,()):=by
 have up:∀ {x:Nat},x<(2^64)^1024→x<(2^64)^4000:=fun h=>Nat.lt_of_lt_of_le h (Nat.pow_le_pow_right (by decide) (by decide))
 have up5:∀ {x:Nat},x<(2^64)^1024→x<(2^64)^5000:=fun h=>Nat.lt_of_lt_of_le h (Nat.pow_le_pow_right (by decide) (by decide))
 show t345 S185.pre S185.F S173.pre S173.F S333.pre S333.F (Dw a) (Dw b)=_
 unfold t345
 have p0:=great_no (l:=[dg (2^64) a,dg (2^64) b]) (by
  intro x hx
  rcases List.mem_cons.1 hx with rfl | hx
  ·exact dg_len_le (by decide) _ _ ha
  ·rw [List.mem_singleton] at hx
   rw [hx]
   exact dg_len_le (by decide) _ _ hb) (by simp)
 have p0:T185 ((Dw a::Dw b::[]),())=some (false,()):=p0
 have p1:=T173_dw (up5 hb)
 have p2:=T333_eq (up ha) (up hb) h0
 have e0:(((Dw b).length:Int)==0)=false:=by rw [Dw_len0,decide_eq_false h0]
 simp only [pre185 p0,fun185 p0,pre173 p1,fun173 p1,pre333 p2,fun333 p2,cond_true,cond_false,e0]
end VL
namespace VL
open Go Vx
theorem xpn_tight {f:Int} (hf:Fm f) (a:Nat):-1100≤xpn f a∧xpn f a≤1100:=by
 have h1:=e_le (f:=f) a
 have e:fullF f=2*fX f+1:=by unfold fullF; rw [← fX_eq hf]
 have h2:=fX_le hf
 have h3:=fP_le hf
 have h4:=fP_ge hf
 unfold xpn
 split <;> omega
theorem zro_mantB (f:Int) (a:Nat):((mant f a:Int)==0)=zro f a:=by
 cases hz:zro f a
 ·exact beq0_f _ (zro_mant hz)
 ·unfold zro at hz
  rw [Bool.and_eq_true,beq_iff_eq,beq_iff_eq] at hz
  unfold mant
  rw [if_pos hz.1,hz.2]; rfl
end VL
namespace VL
open Go Vx
def muE (f m:Int) (neg:Bool) (d n:Nat):Nat:=(blen n-fP f-d)*2^(fP f-1)+cutJ m neg n (blen n-fP f-d+d)
theorem quo_top {f:Int} (hf:Fm f) (d n:Nat):n/2^(blen n-fP f-d+d)<2^fP f:=by
 rw [Nat.div_lt_iff_lt_mul (Nat.two_pow_pos _),← Nat.pow_add]
 exact Nat.lt_of_lt_of_le (blen_lt n) (Nat.pow_le_pow_right (by decide) (by omega))
theorem quo_low {f:Int} (hf:Fm f) {d n:Nat} (h0:n≠0) (hJ:fP f+d≤blen n):2^(fP f-1)≤n/2^(blen n-fP f-d+d):=by
 have hP:=fP_ge hf
 rw [Nat.le_div_iff_mul_le (Nat.two_pow_pos _),← Nat.pow_add]
 exact Nat.le_trans (Nat.pow_le_pow_right (by decide) (by omega)) (blen_le h0)
theorem rndM_muE {f:Int} (hf:Fm f) (m:Int) (neg:Bool) {n:Nat} (h0:n≠0) (d:Nat) :
  rndM f m neg n (qm f-d)=if infF f≤muE f m neg d n then (limM f m neg,20) else (muE f m neg d n,if clsR (n%2^(blen n-fP f-d+d)) (blen n-fP f-d+d)=0 then 0 else if isTiny f m neg n (qm f-d) false then 24 else 16):=by
 have hP:=fP_ge hf
 have hX:=fX_ge hf
 have h2p:=two_P hf
 have hpp:=Nat.two_pow_pos (fP f-1)
 have hinf:=inf_ge hf
 have hb1:=blen_pos h0
 have htop:topE n (qm f-d)=qm f-d+(blen n:Int)-1:=rfl
 have hqm:qm f=1-(fX f:Int)-(fP f:Int)+1:=rfl
 have hqt:=quo_top hf d n
 have hql:=quo_low hf (d:=d) h0
 have hlow:lowE f (topE n (qm f-d))=qm f+((blen n-fP f-d:Nat):Int):=by unfold lowE; split <;> omega
 obtain ⟨hc1,hc2⟩:=cutJ_bound m neg n (blen n-fP f-d+d)
 have hcr:cutR n (qm f-d) (qm f+((blen n-fP f-d:Nat):Int)) false=clsR (n%2^(blen n-fP f-d+d)) (blen n-fP f-d+d):=by
  rw [cutR_f]
  rcases Nat.eq_zero_or_pos (blen n-fP f-d+d) with hz | hz
  ·rw [rstE_lo (by omega),hz,Nat.pow_zero,Nat.mod_one]; rfl
  ·rw [rstE_hi (by omega),show (qm f+((blen n-fP f-d:Nat):Int)-(qm f-d)).toNat=blen n-fP f-d+d by omega]
 have hcn:cutN m neg n (qm f-d) (qm f+((blen n-fP f-d:Nat):Int)) false=cutJ m neg n (blen n-fP f-d+d):=by
  have hqe:quoE n (qm f-d) (qm f+((blen n-fP f-d:Nat):Int))=n/2^(blen n-fP f-d+d):=by
   rcases Nat.eq_zero_or_pos (blen n-fP f-d+d) with hz | hz
   ·rw [quoE_lo (by omega),hz,show (qm f-(d:Int)-(qm f+((blen n-fP f-d:Nat):Int))).toNat=0 by omega,Nat.pow_zero,Nat.mul_one,Nat.div_one]
   ·rw [quoE_hi (by omega),show (qm f+((blen n-fP f-d:Nat):Int)-(qm f-d)).toNat=blen n-fP f-d+d by omega]
  unfold cutN cutJ
  rw [hcr,hqe]
 unfold rndM
 rw [hlow]
 dsimp only
 rw [hcn,hcr,show (qm f+((blen n-fP f-d:Nat):Int)-(1-(fX f:Int)-(fP f:Int)+1)).toNat=blen n-fP f-d by omega]
 have hmu:muE f m neg d n=(blen n-fP f-d)*2^(fP f-1)+cutJ m neg n (blen n-fP f-d+d):=rfl
 rw [hmu]
 have hJd:fP f+d≤blen n∨blen n-fP f-d=0:=by omega
 have hJb:(blen n:Int)-fP f-d≤((blen n-fP f-d:Nat):Int):=by omega
 have hJe:fP f+d≤blen n→(blen n:Int)=fP f+d+((blen n-fP f-d:Nat):Int):=by omega
 generalize cutJ m neg n (blen n-fP f-d+d)=u at *
 generalize n/2^(blen n-fP f-d+d)=Q at *
 generalize clsR (n%2^(blen n-fP f-d+d)) (blen n-fP f-d+d)=c at *
 generalize blen n-fP f-d=j at *
 by_cases ht:topE n (qm f-d)>fX f
 ·have hj2:2*fX f+1≤j+1:=by omega
  have:=Nat.mul_le_mul_right (2^(fP f-1)) hj2
  rw [Nat.add_mul j,Nat.one_mul] at this
  have hql:=hql (by omega)
  rw [if_pos ht,if_pos (show infF f≤j*2^(fP f-1)+u by omega)]
  rfl
 ·rw [if_neg ht]
  have hj0:j+1≤2*fX f:=by
   rcases hJd with h | h
   ·have:=hJe h; omega
   ·omega
  rcases Nat.lt_or_ge u (2^fP f) with hu | hu
  ·have hbu:=blen_bound hu
   have hj2:j+2≤2*fX f+1:=by omega
   have:=Nat.mul_le_mul_right (2^(fP f-1)) hj2
   rw [Nat.add_mul] at this
   rw [if_neg (show ¬ qm f+(j:Int)+(blen u:Int)-1>fX f by omega),if_neg (show ¬ infF f≤j*2^(fP f-1)+u by omega)]
  ·have hbu:=blen_ge hu
   have hbu2:=blen_bound (n:=u) (k:=fP f+1) (by rw [Nat.pow_succ]; omega)
   by_cases hj2:j+3≤2*fX f+1
   ·have:=Nat.mul_le_mul_right (2^(fP f-1)) hj2
    rw [Nat.add_mul] at this
    rw [if_neg (show ¬ qm f+(j:Int)+(blen u:Int)-1>fX f by omega),if_neg (show ¬ infF f≤j*2^(fP f-1)+u by omega)]
   ·have hj3:2*fX f+1≤j+2:=by omega
    have:=Nat.mul_le_mul_right (2^(fP f-1)) hj3
    rw [Nat.add_mul j] at this
    rw [if_pos (show qm f+(j:Int)+(blen u:Int)-1>fX f by omega),if_pos (show infF f≤j*2^(fP f-1)+u by omega)]
    rfl
def pv (f:Int) (x:Nat):Nat:=mant f x*2^(xpn f x-qm f).toNat
theorem pv_form {f:Int} (hf:Fm f) {J u:Nat} (hx:J*2^(fP f-1)+u≤infF f) (hu:u≤2^fP f) (hl:J=0∨2^(fP f-1)≤u):pv f (J*2^(fP f-1)+u)=u*2^J:=by
 have h2p:=two_P hf
 have hpp:=Nat.two_pow_pos (fP f-1)
 have hlt:=infF_lt hf
 have habs:absF f (J*2^(fP f-1)+u)=J*2^(fP f-1)+u:=Nat.mod_eq_of_lt (by omega)
 have hE:=eF_abs hf (J*2^(fP f-1)+u)
 have hM:=mF_abs hf (J*2^(fP f-1)+u)
 rw [habs] at hE hM
 have hd:∀ K v:Nat,v<2^(fP f-1)→J*2^(fP f-1)+u=K*2^(fP f-1)+v→eF f (J*2^(fP f-1)+u)=K∧mF f (J*2^(fP f-1)+u)=v:=fun K v hv he=>by
  rw [hE,hM,he,Nat.mul_comm K]
  exact ⟨by rw [Nat.mul_add_div hpp,Nat.div_eq_of_lt hv,Nat.add_zero],by rw [Nat.mul_add_mod,Nat.mod_eq_of_lt hv]⟩
 unfold pv mant xpn
 rcases Nat.lt_or_ge u (2^(fP f-1)) with h1 | h1
 ·have hJ:J=0:=by omega
  obtain ⟨a1,a2⟩:=hd 0 u h1 (by rw [hJ])
  rw [if_pos a1,if_pos a1,a2,hJ]
  unfold qm
  rw [Int.add_zero,Int.sub_self]; rfl
 ·rcases Nat.lt_or_ge u (2^fP f) with h3 | h3
  ·obtain ⟨a1,a2⟩:=hd (J+1) (u-2^(fP f-1)) (by omega) (by rw [Nat.add_mul]; omega)
   rw [if_neg (by omega),if_neg (by omega),a1,a2,Nat.sub_add_cancel h1]
   unfold qm
   congr 2
   omega
  ·have hu2:u=2^fP f:=by omega
   obtain ⟨a1,a2⟩:=hd (J+2) 0 hpp (by rw [Nat.add_mul]; omega)
   rw [if_neg (by omega),if_neg (by omega),a1,a2,Nat.zero_add,hu2,h2p]
   unfold qm
   rw [show (1-(fX f:Int)-(fP f:Int)+1+(((J+2:Nat):Int)-1)-(1-(fX f:Int)-(fP f:Int)+1)).toNat=J+1 by omega,Nat.pow_succ,Nat.mul_comm (2^J) 2,← Nat.mul_assoc,Nat.mul_comm _ 2]
end VL
namespace VL
open Go Vx
theorem plain_lt {f:Int} (hf:Fm f) {x:Nat} (h:x<infF f):x<2^(fW f-1)∧x<2^fW f∧x<2^64:=by
 have h1:=infF_lt hf
 have h2:=two_half hf
 have h3:=fW_le hf
 have:2^fW f≤2^64:=Nat.pow_le_pow_right (by decide) h3
 omega
theorem plain_abs {f:Int} (hf:Fm f) {x:Nat} (h:x<infF f):absF f x=x:=Nat.mod_eq_of_lt (plain_lt hf h).1
theorem plain_facts {f:Int} (hf:Fm f) {x:Nat} (h:x<infF f):chk f x=0∧sF f x=false∧nan f x=false∧isInf f x=false∧eF f x≠fullF f∧snan f x=false:=by
 obtain ⟨h1,h2,h3⟩:=plain_lt hf h
 have ha:=plain_abs hf h
 have hn:nan f x=false:=nan_of_le hf (by omega)
 have hE:eF f x≠fullF f:=by
  rw [eF_abs hf,ha]
  intro he
  have:=Nat.div_add_mod x (2^(fP f-1))
  rw [he] at this
  unfold infF at h
  omega
 refine ⟨chk_ok hf h2,?_,hn,?_,hE,snan_nan hn⟩
 ·unfold sF
  rw [Nat.div_eq_of_lt h1]; rfl
 ·unfold isInf
  rw [beq_eq_false_iff_ne.2 hE]; rfl
theorem plain_zro {f:Int} (hf:Fm f) {x:Nat} (h:x<infF f):zro f x=decide (x=0):=by
 have ha:=plain_abs hf h
 unfold zro
 rw [eF_abs hf,mF_abs hf,ha,Bool.eq_iff_iff,Bool.and_eq_true,beq_iff_eq,beq_iff_eq,decide_eq_true_eq]
 have:=Nat.div_add_mod x (2^(fP f-1))
 constructor
 ·rintro ⟨h1,h2⟩
  rw [h1,h2] at this
  omega
 ·rintro rfl
  exact ⟨Nat.zero_div _,Nat.zero_mod _⟩
def VV (f:Int) (x:Nat):Nat:=mant f x*2^(xpn f x+2600).toNat
theorem VV_ne {f:Int} {x:Nat} (h:mant f x≠0):VV f x≠0:=Nat.mul_ne_zero h (Nat.ne_of_gt (Nat.two_pow_pos _))
theorem rootX_V {f m:Int} (hf:Fm f) {x:Nat} (h0:mant f x≠0):rootX f m (mant f x) (xpn f x)=rootB f m (VV f x) (-1300):=by
 have hPl:=fP_le hf
 have hx:=xpn_tight hf x
 have go:∀ (n:Nat) (e:Int),n≠0→-1200≤e∧e≤1200→rootB f m (n*2^200) (e-100)=rootB f m (n*2^(2*e+2600).toNat) (-1300):=fun n e hn he=>by
  obtain ⟨k,hk⟩:=Int.eq_ofNat_of_zero_le (show 0≤e+1200 by omega)
  have hX:2^(2*100)≤n*2^200:=by
   have:=Nat.mul_le_mul_right (2^200) (show 1≤n by omega)
   rw [Nat.one_mul] at this
   exact this
  have hb:=isq_blen hX
  have hX0:n*2^200≠0:=Nat.mul_ne_zero hn (by decide)
  have:=rootB_fine (f:=f) (m:=m) (k:=k) (E:=e-100) hf hX0 (by omega)
  rw [← this,show e-100-(k:Int)=-1300 by omega]
  congr 1
  rw [Nat.mul_assoc,← Nat.pow_add,← Nat.pow_add]
  congr 2
  omega
 unfold rootX VV
 by_cases ho:xpn f x%2=1
 ·rw [if_pos ho,go _ _ (by omega) (by omega),Nat.mul_assoc,← Nat.pow_succ']
  congr 3
  omega
 ·rw [if_neg ho,go _ _ h0 (by omega)]
  congr 3
  omega
end VL
namespace VL
open Go Vx
theorem rnd_trunc1 {f m:Int} {neg:Bool} {N k:Nat} {E:Int} (hf:Fm f) (hn:N/2^k≠0) (hm:N%2^k≠0→fP f+1≤blen (N/2^k)):rndN f m neg (N/2^k) (E+k) (decide (N%2^k≠0))=rndN f m neg N E false:=by
 have ht:=top_trunc (E:=E) hn
 have htd:topE (N/2^k) (E+k)=E+k+(blen (N/2^k):Int)-1:=rfl
 have hq1:N%2^k≠0→E+k<lowE f (topE N E):=fun h=>by
  have:=hm h
  unfold lowE
  split <;> omega
 have hq2:N%2^k≠0→E+k<topE N E-fP f+1:=fun h=>by
  have:=hm h
  omega
 have hti:isTiny f m neg (N/2^k) (E+k) (decide (N%2^k≠0))=isTiny f m neg N E false:=by
  unfold isTiny
  rw [ht,cutN_trunc hq2]
 unfold rndN
 simp only [ht,cutN_trunc hq1,(cut_trunc hq1).2,hti]
theorem rnd_fine1 {f m:Int} {neg:Bool} {N k:Nat} {E:Int} (hf:Fm f) (hb:fP f+1≤blen (N/2^k)):rndN f m neg (N/2^k) E true=rndN f m neg (2*N+1) (E-k-1) false:=by
 have hP:=fP_ge hf
 have e1:(2*N+1)/2^(k+1)=N/2^k:=by
  rw [Nat.pow_succ,Nat.mul_comm (2^k),← Nat.div_div_eq_div_mul,show (2*N+1)/2=N by omega]
 have e2:(2*N+1)%2^(k+1)≠0:=by
  rw [Nat.pow_succ,Nat.mul_comm (2^k),Nat.mod_mul]; omega
 have h0:N/2^k≠0:=fun h=>by
  rw [h] at hb
  have:blen 0=0:=rfl
  omega
 have:=rnd_trunc1 (f:=f) (m:=m) (neg:=neg) (N:=2*N+1) (k:=k+1) (E:=E-k-1) hf (by rw [e1]; exact h0) (fun _=>by rw [e1]; exact hb)
 rw [e1,decide_eq_true e2,show E-k-1+((k+1:Nat):Int)=E by omega] at this
 exact this
noncomputable def rndS (f m:Int) (neg:Bool) (R:Nat) (E:Int) (more:Bool):Nat×Nat:=if more=true then rndN f m neg (2*R+1) (E-1) false else rndN f m neg R E false
theorem rndS_mark {f m:Int} {neg:Bool} (hf:Fm f) {R:Nat} {E:Int} {more:Bool} (hb:more=true→fP f+1≤blen R):rndN f m neg R E more=rndS f m neg R E more:=by
 unfold rndS
 cases more
 ·rw [if_neg (by decide)]
 ·have:=rnd_fine1 (f:=f) (m:=m) (neg:=neg) (N:=R) (k:=0) (E:=E) hf (by rw [Nat.pow_zero,Nat.div_one]; exact hb rfl)
  rw [Nat.pow_zero,Nat.div_one] at this
  rw [if_pos rfl,this]
  congr 1
  omega
theorem rndS_cut {f m:Int} {neg:Bool} (hf:Fm f) {R k:Nat} {E:Int} {more:Bool} (hb:fP f+1≤blen (R/2^k)):rndS f m neg (R/2^k) (E+k) (more||decide (R%2^k≠0))=rndS f m neg R E more:=by
 have h0:R/2^k≠0:=fun h=>by
  rw [h] at hb
  have:blen 0=0:=rfl
  omega
 rw [← rndS_mark hf (fun _=>hb)]
 unfold rndS
 cases more
 ·rw [if_neg (by decide),Bool.false_or]
  exact rnd_trunc1 hf h0 fun _=>hb
 ·rw [if_pos rfl,Bool.true_or]
  have:=rnd_fine1 (f:=f) (m:=m) (neg:=neg) (N:=R) (k:=k) (E:=E+k) hf hb
  rw [this,show E+(k:Int)-(k:Int)-1=E-1 by omega]
noncomputable def divB (f m:Int) (neg:Bool) (n k:Nat) (e:Int):Nat×Nat:=rndS f m neg (n*2^300/k) (e-300) (decide (n*2^300%k≠0))
theorem quot_fine {n k:Nat} (hk:0<k) (t:Nat):(n*2^t/k)/2^t=n/k∧(n%k≠0↔(n*2^t%k≠0∨(n*2^t/k)%2^t≠0)):=by
 have hpp:=Nat.two_pow_pos t
 have h1:(n*2^t/k)/2^t=n/k:=by
  rw [Nat.div_div_eq_div_mul,Nat.mul_comm k,← Nat.div_div_eq_div_mul,Nat.mul_div_cancel _ hpp]
 refine ⟨h1,?_⟩
 have a1:=Nat.div_add_mod (n*2^t) k
 have a2:=Nat.div_add_mod (n*2^t/k) (2^t)
 have a3:=Nat.div_add_mod n k
 rw [h1] at a2
 generalize n*2^t%k=r at *
 generalize hQ:n*2^t/k=Q at *
 generalize Q%2^t=u at *
 generalize n%k=w at *
 generalize n/k=q at *
 have e:k*u+r=w*2^t:=by
  have h2:(k*q+w)*2^t=k*(2^t*q+u)+r:=by rw [a3,a2,a1]
  rw [Nat.add_mul,Nat.mul_add,Nat.mul_right_comm,Nat.mul_assoc k,← Nat.mul_assoc k] at h2
  omega
 constructor
 ·intro hw
  rcases Nat.eq_zero_or_pos r with hr | hr
  ·right
   intro hu
   rw [hu,hr,Nat.mul_zero] at e
   have:=Nat.mul_pos (show 0<w by omega) hpp
   omega
  ·left; omega
 ·intro h hw
  rw [hw,Nat.zero_mul] at e
  rcases h with h | h
  ·omega
  ·have:=Nat.mul_pos hk (show 0<u by omega)
   omega
theorem div_at {f m:Int} {neg:Bool} (hf:Fm f) {n k:Nat} (hn:n≠0) (hk:0<k) (e:Int) {s:Nat} (hs:s≤300) (h:n*2^s%k≠0→fP f+1≤blen (n*2^s/k)) :
  rndS f m neg (n*2^s/k) (e-s) (decide (n*2^s%k≠0))=divB f m neg n k e:=by
 obtain ⟨t,ht⟩:∃ t,s+t=300:=⟨300-s,by omega⟩
 have e300:n*2^300=n*2^s*2^t:=by rw [Nat.mul_assoc,← Nat.pow_add,ht]
 obtain ⟨q1,q2⟩:=quot_fine (n:=n*2^s) hk t
 unfold divB
 rw [e300]
 by_cases hex:n*2^s%k=0
 ·-- exact
  have hq:n*2^s=k*(n*2^s/k):=by have:=Nat.div_add_mod (n*2^s) k; omega
  have hq0:n*2^s/k≠0:=fun h0=>by
   rw [h0,Nat.mul_zero] at hq
   exact Nat.mul_ne_zero hn (Nat.ne_of_gt (Nat.two_pow_pos s)) hq
  have h1:n*2^s*2^t/k=(n*2^s/k)*2^t:=by
   rw [hq,Nat.mul_assoc k,Nat.mul_div_cancel_left _ hk,Nat.mul_div_cancel_left _ hk]
  have h2:n*2^s*2^t%k=0:=by
   rw [hq,Nat.mul_assoc k,Nat.mul_mod_right]
  rw [h1,h2,hex]
  unfold rndS
  rw [if_neg (by decide),if_neg (by decide),rnd_scale hf hq0]
  congr 1
  omega
 ·have hb:=h hex
  have:=rndS_cut (f:=f) (m:=m) (neg:=neg) hf (R:=n*2^s*2^t/k) (k:=t) (E:=e-300) (more:=decide (n*2^s*2^t%k≠0)) (by rw [q1]; exact hb)
  rw [← this,q1,show e-300+(t:Int)=e-s by omega]
  congr 1
  rw [Bool.eq_iff_iff,Bool.or_eq_true,decide_eq_true_eq,decide_eq_true_eq,decide_eq_true_eq]
  exact q2
noncomputable def divR (f m:Int) (a b:Nat):Int×Int×Int×Unit :=
 bif nan f a||nan f b then ((nanF f:Int),(bif snan f a||snan f b then 1 else 0),0,())
 else bif (isInf f a&&isInf f b)||(zro f a&&zro f b) then ((nanF f:Int),1,0,())
 else bif isInf f a then ((infB f (!(sF f a==sF f b)):Int),0,0,())
 else bif zro f b then ((infB f (!(sF f a==sF f b)):Int),2,0,())
 else bif isInf f b||zro f a then ((sgnF f (!(sF f a==sF f b)):Int),0,0,())
 else (((divB f m (!(sF f a==sF f b)) (mant f a) (mant f b) (xpn f a-xpn f b)).1:Int),((divB f m (!(sF f a==sF f b)) (mant f a) (mant f b) (xpn f a-xpn f b)).2:Int),0,())
noncomputable def divA (f m:Int) (a b:Nat):Int×Int×Int×Unit :=
 if ¬ Fm f then (0,0,2,())
 else if m<0∨m>5 then (0,0,3,())
 else if chk f a≠0 then (0,0,chk f a,())
 else if chk f b≠0 then (0,0,chk f b,())
 else divR f m a b
end VL
namespace VL
open Go Vx
theorem cutJ_ne (neg:Bool) (n j:Nat):cutJ 0 neg n j=n/2^j+(if 2^j<2*(n%2^j)∨(2^j=2*(n%2^j)∧(n/2^j)%2=1) then 1 else 0):=by
 unfold cutJ
 have hr:=Nat.mod_lt n (Nat.two_pow_pos j)
 generalize n/2^j=q
 rcases Nat.eq_zero_or_pos j with h0 | h0
 ·subst h0
  rw [Nat.pow_zero,Nat.mod_one]
  rw [if_neg (fun h=>h.1 rfl),if_neg (by omega),Nat.add_zero]
 ·have hp:2^j=2*2^(j-1):=by rw [Nat.mul_comm,← Nat.pow_succ]; congr 1; omega
  generalize n%2^j=r at *
  have hpp:=Nat.two_pow_pos (j-1)
  rw [hp] at hr ⊢
  unfold clsR
  generalize 2^(j-1)=H at *
  by_cases h1:r=0
  ·subst h1
   rw [if_pos rfl,if_neg (fun h=>h.1 rfl),if_neg (by omega),Nat.add_zero]
  rw [if_neg h1]
  by_cases h2:r<H
  ·rw [if_pos h2]
   have:furM 0 neg (decide (q%2=1)) 1=false:=rfl
   rw [this,if_neg (fun h=>by cases h.2),if_neg (by omega),Nat.add_zero]
  rw [if_neg h2]
  by_cases h3:r=H
  ·rw [if_pos h3]
   have:furM 0 neg (decide (q%2=1)) 2=decide (q%2=1):=rfl
   rw [this]
   by_cases h4:q%2=1
   ·rw [if_pos ⟨by decide,decide_eq_true h4⟩,if_pos (.inr ⟨by omega,h4⟩)]
   ·rw [if_neg (fun h=>h4 (of_decide_eq_true h.2)),if_neg (by omega),Nat.add_zero]
  ·rw [if_neg h3]
   have:furM 0 neg (decide (q%2=1)) 3=true:=rfl
   rw [this,if_pos ⟨by decide,rfl⟩,if_pos (.inl (by omega))]
theorem cutJ_mul (neg:Bool) (u j:Nat):cutJ 0 neg (u*2^j) j=u:=by
 rw [cutJ_ne,Nat.mul_mod_left,Nat.mul_div_cancel _ (Nat.two_pow_pos j),if_neg]
 ·rfl
 ·have:=Nat.two_pow_pos j
  omega
theorem cutJ_near (neg:Bool) (n j:Nat):2*n≤2*(cutJ 0 neg n j*2^j)+2^j∧2*(cutJ 0 neg n j*2^j)≤2*n+2^j:=by
 rw [cutJ_ne]
 have h1:=Nat.div_add_mod n (2^j)
 have h2:=Nat.mod_lt n (Nat.two_pow_pos j)
 rw [Nat.mul_comm] at h1
 generalize n/2^j=q at *
 generalize n%2^j=r at *
 rw [Nat.add_mul]
 split
 ·omega
 ·omega
theorem muE_at {f:Int} (hf:Fm f) (neg:Bool) {d J u:Nat} (hu:u≤2^fP f) (hl:J=0∨2^(fP f-1)≤u):muE f 0 neg d (u*2^(J+d))=J*2^(fP f-1)+u:=by
 have hP:=fP_ge hf
 have h2p:=two_P hf
 unfold muE
 rcases Nat.lt_or_ge u (2^fP f) with h | h
 ·have hb:blen (u*2^(J+d))-fP f-d=J:=by
   have h1:u*2^(J+d)<2^(fP f+(J+d)):=blen_mul h
   have h2:=blen_bound h1
   rcases hl with hl | hl
   ·omega
   ·have h3:2^(fP f-1)*2^(J+d)≤u*2^(J+d):=Nat.mul_le_mul_right _ hl
    rw [← Nat.pow_add] at h3
    have h4:=blen_ge h3
    omega
  rw [hb,cutJ_mul]
 ·have hu2:u=2^fP f:=by omega
  subst hu2
  rw [← Nat.pow_add]
  have hb:blen (2^(fP f+(J+d)))=fP f+(J+d)+1:=blen_of (Nat.le_refl _) (Nat.pow_lt_pow_right (by decide) (by omega))
  rw [hb]
  have hj:fP f+(J+d)+1-fP f-d=J+1:=by omega
  have e:2^(fP f+(J+d))=2^(fP f-1)*2^(J+1+d):=by rw [← Nat.pow_add]; congr 1; omega
  rw [hj,e,cutJ_mul,h2p,Nat.add_mul]
  omega
theorem near_le {N X b x M μ:Nat} (hb:0<b) (hX:X=b*x) (hM:M=b*μ) (h2:2*X≤2*N+b) (h:N≤M):X≤M:=by
 subst hX hM
 have h3:b*(2*x)≤b*(2*μ+1):=by rw [Nat.mul_add,Nat.mul_one,Nat.mul_left_comm b 2,Nat.mul_left_comm b 2]; omega
 have h4:=Nat.le_of_mul_le_mul_left h3 hb
 exact Nat.mul_le_mul_left _ (by omega)
theorem near_ge {N X b x M μ:Nat} (hb:0<b) (hX:X=b*x) (hM:M=b*μ) (h1:2*N≤2*X+b) (h:M≤N):M≤X:=by
 subst hX hM
 have h3:b*(2*μ)≤b*(2*x+1):=by rw [Nat.mul_add,Nat.mul_one,Nat.mul_left_comm b 2,Nat.mul_left_comm b 2]; omega
 have h4:=Nat.le_of_mul_le_mul_left h3 hb
 exact Nat.mul_le_mul_left _ (by omega)
theorem dbl_mu {f:Int} (hf:Fm f) (neg:Bool) {d N j X:Nat} (h0:N≠0) (hj:j+1≤blen N-fP f-d+d) (hX:X%2^j=0) (h1:2*N≤2*X+2^j) (h2:2*X≤2*N+2^j)
  (hmid:X≠N→X%2^(blen N-fP f-d+d)≠2^(blen N-fP f-d+d-1)):muE f 0 neg d X=muE f 0 neg d N:=by
 by_cases hXN:X=N
 ·rw [hXN]
 have hmid:=hmid hXN
 have hP:=fP_ge hf
 have h2p:=two_P hf
 have hqt:=quo_top hf d N
 have hql:=quo_low hf (d:=d) h0
 have hb0:=Nat.two_pow_pos j
 obtain ⟨x,hx⟩:∃ x,X=2^j*x:=⟨X/2^j,by have:=Nat.div_add_mod X (2^j); omega⟩
 rw [show muE f 0 neg d N=(blen N-fP f-d)*2^(fP f-1)+cutJ 0 neg N (blen N-fP f-d+d) from rfl,cutJ_ne]
 have hN:=Nat.div_add_mod N (2^(blen N-fP f-d+d))
 have hr:=Nat.mod_lt N (Nat.two_pow_pos (blen N-fP f-d+d))
 have hJP:blen N-fP f-d=0∨fP f+d≤blen N:=by omega
 generalize hJ:blen N-fP f-d=J at *
 have hH:2^(J+d)=2*2^(J+d-1):=by rw [Nat.mul_comm,← Nat.pow_succ]; congr 1; omega
 have hc:2^(J+d-1)=2^j*2^(J+d-1-j):=by rw [← Nat.pow_add]; congr 1; omega
 have hHp:=Nat.two_pow_pos (J+d-1)
 generalize hq:N/2^(J+d)=q at *
 generalize hrr:N%2^(J+d)=r at *
 have m0:2^(J+d)*q=2^j*(2*2^(J+d-1-j)*q):=by rw [hH,hc]; ac_rfl
 have m1:2^(J+d)*(q+1)=2^j*(2*2^(J+d-1-j)*(q+1)):=by rw [hH,hc]; ac_rfl
 have mh:2^(J+d)*q+2^(J+d-1)=2^j*(2^(J+d-1-j)*(2*q+1)):=by
  rw [hH,hc,Nat.mul_add,Nat.mul_one,Nat.mul_add]
  congr 1
  ac_rfl
 have k0:=near_ge hb0 hx m0 h1 (by omega)
 have k1:=near_le hb0 hx m1 h2 (by rw [Nat.mul_add,Nat.mul_one]; omega)
 have kl:r≤2^(J+d-1)→X≤2^(J+d)*q+2^(J+d-1):=fun h=>near_le hb0 hx mh h2 (by omega)
 have kg:2^(J+d-1)≤r→2^(J+d)*q+2^(J+d-1)≤X:=fun h=>near_ge hb0 hx mh h1 (by omega)
 rw [Nat.mul_add,Nat.mul_one] at k1
 have hl2:J=0∨2^(fP f-1)≤q:=by
  rcases hJP with h | h
  ·exact .inl h
  ·exact .inr (hql h)
 rcases Nat.lt_or_ge X (2^(J+d)*q+2^(J+d)) with hlt | hge
 ·-- below the next
  obtain ⟨r',hr',hrl⟩:∃ r',X=2^(J+d)*q+r'∧r'<2^(J+d):=⟨X-2^(J+d)*q,by omega,by omega⟩
  have hXq:X/2^(J+d)=q:=by rw [hr',Nat.mul_add_div (by omega),Nat.div_eq_of_lt hrl,Nat.add_zero]
  have hXr:X%2^(J+d)=r':=by rw [hr',Nat.mul_add_mod,Nat.mod_eq_of_lt hrl]
  have hbX:blen X-fP f-d=J:=by
   have g1:X<2^(fP f+(J+d)):=by
    have:2^(J+d)*(q+1)≤2^(J+d)*2^fP f:=Nat.mul_le_mul_left _ (by omega)
    rw [← Nat.pow_add,Nat.mul_add,Nat.mul_one] at this
    rw [Nat.add_comm (fP f)]
    omega
   have g2:=blen_bound g1
   rcases hl2 with h | h
   ·omega
   ·have g3:2^(J+d)*2^(fP f-1)≤2^(J+d)*q:=Nat.mul_le_mul_left _ h
    rw [← Nat.pow_add] at g3
    have g4:=blen_ge (n:=X) (k:=J+d+(fP f-1)) (by omega)
    omega
  unfold muE
  rw [hbX,cutJ_ne,hXq,hXr]
  rw [hXr] at hmid
  congr 2
  rcases Nat.lt_trichotomy r (2^(J+d-1)) with h | h | h
  ·have:=kl (by omega)
   rw [if_neg (by omega),if_neg (by omega)]
  ·exfalso
   have:=kl (by omega)
   have:=kg (by omega)
   exact hXN (by omega)
  ·have:=kg (by omega)
   rw [if_pos (by omega),if_pos (by omega)]
 ·-- the next itself
  have hXe:X=(q+1)*2^(J+d):=by rw [Nat.add_mul,Nat.one_mul,Nat.mul_comm q]; omega
  have hrH:2^(J+d-1)<r:=by
   rcases Nat.lt_or_ge (2^(J+d-1)) r with h | h
   ·exact h
   ·have:=kl h
    omega
  rw [hXe,muE_at hf neg (by omega) (by omega),if_pos (by omega)]
end VL
namespace VL
open Go Vx
theorem fin_abs {f:Int} (hf:Fm f) {a:Nat} (h:eF f a≠fullF f):absF f a<infF f:=by
 rw [eF_abs hf] at h
 have hlt:=abs_lt' (f:=f) a
 have h2:absF f a/2^(fP f-1)<2^(fW f-fP f):=by
  rw [Nat.div_lt_iff_lt_mul (Nat.two_pow_pos _),← Nat.pow_add]
  have:=fP_lt hf
  have:=fP_ge hf
  rw [show fW f-fP f+(fP f-1)=fW f-1 by omega]
  exact hlt
 have h3:absF f a/2^(fP f-1)<fullF f:=by unfold fullF at *; omega
 rw [Nat.div_lt_iff_lt_mul (Nat.two_pow_pos _),Nat.mul_comm] at h3
 exact h3
end VL
namespace VL
open Go Vx
theorem zro_absF {f:Int} (hf:Fm f) (a:Nat):(absF f a=0)=(zro f a=true):=by
 unfold zro
 rw [eF_abs hf,mF_abs hf]
 have hp:=Nat.two_pow_pos (fP f-1)
 apply propext
 rw [Bool.and_eq_true,beq_iff_eq,beq_iff_eq]
 constructor
 ·intro h; rw [h]; exact ⟨Nat.zero_div _,Nat.zero_mod _⟩
 ·rintro ⟨h1,h2⟩
  have:=Nat.div_add_mod (absF f a) (2^(fP f-1))
  rw [h1,h2,Nat.mul_zero] at this
  omega
end VL
namespace VL
open Go Vx
theorem rnd_c {f m:Int} {neg:Bool} (hf:Fm f) {n n':Nat} {e e':Int} (c:Int) (hn:n≠0) (hn':n'≠0) (h1:c≤e) (h2:c≤e') (h:n*2^(e-c).toNat=n'*2^(e'-c).toNat):rndN f m neg n e false=rndN f m neg n' e' false:=by
 have a1:=rnd_scale (m:=m) (neg:=neg) hf hn (e-c).toNat c
 have a2:=rnd_scale (m:=m) (neg:=neg) hf hn' (e'-c).toNat c
 rw [h,a2] at a1
 rw [show c+((e-c).toNat:Int)=e by omega,show c+((e'-c).toNat:Int)=e' by omega] at a1
 exact a1.symm
theorem mant_of_abs {f:Int} (hf:Fm f) (a:Nat):mant f (absF f a)=mant f a∧xpn f (absF f a)=xpn f a:=by
 have h1:absF f (absF f a)=absF f a:=Nat.mod_mod _ _
 have e1:eF f (absF f a)=eF f a:=by rw [eF_abs hf,eF_abs hf,h1]
 have e2:mF f (absF f a)=mF f a:=by rw [mF_abs hf,mF_abs hf,h1]
 unfold mant xpn
 rw [e1,e2]
 exact ⟨rfl,rfl⟩
end VL
namespace VL
open Go Vx
def numP (w:Int) (neg:Bool) (x:Nat):Prop:=chk w x=0∧sF w x=neg∧nan w x=false∧isInf w x=false∧zro w x=false∧eF w x≠fullF w
theorem mk_num {w:Int} (hw:Fm w) (neg:Bool) {r:Nat} (h:r<infF w) (h0:r≠0):numP w neg (mkF w neg r)∧mant w (mkF w neg r)=mant w r∧xpn w (mkF w neg r)=xpn w r:=by
 obtain ⟨h1,h2,h3⟩:=plain_lt hw h
 have ha:=mk_abs (f:=w) neg h1
 have hr:=plain_abs hw h
 obtain ⟨_,_,_,_,p5,_⟩:=plain_facts hw h
 have hE:eF w (mkF w neg r)=eF w r:=by rw [eF_abs hw,ha,eF_abs hw,hr]
 have hM:mF w (mkF w neg r)=mF w r:=by rw [mF_abs hw,ha,mF_abs hw,hr]
 have hz:zro w (mkF w neg r)=zro w r:=by unfold zro; rw [hE,hM]
 refine ⟨⟨mk_chk hw neg h1,mk_sgn neg h1,mk_nan hw neg (by omega),?_,?_,by rw [hE]; exact p5⟩,by unfold mant; rw [hE,hM],by unfold xpn; rw [hE]⟩
 ·unfold isInf
  rw [hE,beq_eq_false_iff_ne.2 p5]; rfl
 ·rw [hz,plain_zro hw h,decide_eq_false h0]
theorem rnd_val {w:Int} (hw:Fm w) (neg:Bool) {N d:Nat} (h0:N≠0) (hlow:2^d≤N) (htop:qm w-d+blen N≤fX w) :
  numP w neg (rndN w 0 neg N (qm w-d) false).1 ∧
   mant w (rndN w 0 neg N (qm w-d) false).1*2^(xpn w (rndN w 0 neg N (qm w-d) false).1-(qm w-d)).toNat=cutJ 0 neg N (blen N-fP w-d+d)*2^(blen N-fP w-d+d):=by
 have hP:=fP_ge hw
 have hX:=fX_ge hw
 have h2p:=two_P hw
 have hpp:=Nat.two_pow_pos (fP w-1)
 have hinf:=inf_ge hw
 have hqt:=quo_top hw d N
 have hql:=quo_low hw (d:=d) h0
 have hqm:qm w=1-(fX w:Int)-(fP w:Int)+1:=rfl
 obtain ⟨c1,c2⟩:=cutJ_bound 0 neg N (blen N-fP w-d+d)
 have hJ2:blen N-fP w-d≤2*fX w-2:=by omega
 have hlowJ:blen N-fP w-d=0∨2^(fP w-1)≤cutJ 0 neg N (blen N-fP w-d+d):=by
  rcases Nat.eq_zero_or_pos (blen N-fP w-d) with h | h
  ·exact .inl h
  ·right
   have:=hql (by omega)
   omega
 have hu0:(blen N-fP w-d)*2^(fP w-1)+cutJ 0 neg N (blen N-fP w-d+d)≠0:=by
  rcases hlowJ with h | h
  ·rw [h,Nat.zero_add] at c1 ⊢
   have:1≤N/2^d:=(Nat.le_div_iff_mul_le (Nat.two_pow_pos d)).2 (by omega)
   omega
  ·omega
 have hlt:(blen N-fP w-d)*2^(fP w-1)+cutJ 0 neg N (blen N-fP w-d+d)<infF w:=by
  have h3:(blen N-fP w-d+2)*2^(fP w-1)≤(2*fX w)*2^(fP w-1):=Nat.mul_le_mul_right _ (by omega)
  have h4:(2*fX w+1)*2^(fP w-1)=(2*fX w)*2^(fP w-1)+2^(fP w-1):=by rw [Nat.add_mul,Nat.one_mul]
  have h5:(blen N-fP w-d+2)*2^(fP w-1)=(blen N-fP w-d)*2^(fP w-1)+2*2^(fP w-1):=Nat.add_mul _ _ _
  omega
 have hr:(rndN w 0 neg N (qm w-d) false).1=mkF w neg ((blen N-fP w-d)*2^(fP w-1)+cutJ 0 neg N (blen N-fP w-d+d)):=by
  rw [rnd_M hw,rndM_muE hw 0 neg h0]
  unfold muE
  rw [if_neg (by omega)]
 rw [hr]
 obtain ⟨n1,n2,n3⟩:=mk_num hw neg hlt hu0
 refine ⟨n1,?_⟩
 rw [n2,n3]
 have hpv:=pv_form hw (J:=blen N-fP w-d) (u:=cutJ 0 neg N (blen N-fP w-d+d)) (by omega) (by omega) hlowJ
 unfold pv at hpv
 have hx:=xpn_ge w ((blen N-fP w-d)*2^(fP w-1)+cutJ 0 neg N (blen N-fP w-d+d))
 rw [show (xpn w ((blen N-fP w-d)*2^(fP w-1)+cutJ 0 neg N (blen N-fP w-d+d))-(qm w-d)).toNat=(xpn w ((blen N-fP w-d)*2^(fP w-1)+cutJ 0 neg N (blen N-fP w-d+d))-qm w).toNat+d by omega,Nat.pow_add,← Nat.mul_assoc,hpv,Nat.pow_add,Nat.mul_assoc]
def jwF (w:Int) (N:Nat) (E:Int):Nat:=blen N-fP w-(qm w-E).toNat+(qm w-E).toNat
theorem twice {f w:Int} (hf:Fm f) (hw:Fm w) (hPP:fP f+1≤fP w) (hq:qm w+1≤qm f) (neg:Bool) {N:Nat} {E:Int} (h0:N≠0) (hE:E≤qm w) (hlow:2^(qm w-E).toNat≤N) (htop:E+blen N≤fX w)
  (hmid:∀ X,X%2^jwF w N E=0→2*N≤2*X+2^jwF w N E→2*X≤2*N+2^jwF w N E→X≠N→X%2^jwF f N E≠2^(jwF f N E-1)) :
  numP w neg (rndN w 0 neg N E false).1∧(rndN f 0 neg (mant w (rndN w 0 neg N E false).1) (xpn w (rndN w 0 neg N E false).1) false).1=(rndN f 0 neg N E false).1:=by
 obtain ⟨d,hd⟩:=Int.eq_ofNat_of_zero_le (show 0≤qm w-E by omega)
 obtain ⟨d',hd'⟩:=Int.eq_ofNat_of_zero_le (show 0≤qm f-E by omega)
 have hEw:E=qm w-d:=by omega
 have hEf:E=qm f-d':=by omega
 have t1:(qm w-E).toNat=d:=by omega
 have t2:(qm f-E).toNat=d':=by omega
 unfold jwF at hmid
 rw [t1] at hmid hlow
 rw [t2] at hmid
 obtain ⟨v1,v2⟩:=rnd_val hw neg h0 hlow (by rw [← hEw]; exact htop)
 rw [← hEw] at v1 v2
 refine ⟨v1,?_⟩
 have hm0:=zro_mant v1.2.2.2.2.1
 have hxq:=xpn_ge w (rndN w 0 neg N E false).1
 obtain ⟨n1,n2⟩:=cutJ_near neg N (blen N-fP w-d+d)
 have hk:=dbl_mu hf neg (d:=d') (j:=blen N-fP w-d+d) (X:=cutJ 0 neg N (blen N-fP w-d+d)*2^(blen N-fP w-d+d)) h0 (by omega) (Nat.mul_mod_left _ _) n1 n2
  (hmid _ (Nat.mul_mod_left _ _) n1 n2)
 have hX0:cutJ 0 neg N (blen N-fP w-d+d)*2^(blen N-fP w-d+d)≠0:=by
  rw [← v2]
  exact Nat.mul_ne_zero hm0 (Nat.ne_of_gt (Nat.two_pow_pos _))
 generalize cutJ 0 neg N (blen N-fP w-d+d)*2^(blen N-fP w-d+d)=X at *
 rw [rnd_c hf E hm0 hX0 (by omega) (Int.le_refl E) (by rw [v2,Int.sub_self]; exact (Nat.mul_one X).symm)]
 rw [rnd_M hf,rnd_M hf,hEf,rndM_muE hf 0 neg hX0,rndM_muE hf 0 neg h0,hk]
 dsimp only
 split <;> rfl
theorem near_eq {N X j:Nat} (hN:N%2^j=0) (hX:X%2^j=0) (h1:2*N≤2*X+2^j) (h2:2*X≤2*N+2^j):X=N:=by
 have hb:=Nat.two_pow_pos j
 have eN:N=2^j*(N/2^j):=by have:=Nat.div_add_mod N (2^j); omega
 have eX:X=2^j*(X/2^j):=by have:=Nat.div_add_mod X (2^j); omega
 exact Nat.le_antisymm (near_le hb eX eN h2 (Nat.le_refl _)) (near_ge hb eX eN h1 (Nat.le_refl _))
theorem mod_pow_le {N i j:Nat} (h:N%2^i=0) (hj:j≤i):N%2^j=0 :=
 Nat.mod_eq_zero_of_dvd (Nat.dvd_trans (Nat.pow_dvd_pow 2 hj) (Nat.dvd_of_mod_eq_zero h))
theorem exact_val {w:Int} (hw:Fm w) (neg:Bool) {N:Nat} {E:Int} (h0:N≠0) (hE:E≤qm w) (htop:E+blen N≤fX w) {n i:Nat} (hn:n<2^fP w) (hi:(qm w-E).toNat≤i) (hN:N=n*2^i) :
  numP w neg (rndN w 0 neg N E false).1∧mant w (rndN w 0 neg N E false).1*2^(xpn w (rndN w 0 neg N E false).1-E).toNat=N:=by
 obtain ⟨d,hd⟩:=Int.eq_ofNat_of_zero_le (show 0≤qm w-E by omega)
 have hEw:E=qm w-d:=by omega
 have t1:(qm w-E).toNat=d:=by omega
 rw [t1] at hi
 have hn0:n≠0:=fun h=>h0 (by rw [hN,h,Nat.zero_mul])
 have hlow:2^d≤N:=by
  have h1:2^d≤2^i:=Nat.pow_le_pow_right (by decide) hi
  have h2:1*2^i≤n*2^i:=Nat.mul_le_mul_right _ (by omega)
  omega
 obtain ⟨v1,v2⟩:=rnd_val hw neg h0 hlow (by rw [← hEw]; exact htop)
 rw [← hEw] at v1 v2
 refine ⟨v1,?_⟩
 rw [v2]
 have hb:blen N≤fP w+i:=blen_bound (by rw [hN]; exact blen_mul hn)
 obtain ⟨n1,n2⟩:=cutJ_near neg N (blen N-fP w-d+d)
 exact near_eq (mod_pow_le (i:=i) (by rw [hN]; exact Nat.mul_mod_left _ _) (by omega)) (Nat.mul_mod_left _ _) n1 n2
theorem exact_mid {f w:Int} {N:Nat} {E:Int} {n i p:Nat} (hn:n<2^p) (hp:p≤fP w) (hi:(qm w-E).toNat≤i) (hN:N=n*2^i) :
  ∀ X,X%2^jwF w N E=0→2*N≤2*X+2^jwF w N E→2*X≤2*N+2^jwF w N E→X≠N→X%2^jwF f N E≠2^(jwF f N E-1):=by
 intro X hX h1 h2 hne
 have hb:blen N≤p+i:=blen_bound (by rw [hN]; exact blen_mul hn)
 exact absurd (near_eq (mod_pow_le (i:=i) (by rw [hN]; exact Nat.mul_mod_left _ _) (by unfold jwF; omega)) hX h1 h2) hne
theorem close_mid {A X J:Nat} (hJ:0<J) (hA:A%2^J=0) (h1:X<A+2^(J-1)) (h2:A<X+2^(J-1)):X%2^J≠2^(J-1):=by
 intro h
 have hp:2^J=2*2^(J-1):=by rw [Nat.mul_comm,← Nat.pow_succ]; congr 1; omega
 have hb:=Nat.two_pow_pos (J-1)
 have e1:=Nat.div_add_mod X (2^J)
 have e2:=Nat.div_add_mod A (2^J)
 rw [h] at e1
 rw [hA] at e2
 rw [hp] at e1 e2
 generalize 2^(J-1)=H at *
 generalize X/(2*H)=x at *
 generalize A/(2*H)=a at *
 rcases Nat.lt_trichotomy x a with g | g | g
 ·have:2*H*(x+1)≤2*H*a:=Nat.mul_le_mul_left _ g
  rw [Nat.mul_add,Nat.mul_one] at this
  omega
 ·subst g; omega
 ·have:2*H*(a+1)≤2*H*x:=Nat.mul_le_mul_left _ g
  rw [Nat.mul_add,Nat.mul_one] at this
  omega
theorem sum_mid {f w:Int} (hf:Fm f) (hP:2*fP f+2≤fP w) (hq:qm w+1≤qm f) {n k i j N:Nat} {E:Int} (hE:E≤qm w) (hn:n<2^fP f) (hk:k<2^fP f) (hij:j≤i) (hj:(qm f-E).toNat≤j) (h0:N≠0)
  (hN:N=n*2^i+k*2^j∨N+k*2^j=n*2^i∨N+n*2^i=k*2^j) :
  ∀ X,X%2^jwF w N E=0→2*N≤2*X+2^jwF w N E→2*X≤2*N+2^jwF w N E→X≠N→X%2^jwF f N E≠2^(jwF f N E-1):=by
 intro X hX h1 h2 hne
 have hP8:=fP_ge hf
 have e1:n*2^i=n*2^(i-j)*2^j:=by rw [Nat.mul_assoc,← Nat.pow_add]; congr 2; omega
 have hNj:N%2^j=0:=by
  have a1:n*2^i%2^j=0:=by rw [e1]; exact Nat.mul_mod_left _ _
  have a2:k*2^j%2^j=0:=Nat.mul_mod_left _ _
  have d1:=Nat.dvd_of_mod_eq_zero a1
  have d2:=Nat.dvd_of_mod_eq_zero a2
  apply Nat.mod_eq_zero_of_dvd
  rcases hN with h | h | h
  ·rw [h]; exact Nat.dvd_add d1 d2
  ·exact (Nat.dvd_add_left d2).1 (by rw [h]; exact d1)
  ·exact (Nat.dvd_add_left d1).1 (by rw [h]; exact d2)
 rcases Nat.lt_or_ge j (jwF w N E) with hjw | hjw
 ·-- the parts are far from each other
  have hb:fP w+j<blen N∧jwF w N E=blen N-fP w∧jwF f N E=blen N-fP f:=by unfold jwF at *; omega
  obtain ⟨b1,b2,b3⟩:=hb
  rw [b2] at hX h1 h2
  rw [b3]
  have hNlo:=blen_le h0
  have hNhi:=blen_lt N
  have hkj:k*2^j<2^(fP f+j):=by rw [Nat.pow_add]; exact Nat.mul_lt_mul_of_pos_right hk (Nat.two_pow_pos j)
  have hni:n*2^i<2^(fP f+i):=by rw [Nat.pow_add]; exact Nat.mul_lt_mul_of_pos_right hn (Nat.two_pow_pos i)
  obtain ⟨J,hJ⟩:∃ J,blen N-fP f=J:=⟨_,rfl⟩
  have q1:2^(fP f+j)≤2^(J-3):=Nat.pow_le_pow_right (by decide) (by omega)
  have q2:2^(blen N-fP w)≤2^(J-3):=Nat.pow_le_pow_right (by decide) (by omega)
  have q3:2^(J-1)=4*2^(J-3):=by rw [show J-1=(J-3)+2 by omega,Nat.pow_add]; omega
  have q4:2^(J-1)≤2^(blen N-2):=Nat.pow_le_pow_right (by decide) (by omega)
  have q5:2^(blen N-1)=2*2^(blen N-2):=by rw [show blen N-1=(blen N-2)+1 by omega,Nat.pow_succ]; omega
  have q6:=Nat.two_pow_pos (J-3)
  rw [hJ]
  have hcase:N=n*2^i+k*2^j∨N+k*2^j=n*2^i:=by
   rcases hN with h | h | h
   ·exact .inl h
   ·exact .inr h
   ·omega
  have hiJ:J≤i:=by
   rcases Nat.lt_or_ge i J with g | g
   ·exfalso
    have hi1:fP f+i≤blen N-1:=by omega
    have hA:n*2^i<2^(blen N-1):=Nat.lt_of_lt_of_le hni (Nat.pow_le_pow_right (by decide) hi1)
    rcases hcase with h | h
    ·-- a step below a power of two
     rcases Nat.lt_or_ge (fP f+i) (blen N-1) with g2 | g2
     ·have:n*2^i<2^(blen N-2):=Nat.lt_of_lt_of_le hni (Nat.pow_le_pow_right (by decide) (by omega))
      omega
     ·have hi2:i=J-1:=by omega
      have hn1:(n+1)*2^i≤2^fP f*2^i:=Nat.mul_le_mul_right _ hn
      rw [← Nat.pow_add,Nat.add_mul,Nat.one_mul,show fP f+i=blen N-1 by omega,hi2] at hn1
      rw [hi2] at h
      omega
    ·omega
   ·exact g
  refine close_mid (by omega) (A:=n*2^i) (mod_pow_le (i:=i) (Nat.mul_mod_left _ _) hiJ) ?_ ?_
  ·rcases hcase with h | h <;> omega
  ·rcases hcase with h | h <;> omega
 ·exact absurd (near_eq (mod_pow_le hNj hjw) hX h1 h2) hne
theorem quo_mid {P Pw n k s N X jw jf:Nat} (hP:2*P+2≤Pw) (hn:n<2^P) (hk:k<2^P) (hk0:0<k) (hs:k≤2^s) (h0:N≠0) (hN1:n*2^s<k*N+k) (hN2:k*N<n*2^s+k)
  (hb:Pw<blen N) (hjw:jw=blen N-Pw) (hjf:blen N-P≤jf) (h1:2*N≤2*X+2^jw) (h2:2*X≤2*N+2^jw) (hne:n*2^s≠k*X):X%2^jf≠2^(jf-1):=by
 intro hmid
 have hNlo:=blen_le h0
 have hw2:2^jw=2*2^(jw-1):=by rw [Nat.mul_comm,← Nat.pow_succ]; congr 1; omega
 have hwp:=Nat.two_pow_pos (jw-1)
 have hkX1:k*N≤k*X+k*2^(jw-1):=by rw [← Nat.mul_add]; exact Nat.mul_le_mul_left _ (by omega)
 have hkX2:k*X≤k*N+k*2^(jw-1):=by rw [← Nat.mul_add]; exact Nat.mul_le_mul_left _ (by omega)
 have hkk:k+k*2^(jw-1)≤k*2^jw:=by
  rw [hw2,show k+k*2^(jw-1)=k*(1+2^(jw-1)) by rw [Nat.mul_add,Nat.mul_one]]
  exact Nat.mul_le_mul_left _ (by omega)
 have d1:n*2^s<k*X+k*2^jw:=by omega
 have d2:k*X<n*2^s+k*2^jw:=by omega
 have eX:X=2^(jf-1)*(2*(X/2^jf)+1):=by
  have:=Nat.div_add_mod X (2^jf)
  rw [hmid,show 2^jf=2^(jf-1)*2 by rw [← Nat.pow_succ]; congr 1; omega] at this
  rw [Nat.mul_add,Nat.mul_one,← Nat.mul_assoc]
  rw [show 2^jf=2^(jf-1)*2 by rw [← Nat.pow_succ]; congr 1; omega]
  exact this.symm
 generalize 2*(X/2^jf)+1=μ at eX
 have hkjw:k*2^jw<2^(P+jw):=by rw [Nat.pow_add]; exact Nat.mul_lt_mul_of_pos_right hk (Nat.two_pow_pos jw)
 rcases Nat.lt_or_ge s (jf-1) with hsj | hsj
 ·-- a multiple of 2^s
  have hk2:k*2^(blen N-1)≤k*N:=Nat.mul_le_mul_left _ hNlo
  have hn2:(n+1)*2^s≤2^P*2^s:=Nat.mul_le_mul_right _ hn
  rw [Nat.add_mul,Nat.one_mul,← Nat.pow_add] at hn2
  have hk3:k*2^(blen N-1)=k*2^jw*2^(Pw-1):=by rw [Nat.mul_assoc,← Nat.pow_add]; congr 2; omega
  have hk4:k*2^jw*2^(Pw-1)<2^(P+s):=by omega
  have hk5:k*2^jw<2^s:=by
   rcases Nat.lt_or_ge (k*2^jw) (2^s) with g | g
   ·exact g
   ·exfalso
    have g2:2^s*2^(Pw-1)≤k*2^jw*2^(Pw-1):=Nat.mul_le_mul_right _ g
    rw [← Nat.pow_add] at g2
    have g3:2^(P+s)≤2^(s+(Pw-1)):=Nat.pow_le_pow_right (by decide) (by omega)
    omega
  have e:k*X=(k*(2^(jf-1-s)*μ))*2^s:=by
   rw [eX,show 2^(jf-1)=2^(jf-1-s)*2^s by rw [← Nat.pow_add]; congr 1; omega]
   ac_rfl
  rw [e] at d1 d2 hne
  generalize k*(2^(jf-1-s)*μ)=c at *
  rcases Nat.lt_trichotomy n c with g | g | g
  ·have:(n+1)*2^s≤c*2^s:=Nat.mul_le_mul_right _ g
   rw [Nat.add_mul,Nat.one_mul] at this
   omega
  ·exact hne (by rw [g])
  ·have:(c+1)*2^s≤n*2^s:=Nat.mul_le_mul_right _ g
   rw [Nat.add_mul,Nat.one_mul] at this
   omega
 ·have hk5:k*2^jw<2^(jf-1):=Nat.lt_of_lt_of_le hkjw (Nat.pow_le_pow_right (by decide) (by omega))
  have e:k*X=(k*μ)*2^(jf-1):=by rw [eX]; ac_rfl
  have e2:n*2^s=(n*2^(s-(jf-1)))*2^(jf-1):=by rw [Nat.mul_assoc,← Nat.pow_add]; congr 2; omega
  rw [e,e2] at d1 d2 hne
  generalize k*μ=c at *
  generalize n*2^(s-(jf-1))=m at *
  rcases Nat.lt_trichotomy m c with g | g | g
  ·have:(m+1)*2^(jf-1)≤c*2^(jf-1):=Nat.mul_le_mul_right _ g
   rw [Nat.add_mul,Nat.one_mul] at this
   omega
  ·exact hne (by rw [g])
  ·have:(c+1)*2^(jf-1)≤m*2^(jf-1):=Nat.mul_le_mul_right _ g
   rw [Nat.add_mul,Nat.one_mul] at this
   omega
theorem two_up {a b:Nat} (h:a=b+1):(2:Nat)^a=2*2^b:=by rw [h,Nat.pow_succ,Nat.mul_comm]
theorem root_mid {P Pw n v N X jw jf:Nat} (hP1:1≤P) (hP:2*P+2≤Pw) (hn:n<2^P) (h0:N≠0) (hN1:n*2^v<(N+1)*(N+1)) (hN2:(N-1)*(N-1)<n*2^v)
  (hb:Pw+2*P+8<blen N) (hjw:jw=blen N-Pw) (hjf:jf=blen N-P) (h1:2*N≤2*X+2^jw) (h2:2*X≤2*N+2^jw) (hne:n*2^v≠X*X):X%2^jf≠2^(jf-1):=by
 intro hmid
 have hNlo:=blen_le h0
 have hNhi:=blen_lt N
 obtain ⟨c,hc⟩:∃ c,blen N=c+2*P+2:=⟨blen N-2*P-2,by omega⟩
 rw [hc] at hNlo hNhi hb hjw hjf
 have hw2:2^jw=2*2^(jw-1):=by rw [Nat.mul_comm,← Nat.pow_succ]; congr 1; omega
 have hD:2^(jw-1)≤2^(c-1):=Nat.pow_le_pow_right (by decide) (by omega)
 have hc2:2^c=2*2^(c-1):=by rw [Nat.mul_comm,← Nat.pow_succ]; congr 1; omega
 have hG:2^(jf-1)=2^(c+P+1):=by congr 1; omega
 have hJ2:2^jf=2*2^(c+P+1):=by rw [Nat.mul_comm,← Nat.pow_succ]; congr 1; omega
 have hB:2^(c+2*P+2)=2^P*(2*2^(c+P+1)):=by rw [← two_up (a:=c+P+2) rfl,← Nat.pow_add]; congr 1; omega
 have eX:=Nat.div_add_mod X (2^jf)
 rw [hmid,hG,hJ2] at eX
 have hxle:X+2^(c+P+1)≤2^(c+2*P+2):=by
  have hXB:X<2^(c+2*P+2)+2^(c+P+1):=by
   have:2^(c-1)≤2^(c+P+1):=Nat.pow_le_pow_right (by decide) (by omega)
   omega
  rw [hB] at hXB ⊢
  generalize 2^(c+P+1)=G at *
  generalize X/(2*G)=x at *
  have hx:2*G*x<2*G*2^P:=by
   rw [Nat.mul_comm (2*G) (2^P)]
   omega
  have hx2:x<2^P:=Nat.lt_of_mul_lt_mul_left hx
  have hx3:2*G*(x+1)≤2*G*2^P:=Nat.mul_le_mul_left _ hx2
  rw [Nat.mul_add,Nat.mul_one,Nat.mul_comm (2*G) (2^P)] at hx3
  omega
 have eX2:X=2^(c+P+1)*(2*(X/(2*2^(c+P+1)))+1):=by
  rw [Nat.mul_add,Nat.mul_one,← Nat.mul_assoc,Nat.mul_comm _ 2]
  exact eX.symm
 generalize hμ:2*(X/(2*2^(c+P+1)))+1=μ at eX2
 clear eX hμ
 have hXN1:N≤X+2^(c-1):=by omega
 have hXN2:X≤N+2^(c-1):=by omega
 obtain ⟨D,hDd⟩:∃ D,2^(c-1)=D:=⟨_,rfl⟩
 rw [hDd] at hXN1 hXN2 hc2
 have s1:n*2^v<(X+D+1)*(X+D+1):=Nat.lt_of_lt_of_le hN1 (Nat.mul_le_mul (by omega) (by omega))
 have hXbig:D+1≤X:=by
  have:2^(c-1)*4≤2^(c+2*P+2-1):=by
   rw [show (4:Nat)=2^2 from rfl,← Nat.pow_add]; exact Nat.pow_le_pow_right (by decide) (by omega)
  have hDp:=Nat.two_pow_pos (c-1)
  omega
 have s2:(X-(D+1))*(X-(D+1))<n*2^v:=Nat.lt_of_le_of_lt (Nat.mul_le_mul (by omega) (by omega)) hN2
 have hslack:2*X*(D+1)+(D+1)*(D+1)≤2^(c+2*P+2)*2^c:=by
  have t1:2*X*(D+1)+2*2^(c+P+1)*(D+1)≤2*2^(c+2*P+2)*(D+1):=by
   rw [← Nat.add_mul,← Nat.mul_add]
   exact Nat.mul_le_mul_right _ (Nat.mul_le_mul_left _ hxle)
  have t2:2*2^(c+2*P+2)*(D+1)=2^(c+2*P+2)*2^c+2*2^(c+2*P+2):=by
   rw [hc2,Nat.mul_add,Nat.mul_one,Nat.mul_comm 2 (2^(c+2*P+2)),Nat.mul_assoc]
  have t3:2*2^(c+2*P+2)+(D+1)*(D+1)≤2*2^(c+P+1)*(D+1):=by
   have u1:D+1≤2^c:=by have:=Nat.two_pow_pos (c-1); omega
   have u2:(D+1)*(D+1)≤2^c*(D+1):=Nat.mul_le_mul_right _ u1
   have u3:2*2^(c+2*P+2)≤2^c*(D+1):=by
    have:2^(c+2*P+3)≤2^(c+(c-1)):=Nat.pow_le_pow_right (by decide) (by omega)
    rw [Nat.pow_add 2 c (c-1),hDd] at this
    rw [two_up (a:=c+2*P+3) (b:=c+2*P+2) rfl] at this
    exact Nat.le_trans this (Nat.mul_le_mul_left _ (by omega))
   have u4:2*2^c≤2*2^(c+P+1):=Nat.mul_le_mul_left _ (Nat.pow_le_pow_right (by decide) (by omega))
   have u5:2*2^c*(D+1)≤2*2^(c+P+1)*(D+1):=Nat.mul_le_mul_right _ u4
   rw [Nat.mul_assoc] at u5
   omega
  omega
 have q1:(X+D+1)*(X+D+1)=X*X+(2*X*(D+1)+(D+1)*(D+1)):=by
  rw [Nat.add_assoc X]
  generalize D+1=d
  rw [Nat.add_mul,Nat.mul_add,Nat.mul_add,Nat.mul_comm d X,Nat.two_mul,Nat.add_mul]
  omega
 have q2:X*X+(D+1)*(D+1)≤(X-(D+1))*(X-(D+1))+2*X*(D+1):=by
  obtain ⟨Y,hY⟩:∃ Y,X=Y+(D+1):=⟨X-(D+1),by omega⟩
  rw [show X-(D+1)=Y by omega,hY]
  generalize D+1=d
  rw [Nat.add_mul,Nat.mul_add,Nat.mul_add,Nat.two_mul,Nat.add_mul,Nat.add_mul,Nat.mul_comm d Y]
  omega
 have g1:n*2^v<X*X+2^(c+2*P+2)*2^c:=by omega
 have g2:X*X<n*2^v+2^(c+2*P+2)*2^c:=by omega
 rw [← Nat.pow_add] at g1 g2
 have eXX:X*X=μ*μ*2^(2*c+2*P+2):=by
  have e:2^(2*c+2*P+2)=2^(c+P+1)*2^(c+P+1):=by rw [← Nat.pow_add]; congr 1; omega
  rw [e,eX2]
  generalize 2^(c+P+1)=G
  ac_rfl
 rw [show c+2*P+2+c=2*c+2*P+2 by omega] at g1 g2
 rcases Nat.lt_or_ge v (2*c+2*P+2) with hv | hv
 ·exfalso
  have hv2:2^(c+2*P+2-2)≤N-1:=by
   have e:2^(c+2*P+2-1)=2*2^(c+2*P+2-2):=two_up (by omega)
   have:=Nat.two_pow_pos (c+2*P+2-2)
   omega
  have hv3:=Nat.mul_le_mul hv2 hv2
  rw [← Nat.pow_add] at hv3
  have hv4:n*2^v<2^(P+v):=by rw [Nat.pow_add]; exact Nat.mul_lt_mul_of_pos_right hn (Nat.two_pow_pos v)
  have hv5:2^(c+2*P+2-2+(c+2*P+2-2))<2^(P+v):=by omega
  have hv6:=(Nat.pow_lt_pow_iff_right (a:=2) (by decide)).1 hv5
  omega
 ·have e2:n*2^v=(n*2^(v-(2*c+2*P+2)))*2^(2*c+2*P+2):=by rw [Nat.mul_assoc,← Nat.pow_add]; congr 2; omega
  rw [eXX,e2] at g1 g2 hne
  generalize μ*μ=y at *
  generalize n*2^(v-(2*c+2*P+2))=m at *
  rcases Nat.lt_trichotomy m y with g | g | g
  ·have:(m+1)*2^(2*c+2*P+2)≤y*2^(2*c+2*P+2):=Nat.mul_le_mul_right _ g
   rw [Nat.add_mul,Nat.one_mul] at this
   omega
  ·exact hne (by rw [g])
  ·have:(y+1)*2^(2*c+2*P+2)≤m*2^(2*c+2*P+2):=Nat.mul_le_mul_right _ g
   rw [Nat.add_mul,Nat.one_mul] at this
   omega
end VL
namespace VL
open Go Vx
def Bc (c:Int) (n:Nat) (e:Int):Prop:=c≤e∧e≤6000∧n*2^(e-c).toNat<2^5000
theorem Bc.lt {c:Int} {n:Nat} {e:Int} (h:Bc c n e):n<2^5000:=by
 have:=Nat.le_mul_of_pos_right n (Nat.two_pow_pos (e-c).toNat)
 exact Nat.lt_of_le_of_lt this h.2.2
theorem Bc.od {c:Int} (hc:-4000≤c∧c≤0) {n:Nat} {e:Int} (s:Bool) (h:Bc c n e):Bc c (VL.od s n e).2.1 (VL.od s n e).2.2:=by
 rcases od_cases s n e with ⟨hz,_⟩ | ⟨_,h2,h3,h4,h5⟩
 ·rw [hz]
  exact ⟨hc.2,by dsimp only; omega,by dsimp only; rw [Nat.zero_mul]; exact Nat.two_pow_pos _⟩
 ·have hle:2^(tz n+(e-c).toNat)≤n*2^(e-c).toNat:=by
   rw [Nat.pow_add]
   refine Nat.mul_le_mul_right _ ?_
   have:=Nat.le_mul_of_pos_right (2^tz n) (show 0<(VL.od s n e).2.1 by omega)
   omega
  have hlt:=(Nat.pow_lt_pow_iff_right (a:=2) (by decide)).1 (Nat.lt_of_le_of_lt hle h.2.2)
  have hq:=hc.2
  have h1:=h.1
  refine ⟨by omega,by omega,?_⟩
  have e1:(VL.od s n e).2.1*2^((VL.od s n e).2.2-c).toNat=n*2^(e-c).toNat:=by
   rw [h5,show (e+(tz n:Int)-c).toNat=tz n+(e-c).toNat by omega,Nat.pow_add,← Nat.mul_assoc,Nat.mul_comm _ (2^tz n),← h4]
  rw [e1]; exact h.2.2
end VL
namespace VL
open Go Vx
theorem xpn_top {f:Int} (hf:Fm f) {x:Nat} (h:x<infF f):mant f x<2^fP f∧xpn f x+fP f≤fX f+1:=by
 have h1:=mant_ltP hf x
 obtain ⟨_,_,_,_,h5,_⟩:=plain_facts hf h
 have h2:=e_le (f:=f) x
 have e:fullF f=2*fX f+1:=by unfold fullF; rw [← fX_eq hf]
 have h3:=fX_ge hf
 refine ⟨h1,?_⟩
 unfold xpn
 split <;> omega
theorem VV_top {f:Int} (hf:Fm f) {x:Nat} (h:x<infF f):VV f x<2^(fX f+2601):=by
 obtain ⟨h1,h2⟩:=xpn_top hf h
 have h3:=xpn_tight hf x
 have h4:VV f x<2^fP f*2^(xpn f x+2600).toNat:=Nat.mul_lt_mul_of_pos_right h1 (Nat.two_pow_pos _)
 rw [← Nat.pow_add] at h4
 exact Nat.lt_of_lt_of_le h4 (Nat.pow_le_pow_right (by decide) (by omega))
structure Beside (f:Int) (R d:Nat) (more:Bool) (B:Nat) (inex:Bool) (r:Int→Nat×Nat):Prop where
 fin:B+1<infF f
 pos:B≠0
 low:pv f B*2^d≤R
 high:R<pv f (B+1)*2^d
 ex:inex=(more||decide (pv f B*2^d≠R))
 any:∀ m,0≤m∧m≤5→((r m).1=B∨(inex=true∧(r m).1=B+1))∧(r m).2=(bif inex then 16 else 0)
 down:(r 4).1=B
 up:(r 3).1=B+(bif inex then 1 else 0)
end VL
namespace VL
open Go Vx
theorem W376_list {f:Int} (hf:Fm f) (l:List Nat) (hl:∀ a∈l,a<2^64) (hlen:l.length<1000) :
  W376_7 (((l.length:Int),(Wd l,(f,((0:Int),())))),())=some (bif okL f l then .inl ((),()) else .inr (((4:Int),()),())):=by
 have key:=lfix_ind (m376_7 S69.pre S69.F S66.pre S66.F) (fun x=>l.length-x.1.2.2.2.1.toNat)
  (fun x=>∃ i:Nat,i≤l.length∧okL f (l.take i)=true∧x=(((l.length:Int),(Wd l,(f,((i:Int),())))),()))
  (fun _=>bif okL f l then .inl ((),()) else .inr (((4:Int),()),())) ?_ _ ⟨0,Nat.zero_le _,rfl,rfl⟩
 ·exact key
 intro L x hx hL
 obtain ⟨i,hi,hok,rfl⟩:=hx
 unfold h376_7
 rcases Nat.lt_or_ge i l.length with hlt | hge
 ·have hg:l.getD i 0=l[i]:=by simp [List.getD_eq_getElem?_getD,hlt]
  have hmem:l[i]∈l:=List.getElem_mem hlt
  have ha:=hl _ hmem
  have p0:=T66_eq f l[i] ha
  have e0:decide ((i:Int)<(l.length:Int))=true:=decide_eq_true (by omega)
  have e1:(decide ((0:Int)≤(i:Int))&&decide ((i:Int)<((Wd l).length:Int)))=true:=by rw [Wd_len,decide_eq_true (by omega),decide_eq_true (by omega)]; rfl
  have e2:(Wd l).getD (Int.toNat (i:Int)) 0=((l[i]:Nat):Int):=by rw [Int.toNat_natCast,Wd_getD,hg]
  have e3:IntKind.wrap .i64 ((i:Int)+1)=((i+1:Nat):Int):=by rw [wrapI (by omega)]; omega
  have htk:l.take (i+1)=l.take i++[l[i]]:=by rw [List.take_succ_eq_append_getElem hlt]
  dsimp only
  simp only [e0,e1,e2,e3,cond_true,pre66 p0,fun66 p0]
  by_cases hc:chk f l[i]=0
  ·rw [hc,bne_self_eq_false,cond_false]
   refine hL _ ⟨i+1,by omega,?_,rfl⟩ (by simp only [Int.toNat_natCast]; omega)
   unfold okL at hok ⊢
   rw [htk,List.all_append,hok,List.all_cons,hc]; rfl
  ·have h4:chk f l[i]=4:=(chk_cases hf _).resolve_left hc
   have hno:okL f l=false:=by
    unfold okL
    rw [List.all_eq_false]
    exact ⟨l[i],hmem,by rw [h4]; decide⟩
   rw [h4,hno]; rfl
 ·have e:i=l.length:=by omega
  subst e
  rw [List.take_length] at hok
  have e0:decide ((l.length:Int)<(l.length:Int))=false:=decide_eq_false (by omega)
  simp only [e0,cond_false]
  rw [hok]; rfl
theorem T376_list (f m:Int) (l:List Nat) (hl:∀ a∈l,a<2^64) (hlen:l.length<1000):T376 (f,m,Wd l,())=some (chkL f m l,()):=by
 show t376 S69.pre S69.F S66.pre S66.F W376_7 f m (Wd l)=_
 unfold t376 chkL
 by_cases hf:Fm f
 ·have p0:=T69_ok hf
  rw [if_neg (show ¬ ¬ Fm f from fun h=>h hf)]
  simp only [pre69 p0,fun69 p0,cond_true,bne_self_eq_false,cond_false]
  by_cases hm:m<0∨m>5
  ·rw [if_pos hm]
   have:(decide (m<0)||decide (m>5))=true:=by rcases hm with h | h <;> simp [h]
   rw [this,cond_true]
  ·rw [if_neg hm]
   have:(decide (m<0)||decide (m>5))=false:=by
    rw [decide_eq_false (by omega),decide_eq_false (by omega)]; rfl
   rw [this,cond_false,Wd_len,W376_list hf l hl hlen]
   cases okL f l <;> rfl
 ·have p0:=T69_bad hf
  rw [if_pos hf]
  simp only [pre69 p0,fun69 p0,cond_true]
  rfl
theorem T377_ok {f:Int} {a:Nat} (h:chk f a=0):T377 (f,(a:Int),())=some ((nan f a,snan f a,isInf f a,zro f a,sF f a,()),()):=by
 show t377 S65.pre S65.F S98.pre S98.F f a=_
 unfold t377
 obtain ⟨hf,_⟩:=chk_zero h
 have p0:=T65_ok (pat_lt h) h
 have p1:=T98_ok h
 simp only [pre65 p0,fun65 p0,pre98 p1,fun98 p1,cond_true]
 rw [cls_nan,cls_snan,Bool.or_comm (cls f a==9),cls_isInf,Bool.or_comm (cls f a==6),cls_zro hf]
theorem T378_ok {f:Int} (hf:Fm f) (x:Int):T378 (f,x,())=some ((nanF f:Int),x,0,()):=by
 show t378 S70.pre S70.F f x=_
 unfold t378
 have p0:=T70_ok hf
 simp only [pre70 p0,fun70 p0,cond_true]
theorem dbl_div (N:Nat) {k:Nat} (hk:0<k):(k≤2*(N%k)→2*N/k=2*(N/k)+1∧2*N%k=2*(N%k)-k)∧(2*(N%k)<k→2*N/k=2*(N/k)∧2*N%k=2*(N%k)):=by
 have h1:=Nat.div_add_mod N k
 have h2:=Nat.mod_lt N hk
 generalize N/k=q at *
 generalize N%k=r at *
 constructor
 ·intro h
  have e:2*N=k*(2*q+1)+(2*r-k):=by
   rw [Nat.mul_add,Nat.mul_one,Nat.mul_left_comm k 2 q]; omega
  rw [e,Nat.mul_add_div hk,Nat.mul_add_mod,Nat.div_eq_of_lt (by omega),Nat.mod_eq_of_lt (by omega)]
  exact ⟨rfl,rfl⟩
 ·intro h
  have e:2*N=k*(2*q)+2*r:=by
   rw [Nat.mul_left_comm k 2 q]; omega
  rw [e,Nat.mul_add_div hk,Nat.mul_add_mod,Nat.div_eq_of_lt (by omega),Nat.mod_eq_of_lt (by omega)]
  exact ⟨rfl,rfl⟩
theorem quo_bit {n k D s:Nat} (hk0:0<k) (hk:k<2^64) (hn0:n≠0) (h:blen (n*2^s/k)<D):s<64+D∧n*2^s<2^(64+D):=by
 have h1:n*2^s/k<2^D:=Nat.lt_of_lt_of_le (blen_lt _) (Nat.pow_le_pow_right (by decide) (by omega))
 have h2:n*2^s<2^D*k:=(Nat.div_lt_iff_lt_mul hk0).1 h1
 have h3:2^D*k≤2^D*2^64:=Nat.mul_le_mul_left _ (by omega)
 rw [← Nat.pow_add] at h3
 have h4:1*2^s≤n*2^s:=Nat.mul_le_mul_right _ (by omega)
 rw [Nat.one_mul] at h4
 have h5:2^s<2^(D+64):=by omega
 have h6:=(Nat.pow_lt_pow_iff_right (a:=2) (by decide)).1 h5
 rw [Nat.add_comm 64 D]
 exact ⟨h6,by omega⟩
theorem W379_eq {n k D s0:Nat} (hk0:0<k) (hk:k<2^64) (hn0:n≠0) (hn:n<2^64) (hD:D≤100) (hs0:s0≤64) :
  ∃ s:Nat,s≤64+D∧(n*2^s%k≠0→D≤blen (n*2^s/k)) ∧
   W379_5 (((D:Int),(Dw k,(Dw (n*2^s0%k),((),((),()))))),((false,([],((0:Int),(false,())))),((false,(Dw (n*2^s0/k),(-(s0:Int),(false,())))),()))) =
    some (.inl ((Dw (n*2^s%k),((),((),()))),((false,([],((0:Int),(false,())))),((false,(Dw (n*2^s/k),(-(s:Int),(false,())))),())))):=by
 have key:=lfix_ex (m379_5 S176.pre S176.F S345.pre S345.F S151.pre S151.F S144.pre S144.F S145.pre S145.F S143.pre S143.F) (fun x=>(300+x.2.2.1.2.2.1).toNat)
  (fun x=>∃ s:Nat,s≤64+D∧x=(((D:Int),(Dw k,(Dw (n*2^s%k),((),((),()))))),((false,([],((0:Int),(false,())))),((false,(Dw (n*2^s/k),(-(s:Int),(false,())))),()))))
  (fun y=>∃ s:Nat,s≤64+D∧(n*2^s%k≠0→D≤blen (n*2^s/k))∧y=.inl ((Dw (n*2^s%k),((),((),()))),((false,([],((0:Int),(false,())))),((false,(Dw (n*2^s/k),(-(s:Int),(false,())))),())))) ?_
  _ ⟨s0,by omega,rfl⟩
 ·obtain ⟨y,hy,s,k1,k2,rfl⟩:=key
  exact ⟨s,k1,k2,hy⟩
 intro L x hx hL
 obtain ⟨s,hs,rfl⟩:=hx
 unfold h379_5
 have hr:=Nat.mod_lt (n*2^s) hk0
 have hN:n*2^s<2^(64+(64+D)):=by
  rw [Nat.pow_add]
  exact Nat.lt_of_lt_of_le (Nat.mul_lt_mul_of_pos_right hn (Nat.two_pow_pos s)) (Nat.mul_le_mul_left _ (Nat.pow_le_pow_right (by decide) hs))
 have hq:n*2^s/k<2^(64+(64+D)):=Nat.lt_of_le_of_lt (Nat.div_le_self _ _) hN
 have hqb:=b5000 hq (by omega)
 have hrb:=b5000 (Nat.lt_trans hr hk) (by decide)
 have hkb:=b5000 hk (by decide)
 have p0:=T151_Dw hqb
 have e2s:2*(n*2^s)=n*2^(s+1):=by rw [Nat.pow_succ]; ac_rfl
 obtain ⟨d1,d2⟩:=dbl_div (n*2^s) hk0
 rw [e2s] at d1 d2
 have hstop:=quo_bit (n:=n) (k:=k) (D:=D) (s:=s) hk0 hk hn0
 have gen:=hL
 dsimp only at gen ⊢
 generalize hQ:n*2^s/k=q at *
 generalize hR:n*2^s%k=r at *
 simp only [pre151 p0,fun151 p0,cond_true]
 by_cases hgo:blen q<D∧r≠0
 ·obtain ⟨g1,g2⟩:=hgo
  have hs1:=(hstop g1).1
  rw [decide_eq_true (show (blen q:Int)<(D:Int) by omega),Dw_len_gt g2]
  have p1:=T143_dw hqb hqb
  have p2:=T143_dw hrb hrb
  have h65:r+r<2^65:=by
   have:(2:Nat)^65=2*2^64:=by decide
   omega
  have hrr:=b5000 h65 (by decide)
  have hqq:q+q<2^(65+(64+D)):=by
   have:(2:Nat)^(65+(64+D))=2*2^(64+(64+D)):=by rw [show 65+(64+D)=(64+(64+D))+1 by omega,Nat.pow_succ,Nat.mul_comm]
   omega
  have p3:=T144_eq hrr hkb
  have ew:IntKind.wrap .i64 (-(s:Int)-1)=-((s+1:Nat):Int):=by rw [wrapI (by omega)]; omega
  simp only [Bool.and_self,cond_true,pre143 p1,fun143 p1,pre143 p2,fun143 p2,pre144 p3,fun144 p3,ew]
  have hμ:(300 + -((s+1:Nat):Int)).toNat<(300 + -(s:Int)).toNat:=by omega
  by_cases hge:k≤2*r
  ·obtain ⟨f1,f2⟩:=d1 hge
   have p4:=T145_eq hrr (show k≤r+r by omega)
   have p5:=T143_dw (b5000 hqq (by omega)) (show 1<(2^64)^5000 from b5000 (k:=1) (by decide) (by decide))
   rw [Dw_one] at p5
   have eg:decide ((if r+r=k then (0:Int) else if r+r<k then -1 else 1)≥0)=true:=by
    by_cases h:r+r=k
    ·rw [if_pos h]; rfl
    ·rw [if_neg h,if_neg (by omega)]; rfl
   rw [eg]
   simp only [cond_true,pre145 p4,fun145 p4,pre143 p5,fun143 p5]
   refine gen _ ⟨s+1,by omega,?_⟩ hμ
   rw [f1,f2,show 2*q+1=q+q+1 by omega,show 2*r-k=r+r-k by omega]
  ·obtain ⟨f1,f2⟩:=d2 (by omega)
   have eg:decide ((if r+r=k then (0:Int) else if r+r<k then -1 else 1)≥0)=false:=by
    rw [if_neg (by omega),if_pos (by omega)]; rfl
   rw [eg]
   simp only [cond_false]
   refine gen _ ⟨s+1,by omega,?_⟩ hμ
   rw [f1,f2,show 2*q=q+q by omega,show 2*r=r+r by omega]
 ·have e:(decide ((blen q:Int)<(D:Int))&&decide (((Dw r).length:Int)>0))=false:=by
   by_cases g1:blen q<D
   ·have g2:r=0:=Classical.not_not.1 fun h=>hgo ⟨g1,h⟩
    rw [g2,Dw_zero]
    exact Bool.and_false _
   ·rw [decide_eq_false (show ¬ (blen q:Int)<(D:Int) by omega),Bool.false_and]
  rw [e,cond_false]
  refine ⟨_,rfl,s,hs,?_,?_⟩
  ·intro h
   rw [hR] at h
   rw [hQ]
   by_cases g1:blen q<D
   ·exact absurd ⟨g1,h⟩ hgo
   ·omega
  ·rw [hQ,hR]
theorem T379_eq {n k D:Nat} (hk0:k≠0) (hk:k<2^64) (hn0:n≠0) (hn:n<2^64) (hD:D≤100) :
  ∃ s:Nat,s≤64+D∧(n*2^s%k≠0→D≤blen (n*2^s/k)) ∧
   T379 (Dw n,Dw k,(D:Int),())=some ((false,Dw (n*2^s/k),(-(s:Int)),decide (n*2^s%k≠0),()),()):=by
 have bk:=blen_bound hk
 have bn:=blen_bound hn
 have p0:=T151_Dw (b5000 hk (by decide))
 have p1:=T151_Dw (b5000 hn (by decide))
 obtain ⟨s0,hs0,hsl⟩:∃ s0:Nat,(if (blen k:Int)-(blen n:Int)-1>0 then (blen k:Int)-(blen n:Int)-1 else 0)=(s0:Int)∧s0≤64:=by
  by_cases h:(blen k:Int)-(blen n:Int)-1>0
  ·exact ⟨blen k-blen n-1,by rw [if_pos h]; omega,by omega⟩
  ·exact ⟨0,by rw [if_neg h]; rfl,by omega⟩
 obtain ⟨s,k1,k2,k3⟩:=W379_eq (D:=D) (s0:=s0) (by omega) hk hn0 hn hD hsl
 refine ⟨s,k1,k2,?_⟩
 show t379 S176.pre S176.F S345.pre S345.F S151.pre S151.F S144.pre S144.F S145.pre S145.F S143.pre S143.F W379_5 (Dw n) (Dw k) D=_
 unfold t379
 have hN:n*2^s0<2^128:=by
  rw [show (128:Nat)=64+64 from rfl,Nat.pow_add]
  exact Nat.lt_of_lt_of_le (Nat.mul_lt_mul_of_pos_right hn (Nat.two_pow_pos s0)) (Nat.mul_le_mul_left _ (Nat.pow_le_pow_right (by decide) hsl))
 have hN':n*2^s0<(2^64)^1024:=Nat.lt_of_lt_of_le hN (by rw [← Nat.pow_mul]; exact Nat.pow_le_pow_right (by decide) (by decide))
 have hk':k<(2^64)^1024:=Nat.lt_of_lt_of_le hk (by rw [← Nat.pow_mul]; exact Nat.pow_le_pow_right (by decide) (by decide))
 have p2:=T176_eq (dg (2^64) n) (Dw_ws (b5000 hn (by decide))) s0 (by omega) (by rw [nv_Dw]; exact hN')
 rw [nv_Dw] at p2
 have p2:T176 (Dw n,(s0:Int),())=_:=p2
 have p3:=T345_eq hN' hk' hk0
 have w1:IntKind.wrap .i64 ((blen k:Int)-(blen n:Int))=(blen k:Int)-(blen n:Int):=wrapI (by omega)
 have w2:IntKind.wrap .i64 ((blen k:Int)-(blen n:Int)-1)=(blen k:Int)-(blen n:Int)-1:=wrapI (by omega)
 have w3:IntKind.wrap .i64 (0-(s0:Int))=-(s0:Int):=by rw [wrapI (by omega)]; omega
 simp only [pre151 p0,fun151 p0,pre151 p1,fun151 p1,cond_true,w1,w2,hs0,pre176 p2,fun176 p2,pre345 p3,fun345 p3,w3,k3]
 show some _=_
 congr 4
 by_cases h:n*2^s%k=0
 ·rw [h,Dw_zero]; rfl
 ·rw [Dw_len_gt h,decide_eq_true h]
theorem T102_dw {n:Nat} (hn:n<(2^64)^5000):T102 (Dw n,())=some (Dw n,()):=by
 have p0:=T102_eq (dg (2^64) n) (Dw_ws hn)
 rw [nv_Dw] at p0
 exact p0
theorem T380_eq {f m:Int} (hf:Fm f) (hm:0≤m∧m≤5) (neg:Bool) {n k:Nat} (hk0:k≠0) (hk:k<2^64) (hn0:n≠0) (hn:n<2^64) {e:Int} (he:-40000≤e∧e≤40000) :
  T380 (f,m,neg,Dw n,Dw k,e,())=some (((divB f m neg n k e).1:Int),((divB f m neg n k e).2:Int),0,()):=by
 show t380 S105.pre S105.F S102.pre S102.F S156.pre S156.F S379.pre S379.F S107.pre S107.F f m neg (Dw n) (Dw k) e=_
 unfold t380
 have hP:=fP_lt hf
 have hP2:=fP_le hf
 have p0:=T105_ok hf hm
 have p1:=T102_dw (b5000 hk (by decide))
 have p2:=T102_dw (b5000 hn (by decide))
 obtain ⟨s,k1,k2,p3⟩:=T379_eq (D:=fP f+3) hk0 hk hn0 hn (by omega)
 have hN:n*2^s<2^(64+s):=by
  rw [Nat.pow_add]
  exact Nat.mul_lt_mul_of_pos_right hn (Nat.two_pow_pos s)
 have hq:n*2^s/k<2^(64+s):=Nat.lt_of_le_of_lt (Nat.div_le_self _ _) hN
 have p4:=T107_eq neg (n*2^s/k) (e-s) (decide (n*2^s%k≠0)) f m hf (big_lt hq (by omega)) (by omega)
 rw [rndS_mark hf (fun h=>by have:=k2 (of_decide_eq_true h); omega),div_at hf hn0 (by omega) e (by omega) (fun h=>by have:=k2 h; omega)] at p4
 have r1:(rowOf f).2.1=(fP f:Int):=rfl
 have w1:IntKind.wrap .i64 ((fP f:Int)+3)=((fP f+3:Nat):Int):=by rw [wrapI (by omega)]; omega
 have w2:IntKind.wrap .i64 (-(s:Int)+e)=e-s:=by rw [wrapI (by omega)]; omega
 have l1:(Dw n).length=1:=by rw [Dw_small hn0 hn]; rfl
 have l2:(Dw k).length=1:=by rw [Dw_small hk0 hk]; rfl
 have w3:decide (IntKind.wrap .i64 (((1:Nat):Int)+((1:Nat):Int))>1024)=false:=by decide
 have w4:(decide (e<(-(40000:Int)))||decide (e>(40000:Int)))=false:=by rw [decide_eq_false (by omega),decide_eq_false (by omega)]; rfl
 have w5:((((1:Nat):Int))==(0:Int))=false:=by decide
 simp only [pre105 p0,fun105 p0,bne_self_eq_false,cond_true,cond_false,pre102 p1,fun102 p1,pre102 p2,fun102 p2,l1,l2,w3,w4,w5,r1,w1,pre379 p3,fun379 p3,w2,pre107 p4,fun107 p4]
theorem divB_pow {f m:Int} {neg:Bool} (hf:Fm f) {n k t u:Nat} (hn0:n≠0) (hk0:k≠0) (hn:n*2^t<2^53) (hk:k*2^u<2^53) (e:Int) :
  divB f m neg (n*2^t) (k*2^u) e=divB f m neg n k (e+t-u):=by
 have hP:=fP_le hf
 have ht:t<53:=by
  have:1*2^t≤n*2^t:=Nat.mul_le_mul_right _ (by omega)
  exact (Nat.pow_lt_pow_iff_right (a:=2) (by decide)).1 (by omega)
 have hu:u<53:=by
  have:1*2^u≤k*2^u:=Nat.mul_le_mul_right _ (by omega)
  exact (Nat.pow_lt_pow_iff_right (a:=2) (by decide)).1 (by omega)
 obtain ⟨s,hs⟩:∃ s,s+u=120+t:=⟨120+t-u,by omega⟩
 have hk1:0<k:=by omega
 have hup:=Nat.two_pow_pos u
 have e1:n*2^t*2^120=n*2^s*2^u:=by
  rw [Nat.mul_assoc,Nat.mul_assoc,← Nat.pow_add,← Nat.pow_add,hs,Nat.add_comm]
 have hbig:fP f+1≤blen (n*2^s/k):=by
  apply blen_ge
  rw [Nat.le_div_iff_mul_le hk1]
  have h1:2^fP f*(k*2^u)≤2^53*2^53:=Nat.mul_le_mul (Nat.pow_le_pow_right (by decide) hP) (by omega)
  have h2:1*2^(120+t)≤n*2^(120+t):=Nat.mul_le_mul_right _ (by omega)
  have h3:(2:Nat)^53*2^53≤2^(120+t):=by rw [← Nat.pow_add]; exact Nat.pow_le_pow_right (by decide) (by omega)
  have h4:2^fP f*k*2^u≤n*2^s*2^u:=by
   rw [Nat.mul_assoc,Nat.mul_assoc n,← Nat.pow_add,hs]
   omega
  exact Nat.le_of_mul_le_mul_right h4 hup
 have a1:=div_at (f:=f) (m:=m) (neg:=neg) hf (n:=n*2^t) (k:=k*2^u) (Nat.mul_ne_zero hn0 (Nat.ne_of_gt (Nat.two_pow_pos t))) (Nat.mul_pos hk1 hup) e (s:=120) (by decide)
  (by rw [e1,Nat.mul_div_mul_right _ _ hup]; exact fun _=>hbig)
 have a2:=div_at (f:=f) (m:=m) (neg:=neg) hf hn0 hk1 (e+t-u) (s:=s) (by omega) (fun _=>hbig)
 rw [← a1,← a2,e1,Nat.mul_div_mul_right _ _ hup,Nat.mul_mod_mul_right,show e-((120:Nat):Int)=e+(t:Int)-(u:Int)-(s:Int) by omega]
 congr 1
 rw [Bool.eq_iff_iff,decide_eq_true_eq,decide_eq_true_eq]
 constructor
 ·intro h hc
  rw [hc,Nat.zero_mul] at h
  exact h rfl
 ·intro h
  exact Nat.mul_ne_zero h (by omega)
theorem divB_od {f m:Int} {neg:Bool} (hf:Fm f) (s s':Bool) {n k:Nat} (hn0:n≠0) (hk0:k≠0) (hn:n<2^53) (hk:k<2^53) (x y:Int) :
  divB f m neg (od s n x).2.1 (od s' k y).2.1 ((od s n x).2.2-(od s' k y).2.2)=divB f m neg n k (x-y):=by
 rcases od_cases s n x with ⟨_,h⟩ | ⟨_,h2,_,h4,h5⟩
 ·exact absurd h hn0
 rcases od_cases s' k y with ⟨_,h⟩ | ⟨_,g2,_,g4,g5⟩
 ·exact absurd h hk0
 generalize (od s n x).2.1=n1 at *
 generalize (od s' k y).2.1=k1 at *
 rw [h5,g5]
 rw [Nat.mul_comm] at h4 g4
 have:=divB_pow (f:=f) (m:=m) (neg:=neg) hf (n:=n1) (k:=k1) (t:=tz n) (u:=tz k) (by omega) (by omega) (by rw [← h4]; exact hn) (by rw [← g4]; exact hk) (x-y)
 rw [← h4,← g4] at this
 rw [this]
 congr 1
 omega
theorem snan_nan' {f:Int} {a:Nat} (h:snan f a=true):nan f a=true:=by
 cases hn:nan f a
 ·rw [snan_nan hn] at h; exact absurd h (by decide)
 ·rfl
theorem fin_of {f:Int} {a:Nat} (h1:nan f a=false) (h2:isInf f a=false):eF f a≠fullF f:=fun he=>by
 unfold nan at h1
 unfold isInf at h2
 rw [he] at h1 h2
 simp at h1 h2
 exact h2 h1
theorem T381_eq (f m:Int) {a b:Nat} (ha:a<2^64) (hb:b<2^64):T381 (f,m,(a:Int),(b:Int),())=some (divA f m a b):=by
 show t381 S376.pre S376.F S377.pre S377.F S378.pre S378.F S97.pre S97.F S118.pre S118.F S40.pre S40.F S380.pre S380.F f m a b=_
 unfold t381 divA
 have p0:=T376_list f m [a,b] (fun c hc=>by
  rcases List.mem_cons.1 hc with rfl | hc
  ·exact ha
  ·rw [List.mem_singleton] at hc; omega) (show (2:Nat)<1000 by decide)
 have p0:T376 (f,m,((a:Int)::((b:Int)::[])),())=_:=p0
 simp only [pre376 p0,fun376 p0,cond_true]
 clear p0
 unfold chkL
 by_cases hf:¬ Fm f
 ·rw [if_pos hf,if_pos hf]; rfl
 have hf:=Classical.not_not.1 hf
 rw [if_neg (show ¬ ¬ Fm f from fun h=>h hf),if_neg (show ¬ ¬ Fm f from fun h=>h hf)]
 by_cases hm:m<0∨m>5
 ·rw [if_pos hm,if_pos hm]; rfl
 rw [if_neg hm,if_neg hm]
 have hm':0≤m∧m≤5:=by omega
 have ho:okL f [a,b]=(chk f a==0&&(chk f b==0&&true)):=rfl
 rw [ho]
 by_cases hca:chk f a≠0
 ·have h4:=(chk_cases hf a).resolve_left hca
  rw [if_pos hca,h4]; rfl
 have hca:=Classical.not_not.1 hca
 rw [if_neg (fun h=>h hca),hca]
 by_cases hcb:chk f b≠0
 ·have h4:=(chk_cases hf b).resolve_left hcb
  rw [if_pos hcb,h4]; rfl
 have hcb:=Classical.not_not.1 hcb
 rw [if_neg (fun h=>h hcb),hcb]
 have e0:((bif ((0:Int)==0&&((0:Int)==0&&true)) then (0:Int) else 4) != 0)=false:=rfl
 rw [e0,cond_false]
 have p1:=T377_ok hca
 have p2:=T377_ok hcb
 have p3:=T378_ok hf 0
 have p4:=T378_ok hf 1
 have p5:=T97_ok hf (!(sF f a==sF f b))
 have p6:=T118_ok hf (!(sF f a==sF f b))
 have ma:=mant_lt hf a
 have mb:=mant_lt hf b
 have xa:=xpn_bound hf a
 have xb:=xpn_bound hf b
 simp only [pre377 p1,fun377 p1,pre377 p2,fun377 p2,cond_true,pre378 p3,fun378 p3,pre378 p4,fun378 p4,pre97 p5,fun97 p5,pre118 p6,fun118 p6]
 unfold divR
 cases sa:snan f a
 ·cases sb:snan f b
  ·simp only [Bool.or_self,cond_false]
   cases na:nan f a
   ·cases nb:nan f b
    ·simp only [Bool.or_self,cond_false]
     cases hi:isInf f a&&isInf f b||zro f a&&zro f b
     ·simp only [cond_false]
      cases ia:isInf f a
      ·simp only [cond_false]
       cases zb:zro f b
       ·simp only [cond_false]
        cases iz:isInf f b||zro f a
        ·simp only [cond_false]
         rw [Bool.or_eq_false_iff] at iz
         have q1:=T40_fin hca (fin_of na ia)
         have q2:=T40_fin hcb (fin_of nb iz.1)
         have mza:=zro_mant iz.2
         have mzb:=zro_mant zb
         obtain ⟨o1,o2,o3⟩:=od_bound2 (sF f a) (n:=mant f a) (xpn f a) ma xa
         obtain ⟨o4,o5,o6⟩:=od_bound2 (sF f b) (n:=mant f b) (xpn f b) mb xb
         have n1:(od (sF f a) (mant f a) (xpn f a)).2.1≠0:=by
          rcases od_cases (sF f a) (mant f a) (xpn f a) with ⟨_,h⟩ | ⟨_,h2,_,_,_⟩
          ·exact absurd h mza
          ·omega
         have n2:(od (sF f b) (mant f b) (xpn f b)).2.1≠0:=by
          rcases od_cases (sF f b) (mant f b) (xpn f b) with ⟨_,h⟩ | ⟨_,h2,_,_,_⟩
          ·exact absurd h mzb
          ·omega
         have q3:=T380_eq hf hm' (!(sF f a==sF f b)) (n:=(od (sF f a) (mant f a) (xpn f a)).2.1) (k:=(od (sF f b) (mant f b) (xpn f b)).2.1) n2 (by omega) n1 (by omega) (e:=(od (sF f a) (mant f a) (xpn f a)).2.2-(od (sF f b) (mant f b) (xpn f b)).2.2) (by omega)
         rw [divB_od hf _ _ mza mzb ma mb] at q3
         have w1:IntKind.wrap .i64 ((od (sF f a) (mant f a) (xpn f a)).2.2-(od (sF f b) (mant f b) (xpn f b)).2.2)=(od (sF f a) (mant f a) (xpn f a)).2.2-(od (sF f b) (mant f b) (xpn f b)).2.2:=wrapI (by omega)
         have d1:∀ t:Bool×Nat×Int,(dyO t).2.1=Dw t.2.1:=fun _=>rfl
         have d2:∀ t:Bool×Nat×Int,(dyO t).2.2.1=t.2.2:=fun _=>rfl
         simp only [pre40 q1,fun40 q1,pre40 q2,fun40 q2,cond_true,d1,d2,w1,pre380 q3,fun380 q3]
        ·rfl
       ·rfl
      ·rfl
     ·rfl
    ·rfl
   ·cases nb:nan f b <;> rfl
  ·have nb:=snan_nan' sb
   rw [nb,Bool.or_true,Bool.or_true]; rfl
 ·have na:=snan_nan' sa
  rw [na]; rfl
end VL
namespace VL
open Go Vx
def wid (f w:Int):Prop:=(f=0∧w=2)∨(f=0∧w=3)∨(f=1∧w=3)∨(f=2∧w=3)
theorem wid_facts {f w:Int} (h:wid f w):Fm f∧Fm w∧2*fP f+2≤fP w∧qm w+fP w+2≤qm f-fX f-3∧qm w≤2*qm f∧2*fX f+4≤fX w∧(fX f:Int)-qm f+4≤fX w∧2*((fP f:Int)+1)+qm f≤0∧qm w+1≤qm f:=by
 rcases h with ⟨rfl,rfl⟩ | ⟨rfl,rfl⟩ | ⟨rfl,rfl⟩ | ⟨rfl,rfl⟩ <;> exact ⟨⟨by decide,by decide⟩,⟨by decide,by decide⟩,by decide,by decide,by decide,by decide,by decide,by decide,by decide⟩
def convN (f w:Int) (a:Nat):Nat :=
 bif nan f a then nanF w else bif isInf f a then infB w (sF f a) else bif zro f a then sgnF w (sF f a) else (rndN w 0 (sF f a) (mant f a) (xpn f a) false).1
theorem nan_facts {w:Int} (hw:Fm w):chk w (nanF w)=0∧nan w (nanF w)=true∧isInf w (nanF w)=false∧zro w (nanF w)=false:=by
 rcases Fm_cases hw with rfl | rfl | rfl | rfl <;> decide +kernel
theorem inf_facts {w:Int} (hw:Fm w) (s:Bool):chk w (infB w s)=0∧nan w (infB w s)=false∧isInf w (infB w s)=true∧zro w (infB w s)=false∧sF w (infB w s)=s:=by
 rcases Fm_cases hw with rfl | rfl | rfl | rfl <;> cases s <;> decide +kernel
theorem zro_facts {w:Int} (hw:Fm w) (s:Bool):chk w (sgnF w s)=0∧nan w (sgnF w s)=false∧isInf w (sgnF w s)=false∧zro w (sgnF w s)=true∧sF w (sgnF w s)=s∧mant w (sgnF w s)=0:=by
 rcases Fm_cases hw with rfl | rfl | rfl | rfl <;> cases s <;> decide +kernel
theorem conv_nan {w:Int} (hw:Fm w) (f:Int):convN w f (nanF w)=nanF f:=by
 unfold convN
 rw [(nan_facts hw).2.1,cond_true]
theorem conv_inf {w:Int} (hw:Fm w) (f:Int) (s:Bool):convN w f (infB w s)=infB f s:=by
 obtain ⟨_,h2,h3,_,h5⟩:=inf_facts hw s
 unfold convN
 rw [h2,h3,h5,cond_false,cond_true]
theorem conv_zro {w:Int} (hw:Fm w) (f:Int) (s:Bool):convN w f (sgnF w s)=sgnF f s:=by
 obtain ⟨_,h2,h3,h4,h5,_⟩:=zro_facts hw s
 unfold convN
 rw [h2,h3,h4,h5,cond_false,cond_false,cond_true]
theorem conv_num {w:Int} (f:Int) {s:Bool} {x:Nat} (h:numP w s x):convN w f x=(rndN f 0 s (mant w x) (xpn w x) false).1:=by
 obtain ⟨_,h2,h3,h4,h5,_⟩:=h
 unfold convN
 rw [h2,h3,h4,h5,cond_false,cond_false,cond_false]
def same (f w:Int) (a x:Nat):Prop :=
 chk f a=0∧chk w x=0∧nan w x=nan f a∧isInf w x=isInf f a∧zro w x=zro f a∧(nan f a=false→sF w x=sF f a)∧(nan f a=false→isInf f a=false→VV w x=VV f a)
theorem VV_topA {f:Int} (hf:Fm f) {a:Nat} (h:eF f a≠fullF f):VV f a<2^(fX f+2601):=by
 have h1:=VV_top hf (fin_abs hf h)
 obtain ⟨m1,m2⟩:=mant_of_abs hf a
 unfold VV at h1 ⊢
 rwa [m1,m2] at h1
theorem xpn_topA {f:Int} (hf:Fm f) {a:Nat} (h:eF f a≠fullF f):xpn f a+fP f≤fX f+1:=by
 have h1:=(xpn_top hf (fin_abs hf h)).2
 rwa [(mant_of_abs hf a).2] at h1
theorem inf_self {f:Int} {a:Nat} (ha:chk f a=0) (h:isInf f a=true):a=infB f (sF f a):=by
 obtain ⟨hf,_⟩:=chk_zero ha
 obtain ⟨i1,_,i3,_,i5⟩:=inf_facts hf (sF f a)
 exact inf_same hf ha i1 h i3 i5.symm
theorem zro_self {f:Int} {a:Nat} (ha:chk f a=0) (h:zro f a=true):a=sgnF f (sF f a):=by
 obtain ⟨hf,_⟩:=chk_zero ha
 have h1:=pat_mk ha
 rw [(zro_absF hf a).symm] at h
 rw [h] at h1
 rw [sgn_zero]
 exact h1
theorem same_conv {f w:Int} (h:wid f w) {a:Nat} (ha:chk f a=0):same f w a (convN f w a):=by
 obtain ⟨hf,hw,hP,hq1,hq2,hX1,hX2,_,hq3⟩:=wid_facts h
 unfold same
 cases hn:nan f a
 ·cases hi:isInf f a
  ·have hfin:=fin_of hn hi
   cases hz:zro f a
   ·have e:convN f w a=(rndN w 0 (sF f a) (mant f a) (xpn f a) false).1:=by unfold convN; rw [hn,hi,hz]; rfl
    have m0:=zro_mant hz
    have hx:=xpn_ge f a
    have hqw:=qm_ge hw
    have hN0:=VV_ne (f:=f) (x:=a) m0
    have et:rndN w 0 (sF f a) (mant f a) (xpn f a) false=rndN w 0 (sF f a) (VV f a) (-2600) false :=
     rnd_c hw (-2600) m0 hN0 (by omega) (Int.le_refl _) (by unfold VV; rw [Int.sub_self,show xpn f a - -2600=xpn f a+2600 by omega]; exact (Nat.mul_one _).symm)
    have htop:=blen_bound (VV_topA hf hfin)
    have mlt:mant f a<2^fP w:=Nat.lt_of_lt_of_le (mant_ltP hf a) (Nat.pow_le_pow_right (by decide) (by omega))
    obtain ⟨v1,v2⟩:=exact_val hw (sF f a) (N:=VV f a) (E:=-2600) hN0 (by omega) (by omega) mlt (i:=(xpn f a+2600).toNat) (by omega) rfl
    rw [e,et]
    obtain ⟨q1,q2,q3,q4,q5,q6⟩:=v1
    refine ⟨ha,q1,q3,q4,q5,fun _=>q2,fun _ _=>?_⟩
    rw [Int.sub_neg] at v2
    exact v2
   ·have e:convN f w a=sgnF w (sF f a):=by unfold convN; rw [hn,hi,hz]; rfl
    obtain ⟨z1,z2,z3,z4,z5,z6⟩:=zro_facts hw (sF f a)
    rw [e]
    refine ⟨ha,z1,z2,z3,z4,fun _=>z5,fun _ _=>?_⟩
    have za:=zro_mantB f a
    rw [hz,beq_iff_eq] at za
    have za:mant f a=0:=by omega
    unfold VV
    rw [z6,za,Nat.zero_mul,Nat.zero_mul]
  ·have e:convN f w a=infB w (sF f a):=by unfold convN; rw [hn,hi]; rfl
   obtain ⟨z1,z2,z3,z4,z5⟩:=inf_facts hw (sF f a)
   rw [e]
   have hz:zro f a=false:=by
    rw [inf_self ha hi]
    exact (inf_facts hf (sF f a)).2.2.2.1
   refine ⟨ha,z1,z2,z3,by rw [hz]; exact z4,fun _=>z5,fun _ h=>by cases h⟩
 ·have e:convN f w a=nanF w:=by unfold convN; rw [hn]; rfl
  obtain ⟨z1,z2,z3,z4⟩:=nan_facts hw
  rw [e]
  have hi:isInf f a=false:=by
   unfold nan at hn
   unfold isInf
   rw [Bool.and_eq_true] at hn
   cases hm:mF f a==0
   ·rw [Bool.and_false]
   ·rw [bne,hm] at hn; exact absurd hn.2 (by decide)
  have hz:zro f a=false:=by
   unfold nan at hn
   unfold zro
   rw [Bool.and_eq_true] at hn
   cases hm:mF f a==0
   ·rw [Bool.and_false]
   ·rw [bne,hm] at hn; exact absurd hn.2 (by decide)
  exact ⟨ha,z1,z2,by rw [hi]; exact z3,by rw [hz]; exact z4,fun h=>absurd h (by decide),fun h=>absurd h (by decide)⟩
theorem same_neg {f w:Int} (h:wid f w) {a x:Nat} (s:same f w a x):same f w (negF f a) (negF w x):=by
 obtain ⟨hf,hw,_⟩:=wid_facts h
 obtain ⟨s1,s2,s3,s4,s5,s6,s7⟩:=s
 unfold same
 have z1:zro f (negF f a)=zro f a:=by unfold zro; rw [eF_neg hf,mF_neg hf]
 have z2:zro w (negF w x)=zro w x:=by unfold zro; rw [eF_neg hw,mF_neg hw]
 rw [nan_neg hf,nan_neg hw,inf_neg hf,inf_neg hw,z1,z2,neg_sgn,neg_sgn]
 refine ⟨neg_chk hf a,neg_chk hw x,s3,s4,s5,fun h=>by rw [s6 h],fun h1 h2=>?_⟩
 have:=s7 h1 h2
 unfold VV at this ⊢
 rw [mant_neg hf,mant_neg hw,xpn_neg hf,xpn_neg hw]
 exact this
theorem conv_twice {f w:Int} (hf:Fm f) (hw:Fm w) (hPP:fP f+1≤fP w) (hq:qm w+1≤qm f) (neg:Bool) {N:Nat} {E:Int} (h0:N≠0) (hE:E≤qm w) (hlow:2^(qm w-E).toNat≤N) (htop:E+blen N≤fX w)
  (hmid:∀ X,X%2^jwF w N E=0→2*N≤2*X+2^jwF w N E→2*X≤2*N+2^jwF w N E→X≠N→X%2^jwF f N E≠2^(jwF f N E-1)) :
  convN w f (rndN w 0 neg N E false).1=(rndN f 0 neg N E false).1:=by
 obtain ⟨t1,t2⟩:=twice hf hw hPP hq neg h0 hE hlow htop hmid
 rw [conv_num f t1,t2]
def sumV (f:Int) (nx:Bool) (A:Nat) (ny:Bool) (B:Nat):Nat :=
 if nx=ny then (if A+B=0 then sgnF f nx else (rndN f 0 nx (A+B) (-2600) false).1)
 else if A=B then sgnF f false else if B<A then (rndN f 0 nx (A-B) (-2600) false).1 else (rndN f 0 ny (B-A) (-2600) false).1
theorem sum_VV {f:Int} (hf:Fm f) (nx ny:Bool) (a b:Nat):(sumBits f 0 nx (mant f a) (xpn f a) ny (mant f b) (xpn f b)).1=sumV f nx (VV f a) ny (VV f b):=by
 have hx:=xpn_ge f a
 have hy:=xpn_ge f b
 have hq:=qm_ge hf
 unfold sumBits sumV VV
 obtain ⟨e,he,e1,e2,e3⟩:∃ e:Int,(if xpn f a≤xpn f b then xpn f a else xpn f b)=e∧e≤xpn f a∧e≤xpn f b∧-2600≤e:=⟨_,rfl,by split <;> omega,by split <;> omega,by split <;> omega⟩
 dsimp only
 rw [he]
 have hA:mant f a*2^(xpn f a+2600).toNat=mant f a*2^(xpn f a-e).toNat*2^(e+2600).toNat:=by rw [Nat.mul_assoc,← Nat.pow_add]; congr 2; omega
 have hB:mant f b*2^(xpn f b+2600).toNat=mant f b*2^(xpn f b-e).toNat*2^(e+2600).toNat:=by rw [Nat.mul_assoc,← Nat.pow_add]; congr 2; omega
 rw [hA,hB]
 have hp:=Nat.two_pow_pos (e+2600).toNat
 have hpe:∀ n:Nat,n≠0→∀ s,rndN f 0 s n e false=rndN f 0 s (n*2^(e+2600).toNat) (-2600) false:=fun n hn s =>
  rnd_c hf (-2600) hn (Nat.mul_ne_zero hn (by omega)) e3 (Int.le_refl _) (by rw [Int.sub_self,show e - -2600=e+2600 by omega]; exact (Nat.mul_one _).symm)
 generalize mant f a*2^(xpn f a-e).toNat=A
 generalize mant f b*2^(xpn f b-e).toNat=B
 rw [← Nat.add_mul,← Nat.mul_sub_right_distrib,← Nat.mul_sub_right_distrib]
 have c0:(A+B)*2^(e+2600).toNat=0↔A+B=0:=by
  constructor
  ·intro h
   rcases Nat.mul_eq_zero.1 h with h | h
   ·exact h
   ·omega
  ·intro h; rw [h,Nat.zero_mul]
 have c1:A*2^(e+2600).toNat=B*2^(e+2600).toNat↔A=B:=⟨fun h=>Nat.eq_of_mul_eq_mul_right hp h,fun h=>by rw [h]⟩
 have c2:B*2^(e+2600).toNat<A*2^(e+2600).toNat↔B<A:=⟨fun h=>Nat.lt_of_mul_lt_mul_right h,fun h=>Nat.mul_lt_mul_of_pos_right h hp⟩
 simp only [c0,c1,c2]
 by_cases hs:nx=ny
 ·rw [if_pos hs,if_pos hs]
  by_cases h:A+B=0
  ·rw [if_pos h,if_pos h]
  ·rw [if_neg h,if_neg h,hpe _ h]
 ·rw [if_neg hs,if_neg hs]
  by_cases h:A=B
  ·rw [if_pos h,if_pos h]; rfl
  ·rw [if_neg h,if_neg h]
   by_cases h2:B<A
   ·rw [if_pos h2,if_pos h2,hpe _ (by omega)]
   ·rw [if_neg h2,if_neg h2,hpe _ (by omega)]
theorem sum_mid2 {f w:Int} (hf:Fm f) (hP:2*fP f+2≤fP w) (hq:qm w+1≤qm f) {n k i j N:Nat} {E:Int} (hE:E≤qm w) (hn:n<2^fP f) (hk:k<2^fP f) (hi:(qm f-E).toNat≤i) (hj:(qm f-E).toNat≤j) (h0:N≠0)
  (hN:N=n*2^i+k*2^j∨N+k*2^j=n*2^i∨N+n*2^i=k*2^j) :
  ∀ X,X%2^jwF w N E=0→2*N≤2*X+2^jwF w N E→2*X≤2*N+2^jwF w N E→X≠N→X%2^jwF f N E≠2^(jwF f N E-1):=by
 rcases Nat.le_total j i with h | h
 ·exact sum_mid hf hP hq hE hn hk h hj h0 hN
 ·refine sum_mid hf hP hq hE hk hn h hi h0 ?_
  rcases hN with h | h | h
  ·exact .inl (by omega)
  ·exact .inr (.inr h)
  ·exact .inr (.inl h)
theorem sum_conv {f w:Int} (h:wid f w) {a b:Nat} (ha:eF f a≠fullF f) (hb:eF f b≠fullF f) (s t:Bool):convN w f (sumV w s (VV f a) t (VV f b))=sumV f s (VV f a) t (VV f b):=by
 obtain ⟨hf,hw,hP,hq1,hq2,hX1,hX2,_,hq3⟩:=wid_facts h
 have hx:=xpn_ge f a
 have hy:=xpn_ge f b
 have hqw:=qm_ge hw
 have hP8:=fP_ge hf
 have ta:=VV_topA hf ha
 have tb:=VV_topA hf hb
 have ma:=mant_ltP hf a
 have mb:=mant_ltP hf b
 have key:∀ (neg:Bool) (N:Nat),N≠0→(N=VV f a+VV f b∨N+VV f b=VV f a∨N+VV f a=VV f b)→convN w f (rndN w 0 neg N (-2600) false).1=(rndN f 0 neg N (-2600) false).1:=by
  intro neg N h0 hN
  have hmid:=sum_mid2 hf hP hq3 (E:=-2600) (by omega) ma mb (i:=(xpn f a+2600).toNat) (j:=(xpn f b+2600).toNat) (by omega) (by omega) h0 hN
  have hNt:N<2^(fX f+2602):=by
   rw [two_up (a:=fX f+2602) (b:=fX f+2601) rfl]
   rcases hN with h | h | h <;> omega
  have hbl:=blen_bound hNt
  have hdiv:N%2^(qm w+2600).toNat=0:=by
   have d1:2^(qm w+2600).toNat ∣ VV f a:=Nat.dvd_trans (Nat.pow_dvd_pow 2 (show (qm w+2600).toNat≤(xpn f a+2600).toNat by omega)) (Nat.dvd_mul_left _ _)
   have d2:2^(qm w+2600).toNat ∣ VV f b:=Nat.dvd_trans (Nat.pow_dvd_pow 2 (show (qm w+2600).toNat≤(xpn f b+2600).toNat by omega)) (Nat.dvd_mul_left _ _)
   apply Nat.mod_eq_zero_of_dvd
   rcases hN with h | h | h
   ·rw [h]; exact Nat.dvd_add d1 d2
   ·exact (Nat.dvd_add_left d2).1 (by rw [h]; exact d1)
   ·exact (Nat.dvd_add_left d1).1 (by rw [h]; exact d2)
  have hlow:2^(qm w - -2600).toNat≤N:=by
   rw [show qm w - -2600=qm w+2600 by omega]
   exact Nat.le_of_dvd (by omega) (Nat.dvd_of_mod_eq_zero hdiv)
  exact conv_twice hf hw (by omega) hq3 neg h0 (by omega) hlow (by omega) hmid
 unfold sumV
 by_cases hs:s=t
 ·rw [if_pos hs,if_pos hs]
  by_cases hz:VV f a+VV f b=0
  ·rw [if_pos hz,if_pos hz,conv_zro hw]
  ·rw [if_neg hz,if_neg hz,key s _ hz (.inl rfl)]
 ·rw [if_neg hs,if_neg hs]
  by_cases hz:VV f a=VV f b
  ·rw [if_pos hz,if_pos hz,conv_zro hw]
  ·rw [if_neg hz,if_neg hz]
   by_cases h2:VV f b<VV f a
   ·rw [if_pos h2,if_pos h2,key s _ (by omega) (.inr (.inl (by omega)))]
   ·rw [if_neg h2,if_neg h2,key t _ (by omega) (.inr (.inr (by omega)))]
end VL
namespace VL
open Go Vx
theorem mul_conv {f w:Int} (h:wid f w) {a b:Nat} (ha:eF f a≠fullF f) (hb:eF f b≠fullF f) (ma0:mant f a≠0) (mb0:mant f b≠0) (s:Bool) :
  convN w f (rndN w 0 s (VV f a*VV f b) (-5200) false).1=(rndN f 0 s (VV f a*VV f b) (-5200) false).1:=by
 obtain ⟨hf,hw,hP,hq1,hq2,hX1,hX2,_,hq3⟩:=wid_facts h
 have hx:=xpn_ge f a
 have hy:=xpn_ge f b
 have hqw:=qm_ge hw
 have hqf:=qm_ge hf
 have hP8:=fP_ge hf
 have ta:=VV_topA hf ha
 have tb:=VV_topA hf hb
 have ma:=mant_ltP hf a
 have mb:=mant_ltP hf b
 have hN:VV f a*VV f b=(mant f a*mant f b)*2^((xpn f a+2600).toNat+(xpn f b+2600).toNat):=by
  unfold VV
  rw [Nat.pow_add]
  ac_rfl
 have hn:mant f a*mant f b<2^(2*fP f):=by
  rw [Nat.two_mul,Nat.pow_add]
  exact Nat.mul_lt_mul'' ma mb
 have h0:VV f a*VV f b≠0:=Nat.mul_ne_zero (VV_ne ma0) (VV_ne mb0)
 have hmid:=exact_mid (f:=f) (w:=w) (N:=VV f a*VV f b) (E:=-5200) hn (by omega) (i:=(xpn f a+2600).toNat+(xpn f b+2600).toNat) (by omega) hN
 have hlow:2^(qm w - -5200).toNat≤VV f a*VV f b:=by
  have h1:2^(qm w - -5200).toNat≤2^((xpn f a+2600).toNat+(xpn f b+2600).toNat):=Nat.pow_le_pow_right (by decide) (by omega)
  have h2:1*2^((xpn f a+2600).toNat+(xpn f b+2600).toNat)≤(mant f a*mant f b)*2^((xpn f a+2600).toNat+(xpn f b+2600).toNat):=Nat.mul_le_mul_right _ (Nat.mul_pos (by omega) (by omega))
  omega
 have htop:VV f a*VV f b<2^(fX f+2601+(fX f+2601)):=by
  rw [Nat.pow_add]
  exact Nat.mul_lt_mul'' ta tb
 have hbl:=blen_bound htop
 exact conv_twice hf hw (by omega) hq3 s h0 (by omega) hlow (by omega) hmid
theorem mul_VV {f:Int} (hf:Fm f) {a b:Nat} (ma0:mant f a≠0) (mb0:mant f b≠0) (s:Bool) :
  rndN f 0 s (mant f a*mant f b) (xpn f a+xpn f b) false=rndN f 0 s (VV f a*VV f b) (-5200) false:=by
 have hx:=xpn_ge f a
 have hy:=xpn_ge f b
 have hqf:=qm_ge hf
 refine rnd_c hf (-5200) (Nat.mul_ne_zero ma0 mb0) (Nat.mul_ne_zero (VV_ne ma0) (VV_ne mb0)) (by omega) (Int.le_refl _) ?_
 unfold VV
 rw [Int.sub_self,show (xpn f a+xpn f b - -5200).toNat=(xpn f a+2600).toNat+(xpn f b+2600).toNat by omega,Nat.pow_add]
 show _=_*1
 rw [Nat.mul_one]
 ac_rfl
noncomputable def divV (f m:Int) (neg:Bool) (A B:Nat):Nat×Nat:=rndS f m neg (A*2^6000/B) (-6000) (decide (A*2^6000%B≠0))
theorem div_big {f m:Int} {neg:Bool} (hf:Fm f) {n k:Nat} (hn:n≠0) (hk:0<k) (hk53:k<2^53) (e:Int) {s:Nat} (hs:300≤s) :
  rndS f m neg (n*2^s/k) (e-s) (decide (n*2^s%k≠0))=divB f m neg n k e:=by
 obtain ⟨t,ht⟩:∃ t,300+t=s:=⟨s-300,by omega⟩
 have e300:n*2^s=n*2^300*2^t:=by rw [Nat.mul_assoc,← Nat.pow_add,ht]
 obtain ⟨q1,q2⟩:=quot_fine (n:=n*2^300) hk t
 have hP:=fP_le hf
 have hb:fP f+1≤blen (n*2^300/k):=by
  apply blen_ge
  rw [Nat.le_div_iff_mul_le hk]
  have h1:2^fP f*k≤2^53*2^53:=Nat.mul_le_mul (Nat.pow_le_pow_right (by decide) hP) (by omega)
  have h2:1*2^300≤n*2^300:=Nat.mul_le_mul_right _ (by omega)
  have h3:(2:Nat)^53*2^53≤2^300:=by rw [← Nat.pow_add]; exact Nat.pow_le_pow_right (by decide) (by decide)
  rw [Nat.one_mul] at h2
  exact Nat.le_trans h1 (Nat.le_trans h3 h2)
 have:=rndS_cut (f:=f) (m:=m) (neg:=neg) hf (R:=n*2^300*2^t/k) (k:=t) (E:=e-s) (more:=decide (n*2^300*2^t%k≠0)) (by rw [q1]; exact hb)
 rw [e300,← this,q1,show e-(s:Int)+(t:Int)=e-300 by omega]
 unfold divB
 congr 1
 rw [Bool.eq_iff_iff,Bool.or_eq_true,decide_eq_true_eq,decide_eq_true_eq,decide_eq_true_eq]
 exact q2.symm
theorem div_shape {f:Int} (hf:Fm f) (a b:Nat) :
  ∃ s:Nat,(s:Int)=6000+xpn f a-xpn f b∧300≤s∧VV f a*2^6000/VV f b=mant f a*2^s/mant f b∧(VV f a*2^6000%VV f b≠0↔mant f a*2^s%mant f b≠0):=by
 have ha:=xpn_tight hf a
 have hb:=xpn_tight hf b
 obtain ⟨s,hs⟩:=Int.eq_ofNat_of_zero_le (show 0≤6000+xpn f a-xpn f b by omega)
 have hp:=Nat.two_pow_pos (xpn f b+2600).toNat
 have e:VV f a*2^6000=mant f a*2^s*2^(xpn f b+2600).toNat:=by
  unfold VV
  rw [Nat.mul_assoc,Nat.mul_assoc,← Nat.pow_add,← Nat.pow_add]
  congr 2
  omega
 refine ⟨s,by omega,by omega,?_,?_⟩
 ·rw [e]; unfold VV; exact Nat.mul_div_mul_right _ _ hp
 ·rw [e]; unfold VV
  rw [Nat.mul_mod_mul_right]
  constructor
  ·intro h hc
   rw [hc,Nat.zero_mul] at h
   exact h rfl
  ·intro h
   exact Nat.mul_ne_zero h (by omega)
theorem div_VV {f m:Int} (hf:Fm f) {a b:Nat} (ma0:mant f a≠0) (mb0:mant f b≠0) (neg:Bool) :
  divB f m neg (mant f a) (mant f b) (xpn f a-xpn f b)=divV f m neg (VV f a) (VV f b):=by
 obtain ⟨s,h1,h2,h3,h4⟩:=div_shape hf a b
 have:=div_big (f:=f) (m:=m) (neg:=neg) hf ma0 (show 0<mant f b by omega) (mant_lt hf b) (xpn f a-xpn f b) h2
 rw [← this]
 unfold divV
 rw [h3,show xpn f a-xpn f b-(s:Int)=-6000 by omega]
 congr 1
 rw [Bool.eq_iff_iff,decide_eq_true_eq,decide_eq_true_eq]
 exact h4.symm
theorem div_conv {f w:Int} (h:wid f w) {a b:Nat} (ha:eF f a≠fullF f) (hb:eF f b≠fullF f) (ma0:mant f a≠0) (mb0:mant f b≠0) (neg:Bool) :
  convN w f (divV w 0 neg (VV f a) (VV f b)).1=(divV f 0 neg (VV f a) (VV f b)).1:=by
 obtain ⟨hf,hw,hP,hq1,hq2,hX1,hX2,_,hq3⟩:=wid_facts h
 obtain ⟨s,s1,s2,s3,s4⟩:=div_shape hf a b
 have hx:=xpn_ge f a
 have hy:=xpn_ge f b
 have hxt:=xpn_topA hf ha
 have hyt:=xpn_topA hf hb
 have hqw:=qm_ge hw
 have hqf:=qm_ge hf
 have hP8:=fP_ge hf
 have hP5:=fP_le hf
 have ma:=mant_ltP hf a
 have mb:=mant_ltP hf b
 have hk0:0<mant f b:=by omega
 unfold divV
 rw [s3]
 have hdec:decide (VV f a*2^6000%VV f b≠0)=decide (mant f a*2^s%mant f b≠0):=by
  rw [Bool.eq_iff_iff,decide_eq_true_eq,decide_eq_true_eq]
  exact s4
 rw [hdec]
 have hmb:mant f b<2^53:=mant_lt hf b
 generalize mant f a=n at *
 generalize mant f b=k at *
 have hdm:=Nat.div_add_mod (n*2^s) k
 have hr:=Nat.mod_lt (n*2^s) hk0
 have hks:k≤2^s:=Nat.le_trans (Nat.le_of_lt hmb) (Nat.pow_le_pow_right (by decide) (by omega))
 have hlo:2^(s-fP f)≤n*2^s/k:=by
  rw [Nat.le_div_iff_mul_le hk0]
  have h1:2^(s-fP f)*k≤2^(s-fP f)*2^fP f:=Nat.mul_le_mul_left _ (Nat.le_of_lt mb)
  rw [← Nat.pow_add,show s-fP f+fP f=s by omega] at h1
  have h2:1*2^s≤n*2^s:=Nat.mul_le_mul_right _ (by omega)
  omega
 have hhi:n*2^s/k<2^(fP f+s):=by
  have h1:n*2^s<2^(fP f+s):=blen_mul ma
  exact Nat.lt_of_le_of_lt (Nat.div_le_self _ _) h1
 generalize hR:n*2^s/k=R at *
 generalize hrr:n*2^s%k=r at *
 have bl:=blen_ge hlo
 have bh:=blen_bound hhi
 have hR0:R≠0:=fun h=>by
  rw [h] at bl
  have:blen 0=0:=rfl
  omega
 unfold rndS
 by_cases hr0:r=0
 ·-- exact
  rw [decide_eq_false (fun h=>h hr0),if_neg (by decide),if_neg (by decide)]
  have hjw:jwF w R (-6000)=blen R-fP w:=by unfold jwF; omega
  have hjf:blen R-fP f≤jwF f R (-6000):=by unfold jwF; omega
  refine conv_twice hf hw (by omega) hq3 neg hR0 (by omega) ?_ (by omega) ?_
  ·exact Nat.le_trans (Nat.pow_le_pow_right (by decide) (show (qm w - -6000).toNat≤s-fP f by omega)) hlo
  ·intro X hX h1 h2 hne
   have hc:k*R=n*2^s:=by omega
   exact quo_mid hP ma mb hk0 hks hR0 (by omega) (by omega) (by omega) hjw hjf h1 h2 (fun hc2=>hne (Nat.eq_of_mul_eq_mul_left hk0 (by rw [← hc2,hc])))
 ·rw [decide_eq_true hr0,if_pos rfl,if_pos rfl]
  have hN0:2*R+1≠0:=by omega
  have b2:blen (2*R+1)=blen R+1:=by
   have:=blen_half (x:=2*R+1) hN0
   rw [show (2*R+1)/2=R by omega] at this
   exact this
  have hjw:jwF w (2*R+1) (-6000-1)=blen (2*R+1)-fP w:=by unfold jwF; omega
  have hjf:blen (2*R+1)-fP f≤jwF f (2*R+1) (-6000-1):=by unfold jwF; omega
  refine conv_twice hf hw (by omega) hq3 neg hN0 (by omega) ?_ (by omega) ?_
  ·have h1:=Nat.pow_le_pow_right (n:=2) (by decide) (show (qm w-(-6000-1)).toNat≤s-fP f by omega)
   omega
  ·intro X hX h1 h2 hne
   have e2:n*2^(s+1)=2*(n*2^s):=by rw [Nat.pow_succ]; ac_rfl
   have e3:k*(2*R+1)=2*(k*R)+k:=by rw [Nat.mul_add,Nat.mul_one,Nat.mul_left_comm]
   have hks2:k≤2^(s+1):=Nat.le_trans hks (Nat.pow_le_pow_right (by decide) (by omega))
   refine quo_mid hP ma mb hk0 hks2 hN0 (by omega) (by omega) (by omega) hjw hjf h1 h2 ?_
   intro hc
   have hX2:X%2=0:=by
    have:=mod_pow_le (j:=1) hX (by omega)
    rwa [Nat.pow_one] at this
   obtain ⟨Y,hY⟩:∃ Y,X=2*Y:=⟨X/2,by omega⟩
   rw [e2,hY,Nat.mul_left_comm k 2 Y] at hc
   have hc2:n*2^s=k*Y:=by omega
   have:n*2^s%k=0:=by rw [hc2]; exact Nat.mul_mod_right _ _
   omega
theorem root_conv {f w:Int} (h:wid f w) {a:Nat} (ha:eF f a≠fullF f) (ma0:mant f a≠0):convN w f (rootB w 0 (VV f a) (-1300)).1=(rootB f 0 (VV f a) (-1300)).1:=by
 obtain ⟨hf,hw,hP,hq1,hq2,hX1,hX2,hq4,hq3⟩:=wid_facts h
 have hx:=xpn_ge f a
 have hxt:=xpn_topA hf ha
 have hqw:=qm_ge hw
 have hqf:=qm_ge hf
 have hqf0:=qm_neg hf
 have hP8:=fP_ge hf
 have hP5:=fP_le hf
 have hPw:=fP_le hw
 have ma:=mant_ltP hf a
 have ta:=VV_topA hf ha
 have hV0:=VV_ne (f:=f) (x:=a) ma0
 have hVd:VV f a=mant f a*2^(xpn f a+2600).toNat:=rfl
 have hVlo:2^(2*((qm f+2600)/2).toNat)≤VV f a:=by
  have h1:2^(2*((qm f+2600)/2).toNat)≤2^(xpn f a+2600).toNat:=Nat.pow_le_pow_right (by decide) (by omega)
  have h2:1*2^(xpn f a+2600).toNat≤mant f a*2^(xpn f a+2600).toNat:=Nat.mul_le_mul_right _ (by omega)
  omega
 have bl:=isq_blen hVlo
 have hVhi:VV f a<2^(2*(fX f/2+1301)):=Nat.lt_of_lt_of_le ta (Nat.pow_le_pow_right (by decide) (by omega))
 have bh:=blen_bound (isq_bound hVhi)
 have i1:=isq_le (VV f a)
 have i2:=isq_lt (VV f a)
 have hlo:2^((qm f+2600)/2).toNat≤isq (VV f a):=by
  apply isq_ge
  rw [← Nat.pow_add]
  refine Nat.le_trans (Nat.pow_le_pow_right (by decide) ?_) hVlo
  omega
 unfold rootB
 generalize mant f a=n at *
 generalize hvv:(xpn f a+2600).toNat=v at *
 generalize VV f a=V at *
 by_cases hsq:isq V*isq V=V
 ·rw [if_pos hsq,if_pos hsq]
  generalize isq V=R at *
  have hR0:R≠0:=by
   have:=Nat.two_pow_pos ((qm f+2600)/2).toNat
   omega
  have hjw:jwF w R (-1300)=blen R-fP w:=by unfold jwF; omega
  have hjf:jwF f R (-1300)=blen R-fP f:=by unfold jwF; omega
  refine conv_twice hf hw (by omega) hq3 false hR0 (by omega) ?_ (by omega) ?_
  ·exact Nat.le_trans (Nat.pow_le_pow_right (by decide) (show (qm w - -1300).toNat≤((qm f+2600)/2).toNat by omega)) hlo
  ·intro X hX h1 h2 hne
   refine root_mid (v:=v) (n:=n) (by omega) hP ma hR0 ?_ ?_ (by omega) hjw hjf h1 h2 ?_
   ·rw [← hVd]; exact i2
   ·rw [← hVd,← hsq]
    obtain ⟨r,hr⟩:∃ r,R=r+1:=⟨R-1,by omega⟩
    rw [hr,Nat.add_sub_cancel,Nat.mul_add,Nat.add_mul]
    omega
   ·intro hc
    rw [← hVd,← hsq] at hc
    rcases Nat.lt_trichotomy R X with g | g | g
    ·have:=Nat.mul_lt_mul'' g g; omega
    ·exact hne g.symm
    ·have:=Nat.mul_lt_mul'' g g; omega
 ·rw [if_neg hsq,if_neg hsq]
  have hns:∀ Y,Y*Y≠V:=fun Y hY=>by
   have:=isq_sq Y
   rw [hY] at this
   rw [this] at hsq
   exact hsq hY
  generalize isq V=R at *
  have hN0:2*R+1≠0:=by omega
  have b2:blen (2*R+1)=blen R+1:=by
   have:=blen_half (x:=2*R+1) hN0
   rw [show (2*R+1)/2=R by omega] at this
   exact this
  have hjw:jwF w (2*R+1) (-1300-1)=blen (2*R+1)-fP w:=by unfold jwF; omega
  have hjf:jwF f (2*R+1) (-1300-1)=blen (2*R+1)-fP f:=by unfold jwF; omega
  refine conv_twice hf hw (by omega) hq3 false hN0 (by omega) ?_ (by omega) ?_
  ·have h1:=Nat.pow_le_pow_right (n:=2) (by decide) (show (qm w-(-1300-1)).toNat≤((qm f+2600)/2).toNat by omega)
   omega
  ·intro X hX h1 h2 hne
   have e4:n*2^(v+2)=4*V:=by rw [hVd,Nat.pow_add,← Nat.mul_assoc]; omega
   refine root_mid (v:=v+2) (n:=n) (by omega) hP ma hN0 ?_ ?_ (by omega) hjw hjf h1 h2 ?_
   ·rw [e4,show 2*R+1+1=2*(R+1) by omega,Nat.mul_mul_mul_comm]
    omega
   ·rw [e4,show 2*R+1-1=2*R by omega,Nat.mul_mul_mul_comm]
    omega
   ·intro hc
    have hX2:X%2=0:=by
     have:=mod_pow_le (j:=1) hX (by omega)
     rwa [Nat.pow_one] at this
    obtain ⟨Y,hY⟩:∃ Y,X=2*Y:=⟨X/2,by omega⟩
    rw [e4,hY,Nat.mul_mul_mul_comm] at hc
    exact hns Y (by omega)
end VL
namespace VL
open Go Vx
def cvt (f w:Int) (x r:Nat):Prop:=chk w x=0∧convN w f x=r
theorem cvt_nan {w:Int} (hw:Fm w) (f:Int):cvt f w (nanF w) (nanF f):=⟨(nan_facts hw).1,conv_nan hw f⟩
theorem cvt_inf {w:Int} (hw:Fm w) (f:Int) (s:Bool):cvt f w (infB w s) (infB f s):=⟨(inf_facts hw s).1,conv_inf hw f s⟩
theorem cvt_zro {w:Int} (hw:Fm w) (f:Int) (s:Bool):cvt f w (sgnF w s) (sgnF f s):=⟨(zro_facts hw s).1,conv_zro hw f s⟩
theorem rnd_chk {w:Int} (hw:Fm w) (m:Int) (s:Bool) (N:Nat) (E:Int):chk w (rndN w m s N E false).1=0:=by
 rw [rnd_M hw]
 have h1:=rndM_le hw m s N E
 have h2:=infF_lt hw
 exact mk_chk hw s (by omega)
theorem sumV_chk {w:Int} (hw:Fm w) (s t:Bool) (A B:Nat):chk w (sumV w s A t B)=0:=by
 unfold sumV
 split
 ·split
  ·exact (zro_facts hw _).1
  ·exact rnd_chk hw _ _ _ _
 ·split
  ·exact (zro_facts hw _).1
  ·split
   ·exact rnd_chk hw _ _ _ _
   ·exact rnd_chk hw _ _ _ _
def addT (f:Int) (a b:Nat):Nat :=
 bif nan f a||nan f b then nanF f
 else bif (isInf f a&&isInf f b)&&!(sF f a==sF f b) then nanF f
 else bif isInf f a then infB f (sF f a)
 else bif isInf f b then infB f (sF f b)
 else (sumBits f 0 (sF f a) (mant f a) (xpn f a) (sF f b) (mant f b) (xpn f b)).1
theorem addA_N {f:Int} {a b:Nat} (ha:chk f a=0) (hb:chk f b=0):(addA f 0 a b).1=((addT f a b:Nat):Int):=by
 obtain ⟨hf,_⟩:=chk_zero ha
 unfold addA
 rw [if_pos hf,if_pos (by decide),if_pos ⟨ha,hb⟩]
 unfold addR addT
 cases hna:nan f a
 ·cases hnb:nan f b
  ·rw [snan_nan hna,snan_nan hnb]
   cases hia:isInf f a
   ·cases hib:isInf f b
    ·rfl
    ·show ((b:Nat):Int)=((infB f (sF f b):Nat):Int)
     rw [← inf_self hb hib]
   ·cases hib:isInf f b
    ·show ((a:Nat):Int)=((infB f (sF f a):Nat):Int)
     rw [← inf_self ha hia]
    ·cases sF f a==sF f b
     ·rfl
     ·show ((a:Nat):Int)=((infB f (sF f a):Nat):Int)
      rw [← inf_self ha hia]
  ·cases snan f a <;> cases snan f b <;> rfl
 ·cases nan f b <;> cases snan f a <;> cases snan f b <;> rfl
theorem add_cvt {f w:Int} (h:wid f w) {a b x y:Nat} (sa:same f w a x) (sb:same f w b y):cvt f w (addT w x y) (addT f a b):=by
 obtain ⟨hf,hw,_⟩:=wid_facts h
 obtain ⟨a1,a2,a3,a4,a5,a6,a7⟩:=sa
 obtain ⟨b1,b2,b3,b4,b5,b6,b7⟩:=sb
 unfold addT
 rw [a3,a4,b3,b4]
 cases hna:nan f a
 ·cases hnb:nan f b
  ·rw [a6 hna,b6 hnb]
   cases hia:isInf f a
   ·cases hib:isInf f b
    ·show cvt f w (sumBits w 0 (sF f a) (mant w x) (xpn w x) (sF f b) (mant w y) (xpn w y)).1 (sumBits f 0 (sF f a) (mant f a) (xpn f a) (sF f b) (mant f b) (xpn f b)).1
     rw [sum_VV hf,sum_VV hw,a7 hna hia,b7 hnb hib]
     exact ⟨sumV_chk hw _ _ _ _,sum_conv h (fin_of hna hia) (fin_of hnb hib) _ _⟩
    ·exact cvt_inf hw f _
   ·cases hib:isInf f b
    ·exact cvt_inf hw f _
    ·cases sF f a==sF f b
     ·exact cvt_nan hw f
     ·exact cvt_inf hw f _
  ·exact cvt_nan hw f
 ·exact cvt_nan hw f
def mulT (f:Int) (a b:Nat):Nat :=
 bif nan f a||nan f b then nanF f
 else bif (isInf f a&&zro f b)||(zro f a&&isInf f b) then nanF f
 else bif isInf f a||isInf f b then infB f (!(sF f a==sF f b))
 else bif zro f a||zro f b then sgnF f (!(sF f a==sF f b))
 else (rndN f 0 (!(sF f a==sF f b)) (mant f a*mant f b) (xpn f a+xpn f b) false).1
theorem bif_fst {A B:Type} (c:Bool) (x y:A×B):(bif c then x else y).1=bif c then x.1 else y.1:=by cases c <;> rfl
theorem bif_nat (c:Bool) (x y:Nat):(bif c then (x:Int) else (y:Int))=((bif c then x else y:Nat):Int):=by cases c <;> rfl
theorem mulA_N {f:Int} {a b:Nat} (ha:chk f a=0) (hb:chk f b=0):(mulA f 0 a b).1=((mulT f a b:Nat):Int):=by
 obtain ⟨hf,_⟩:=chk_zero ha
 unfold mulA
 rw [if_neg (show ¬ ¬ Fm f from fun h=>h hf),if_neg (by decide),if_neg (fun h=>h ha),if_neg (fun h=>h hb)]
 unfold mulR mulT
 simp only [bif_fst,bif_nat]
theorem mul_cvt {f w:Int} (h:wid f w) {a b x y:Nat} (sa:same f w a x) (sb:same f w b y):cvt f w (mulT w x y) (mulT f a b):=by
 obtain ⟨hf,hw,_⟩:=wid_facts h
 obtain ⟨a1,a2,a3,a4,a5,a6,a7⟩:=sa
 obtain ⟨b1,b2,b3,b4,b5,b6,b7⟩:=sb
 unfold mulT
 rw [a3,a4,b3,b4,a5,b5]
 cases hna:nan f a
 ·cases hnb:nan f b
  ·rw [a6 hna,b6 hnb]
   simp only [Bool.or_self,cond_false]
   cases hi1:isInf f a&&zro f b||zro f a&&isInf f b
   ·simp only [cond_false]
    cases hi:isInf f a||isInf f b
    ·simp only [cond_false]
     cases hz:zro f a||zro f b
     ·simp only [cond_false]
      rw [Bool.or_eq_false_iff] at hi hz
      have ma0:=zro_mant hz.1
      have mb0:=zro_mant hz.2
      have mx0:=zro_mant (a5.trans hz.1)
      have my0:=zro_mant (b5.trans hz.2)
      rw [mul_VV hf ma0 mb0,mul_VV hw mx0 my0,a7 hna hi.1,b7 hnb hi.2]
      exact ⟨rnd_chk hw _ _ _ _,mul_conv h (fin_of hna hi.1) (fin_of hnb hi.2) ma0 mb0 _⟩
     ·exact cvt_zro hw f _
    ·exact cvt_inf hw f _
   ·exact cvt_nan hw f
  ·exact cvt_nan hw f
 ·exact cvt_nan hw f
noncomputable def divT (f:Int) (a b:Nat):Nat :=
 bif nan f a||nan f b then nanF f
 else bif (isInf f a&&isInf f b)||(zro f a&&zro f b) then nanF f
 else bif isInf f a then infB f (!(sF f a==sF f b))
 else bif zro f b then infB f (!(sF f a==sF f b))
 else bif isInf f b||zro f a then sgnF f (!(sF f a==sF f b))
 else (divB f 0 (!(sF f a==sF f b)) (mant f a) (mant f b) (xpn f a-xpn f b)).1
theorem divA_N {f:Int} {a b:Nat} (ha:chk f a=0) (hb:chk f b=0):(divA f 0 a b).1=((divT f a b:Nat):Int):=by
 obtain ⟨hf,_⟩:=chk_zero ha
 unfold divA
 rw [if_neg (show ¬ ¬ Fm f from fun h=>h hf),if_neg (by decide),if_neg (fun h=>h ha),if_neg (fun h=>h hb)]
 unfold divR divT
 simp only [bif_fst,bif_nat]
theorem divV_chk {w:Int} (hw:Fm w) (s:Bool) (A B:Nat):chk w (divV w 0 s A B).1=0:=by
 unfold divV rndS
 split
 ·exact rnd_chk hw _ _ _ _
 ·exact rnd_chk hw _ _ _ _
theorem div_pick {f w:Int} (hw:Fm w) {na nb ia ib za zb s s':Bool} {P Q:Nat} (hs:na=false→nb=false→s=s') (key:na=false→nb=false→ia=false→ib=false→za=false→zb=false→cvt f w P Q) :
  cvt f w (bif na||nb then nanF w else bif ia&&ib||za&&zb then nanF w else bif ia then infB w s else bif zb then infB w s else bif ib||za then sgnF w s else P)
   (bif na||nb then nanF f else bif ia&&ib||za&&zb then nanF f else bif ia then infB f s' else bif zb then infB f s' else bif ib||za then sgnF f s' else Q):=by
 cases na
 ·cases nb
  ·rw [hs rfl rfl]
   cases ia
   ·cases zb
    ·cases ib
     ·cases za
      ·exact key rfl rfl rfl rfl rfl rfl
      ·exact cvt_zro hw f _
     ·cases za <;> exact cvt_zro hw f _
    ·cases ib <;> cases za <;> first | exact cvt_nan hw f | exact cvt_inf hw f _
   ·cases ib <;> cases za <;> cases zb <;> first | exact cvt_nan hw f | exact cvt_inf hw f _
  ·exact cvt_nan hw f
 ·exact cvt_nan hw f
theorem div_cvt {f w:Int} (h:wid f w) {a b x y:Nat} (sa:same f w a x) (sb:same f w b y):cvt f w (divT w x y) (divT f a b):=by
 obtain ⟨hf,hw,_⟩:=wid_facts h
 obtain ⟨a1,a2,a3,a4,a5,a6,a7⟩:=sa
 obtain ⟨b1,b2,b3,b4,b5,b6,b7⟩:=sb
 have key:nan f a=false→nan f b=false→isInf f a=false→isInf f b=false→zro f a=false→zro f b=false→∀ s,
   cvt f w (divB w 0 s (mant w x) (mant w y) (xpn w x-xpn w y)).1 (divB f 0 s (mant f a) (mant f b) (xpn f a-xpn f b)).1:=by
  intro hna hnb hia hib hza hzb s
  have ma0:=zro_mant hza
  have mb0:=zro_mant hzb
  have mx0:=zro_mant (a5.trans hza)
  have my0:=zro_mant (b5.trans hzb)
  rw [div_VV hf ma0 mb0,div_VV hw mx0 my0,a7 hna hia,b7 hnb hib]
  exact ⟨divV_chk hw _ _ _,div_conv h (fin_of hna hia) (fin_of hnb hib) ma0 mb0 _⟩
 unfold divT
 rw [a3,a4,b3,b4,a5,b5]
 exact div_pick hw (fun h1 h2=>by rw [a6 h1,b6 h2]) (fun h1 h2 h3 h4 h5 h6=>by rw [a6 h1,b6 h2]; exact key h1 h2 h3 h4 h5 h6 _)
noncomputable def sqrtT (f:Int) (a:Nat):Nat :=
 bif nan f a then nanF f
 else bif sF f a&&!zro f a then nanF f
 else bif zro f a||isInf f a then a
 else (rootX f 0 (mant f a) (xpn f a)).1
theorem sqrtF_N {f:Int} {a:Nat} (ha:chk f a=0):(sqrtF f 0 a).1=((sqrtT f a:Nat):Int):=by
 obtain ⟨hf,_⟩:=chk_zero ha
 have h0:chkL f 0 [a]=0:=by
  have ho:okL f [a]=(chk f a==0&&true):=rfl
  unfold chkL
  rw [if_neg (show ¬ ¬ Fm f from fun h=>h hf),if_neg (by decide),ho,ha]
  rfl
 unfold sqrtF
 rw [if_neg (fun h=>h h0)]
 unfold sqrtT
 simp only [bif_fst,bif_nat]
theorem rootB_chk {w:Int} (hw:Fm w) (V:Nat) (E:Int):chk w (rootB w 0 V E).1=0:=by
 unfold rootB
 split
 ·exact rnd_chk hw _ _ _ _
 ·exact rnd_chk hw _ _ _ _
theorem sqrt_cvt {f w:Int} (h:wid f w) {a x:Nat} (sa:same f w a x):cvt f w (sqrtT w x) (sqrtT f a):=by
 obtain ⟨hf,hw,_⟩:=wid_facts h
 obtain ⟨a1,a2,a3,a4,a5,a6,a7⟩:=sa
 unfold sqrtT
 rw [a3,a4,a5]
 cases hna:nan f a
 ·rw [a6 hna]
  simp only [cond_false]
  cases hs:sF f a&&!zro f a
  ·simp only [cond_false]
   cases hz:zro f a
   ·cases hi:isInf f a
    ·simp only [Bool.or_self,cond_false]
     have ma0:=zro_mant hz
     have mx0:=zro_mant (a5.trans hz)
     rw [rootX_V hf ma0,rootX_V hw mx0,a7 hna hi]
     exact ⟨rootB_chk hw _ _,root_conv h (fin_of hna hi) ma0⟩
    ·show cvt f w x a
     rw [inf_self a1 hi,inf_self a2 (a4.trans hi),a6 hna]
     exact cvt_inf hw f _
   ·show cvt f w x a
    rw [zro_self a1 hz,zro_self a2 (a5.trans hz),a6 hna]
    exact cvt_zro hw f _
  ·exact cvt_nan hw f
 ·exact cvt_nan hw f
end VL
namespace VL
open Go Vx
theorem T385_ok (f:Int):∃ F:Nat,F<4∧T385 (f,())=some ((F:Int),()):=by
 have h0:(0:Int)≤IntKind.wrap .u64 f:=by
  show (0:Int)≤f%18446744073709551616
  exact Int.emod_nonneg _ (by decide)
 obtain ⟨n,hn⟩:=Int.eq_ofNat_of_zero_le h0
 refine ⟨n%4,Nat.mod_lt _ (by decide),?_⟩
 show t385 f=_
 unfold t385
 rw [hn,show Int.tmod (n:Int) 4=((n%4:Nat):Int) from rfl,wrapI (by omega)]
theorem T386_ok (f:Int):∃ F:Int,T386 (f,())=some (F,()):=⟨_,rfl⟩
theorem fit_ok {f:Int} (hf:Fm f) {a:Nat} (ha:a<2^64):∃ r:Nat,T388 (f,(a:Int),())=some ((r:Int),())∧chk f r=0:=by
 have key:∀ (W:Nat) (P E:Int),fW f=W→W≤63→T387 (f,())=some ((W:Int),P,E,())→((W:Int)==64)=false→∃ r:Nat,T388 (f,(a:Int),())=some ((r:Int),())∧chk f r=0:=by
  intro W P E hW h63 p0 e0
  refine ⟨a%2^W,?_,chk_ok hf (by rw [hW]; exact Nat.mod_lt _ (Nat.two_pow_pos W))⟩
  show t388 S387.pre S387.F f a=_
  unfold t388
  have e1:decide ((0:Int)≤(W:Int))=true:=decide_eq_true (by omega)
  have hp:=Nat.two_pow_pos W
  have h2:2^W≤2^63:=Nat.pow_le_pow_right (by decide) h63
  have e2:IntKind.wrap .u64 (((2^W:Nat):Int)-1)=((2^W-1:Nat):Int):=by
   rw [show ((2^W:Nat):Int)-1=((2^W-1:Nat):Int) by omega,wu_id _ (by omega)]
  simp only [pre387 p0,fun387 p0,cond_true,e0,cond_false,e1,shlI_one h63,e2,andI_mask ha (show W≤64 by omega)]
 rcases Fm_cases hf with rfl | rfl | rfl | rfl
 ·exact key 16 11 (-14) (by decide) (by decide) rfl rfl
 ·exact key 16 8 (-126) (by decide) (by decide) rfl rfl
 ·exact key 32 24 (-126) (by decide) (by decide) rfl rfl
 ·refine ⟨a,?_,chk_ok hf ha⟩
  show t388 S387.pre S387.F 3 a=_
  unfold t388
  have p0:T387 ((3:Int),())=some (64,53,-1022,()):=rfl
  simp only [pre387 p0,fun387 p0,cond_true]
  rfl
theorem wider_ok {f:Int} (h:f=0∨f=1∨f=2) (c:Nat):∃ w:Int,T390 (f,(c:Int),())=some (w,())∧wid f w:=by
 show ∃ w:Int,t390 f c=some (w,())∧wid f w
 unfold t390
 rcases h with rfl | rfl | rfl
 ·cases hc:((0:Int)==0)&&(Int.tmod (c:Int) 2==0)
  ·exact ⟨3,rfl,.inr (.inl ⟨rfl,rfl⟩)⟩
  ·exact ⟨2,rfl,.inl ⟨rfl,rfl⟩⟩
 ·exact ⟨3,rfl,.inr (.inr (.inl ⟨rfl,rfl⟩))⟩
 ·exact ⟨3,rfl,.inr (.inr (.inr ⟨rfl,rfl⟩))⟩
theorem awake_add2 (m:Int) (hm:m=0∨m=3):addA 0 m 15360 4096=(if m=0 then 15360 else 15361,16,0,()):=by
 rcases hm with rfl | rfl
 ·decide +kernel
 ·decide +kernel
theorem T382_ok:T382 ()=some (true,()):=by
 show t382 S27.pre S27.F=_
 unfold t382
 have p1:=T27_eq 0 0 (a:=15360) (b:=4096) (by decide) (by decide)
 have p2:=T27_eq 0 3 (a:=15360) (b:=4096) (by decide) (by decide)
 rw [awake_add2 0 (.inl rfl)] at p1
 rw [awake_add2 3 (.inr rfl)] at p2
 have p1:T27 ((0:Int),((0:Int),((15360:Int),((4096:Int),()))))=_:=p1
 have p2:T27 ((0:Int),((3:Int),((15360:Int),((4096:Int),()))))=_:=p2
 dsimp only
 simp only [pre27 p1,fun27 p1,pre27 p2,fun27 p2,cond_true]
 rfl
theorem W391_2_list (l:List Int) (hl:∀ z∈l,Fm z) (hlen:l.length<1000) (rest:List Int×List Int×Int×Unit) :
  W391_2 (((l.length:Int),(l,((0:Int),rest))),())=some (.inl (rest,())):=by
 have key:=lfix_ind (m391_2 S69.pre S69.F S66.pre S66.F) (fun x=>l.length-x.1.2.2.1.toNat)
  (fun x=>∃ i:Nat,i≤l.length∧x=(((l.length:Int),(l,((i:Int),rest))),()))
  (fun _=>.inl (rest,())) ?_ _ ⟨0,Nat.zero_le _,rfl⟩
 ·exact key
 intro L x hx hL
 obtain ⟨i,hi,rfl⟩:=hx
 unfold h391_2
 rcases Nat.lt_or_ge i l.length with hlt | hge
 ·have hg:l.getD i 0=l[i]:=by simp [List.getD_eq_getElem?_getD,hlt]
  have p0:=T69_ok (hl _ (List.getElem_mem hlt))
  have e0:decide ((i:Int)<(l.length:Int))=true:=decide_eq_true (by omega)
  have e1:(decide ((0:Int)≤(i:Int))&&decide ((i:Int)<(l.length:Int)))=true:=by rw [e0,decide_eq_true (by omega)]; rfl
  have e2:l.getD (Int.toNat (i:Int)) 0=l[i]:=by rw [Int.toNat_natCast,hg]
  have e3:IntKind.wrap .i64 ((i:Int)+1)=((i+1:Nat):Int):=by rw [wrapI (by omega)]; omega
  dsimp only
  simp only [e0,e1,e2,e3,cond_true,pre69 p0,fun69 p0,bne_self_eq_false,cond_false]
  exact hL _ ⟨i+1,by omega,rfl⟩ (by simp only [Int.toNat_natCast]; omega)
 ·have e0:decide ((i:Int)<(l.length:Int))=false:=decide_eq_false (by omega)
  simp only [e0,cond_false]
theorem W391_9_list (l:List Int) (hl:∀ z∈l,0≤z∧z≤5) (hlen:l.length<1000) (rest:List Int×Int×Unit) :
  W391_9 (((l.length:Int),(l,((0:Int),rest))),())=some (.inl (rest,())):=by
 have key:=lfix_ind (m391_9 S69.pre S69.F S66.pre S66.F) (fun x=>l.length-x.1.2.2.1.toNat)
  (fun x=>∃ i:Nat,i≤l.length∧x=(((l.length:Int),(l,((i:Int),rest))),()))
  (fun _=>.inl (rest,())) ?_ _ ⟨0,Nat.zero_le _,rfl⟩
 ·exact key
 intro L x hx hL
 obtain ⟨i,hi,rfl⟩:=hx
 unfold h391_9
 rcases Nat.lt_or_ge i l.length with hlt | hge
 ·have hg:l.getD i 0=l[i]:=by simp [List.getD_eq_getElem?_getD,hlt]
  obtain ⟨b1,b2⟩:=hl _ (List.getElem_mem hlt)
  have e0:decide ((i:Int)<(l.length:Int))=true:=decide_eq_true (by omega)
  have e1:(decide ((0:Int)≤(i:Int))&&decide ((i:Int)<(l.length:Int)))=true:=by rw [e0,decide_eq_true (by omega)]; rfl
  have e2:l.getD (Int.toNat (i:Int)) 0=l[i]:=by rw [Int.toNat_natCast,hg]
  have e3:IntKind.wrap .i64 ((i:Int)+1)=((i+1:Nat):Int):=by rw [wrapI (by omega)]; omega
  have e4:(decide (l[i]<(0:Int))||decide (l[i]>(5:Int)))=false:=by rw [decide_eq_false (by omega),decide_eq_false (by omega)]; rfl
  dsimp only
  simp only [e0,e1,e2,e3,e4,cond_true,cond_false]
  exact hL _ ⟨i+1,by omega,rfl⟩ (by simp only [Int.toNat_natCast]; omega)
 ·have e0:decide ((i:Int)<(l.length:Int))=false:=decide_eq_false (by omega)
  simp only [e0,cond_false]
theorem T391_ok {f w m:Int} {a:Nat} (hw:Fm w) (hm:0≤m∧m≤5) (ha:chk f a=0):T391 ((f::w::[]),(m::[]),(a:Int),())=some (0,()):=by
 obtain ⟨hf,_⟩:=chk_zero ha
 show t391 S69.pre S69.F S66.pre S66.F W391_2 W391_9 (f::w::[]) (m::[]) a=_
 unfold t391
 have q1:=W391_2_list (f::w::[]) (fun z hz=>by
  rcases List.mem_cons.1 hz with rfl | hz
  ·exact hf
  ·rw [List.mem_singleton] at hz; rw [hz]; exact hw) (show (2:Nat)<1000 by decide) ((m::[]),(f::w::[]),(a:Int),())
 have q2:=W391_9_list (m::[]) (fun z hz=>by rw [List.mem_singleton] at hz; rw [hz]; exact hm) (show (1:Nat)<1000 by decide) ((f::w::[]),(a:Int),())
 have p0:=T66_eq f a (pat_lt ha)
 rw [ha] at p0
 rw [q1]
 show Vx.obind (W391_9 ((((m::[]).length:Int),((m::[]),((0:Int),((f::w::[]),(a:Int),())))),())) _=_
 rw [q2]
 show (bif decide ((0:Int)<(((f::w::[]):List Int).length:Int)) then (bif S66.pre (f,(a:Int),()) then some (S66.F (f,(a:Int),())) else none) else none)=_
 have e0:decide ((0:Int)<(((f::w::[]):List Int).length:Int))=true:=rfl
 rw [e0]
 simp only [pre66 p0,fun66 p0,cond_true]
 rfl
theorem conv_fin {f w m:Int} (hw:Fm w) (hm:0≤m∧m≤5) {a:Nat} (ha:chk f a=0) (hfin:eF f a≠fullF f) (hm0:mant f a≠0) :
  T51 (w,m,dyO (od (sF f a) (mant f a) (xpn f a)),())=some (((rndN w m (sF f a) (mant f a) (xpn f a) false).1:Int),((rndN w m (sF f a) (mant f a) (xpn f a) false).2:Int),0,()):=by
 obtain ⟨hf,_⟩:=chk_zero ha
 obtain ⟨o1,o2,o3⟩:=od_bound2 (sF f a) (n:=mant f a) (xpn f a) (mant_lt hf a) (xpn_bound hf a)
 rcases od_cases (sF f a) (mant f a) (xpn f a) with ⟨_,h⟩ | ⟨h1,h2,h3,h4,h5⟩
 ·exact absurd h hm0
 generalize hod:od (sF f a) (mant f a) (xpn f a)=t at *
 have hsc:=rnd_scale (m:=m) (neg:=sF f a) hw (n:=t.2.1) (by omega) (tz (mant f a)) (xpn f a)
 rw [Nat.mul_comm,← h4,← h5] at hsc
 have p:=T51_eq hw hm (sF f a) (n:=t.2.1) (Nat.lt_of_lt_of_le o1 (Nat.pow_le_pow_right (by decide) (by decide))) (by omega) h2 t.2.2 (by omega)
 rw [← hsc] at p
 have e:dyO t=dy (sF f a) t.2.1 t.2.2:=by rw [← h1]; rfl
 rw [e]
 exact p
theorem T392_ok {f w:Int} (hw:Fm w) {a:Nat} (ha:chk f a=0):∃ g:Int,T392 (f,w,(0:Int),(a:Int),())=some (((convN f w a:Nat):Int),g,()):=by
 obtain ⟨hf,_⟩:=chk_zero ha
 show ∃ g:Int,t392 S65.pre S65.F S98.pre S98.F S70.pre S70.F S97.pre S97.F S118.pre S118.F S40.pre S40.F S51.pre S51.F f w 0 a=some (((convN f w a:Nat):Int),g,())
 have p0:=T65_ok (pat_lt ha) ha
 have p1:=T98_ok ha
 have p2:=T70_ok hw
 have p3:=T97_ok hw (sF f a)
 have p4:=T118_ok hw (sF f a)
 have c1:=cls_nan f a
 have c2:=cls_isInf f a
 have c3:=cls_zro hf a
 unfold t392 convN
 simp only [pre65 p0,fun65 p0,pre98 p1,fun98 p1,pre70 p2,fun70 p2,pre97 p3,fun97 p3,pre118 p4,fun118 p4,cond_true]
 cases hn:nan f a
 ·rw [hn] at c1
  have n0:(cls f a==0)=false:=by cases h:cls f a==0 <;> rw [h] at c1 <;> simp at c1 ⊢
  have n1:(cls f a==1)=false:=by cases h:cls f a==1 <;> rw [h] at c1 <;> simp at c1 ⊢
  rw [n0,n1]
  cases hi:isInf f a
  ·rw [hi] at c2
   have i2:(cls f a==2)=false:=by cases h:cls f a==2 <;> rw [h] at c2 <;> simp at c2 ⊢
   have i9:(cls f a==9)=false:=by cases h:cls f a==9 <;> rw [h] at c2 <;> simp at c2 ⊢
   rw [i2,i9]
   cases hz:zro f a
   ·rw [hz] at c3
    have z5:(cls f a==5)=false:=by cases h:cls f a==5 <;> rw [h] at c3 <;> simp at c3 ⊢
    have z6:(cls f a==6)=false:=by cases h:cls f a==6 <;> rw [h] at c3 <;> simp at c3 ⊢
    rw [z5,z6]
    have hfin:=fin_of hn hi
    have p5:=T40_fin ha hfin
    have p6:=conv_fin (m:=0) hw (by decide) ha hfin (zro_mant hz)
    simp only [pre40 p5,fun40 p5,pre51 p6,fun51 p6,cond_true,cond_false]
    exact ⟨_,rfl⟩
   ·rw [hz] at c3
    rw [Bool.or_eq_true] at c3
    rcases c3 with h | h
    ·have h6:(cls f a==6)=false:=by rw [beq_iff_eq] at h; rw [h]; rfl
     rw [h,h6]
     simp only [cond_true,cond_false]
     exact ⟨_,rfl⟩
    ·rw [h]
     simp only [cond_true,cond_false]
     exact ⟨_,rfl⟩
  ·rw [hi] at c2
   rw [Bool.or_eq_true] at c2
   rcases c2 with h | h
   ·have h9:(cls f a==9)=false:=by rw [beq_iff_eq] at h; rw [h]; rfl
    rw [h,h9]
    simp only [cond_true,cond_false]
    exact ⟨_,rfl⟩
   ·rw [h]
    simp only [cond_true,cond_false]
    exact ⟨_,rfl⟩
 ·rw [hn] at c1
  rw [Bool.or_eq_true] at c1
  rcases c1 with h | h
  ·have h0:(cls f a==0)=false:=by rw [beq_iff_eq] at h; rw [h]; rfl
   rw [h,h0]
   simp only [cond_true,cond_false]
   exact ⟨_,rfl⟩
  ·rw [h]
   simp only [cond_true,cond_false]
   exact ⟨_,rfl⟩
theorem T393_ok {f w:Int} (hw:Fm w) {a:Nat} (ha:chk f a=0):∃ g:Int,T393 (f,w,(0:Int),(a:Int),())=some (((convN f w a:Nat):Int),g,0,()):=by
 obtain ⟨g,p1⟩:=T392_ok (f:=f) hw ha
 have p0:=T391_ok (m:=0) hw (by decide) ha
 refine ⟨g,?_⟩
 show t393 S391.pre S391.F S392.pre S392.F f w 0 a=_
 unfold t393
 simp only [pre391 p0,fun391 p0,pre392 p1,fun392 p1,cond_true,bne_self_eq_false,cond_false]
theorem W394_eq {f w:Int} (hf:Fm f) (N F:List Nat) (hN:N.length=5) (hF:F.length=5) (h:∀ i,i<5→cvt f w (F.getD i 0) (N.getD i 0)) :
  W394_22 ((w,(f,((0:Int),((),((),((0:Int),())))))),((),(Wd N,(Wd F,()))))=some (.inl ((),())):=by
 have key:=lfix_ind (m394_22 S389.pre S389.F S388.pre S388.F S390.pre S390.F S382.pre S382.F S27.pre S27.F S25.pre S25.F S354.pre S354.F S381.pre S381.F S318.pre S318.F S393.pre S393.F) (fun x=>5-x.1.2.2.2.2.2.1.toNat)
  (fun x=>∃ i:Nat,i≤5∧x=((w,(f,((0:Int),((),((),((i:Int),())))))),((),(Wd N,(Wd F,())))))
  (fun _=>.inl ((),())) ?_ _ ⟨0,Nat.zero_le _,rfl⟩
 ·exact key
 intro L x hx hL
 obtain ⟨i,hi,rfl⟩:=hx
 unfold h394_22
 rcases Nat.lt_or_ge i 5 with hlt | hge
 ·obtain ⟨h1,h2⟩:=h i hlt
  obtain ⟨g,p0⟩:=T393_ok (f:=w) (w:=f) hf h1
  rw [h2] at p0
  have e0:decide ((i:Int)<(5:Int))=true:=decide_eq_true (by omega)
  have e1:decide ((0:Int)≤(i:Int))=true:=decide_eq_true (by omega)
  have e2:decide ((i:Int)<((5:Nat):Int))=true:=decide_eq_true (by omega)
  have e3:(Wd F).getD (Int.toNat (i:Int)) 0=((F.getD i 0:Nat):Int):=by rw [Int.toNat_natCast,Wd_getD]
  have e4:(Wd N).getD (Int.toNat (i:Int)) 0=((N.getD i 0:Nat):Int):=by rw [Int.toNat_natCast,Wd_getD]
  have e5:IntKind.wrap .i64 ((i:Int)+1)=((i+1:Nat):Int):=by rw [wrapI (by omega)]; omega
  dsimp only
  simp only [e0,e1,e2,e3,e4,e5,Wd_len,hN,hF,Bool.and_self,cond_true,pre393 p0,fun393 p0,bne_self_eq_false,Bool.or_self,cond_false,Bool.true_or]
  exact hL _ ⟨i+1,by omega,rfl⟩ (by simp only [Int.toNat_natCast]; omega)
 ·have e0:decide ((i:Int)<(5:Int))=false:=decide_eq_false (by omega)
  simp only [e0,cond_false]
theorem T389_ok (f m:Int) {a b c:Nat} (ha:a<2^64) (hb:b<2^64) (hc:c<2^64) :
  ∃ (F:Nat) (M:Int) (A B C:Nat),F<4∧A<2^64∧B<2^64∧T389 ((f,m,(a:Int),(b:Int),(c:Int),()),())=some (((F:Int),M,(A:Int),(B:Int),(C:Int),()),()):=by
 obtain ⟨F,hF,p0⟩:=T385_ok f
 obtain ⟨M,p1⟩:=T386_ok m
 have hfm:Fm (F:Int):=⟨by omega,by omega⟩
 obtain ⟨A,p2,cA⟩:=fit_ok hfm ha
 obtain ⟨B,p3,cB⟩:=fit_ok hfm hb
 obtain ⟨C,p4,_⟩:=fit_ok hfm hc
 refine ⟨F,M,A,B,C,hF,pat_lt cA,pat_lt cB,?_⟩
 show t389 S385.pre S385.F S386.pre S386.F S388.pre S388.F (f,m,(a:Int),(b:Int),(c:Int),())=_
 unfold t389
 simp only [pre385 p0,fun385 p0,pre386 p1,fun386 p1,pre388 p2,fun388 p2,pre388 p3,fun388 p3,pre388 p4,fun388 p4,cond_true]
theorem twice_rest {f w:Int} (h:wid f w) {a b:Nat} (ha:chk f a=0) (hb:chk f b=0) :
  ∃ (x y:Nat) (g1 g2:Int),x<2^64∧y<2^64∧T393 (f,w,(0:Int),(a:Int),())=some ((x:Int),g1,0,())∧T393 (f,w,(0:Int),(b:Int),())=some ((y:Int),g2,0,()) ∧
   W394_22 ((w,(f,((0:Int),((),((),((0:Int),())))))),((),(((addA f 0 a b).1::(subA f 0 a b).1::(mulA f 0 a b).1::(divA f 0 a b).1::(sqrtF f 0 a).1::[]),(((addA w 0 x y).1::(subA w 0 x y).1::(mulA w 0 x y).1::(divA w 0 x y).1::(sqrtF w 0 x).1::[]),()))))=some (.inl ((),())):=by
 obtain ⟨hf,hw,_⟩:=wid_facts h
 obtain ⟨g1,p1⟩:=T393_ok (f:=f) hw ha
 obtain ⟨g2,p2⟩:=T393_ok (f:=f) hw hb
 have sa:=same_conv h ha
 have sb:=same_conv h hb
 refine ⟨convN f w a,convN f w b,g1,g2,pat_lt sa.2.1,pat_lt sb.2.1,p1,p2,?_⟩
 generalize convN f w a=x at *
 generalize convN f w b=y at *
 have cx:=sa.2.1
 have cy:=sb.2.1
 have sn:=same_neg h sb
 have r1:=add_cvt h sa sb
 have r2:=add_cvt h sa sn
 have r3:=mul_cvt h sa sb
 have r4:=div_cvt h sa sb
 have r5:=sqrt_cvt h sa
 have u1:(subA f 0 a b).1=((addT f a (negF f b):Nat):Int):=by
  unfold subA
  rw [if_pos hb]
  exact addA_N ha (neg_chk hf b)
 have u2:(subA w 0 x y).1=((addT w x (negF w y):Nat):Int):=by
  unfold subA
  rw [if_pos cy]
  exact addA_N cx (neg_chk hw y)
 rw [addA_N ha hb,addA_N cx cy,u1,u2,mulA_N ha hb,mulA_N cx cy,divA_N ha hb,divA_N cx cy,sqrtF_N ha,sqrtF_N cx]
 refine W394_eq hf [addT f a b,addT f a (negF f b),mulT f a b,divT f a b,sqrtT f a] [addT w x y,addT w x (negF w y),mulT w x y,divT w x y,sqrtT w x] rfl rfl ?_
 intro i hi
 match i,hi with
 | 0,_=>exact r1
 | 1,_=>exact r2
 | 2,_=>exact r3
 | 3,_=>exact r4
 | 4,_=>exact r5
theorem T394_true (f m:Int) {a b c:Nat} (ha:a<2^64) (hb:b<2^64) (hc:c<2^64):T394 ((f,m,(a:Int),(b:Int),(c:Int),()),())=some (true,()):=by
 obtain ⟨F,M,A,B,C,hF,hA,hB,p0⟩:=T389_ok f m ha hb hc
 show t394 S389.pre S389.F S388.pre S388.F S390.pre S390.F S382.pre S382.F S27.pre S27.F S25.pre S25.F S354.pre S354.F S381.pre S381.F S318.pre S318.F S393.pre S393.F W394_22 (f,m,(a:Int),(b:Int),(c:Int),())=_
 have key:∀ G:Int,G=0∨G=1∨G=2→∃ (w:Int) (A' B' x y:Nat) (g1 g2:Int),A'<2^64∧B'<2^64∧x<2^64∧y<2^64∧T388 (G,(A:Int),())=some ((A':Int),())∧T388 (G,(B:Int),())=some ((B':Int),())∧T390 (G,(C:Int),())=some (w,()) ∧
   T393 (G,w,(0:Int),(A':Int),())=some ((x:Int),g1,0,())∧T393 (G,w,(0:Int),(B':Int),())=some ((y:Int),g2,0,()) ∧
   W394_22 ((w,(G,((0:Int),((),((),((0:Int),())))))),((),(((addA G 0 A' B').1::(subA G 0 A' B').1::(mulA G 0 A' B').1::(divA G 0 A' B').1::(sqrtF G 0 A').1::[]),(((addA w 0 x y).1::(subA w 0 x y).1::(mulA w 0 x y).1::(divA w 0 x y).1::(sqrtF w 0 x).1::[]),()))))=some (.inl ((),())):=by
  intro G hG
  have hfm:Fm G:=⟨by omega,by omega⟩
  obtain ⟨A',q1,cA⟩:=fit_ok hfm hA
  obtain ⟨B',q2,cB⟩:=fit_ok hfm hB
  obtain ⟨w,q3,hwd⟩:=wider_ok hG C
  obtain ⟨x,y,g1,g2,hx,hy,q4,q5,q6⟩:=twice_rest hwd cA cB
  exact ⟨w,A',B',x,y,g1,g2,pat_lt cA,pat_lt cB,hx,hy,q1,q2,q3,q4,q5,q6⟩
 have pw:=T382_ok
 unfold t394
 simp only [pre389 p0,fun389 p0,cond_true]
 by_cases h3:(F:Int)=3
 ·obtain ⟨w,A',B',x,y,g1,g2,bA,bB,bx,by',q1,q2,q3,q4,q5,q6⟩:=key 2 (.inr (.inr rfl))
  have s1:=T27_eq 2 0 bA bB
  have s2:=T25_eq 2 0 bA bB
  have s3:=T354_eq 2 0 bA bB
  have s4:=T381_eq 2 0 bA bB
  have s5:=T318_eq 2 0 bA
  have r1:=T27_eq w 0 bx by'
  have r2:=T25_eq w 0 bx by'
  have r3:=T354_eq w 0 bx by'
  have r4:=T381_eq w 0 bx by'
  have r5:=T318_eq w 0 bx
  have e3:((F:Int)==3)=true:=by rw [h3]; rfl
  simp only [e3,cond_true,pre388 q1,fun388 q1,pre388 q2,fun388 q2,pre390 q3,fun390 q3,pre393 q4,fun393 q4,pre393 q5,fun393 q5,pre382 pw,fun382 pw,bne_self_eq_false,Bool.or_self,Bool.true_or,Bool.not_true,cond_false,
   pre27 s1,fun27 s1,pre25 s2,fun25 s2,pre354 s3,fun354 s3,pre381 s4,fun381 s4,pre318 s5,fun318 s5,pre27 r1,fun27 r1,pre25 r2,fun25 r2,pre354 r3,fun354 r3,pre381 r4,fun381 r4,pre318 r5,fun318 r5]
  show Vx.obind (W394_22 ((w,(2,((0:Int),((),((),((0:Int),())))))),((),(((addA 2 0 A' B').1::(subA 2 0 A' B').1::(mulA 2 0 A' B').1::(divA 2 0 A' B').1::(sqrtF 2 0 A').1::[]),(((addA w 0 x y).1::(subA w 0 x y).1::(mulA w 0 x y).1::(divA w 0 x y).1::(sqrtF w 0 x).1::[]),()))))) _=_
  rw [q6]
 ·obtain ⟨w,A',B',x,y,g1,g2,bA,bB,bx,by',q1,q2,q3,q4,q5,q6⟩:=key (F:Int) (by omega)
  have s1:=T27_eq (F:Int) 0 bA bB
  have s2:=T25_eq (F:Int) 0 bA bB
  have s3:=T354_eq (F:Int) 0 bA bB
  have s4:=T381_eq (F:Int) 0 bA bB
  have s5:=T318_eq (F:Int) 0 bA
  have r1:=T27_eq w 0 bx by'
  have r2:=T25_eq w 0 bx by'
  have r3:=T354_eq w 0 bx by'
  have r4:=T381_eq w 0 bx by'
  have r5:=T318_eq w 0 bx
  have e3:((F:Int)==3)=false:=beq_eq_false_iff_ne.2 h3
  simp only [e3,cond_true,pre388 q1,fun388 q1,pre388 q2,fun388 q2,pre390 q3,fun390 q3,pre393 q4,fun393 q4,pre393 q5,fun393 q5,pre382 pw,fun382 pw,bne_self_eq_false,Bool.or_self,Bool.true_or,Bool.not_true,cond_false,
   pre27 s1,fun27 s1,pre25 s2,fun25 s2,pre354 s3,fun354 s3,pre381 s4,fun381 s4,pre318 s5,fun318 s5,pre27 r1,fun27 r1,pre25 r2,fun25 r2,pre354 r3,fun354 r3,pre381 r4,fun381 r4,pre318 r5,fun318 r5]
  show Vx.obind (W394_22 ((w,((F:Int),((0:Int),((),((),((0:Int),())))))),((),(((addA F 0 A' B').1::(subA F 0 A' B').1::(mulA F 0 A' B').1::(divA F 0 A' B').1::(sqrtF F 0 A').1::[]),(((addA w 0 x y).1::(subA w 0 x y).1::(mulA w 0 x y).1::(divA w 0 x y).1::(sqrtF w 0 x).1::[]),()))))) _=_
  rw [q6]
end VL
