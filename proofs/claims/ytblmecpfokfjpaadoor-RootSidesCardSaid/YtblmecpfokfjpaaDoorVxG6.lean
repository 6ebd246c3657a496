/- Part 6 of the proof. What is proved: symbolic execution of the functions, proved sound; what each function of the program computes, and that every run ends with it; what these functions compute, in plain numbers. Conditions: each theorem bears its own. -/
import Derived.Test.YtblmecpfokfjpaaDoorVxG5
set_option linter.all false
set_option exponentiation.threshold 1000000
namespace VL
open Go Vx
def lowE (f:Int) (t:Int):Int:=(if 1-(fX f:Int)>t then 1-(fX f:Int) else t)-fP f+1
def isTiny (f m:Int) (neg:Bool) (n:Nat) (e:Int) (more:Bool):Prop:=topE n e<1-(fX f:Int)∧topE n e-fP f+blen (cutN m neg n e (topE n e-fP f+1) more)<1-(fX f:Int)
instance (f m:Int) (neg:Bool) (n:Nat) (e:Int) (more:Bool):Decidable (isTiny f m neg n e more):=by unfold isTiny; infer_instance
def rndN (f m:Int) (neg:Bool) (n:Nat) (e:Int) (more:Bool):Nat×Nat :=
 if topE n e>fX f then (beyB f m neg,20)
 else
  let q:=lowE f (topE n e)
  let u:=cutN m neg n e q more
  if q+blen u-1>fX f then (beyB f m neg,20)
  else ((q-(1-(fX f:Int)-fP f+1)).toNat*2^(fP f-1)+u+sgnF f neg,
   if cutR n e q more=0 then 0 else if isTiny f m neg n e more then 24 else 16)
theorem half_eq {f:Int} (hf:Fm f):(2*fX f-1)*2^(fP f-1)+2^fP f+2^(fP f-1)=2^(fW f-1):=by
 rcases Fm_cases hf with rfl | rfl | rfl | rfl <;> decide
theorem fX_ge {f:Int} (hf:Fm f):15≤fX f:=by
 rcases Fm_cases hf with rfl | rfl | rfl | rfl <;> decide
theorem T107_eq (neg:Bool) (n:Nat) (e:Int) (more:Bool) (f m:Int) (hf:Fm f) (hn:n<(2^64)^2000) (he:-1000000≤e∧e≤1000000) :
  T107 ((neg,Dw n,e,more,()),f,rowOf f,m,())=some (((rndN f m neg n e more).1:Int),((rndN f m neg n e more).2:Int),()):=by
 show t107 _ _ _ _ _ _ _ _ _ _ (neg,Dw n,e,more,()) f ((fW f:Int),((fP f:Int),((1-(fX f:Int)),((fX f:Int),())))) m=_
 unfold t107 rndN
 have hb:=big_blen hn
 have hp:=fP_lt hf
 have hp8:=fP_ge hf
 have hw:=fW_le hf
 have hx:=fX_le hf
 have hx15:=fX_ge hf
 have ht:topE n e=e+(blen n:Int)-1:=rfl
 have pt:=T148_eq neg n e more hn he
 have pb:=T149_eq hf m neg
 have py:=T152_eq neg n e more f m hf hn he
 have hrow:rowOf f=((fW f:Int),((fP f:Int),((1-(fX f:Int)),((fX f:Int),())))):=rfl
 rw [hrow] at py
 simp only [pre148 pt,fun148 pt,cond_true]
 by_cases h1:topE n e>(fX f:Int)
 ·rw [if_pos h1,decide_eq_true h1,cond_true]
  simp only [pre149 pb,fun149 pb,cond_true]
  rfl
 rw [if_neg h1,decide_eq_false h1,cond_false]
 have hM:∃ M:Int,(if 1-(fX f:Int)>topE n e then 1-(fX f:Int) else topE n e)=M∧topE n e≤M∧1-(fX f:Int)≤M∧M≤fX f∧(M=topE n e∨M=1-(fX f:Int)):=by
  refine ⟨_,rfl,?_⟩
  split <;> omega
 obtain ⟨M,hMe,m1,m2,m3,m4⟩:=hM
 have hq:lowE f (topE n e)=M-fP f+1:=by unfold lowE; rw [hMe]
 simp only [hMe,hq]
 have e1:IntKind.wrap .i64 (M-(fP f:Int))=M-(fP f:Int):=wrapI (by omega)
 have e2:IntKind.wrap .i64 (M-(fP f:Int)+1)=M-(fP f:Int)+1:=wrapI (by omega)
 simp only [e1,e2]
 have p0:=T150_ok m neg n e (M-(fP f:Int)+1) more hn he (p:=fP f) (by omega) (by omega) (by omega)
 have hc:=cut_le (m:=m) (neg:=neg) (more:=more) (n:=n) (e:=e) (q:=M-(fP f:Int)+1) (p:=fP f) (by omega)
 generalize cutN m neg n e (M-(fP f:Int)+1) more=u at *
 generalize cutR n e (M-(fP f:Int)+1) more=r at *
 have hP60:2^fP f≤2^60:=Nat.pow_le_pow_right (by decide) (by omega)
 have hu:u<(2^64)^5000:=by
  rw [pow64]
  exact Nat.lt_of_le_of_lt hc (Nat.pow_lt_pow_right (by decide) (by omega))
 have hub:blen u≤fP f+1:=blen_bound (Nat.lt_of_le_of_lt hc (Nat.pow_lt_pow_right (by decide) (by omega)))
 have p1:=T151_Dw hu
 have e3:IntKind.wrap .i64 ((fP f:Int)-1)=((fP f-1:Nat):Int):=wsub1 _ (by omega)
 have e4:IntKind.wrap .i64 ((fW f:Int)-1)=((fW f-1:Nat):Int):=wsub1 _ (by omega)
 have e5:IntKind.wrap .i64 (M-(fP f:Int)+1+(blen u:Int))=M-(fP f:Int)+1+(blen u:Int):=wrapI (by omega)
 have e6:IntKind.wrap .i64 (M-(fP f:Int)+1+(blen u:Int)-1)=M-(fP f:Int)+1+(blen u:Int)-1:=wrapI (by omega)
 have e7:IntKind.wrap .i64 (1-(fX f:Int)-(fP f:Int))=1-(fX f:Int)-(fP f:Int):=wrapI (by omega)
 have e8:IntKind.wrap .i64 (1-(fX f:Int)-(fP f:Int)+1)=1-(fX f:Int)-(fP f:Int)+1:=wrapI (by omega)
 obtain ⟨k,hk⟩:=Int.eq_ofNat_of_zero_le (show 0≤M-(fP f:Int)+1-(1-(fX f:Int)-(fP f:Int)+1) by omega)
 have e9:IntKind.wrap .i64 (M-(fP f:Int)+1-(1-(fX f:Int)-(fP f:Int)+1))=(k:Int):=by rw [wrapI (by omega)]; exact hk
 have e10:IntKind.wrap .u64 (k:Int)=(k:Int):=wrapU (by omega)
 have hkn:(M-(fP f:Int)+1-(1-(fX f:Int)-(fP f:Int)+1)).toNat=k:=by omega
 have hhalf:=half_eq hf
 have hk2:k≤2*fX f-1:=by omega
 have hk3:=Nat.mul_le_mul_right (2^(fP f-1)) hk2
 have hW64:2^(fW f-1)≤2^63:=Nat.pow_le_pow_right (by decide) (by omega)
 have hpp:=Nat.two_pow_pos (fP f-1)
 have e11:shlI .u64 (k:Int) ((fP f-1:Nat):Int)=((k*2^(fP f-1):Nat):Int):=by
  rw [shlN _ _ (by omega),Nat.mod_eq_of_lt (by omega)]
 have e12:shlI .u64 1 ((fW f-1:Nat):Int)=((1*2^(fW f-1):Nat):Int):=by rw [shlI_one (by omega),Nat.one_mul]
 generalize hA:k*2^(fP f-1)=A at *
 have hbits:A+u<2^(fW f-1):=by omega
 have e13:IntKind.wrap .u64 ((A:Int)+((u%2^64:Nat):Int))=((A+u:Nat):Int):=by
  rw [Nat.mod_eq_of_lt (by omega),wrapU (by omega)]; omega
 have hor:∀ b:Nat,b<2^(fW f-1)→orI .u64 (b:Int) ((1*2^(fW f-1):Nat):Int)=((b+2^(fW f-1):Nat):Int):=fun b hb=>by
  have:=orN (a:=b) (b:=1) (k:=fW f-1) hb (by omega)
  rw [Nat.one_mul] at this ⊢
  exact this
 have hsg:sgnF f neg=if neg then 2^(fW f-1) else 0:=rfl
 have htd:decide (topE n e<1-(fX f:Int)∧topE n e-fP f+blen (cutN m neg n e (topE n e-fP f+1) more)<1-(fX f:Int))=decide (isTiny f m neg n e more):=by
  unfold isTiny; rfl
 rw [htd] at py
 simp only [pre150 p0,fun150 p0,cond_true,e3,nnn,pre151 p1,fun151 p1,e5,e6,e7,e8,e9,e10,e11,e4,e12,hkn,hA]
 rcases Nat.eq_zero_or_pos u with hu0 | hu0
 ·subst hu0
  have hl0:decide ((((Dw 0).length:Nat):Int)>0)=false:=by rw [Dw_zero]; rfl
  rw [hl0,cond_false]
  by_cases h2:M-(fP f:Int)+1+(blen 0:Int)-1>(fX f:Int)
  ·rw [decide_eq_true h2,cond_true,if_pos h2]
   simp only [pre149 pb,fun149 pb,cond_true]
   rfl
  ·rw [decide_eq_false h2,cond_false,if_neg h2]
   have hbi:=hor (A) (by omega)
   rw [hbi]
   by_cases hr:r=0
   ·rw [if_pos hr,decide_eq_false (p:=r≠0) (by omega)]
    simp only [Bool.not_false,cond_true]
    cases neg <;> rfl
   ·rw [if_neg hr,decide_eq_true (p:=r≠0) hr]
    simp only [Bool.not_true,cond_false,pre152 py,fun152 py,cond_true]
    by_cases hti:isTiny f m neg n e more
    ·rw [if_pos hti,decide_eq_true hti]
     cases neg <;> rfl
    ·rw [if_neg hti,decide_eq_false hti]
     cases neg <;> rfl
 ·have hun:u≠0:=by omega
  simp only [Dw_len_gt hun,Dw_len_pos hun,cond_true,Int.toNat_zero,Dw_get,e13]
  by_cases h2:M-(fP f:Int)+1+(blen u:Int)-1>(fX f:Int)
  ·rw [decide_eq_true h2,cond_true,if_pos h2]
   simp only [pre149 pb,fun149 pb,cond_true]
   rfl
  ·rw [decide_eq_false h2,cond_false,if_neg h2]
   have hbi:=hor (A+u) (by omega)
   rw [hbi]
   by_cases hr:r=0
   ·rw [if_pos hr,decide_eq_false (p:=r≠0) (by omega)]
    simp only [Bool.not_false,cond_true]
    cases neg <;> rfl
   ·rw [if_neg hr,decide_eq_true (p:=r≠0) hr]
    simp only [Bool.not_true,cond_false,pre152 py,fun152 py,cond_true]
    by_cases hti:isTiny f m neg n e more
    ·rw [if_pos hti,decide_eq_true hti]
     cases neg <;> rfl
    ·rw [if_neg hti,decide_eq_false hti]
     cases neg <;> rfl
theorem T105_ok {f m:Int} (hf:Fm f) (hm:0≤m∧m≤5):T105 (f,m,())=some (rowOf f,0,()):=by
 show t105 S69.pre S69.F S147.pre S147.F f m=_
 unfold t105
 have p0:=T69_ok hf
 have p1:T147 (m,())=some (0,()):=by
  show t147 m=_
  unfold t147
  rw [decide_eq_false (show ¬ m<0 by omega),decide_eq_false (show ¬ m>5 by omega)]; rfl
 simp only [pre69 p0,fun69 p0,cond_true,pre147 p1,fun147 p1]
 rfl
theorem T156_ok {f:Int} (h:Fm f) (neg:Bool):T156 (f,neg,())=some ((sgnF f neg:Int),0,0,()):=by
 show t156 S118.pre S118.F f neg=_
 unfold t156
 have p0:=T118_ok h neg
 simp only [pre118 p0,fun118 p0,cond_true]
theorem two_words (s:Nat) (hs:s<2^128):(Wi s).2.1::(Wi s).1::[]=Wd [s%2^64,s/2^64]∧Ws [s%2^64,s/2^64]∧nv (2^64) [s%2^64,s/2^64]=s:=by
 refine ⟨rfl,⟨?_,by simp⟩,?_⟩
 ·intro x hx
  have:x=s%2^64∨x=s/2^64:=by simpa using hx
  omega
 ·simp only [nv]; omega
theorem T122_eq {f m:Int} (hf:Fm f) (hm:0≤m∧m≤5) (neg:Bool) (s:Nat) (hs:s<2^128) (e:Int) (he:-40000≤e∧e≤40000) (more:Bool) (hmore:more=true→fP f+2≤blen s) :
  T122 (f,m,neg,Wi s,e,more,())=some (if s=0 then ((sgnF f neg:Int),0,0,()) else (((rndN f m neg s e more).1:Int),((rndN f m neg s e more).2:Int),0,())):=by
 show t122 _ _ _ _ _ _ _ _ _ _ f m neg (Wi s) e more=_
 unfold t122
 obtain ⟨w1,w2,w3⟩:=two_words s hs
 have hP:=fP_lt hf
 have hW:=fW_le hf
 have p0:=T105_ok hf hm
 have p1:=T102_eq _ w2
 rw [← w1,w3] at p1
 have hs2:s<(2^64)^2000:=by
  rw [pow64]
  exact Nat.lt_of_lt_of_le hs (Nat.pow_le_pow_right (by decide) (by decide))
 have p2:=T151_Dw (lt5000 hs2)
 have p3:=T156_ok hf neg
 have p4:=T107_eq neg s e more f m hf hs2 (by omega)
 have e1:decide (e < -40000)=false:=decide_eq_false (by omega)
 have e2:decide (e>40000)=false:=decide_eq_false (by omega)
 have e3:IntKind.wrap .i64 ((rowOf f).2.1+2)=((fP f+2:Nat):Int):=by
  show IntKind.wrap .i64 ((fP f:Int)+2)=_
  rw [wrapI (by omega)]; rfl
 have e4:(more&&decide ((blen s:Int)<((fP f+2:Nat):Int)))=false:=by
  cases more with
  | false=>rfl
  | true=>rw [decide_eq_false (by have:=hmore rfl; omega)]; rfl
 have z0:((0:Int) != 0)=false:=rfl
 simp only [pre105 p0,fun105 p0,cond_true,z0,cond_false,pre102 p1,fun102 p1,e1,e2,Bool.or_self,pre151 p2,fun151 p2,Bool.true_or,e3,e4]
 by_cases h0:s=0
 ·rw [if_pos h0]
  subst h0
  rw [show ((((Dw 0).length:Nat):Int)==0)=true by rw [Dw_zero]; rfl,cond_true]
  simp only [pre156 p3,fun156 p3,cond_true]
 ·rw [if_neg h0,beq0_f _ (by have:=Dw_len h0; omega),cond_false]
  simp only [pre107 p4,fun107 p4,cond_true]
end VL
namespace VL
open Go Vx
theorem cls_more {r k s ρ:Nat} (hρ:0<ρ) (hρ2:ρ<2^k) (hs:1≤s):clsR (ρ+2^k*r) (k+s)=clsR r s/2*2+1:=by
 unfold clsR
 have hp:2^(k+s-1)=2^k*2^(s-1):=by rw [← Nat.pow_add]; congr 1; omega
 rw [hp]
 have hh:=Nat.two_pow_pos (s-1)
 generalize 2^(s-1)=h at *
 generalize 2^k=K at *
 rw [if_neg (by omega)]
 rcases Nat.lt_trichotomy r h with h1 | h1 | h1
 ·have:K*(r+1)≤K*h:=Nat.mul_le_mul_left _ h1
  rw [Nat.mul_add,Nat.mul_one] at this
  rw [if_pos (by omega)]
  by_cases hr:r=0
  ·rw [if_pos hr]
  ·rw [if_neg hr,if_pos h1]
 ·subst h1
  rw [if_neg (by omega),if_neg (by omega),if_neg (by omega),if_neg (by omega),if_pos rfl]
 ·have:K*(h+1)≤K*r:=Nat.mul_le_mul_left _ h1
  rw [Nat.mul_add,Nat.mul_one] at this
  rw [if_neg (by omega),if_neg (by omega),if_neg (by omega),if_neg (by omega),if_neg (by omega)]
theorem cls_scale {r k s:Nat} (hs:1≤s):clsR (2^k*r) (k+s)=clsR r s:=by
 unfold clsR
 have hp:2^(k+s-1)=2^k*2^(s-1):=by rw [← Nat.pow_add]; congr 1; omega
 rw [hp]
 have hk:=Nat.two_pow_pos k
 generalize 2^(s-1)=h at *
 generalize 2^k=K at *
 have h1:K*r=0↔r=0:=by
  constructor
  ·intro h; rcases Nat.mul_eq_zero.1 h with h | h <;> omega
  ·intro h; rw [h,Nat.mul_zero]
 have h2:K*r<K*h↔r<h:=Nat.mul_lt_mul_left hk
 have h3:K*r=K*h↔r=h:=Nat.mul_right_inj (by omega)
 simp only [h1,h2,h3]
theorem mod_split (N k s:Nat):N%2^(k+s)=N%2^k+2^k*(N/2^k%2^s):=by
 rw [Nat.pow_add,Nat.mod_mul]
theorem quoE_lo {n:Nat} {e q:Int} (h:q≤e):quoE n e q=n*2^(e-q).toNat:=if_pos h
theorem quoE_hi {n:Nat} {e q:Int} (h:e<q):quoE n e q=n/2^(q-e).toNat:=if_neg (by omega)
theorem rstE_lo {n:Nat} {e q:Int} (h:q≤e):rstE n e q=0:=if_pos h
theorem rstE_hi {n:Nat} {e q:Int} (h:e<q):rstE n e q=clsR (n%2^(q-e).toNat) (q-e).toNat:=if_neg (by omega)
theorem cutR_f (n:Nat) (e q:Int):cutR n e q false=rstE n e q:=rfl
theorem cutR_t (n:Nat) (e q:Int):cutR n e q true=rstE n e q/2*2+1:=rfl
theorem cut_trunc {N k:Nat} {E q:Int} (hq:N%2^k≠0→E+k<q) :
  quoE (N/2^k) (E+k) q=quoE N E q∧cutR (N/2^k) (E+k) q (decide (N%2^k≠0))=cutR N E q false:=by
 have hk:=Nat.two_pow_pos k
 have hdm:=Nat.div_add_mod N (2^k)
 by_cases h1:E+k<q
 ·have es:(q-E).toNat=k+(q-(E+k)).toNat:=by omega
  have hs:1≤(q-(E+k)).toNat:=by omega
  rw [quoE_hi h1,quoE_hi (by omega),cutR_f,rstE_hi (e:=E) (by omega),es]
  have hrs:=rstE_hi (n:=N/2^k) h1
  generalize (q-(E+k)).toNat=s at *
  refine ⟨by rw [Nat.div_div_eq_div_mul,← Nat.pow_add],?_⟩
  rw [mod_split]
  by_cases hr:N%2^k=0
  ·rw [hr,Nat.zero_add,cls_scale hs,show decide ((0:Nat)≠0)=false by decide,cutR_f,hrs]
  ·have hρ:0<N%2^k:=by omega
   rw [cls_more hρ (Nat.mod_lt _ hk) hs,decide_eq_true hr,cutR_t,hrs]
 ·have hr:N%2^k=0:=by
   by_cases h:N%2^k=0
   ·exact h
   ·exact absurd (hq h) h1
  rw [hr,Nat.add_zero] at hdm
  rw [hr]
  clear hq hr
  generalize N/2^k=n at *
  subst hdm
  have hz:decide ((0:Nat)≠0)=false:=by decide
  rw [hz,quoE_lo (by omega),cutR_f,cutR_f,rstE_lo (by omega)]
  by_cases h2:q≤E
  ·rw [quoE_lo h2,rstE_lo h2,show (E+k-q).toNat=k+(E-q).toNat by omega,Nat.pow_add,Nat.mul_comm (2^k) n,Nat.mul_assoc]
   exact ⟨rfl,rfl⟩
  ·rw [quoE_hi (by omega),rstE_hi (by omega)]
   have ek:k=(q-E).toNat+(E+k-q).toNat:=by omega
   generalize (q-E).toNat=s at *
   generalize (E+k-q).toNat=t at *
   have:2^k*n=2^s*(2^t*n):=by rw [ek,Nat.pow_add,Nat.mul_assoc]
   rw [this,Nat.mul_div_cancel_left _ (Nat.two_pow_pos s),Nat.mul_mod_right]
   exact ⟨Nat.mul_comm _ _,rfl⟩
theorem cutN_trunc {m:Int} {neg:Bool} {N k:Nat} {E q:Int} (hq:N%2^k≠0→E+k<q):cutN m neg (N/2^k) (E+k) q (decide (N%2^k≠0))=cutN m neg N E q false:=by
 obtain ⟨h1,h2⟩:=cut_trunc hq
 unfold cutN
 rw [h1,h2]
theorem top_trunc {N k:Nat} {E:Int} (hn:N/2^k≠0):topE (N/2^k) (E+k)=topE N E:=by
 have hk:=Nat.two_pow_pos k
 have h1:2^k≤N:=by
  rcases Nat.lt_or_ge N (2^k) with h | h
  ·exact absurd (Nat.div_eq_of_lt h) hn
  ·exact h
 have:=blen_shift h1
 unfold topE
 omega
theorem rnd_trunc {f m:Int} {neg:Bool} {N k:Nat} {E:Int} (hf:Fm f) (hn:N/2^k≠0) (hm:N%2^k≠0→fP f+2≤blen (N/2^k)):rndN f m neg (N/2^k) (E+k) (decide (N%2^k≠0))=rndN f m neg N E false:=by
 have ht:=top_trunc (E:=E) hn
 have htd:topE (N/2^k) (E+k)=E+k+(blen (N/2^k):Int)-1:=rfl
 have hq1:N%2^k≠0→E+k<lowE f (topE N E):=fun h=>by
  have:=hm h
  unfold lowE
  split <;> omega
 have hq2:N%2^k≠0→E+k<topE N E-fP f+1:=fun h=>by
  have:=hm h
  omega
 have hti:isTiny f m neg (N/2^k) (E+k) (decide (N%2^k≠0))=isTiny f m neg N E false:=by
  unfold isTiny
  rw [ht,cutN_trunc hq2]
 unfold rndN
 simp only [ht,cutN_trunc hq1,(cut_trunc hq1).2,hti]
theorem rnd_scale {f m:Int} {neg:Bool} (hf:Fm f) {n:Nat} (hn:n≠0) (k:Nat) (e:Int):rndN f m neg (n*2^k) e false=rndN f m neg n (e+k) false:=by
 have hk:=Nat.two_pow_pos k
 have:=rnd_trunc (f:=f) (m:=m) (neg:=neg) (N:=n*2^k) (k:=k) (E:=e) hf (by rw [Nat.mul_div_cancel _ hk]; exact hn) (by rw [Nat.mul_mod_left]; omega)
 rw [Nat.mul_div_cancel _ hk,Nat.mul_mod_left] at this
 exact this.symm
end VL
namespace VL
open Go Vx
noncomputable def tail71 (f m:Int) (nx:Bool) (X ex:Int) (ny:Bool) (Y ey:Int):Option (DenS O71) :=
 bif (S119.pre (((0:Int),(X,())),((if ((70:Int)<(Go.IntKind.wrap Go.IntKind.i64 (ex-ey))) then (70:Int) else (Go.IntKind.wrap Go.IntKind.i64 (ex-ey))),()))) then
  (bif (S120.pre (((0:Int),(Y,())),((Go.IntKind.wrap Go.IntKind.i64 ((Go.IntKind.wrap Go.IntKind.i64 (ex-(if ((70:Int)<(Go.IntKind.wrap Go.IntKind.i64 (ex-ey))) then (70:Int) else (Go.IntKind.wrap Go.IntKind.i64 (ex-ey)))))-ey)),()))) then
   (bif (S119.pre ((S120.F (((0:Int),(Y,())),((Go.IntKind.wrap Go.IntKind.i64 ((Go.IntKind.wrap Go.IntKind.i64 (ex-(if ((70:Int)<(Go.IntKind.wrap Go.IntKind.i64 (ex-ey))) then (70:Int) else (Go.IntKind.wrap Go.IntKind.i64 (ex-ey)))))-ey)),()))).1,((Go.IntKind.wrap Go.IntKind.i64 ((Go.IntKind.wrap Go.IntKind.i64 (ex-(if ((70:Int)<(Go.IntKind.wrap Go.IntKind.i64 (ex-ey))) then (70:Int) else (Go.IntKind.wrap Go.IntKind.i64 (ex-ey)))))-ey)),()))) then
    (bif (S120.pre (((0:Int),(Y,())),((Go.IntKind.wrap Go.IntKind.i64 ((Go.IntKind.wrap Go.IntKind.i64 (ex-(if ((70:Int)<(Go.IntKind.wrap Go.IntKind.i64 (ex-ey))) then (70:Int) else (Go.IntKind.wrap Go.IntKind.i64 (ex-ey)))))-ey)),()))) then
     (bif (nx==ny) then
      (bif (S121.pre ((S119.F (((0:Int),(X,())),((if ((70:Int)<(Go.IntKind.wrap Go.IntKind.i64 (ex-ey))) then (70:Int) else (Go.IntKind.wrap Go.IntKind.i64 (ex-ey))),()))).1,(S120.F (((0:Int),(Y,())),((Go.IntKind.wrap Go.IntKind.i64 ((Go.IntKind.wrap Go.IntKind.i64 (ex-(if ((70:Int)<(Go.IntKind.wrap Go.IntKind.i64 (ex-ey))) then (70:Int) else (Go.IntKind.wrap Go.IntKind.i64 (ex-ey)))))-ey)),()))))) then
       (bif (S122.pre (f,(m,(nx,((S121.F ((S119.F (((0:Int),(X,())),((if ((70:Int)<(Go.IntKind.wrap Go.IntKind.i64 (ex-ey))) then (70:Int) else (Go.IntKind.wrap Go.IntKind.i64 (ex-ey))),()))).1,(S120.F (((0:Int),(Y,())),((Go.IntKind.wrap Go.IntKind.i64 ((Go.IntKind.wrap Go.IntKind.i64 (ex-(if ((70:Int)<(Go.IntKind.wrap Go.IntKind.i64 (ex-ey))) then (70:Int) else (Go.IntKind.wrap Go.IntKind.i64 (ex-ey)))))-ey)),()))))).1,((Go.IntKind.wrap Go.IntKind.i64 (ex-(if ((70:Int)<(Go.IntKind.wrap Go.IntKind.i64 (ex-ey))) then (70:Int) else (Go.IntKind.wrap Go.IntKind.i64 (ex-ey))))),(((!(((S119.F ((S120.F (((0:Int),(Y,())),((Go.IntKind.wrap Go.IntKind.i64 ((Go.IntKind.wrap Go.IntKind.i64 (ex-(if ((70:Int)<(Go.IntKind.wrap Go.IntKind.i64 (ex-ey))) then (70:Int) else (Go.IntKind.wrap Go.IntKind.i64 (ex-ey)))))-ey)),()))).1,((Go.IntKind.wrap Go.IntKind.i64 ((Go.IntKind.wrap Go.IntKind.i64 (ex-(if ((70:Int)<(Go.IntKind.wrap Go.IntKind.i64 (ex-ey))) then (70:Int) else (Go.IntKind.wrap Go.IntKind.i64 (ex-ey)))))-ey)),()))).1.1==(0:Int))&&((S119.F ((S120.F (((0:Int),(Y,())),((Go.IntKind.wrap Go.IntKind.i64 ((Go.IntKind.wrap Go.IntKind.i64 (ex-(if ((70:Int)<(Go.IntKind.wrap Go.IntKind.i64 (ex-ey))) then (70:Int) else (Go.IntKind.wrap Go.IntKind.i64 (ex-ey)))))-ey)),()))).1,((Go.IntKind.wrap Go.IntKind.i64 ((Go.IntKind.wrap Go.IntKind.i64 (ex-(if ((70:Int)<(Go.IntKind.wrap Go.IntKind.i64 (ex-ey))) then (70:Int) else (Go.IntKind.wrap Go.IntKind.i64 (ex-ey)))))-ey)),()))).1.2.1==Y)))||((decide ((Go.IntKind.wrap Go.IntKind.i64 ((Go.IntKind.wrap Go.IntKind.i64 (ex-(if ((70:Int)<(Go.IntKind.wrap Go.IntKind.i64 (ex-ey))) then (70:Int) else (Go.IntKind.wrap Go.IntKind.i64 (ex-ey)))))-ey))>(63:Int)))&&(Y != (0:Int)))),()))))))) then
        (some (S122.F (f,(m,(nx,((S121.F ((S119.F (((0:Int),(X,())),((if ((70:Int)<(Go.IntKind.wrap Go.IntKind.i64 (ex-ey))) then (70:Int) else (Go.IntKind.wrap Go.IntKind.i64 (ex-ey))),()))).1,(S120.F (((0:Int),(Y,())),((Go.IntKind.wrap Go.IntKind.i64 ((Go.IntKind.wrap Go.IntKind.i64 (ex-(if ((70:Int)<(Go.IntKind.wrap Go.IntKind.i64 (ex-ey))) then (70:Int) else (Go.IntKind.wrap Go.IntKind.i64 (ex-ey)))))-ey)),()))))).1,((Go.IntKind.wrap Go.IntKind.i64 (ex-(if ((70:Int)<(Go.IntKind.wrap Go.IntKind.i64 (ex-ey))) then (70:Int) else (Go.IntKind.wrap Go.IntKind.i64 (ex-ey))))),(((!(((S119.F ((S120.F (((0:Int),(Y,())),((Go.IntKind.wrap Go.IntKind.i64 ((Go.IntKind.wrap Go.IntKind.i64 (ex-(if ((70:Int)<(Go.IntKind.wrap Go.IntKind.i64 (ex-ey))) then (70:Int) else (Go.IntKind.wrap Go.IntKind.i64 (ex-ey)))))-ey)),()))).1,((Go.IntKind.wrap Go.IntKind.i64 ((Go.IntKind.wrap Go.IntKind.i64 (ex-(if ((70:Int)<(Go.IntKind.wrap Go.IntKind.i64 (ex-ey))) then (70:Int) else (Go.IntKind.wrap Go.IntKind.i64 (ex-ey)))))-ey)),()))).1.1==(0:Int))&&((S119.F ((S120.F (((0:Int),(Y,())),((Go.IntKind.wrap Go.IntKind.i64 ((Go.IntKind.wrap Go.IntKind.i64 (ex-(if ((70:Int)<(Go.IntKind.wrap Go.IntKind.i64 (ex-ey))) then (70:Int) else (Go.IntKind.wrap Go.IntKind.i64 (ex-ey)))))-ey)),()))).1,((Go.IntKind.wrap Go.IntKind.i64 ((Go.IntKind.wrap Go.IntKind.i64 (ex-(if ((70:Int)<(Go.IntKind.wrap Go.IntKind.i64 (ex-ey))) then (70:Int) else (Go.IntKind.wrap Go.IntKind.i64 (ex-ey)))))-ey)),()))).1.2.1==Y)))||((decide ((Go.IntKind.wrap Go.IntKind.i64 ((Go.IntKind.wrap Go.IntKind.i64 (ex-(if ((70:Int)<(Go.IntKind.wrap Go.IntKind.i64 (ex-ey))) then (70:Int) else (Go.IntKind.wrap Go.IntKind.i64 (ex-ey)))))-ey))>(63:Int)))&&(Y != (0:Int)))),()))))))))
       else none)
      else none)
     else bif (S123.pre ((S119.F (((0:Int),(X,())),((if ((70:Int)<(Go.IntKind.wrap Go.IntKind.i64 (ex-ey))) then (70:Int) else (Go.IntKind.wrap Go.IntKind.i64 (ex-ey))),()))).1,(S120.F (((0:Int),(Y,())),((Go.IntKind.wrap Go.IntKind.i64 ((Go.IntKind.wrap Go.IntKind.i64 (ex-(if ((70:Int)<(Go.IntKind.wrap Go.IntKind.i64 (ex-ey))) then (70:Int) else (Go.IntKind.wrap Go.IntKind.i64 (ex-ey)))))-ey)),()))))) then
      (bif (decide ((S123.F ((S119.F (((0:Int),(X,())),((if ((70:Int)<(Go.IntKind.wrap Go.IntKind.i64 (ex-ey))) then (70:Int) else (Go.IntKind.wrap Go.IntKind.i64 (ex-ey))),()))).1,(S120.F (((0:Int),(Y,())),((Go.IntKind.wrap Go.IntKind.i64 ((Go.IntKind.wrap Go.IntKind.i64 (ex-(if ((70:Int)<(Go.IntKind.wrap Go.IntKind.i64 (ex-ey))) then (70:Int) else (Go.IntKind.wrap Go.IntKind.i64 (ex-ey)))))-ey)),()))))).1<(0:Int))) then
       (bif (S124.pre ((S120.F (((0:Int),(Y,())),((Go.IntKind.wrap Go.IntKind.i64 ((Go.IntKind.wrap Go.IntKind.i64 (ex-(if ((70:Int)<(Go.IntKind.wrap Go.IntKind.i64 (ex-ey))) then (70:Int) else (Go.IntKind.wrap Go.IntKind.i64 (ex-ey)))))-ey)),()))).1,(S119.F (((0:Int),(X,())),((if ((70:Int)<(Go.IntKind.wrap Go.IntKind.i64 (ex-ey))) then (70:Int) else (Go.IntKind.wrap Go.IntKind.i64 (ex-ey))),()))))) then
        (bif ((!(((S119.F ((S120.F (((0:Int),(Y,())),((Go.IntKind.wrap Go.IntKind.i64 ((Go.IntKind.wrap Go.IntKind.i64 (ex-(if ((70:Int)<(Go.IntKind.wrap Go.IntKind.i64 (ex-ey))) then (70:Int) else (Go.IntKind.wrap Go.IntKind.i64 (ex-ey)))))-ey)),()))).1,((Go.IntKind.wrap Go.IntKind.i64 ((Go.IntKind.wrap Go.IntKind.i64 (ex-(if ((70:Int)<(Go.IntKind.wrap Go.IntKind.i64 (ex-ey))) then (70:Int) else (Go.IntKind.wrap Go.IntKind.i64 (ex-ey)))))-ey)),()))).1.1==(0:Int))&&((S119.F ((S120.F (((0:Int),(Y,())),((Go.IntKind.wrap Go.IntKind.i64 ((Go.IntKind.wrap Go.IntKind.i64 (ex-(if ((70:Int)<(Go.IntKind.wrap Go.IntKind.i64 (ex-ey))) then (70:Int) else (Go.IntKind.wrap Go.IntKind.i64 (ex-ey)))))-ey)),()))).1,((Go.IntKind.wrap Go.IntKind.i64 ((Go.IntKind.wrap Go.IntKind.i64 (ex-(if ((70:Int)<(Go.IntKind.wrap Go.IntKind.i64 (ex-ey))) then (70:Int) else (Go.IntKind.wrap Go.IntKind.i64 (ex-ey)))))-ey)),()))).1.2.1==Y)))||((decide ((Go.IntKind.wrap Go.IntKind.i64 ((Go.IntKind.wrap Go.IntKind.i64 (ex-(if ((70:Int)<(Go.IntKind.wrap Go.IntKind.i64 (ex-ey))) then (70:Int) else (Go.IntKind.wrap Go.IntKind.i64 (ex-ey)))))-ey))>(63:Int)))&&(Y != (0:Int)))) then
         (bif (S124.pre ((S124.F ((S120.F (((0:Int),(Y,())),((Go.IntKind.wrap Go.IntKind.i64 ((Go.IntKind.wrap Go.IntKind.i64 (ex-(if ((70:Int)<(Go.IntKind.wrap Go.IntKind.i64 (ex-ey))) then (70:Int) else (Go.IntKind.wrap Go.IntKind.i64 (ex-ey)))))-ey)),()))).1,(S119.F (((0:Int),(X,())),((if ((70:Int)<(Go.IntKind.wrap Go.IntKind.i64 (ex-ey))) then (70:Int) else (Go.IntKind.wrap Go.IntKind.i64 (ex-ey))),()))))).1,(((0:Int),((1:Int),())),()))) then
          (bif ((((S124.F ((S124.F ((S120.F (((0:Int),(Y,())),((Go.IntKind.wrap Go.IntKind.i64 ((Go.IntKind.wrap Go.IntKind.i64 (ex-(if ((70:Int)<(Go.IntKind.wrap Go.IntKind.i64 (ex-ey))) then (70:Int) else (Go.IntKind.wrap Go.IntKind.i64 (ex-ey)))))-ey)),()))).1,(S119.F (((0:Int),(X,())),((if ((70:Int)<(Go.IntKind.wrap Go.IntKind.i64 (ex-ey))) then (70:Int) else (Go.IntKind.wrap Go.IntKind.i64 (ex-ey))),()))))).1,(((0:Int),((1:Int),())),()))).1.1==(0:Int))&&((S124.F ((S124.F ((S120.F (((0:Int),(Y,())),((Go.IntKind.wrap Go.IntKind.i64 ((Go.IntKind.wrap Go.IntKind.i64 (ex-(if ((70:Int)<(Go.IntKind.wrap Go.IntKind.i64 (ex-ey))) then (70:Int) else (Go.IntKind.wrap Go.IntKind.i64 (ex-ey)))))-ey)),()))).1,(S119.F (((0:Int),(X,())),((if ((70:Int)<(Go.IntKind.wrap Go.IntKind.i64 (ex-ey))) then (70:Int) else (Go.IntKind.wrap Go.IntKind.i64 (ex-ey))),()))))).1,(((0:Int),((1:Int),())),()))).1.2.1==(0:Int)))&&(!((!(((S119.F ((S120.F (((0:Int),(Y,())),((Go.IntKind.wrap Go.IntKind.i64 ((Go.IntKind.wrap Go.IntKind.i64 (ex-(if ((70:Int)<(Go.IntKind.wrap Go.IntKind.i64 (ex-ey))) then (70:Int) else (Go.IntKind.wrap Go.IntKind.i64 (ex-ey)))))-ey)),()))).1,((Go.IntKind.wrap Go.IntKind.i64 ((Go.IntKind.wrap Go.IntKind.i64 (ex-(if ((70:Int)<(Go.IntKind.wrap Go.IntKind.i64 (ex-ey))) then (70:Int) else (Go.IntKind.wrap Go.IntKind.i64 (ex-ey)))))-ey)),()))).1.1==(0:Int))&&((S119.F ((S120.F (((0:Int),(Y,())),((Go.IntKind.wrap Go.IntKind.i64 ((Go.IntKind.wrap Go.IntKind.i64 (ex-(if ((70:Int)<(Go.IntKind.wrap Go.IntKind.i64 (ex-ey))) then (70:Int) else (Go.IntKind.wrap Go.IntKind.i64 (ex-ey)))))-ey)),()))).1,((Go.IntKind.wrap Go.IntKind.i64 ((Go.IntKind.wrap Go.IntKind.i64 (ex-(if ((70:Int)<(Go.IntKind.wrap Go.IntKind.i64 (ex-ey))) then (70:Int) else (Go.IntKind.wrap Go.IntKind.i64 (ex-ey)))))-ey)),()))).1.2.1==Y)))||((decide ((Go.IntKind.wrap Go.IntKind.i64 ((Go.IntKind.wrap Go.IntKind.i64 (ex-(if ((70:Int)<(Go.IntKind.wrap Go.IntKind.i64 (ex-ey))) then (70:Int) else (Go.IntKind.wrap Go.IntKind.i64 (ex-ey)))))-ey))>(63:Int)))&&(Y != (0:Int)))))) then
           (bif (S118.pre (f,((m==(4:Int)),()))) then
            (some ((S118.F (f,((m==(4:Int)),()))).1,((0:Int),((0:Int),()))))
           else none)
          else bif (S122.pre (f,(m,(ny,((S124.F ((S124.F ((S120.F (((0:Int),(Y,())),((Go.IntKind.wrap Go.IntKind.i64 ((Go.IntKind.wrap Go.IntKind.i64 (ex-(if ((70:Int)<(Go.IntKind.wrap Go.IntKind.i64 (ex-ey))) then (70:Int) else (Go.IntKind.wrap Go.IntKind.i64 (ex-ey)))))-ey)),()))).1,(S119.F (((0:Int),(X,())),((if ((70:Int)<(Go.IntKind.wrap Go.IntKind.i64 (ex-ey))) then (70:Int) else (Go.IntKind.wrap Go.IntKind.i64 (ex-ey))),()))))).1,(((0:Int),((1:Int),())),()))).1,((Go.IntKind.wrap Go.IntKind.i64 (ex-(if ((70:Int)<(Go.IntKind.wrap Go.IntKind.i64 (ex-ey))) then (70:Int) else (Go.IntKind.wrap Go.IntKind.i64 (ex-ey))))),(((!(((S119.F ((S120.F (((0:Int),(Y,())),((Go.IntKind.wrap Go.IntKind.i64 ((Go.IntKind.wrap Go.IntKind.i64 (ex-(if ((70:Int)<(Go.IntKind.wrap Go.IntKind.i64 (ex-ey))) then (70:Int) else (Go.IntKind.wrap Go.IntKind.i64 (ex-ey)))))-ey)),()))).1,((Go.IntKind.wrap Go.IntKind.i64 ((Go.IntKind.wrap Go.IntKind.i64 (ex-(if ((70:Int)<(Go.IntKind.wrap Go.IntKind.i64 (ex-ey))) then (70:Int) else (Go.IntKind.wrap Go.IntKind.i64 (ex-ey)))))-ey)),()))).1.1==(0:Int))&&((S119.F ((S120.F (((0:Int),(Y,())),((Go.IntKind.wrap Go.IntKind.i64 ((Go.IntKind.wrap Go.IntKind.i64 (ex-(if ((70:Int)<(Go.IntKind.wrap Go.IntKind.i64 (ex-ey))) then (70:Int) else (Go.IntKind.wrap Go.IntKind.i64 (ex-ey)))))-ey)),()))).1,((Go.IntKind.wrap Go.IntKind.i64 ((Go.IntKind.wrap Go.IntKind.i64 (ex-(if ((70:Int)<(Go.IntKind.wrap Go.IntKind.i64 (ex-ey))) then (70:Int) else (Go.IntKind.wrap Go.IntKind.i64 (ex-ey)))))-ey)),()))).1.2.1==Y)))||((decide ((Go.IntKind.wrap Go.IntKind.i64 ((Go.IntKind.wrap Go.IntKind.i64 (ex-(if ((70:Int)<(Go.IntKind.wrap Go.IntKind.i64 (ex-ey))) then (70:Int) else (Go.IntKind.wrap Go.IntKind.i64 (ex-ey)))))-ey))>(63:Int)))&&(Y != (0:Int)))),()))))))) then
           (some (S122.F (f,(m,(ny,((S124.F ((S124.F ((S120.F (((0:Int),(Y,())),((Go.IntKind.wrap Go.IntKind.i64 ((Go.IntKind.wrap Go.IntKind.i64 (ex-(if ((70:Int)<(Go.IntKind.wrap Go.IntKind.i64 (ex-ey))) then (70:Int) else (Go.IntKind.wrap Go.IntKind.i64 (ex-ey)))))-ey)),()))).1,(S119.F (((0:Int),(X,())),((if ((70:Int)<(Go.IntKind.wrap Go.IntKind.i64 (ex-ey))) then (70:Int) else (Go.IntKind.wrap Go.IntKind.i64 (ex-ey))),()))))).1,(((0:Int),((1:Int),())),()))).1,((Go.IntKind.wrap Go.IntKind.i64 (ex-(if ((70:Int)<(Go.IntKind.wrap Go.IntKind.i64 (ex-ey))) then (70:Int) else (Go.IntKind.wrap Go.IntKind.i64 (ex-ey))))),(((!(((S119.F ((S120.F (((0:Int),(Y,())),((Go.IntKind.wrap Go.IntKind.i64 ((Go.IntKind.wrap Go.IntKind.i64 (ex-(if ((70:Int)<(Go.IntKind.wrap Go.IntKind.i64 (ex-ey))) then (70:Int) else (Go.IntKind.wrap Go.IntKind.i64 (ex-ey)))))-ey)),()))).1,((Go.IntKind.wrap Go.IntKind.i64 ((Go.IntKind.wrap Go.IntKind.i64 (ex-(if ((70:Int)<(Go.IntKind.wrap Go.IntKind.i64 (ex-ey))) then (70:Int) else (Go.IntKind.wrap Go.IntKind.i64 (ex-ey)))))-ey)),()))).1.1==(0:Int))&&((S119.F ((S120.F (((0:Int),(Y,())),((Go.IntKind.wrap Go.IntKind.i64 ((Go.IntKind.wrap Go.IntKind.i64 (ex-(if ((70:Int)<(Go.IntKind.wrap Go.IntKind.i64 (ex-ey))) then (70:Int) else (Go.IntKind.wrap Go.IntKind.i64 (ex-ey)))))-ey)),()))).1,((Go.IntKind.wrap Go.IntKind.i64 ((Go.IntKind.wrap Go.IntKind.i64 (ex-(if ((70:Int)<(Go.IntKind.wrap Go.IntKind.i64 (ex-ey))) then (70:Int) else (Go.IntKind.wrap Go.IntKind.i64 (ex-ey)))))-ey)),()))).1.2.1==Y)))||((decide ((Go.IntKind.wrap Go.IntKind.i64 ((Go.IntKind.wrap Go.IntKind.i64 (ex-(if ((70:Int)<(Go.IntKind.wrap Go.IntKind.i64 (ex-ey))) then (70:Int) else (Go.IntKind.wrap Go.IntKind.i64 (ex-ey)))))-ey))>(63:Int)))&&(Y != (0:Int)))),()))))))))
          else none)
         else none)
        else bif ((((S124.F ((S120.F (((0:Int),(Y,())),((Go.IntKind.wrap Go.IntKind.i64 ((Go.IntKind.wrap Go.IntKind.i64 (ex-(if ((70:Int)<(Go.IntKind.wrap Go.IntKind.i64 (ex-ey))) then (70:Int) else (Go.IntKind.wrap Go.IntKind.i64 (ex-ey)))))-ey)),()))).1,(S119.F (((0:Int),(X,())),((if ((70:Int)<(Go.IntKind.wrap Go.IntKind.i64 (ex-ey))) then (70:Int) else (Go.IntKind.wrap Go.IntKind.i64 (ex-ey))),()))))).1.1==(0:Int))&&((S124.F ((S120.F (((0:Int),(Y,())),((Go.IntKind.wrap Go.IntKind.i64 ((Go.IntKind.wrap Go.IntKind.i64 (ex-(if ((70:Int)<(Go.IntKind.wrap Go.IntKind.i64 (ex-ey))) then (70:Int) else (Go.IntKind.wrap Go.IntKind.i64 (ex-ey)))))-ey)),()))).1,(S119.F (((0:Int),(X,())),((if ((70:Int)<(Go.IntKind.wrap Go.IntKind.i64 (ex-ey))) then (70:Int) else (Go.IntKind.wrap Go.IntKind.i64 (ex-ey))),()))))).1.2.1==(0:Int)))&&(!((!(((S119.F ((S120.F (((0:Int),(Y,())),((Go.IntKind.wrap Go.IntKind.i64 ((Go.IntKind.wrap Go.IntKind.i64 (ex-(if ((70:Int)<(Go.IntKind.wrap Go.IntKind.i64 (ex-ey))) then (70:Int) else (Go.IntKind.wrap Go.IntKind.i64 (ex-ey)))))-ey)),()))).1,((Go.IntKind.wrap Go.IntKind.i64 ((Go.IntKind.wrap Go.IntKind.i64 (ex-(if ((70:Int)<(Go.IntKind.wrap Go.IntKind.i64 (ex-ey))) then (70:Int) else (Go.IntKind.wrap Go.IntKind.i64 (ex-ey)))))-ey)),()))).1.1==(0:Int))&&((S119.F ((S120.F (((0:Int),(Y,())),((Go.IntKind.wrap Go.IntKind.i64 ((Go.IntKind.wrap Go.IntKind.i64 (ex-(if ((70:Int)<(Go.IntKind.wrap Go.IntKind.i64 (ex-ey))) then (70:Int) else (Go.IntKind.wrap Go.IntKind.i64 (ex-ey)))))-ey)),()))).1,((Go.IntKind.wrap Go.IntKind.i64 ((Go.IntKind.wrap Go.IntKind.i64 (ex-(if ((70:Int)<(Go.IntKind.wrap Go.IntKind.i64 (ex-ey))) then (70:Int) else (Go.IntKind.wrap Go.IntKind.i64 (ex-ey)))))-ey)),()))).1.2.1==Y)))||((decide ((Go.IntKind.wrap Go.IntKind.i64 ((Go.IntKind.wrap Go.IntKind.i64 (ex-(if ((70:Int)<(Go.IntKind.wrap Go.IntKind.i64 (ex-ey))) then (70:Int) else (Go.IntKind.wrap Go.IntKind.i64 (ex-ey)))))-ey))>(63:Int)))&&(Y != (0:Int)))))) then
         (bif (S118.pre (f,((m==(4:Int)),()))) then
          (some ((S118.F (f,((m==(4:Int)),()))).1,((0:Int),((0:Int),()))))
         else none)
        else bif (S122.pre (f,(m,(ny,((S124.F ((S120.F (((0:Int),(Y,())),((Go.IntKind.wrap Go.IntKind.i64 ((Go.IntKind.wrap Go.IntKind.i64 (ex-(if ((70:Int)<(Go.IntKind.wrap Go.IntKind.i64 (ex-ey))) then (70:Int) else (Go.IntKind.wrap Go.IntKind.i64 (ex-ey)))))-ey)),()))).1,(S119.F (((0:Int),(X,())),((if ((70:Int)<(Go.IntKind.wrap Go.IntKind.i64 (ex-ey))) then (70:Int) else (Go.IntKind.wrap Go.IntKind.i64 (ex-ey))),()))))).1,((Go.IntKind.wrap Go.IntKind.i64 (ex-(if ((70:Int)<(Go.IntKind.wrap Go.IntKind.i64 (ex-ey))) then (70:Int) else (Go.IntKind.wrap Go.IntKind.i64 (ex-ey))))),(((!(((S119.F ((S120.F (((0:Int),(Y,())),((Go.IntKind.wrap Go.IntKind.i64 ((Go.IntKind.wrap Go.IntKind.i64 (ex-(if ((70:Int)<(Go.IntKind.wrap Go.IntKind.i64 (ex-ey))) then (70:Int) else (Go.IntKind.wrap Go.IntKind.i64 (ex-ey)))))-ey)),()))).1,((Go.IntKind.wrap Go.IntKind.i64 ((Go.IntKind.wrap Go.IntKind.i64 (ex-(if ((70:Int)<(Go.IntKind.wrap Go.IntKind.i64 (ex-ey))) then (70:Int) else (Go.IntKind.wrap Go.IntKind.i64 (ex-ey)))))-ey)),()))).1.1==(0:Int))&&((S119.F ((S120.F (((0:Int),(Y,())),((Go.IntKind.wrap Go.IntKind.i64 ((Go.IntKind.wrap Go.IntKind.i64 (ex-(if ((70:Int)<(Go.IntKind.wrap Go.IntKind.i64 (ex-ey))) then (70:Int) else (Go.IntKind.wrap Go.IntKind.i64 (ex-ey)))))-ey)),()))).1,((Go.IntKind.wrap Go.IntKind.i64 ((Go.IntKind.wrap Go.IntKind.i64 (ex-(if ((70:Int)<(Go.IntKind.wrap Go.IntKind.i64 (ex-ey))) then (70:Int) else (Go.IntKind.wrap Go.IntKind.i64 (ex-ey)))))-ey)),()))).1.2.1==Y)))||((decide ((Go.IntKind.wrap Go.IntKind.i64 ((Go.IntKind.wrap Go.IntKind.i64 (ex-(if ((70:Int)<(Go.IntKind.wrap Go.IntKind.i64 (ex-ey))) then (70:Int) else (Go.IntKind.wrap Go.IntKind.i64 (ex-ey)))))-ey))>(63:Int)))&&(Y != (0:Int)))),()))))))) then
         (some (S122.F (f,(m,(ny,((S124.F ((S120.F (((0:Int),(Y,())),((Go.IntKind.wrap Go.IntKind.i64 ((Go.IntKind.wrap Go.IntKind.i64 (ex-(if ((70:Int)<(Go.IntKind.wrap Go.IntKind.i64 (ex-ey))) then (70:Int) else (Go.IntKind.wrap Go.IntKind.i64 (ex-ey)))))-ey)),()))).1,(S119.F (((0:Int),(X,())),((if ((70:Int)<(Go.IntKind.wrap Go.IntKind.i64 (ex-ey))) then (70:Int) else (Go.IntKind.wrap Go.IntKind.i64 (ex-ey))),()))))).1,((Go.IntKind.wrap Go.IntKind.i64 (ex-(if ((70:Int)<(Go.IntKind.wrap Go.IntKind.i64 (ex-ey))) then (70:Int) else (Go.IntKind.wrap Go.IntKind.i64 (ex-ey))))),(((!(((S119.F ((S120.F (((0:Int),(Y,())),((Go.IntKind.wrap Go.IntKind.i64 ((Go.IntKind.wrap Go.IntKind.i64 (ex-(if ((70:Int)<(Go.IntKind.wrap Go.IntKind.i64 (ex-ey))) then (70:Int) else (Go.IntKind.wrap Go.IntKind.i64 (ex-ey)))))-ey)),()))).1,((Go.IntKind.wrap Go.IntKind.i64 ((Go.IntKind.wrap Go.IntKind.i64 (ex-(if ((70:Int)<(Go.IntKind.wrap Go.IntKind.i64 (ex-ey))) then (70:Int) else (Go.IntKind.wrap Go.IntKind.i64 (ex-ey)))))-ey)),()))).1.1==(0:Int))&&((S119.F ((S120.F (((0:Int),(Y,())),((Go.IntKind.wrap Go.IntKind.i64 ((Go.IntKind.wrap Go.IntKind.i64 (ex-(if ((70:Int)<(Go.IntKind.wrap Go.IntKind.i64 (ex-ey))) then (70:Int) else (Go.IntKind.wrap Go.IntKind.i64 (ex-ey)))))-ey)),()))).1,((Go.IntKind.wrap Go.IntKind.i64 ((Go.IntKind.wrap Go.IntKind.i64 (ex-(if ((70:Int)<(Go.IntKind.wrap Go.IntKind.i64 (ex-ey))) then (70:Int) else (Go.IntKind.wrap Go.IntKind.i64 (ex-ey)))))-ey)),()))).1.2.1==Y)))||((decide ((Go.IntKind.wrap Go.IntKind.i64 ((Go.IntKind.wrap Go.IntKind.i64 (ex-(if ((70:Int)<(Go.IntKind.wrap Go.IntKind.i64 (ex-ey))) then (70:Int) else (Go.IntKind.wrap Go.IntKind.i64 (ex-ey)))))-ey))>(63:Int)))&&(Y != (0:Int)))),()))))))))
        else none)
       else none)
      else bif (S124.pre ((S119.F (((0:Int),(X,())),((if ((70:Int)<(Go.IntKind.wrap Go.IntKind.i64 (ex-ey))) then (70:Int) else (Go.IntKind.wrap Go.IntKind.i64 (ex-ey))),()))).1,(S120.F (((0:Int),(Y,())),((Go.IntKind.wrap Go.IntKind.i64 ((Go.IntKind.wrap Go.IntKind.i64 (ex-(if ((70:Int)<(Go.IntKind.wrap Go.IntKind.i64 (ex-ey))) then (70:Int) else (Go.IntKind.wrap Go.IntKind.i64 (ex-ey)))))-ey)),()))))) then
       (bif ((!(((S119.F ((S120.F (((0:Int),(Y,())),((Go.IntKind.wrap Go.IntKind.i64 ((Go.IntKind.wrap Go.IntKind.i64 (ex-(if ((70:Int)<(Go.IntKind.wrap Go.IntKind.i64 (ex-ey))) then (70:Int) else (Go.IntKind.wrap Go.IntKind.i64 (ex-ey)))))-ey)),()))).1,((Go.IntKind.wrap Go.IntKind.i64 ((Go.IntKind.wrap Go.IntKind.i64 (ex-(if ((70:Int)<(Go.IntKind.wrap Go.IntKind.i64 (ex-ey))) then (70:Int) else (Go.IntKind.wrap Go.IntKind.i64 (ex-ey)))))-ey)),()))).1.1==(0:Int))&&((S119.F ((S120.F (((0:Int),(Y,())),((Go.IntKind.wrap Go.IntKind.i64 ((Go.IntKind.wrap Go.IntKind.i64 (ex-(if ((70:Int)<(Go.IntKind.wrap Go.IntKind.i64 (ex-ey))) then (70:Int) else (Go.IntKind.wrap Go.IntKind.i64 (ex-ey)))))-ey)),()))).1,((Go.IntKind.wrap Go.IntKind.i64 ((Go.IntKind.wrap Go.IntKind.i64 (ex-(if ((70:Int)<(Go.IntKind.wrap Go.IntKind.i64 (ex-ey))) then (70:Int) else (Go.IntKind.wrap Go.IntKind.i64 (ex-ey)))))-ey)),()))).1.2.1==Y)))||((decide ((Go.IntKind.wrap Go.IntKind.i64 ((Go.IntKind.wrap Go.IntKind.i64 (ex-(if ((70:Int)<(Go.IntKind.wrap Go.IntKind.i64 (ex-ey))) then (70:Int) else (Go.IntKind.wrap Go.IntKind.i64 (ex-ey)))))-ey))>(63:Int)))&&(Y != (0:Int)))) then
        (bif (S124.pre ((S124.F ((S119.F (((0:Int),(X,())),((if ((70:Int)<(Go.IntKind.wrap Go.IntKind.i64 (ex-ey))) then (70:Int) else (Go.IntKind.wrap Go.IntKind.i64 (ex-ey))),()))).1,(S120.F (((0:Int),(Y,())),((Go.IntKind.wrap Go.IntKind.i64 ((Go.IntKind.wrap Go.IntKind.i64 (ex-(if ((70:Int)<(Go.IntKind.wrap Go.IntKind.i64 (ex-ey))) then (70:Int) else (Go.IntKind.wrap Go.IntKind.i64 (ex-ey)))))-ey)),()))))).1,(((0:Int),((1:Int),())),()))) then
         (bif ((((S124.F ((S124.F ((S119.F (((0:Int),(X,())),((if ((70:Int)<(Go.IntKind.wrap Go.IntKind.i64 (ex-ey))) then (70:Int) else (Go.IntKind.wrap Go.IntKind.i64 (ex-ey))),()))).1,(S120.F (((0:Int),(Y,())),((Go.IntKind.wrap Go.IntKind.i64 ((Go.IntKind.wrap Go.IntKind.i64 (ex-(if ((70:Int)<(Go.IntKind.wrap Go.IntKind.i64 (ex-ey))) then (70:Int) else (Go.IntKind.wrap Go.IntKind.i64 (ex-ey)))))-ey)),()))))).1,(((0:Int),((1:Int),())),()))).1.1==(0:Int))&&((S124.F ((S124.F ((S119.F (((0:Int),(X,())),((if ((70:Int)<(Go.IntKind.wrap Go.IntKind.i64 (ex-ey))) then (70:Int) else (Go.IntKind.wrap Go.IntKind.i64 (ex-ey))),()))).1,(S120.F (((0:Int),(Y,())),((Go.IntKind.wrap Go.IntKind.i64 ((Go.IntKind.wrap Go.IntKind.i64 (ex-(if ((70:Int)<(Go.IntKind.wrap Go.IntKind.i64 (ex-ey))) then (70:Int) else (Go.IntKind.wrap Go.IntKind.i64 (ex-ey)))))-ey)),()))))).1,(((0:Int),((1:Int),())),()))).1.2.1==(0:Int)))&&(!((!(((S119.F ((S120.F (((0:Int),(Y,())),((Go.IntKind.wrap Go.IntKind.i64 ((Go.IntKind.wrap Go.IntKind.i64 (ex-(if ((70:Int)<(Go.IntKind.wrap Go.IntKind.i64 (ex-ey))) then (70:Int) else (Go.IntKind.wrap Go.IntKind.i64 (ex-ey)))))-ey)),()))).1,((Go.IntKind.wrap Go.IntKind.i64 ((Go.IntKind.wrap Go.IntKind.i64 (ex-(if ((70:Int)<(Go.IntKind.wrap Go.IntKind.i64 (ex-ey))) then (70:Int) else (Go.IntKind.wrap Go.IntKind.i64 (ex-ey)))))-ey)),()))).1.1==(0:Int))&&((S119.F ((S120.F (((0:Int),(Y,())),((Go.IntKind.wrap Go.IntKind.i64 ((Go.IntKind.wrap Go.IntKind.i64 (ex-(if ((70:Int)<(Go.IntKind.wrap Go.IntKind.i64 (ex-ey))) then (70:Int) else (Go.IntKind.wrap Go.IntKind.i64 (ex-ey)))))-ey)),()))).1,((Go.IntKind.wrap Go.IntKind.i64 ((Go.IntKind.wrap Go.IntKind.i64 (ex-(if ((70:Int)<(Go.IntKind.wrap Go.IntKind.i64 (ex-ey))) then (70:Int) else (Go.IntKind.wrap Go.IntKind.i64 (ex-ey)))))-ey)),()))).1.2.1==Y)))||((decide ((Go.IntKind.wrap Go.IntKind.i64 ((Go.IntKind.wrap Go.IntKind.i64 (ex-(if ((70:Int)<(Go.IntKind.wrap Go.IntKind.i64 (ex-ey))) then (70:Int) else (Go.IntKind.wrap Go.IntKind.i64 (ex-ey)))))-ey))>(63:Int)))&&(Y != (0:Int)))))) then
          (bif (S118.pre (f,((m==(4:Int)),()))) then
           (some ((S118.F (f,((m==(4:Int)),()))).1,((0:Int),((0:Int),()))))
          else none)
         else bif (S122.pre (f,(m,(nx,((S124.F ((S124.F ((S119.F (((0:Int),(X,())),((if ((70:Int)<(Go.IntKind.wrap Go.IntKind.i64 (ex-ey))) then (70:Int) else (Go.IntKind.wrap Go.IntKind.i64 (ex-ey))),()))).1,(S120.F (((0:Int),(Y,())),((Go.IntKind.wrap Go.IntKind.i64 ((Go.IntKind.wrap Go.IntKind.i64 (ex-(if ((70:Int)<(Go.IntKind.wrap Go.IntKind.i64 (ex-ey))) then (70:Int) else (Go.IntKind.wrap Go.IntKind.i64 (ex-ey)))))-ey)),()))))).1,(((0:Int),((1:Int),())),()))).1,((Go.IntKind.wrap Go.IntKind.i64 (ex-(if ((70:Int)<(Go.IntKind.wrap Go.IntKind.i64 (ex-ey))) then (70:Int) else (Go.IntKind.wrap Go.IntKind.i64 (ex-ey))))),(((!(((S119.F ((S120.F (((0:Int),(Y,())),((Go.IntKind.wrap Go.IntKind.i64 ((Go.IntKind.wrap Go.IntKind.i64 (ex-(if ((70:Int)<(Go.IntKind.wrap Go.IntKind.i64 (ex-ey))) then (70:Int) else (Go.IntKind.wrap Go.IntKind.i64 (ex-ey)))))-ey)),()))).1,((Go.IntKind.wrap Go.IntKind.i64 ((Go.IntKind.wrap Go.IntKind.i64 (ex-(if ((70:Int)<(Go.IntKind.wrap Go.IntKind.i64 (ex-ey))) then (70:Int) else (Go.IntKind.wrap Go.IntKind.i64 (ex-ey)))))-ey)),()))).1.1==(0:Int))&&((S119.F ((S120.F (((0:Int),(Y,())),((Go.IntKind.wrap Go.IntKind.i64 ((Go.IntKind.wrap Go.IntKind.i64 (ex-(if ((70:Int)<(Go.IntKind.wrap Go.IntKind.i64 (ex-ey))) then (70:Int) else (Go.IntKind.wrap Go.IntKind.i64 (ex-ey)))))-ey)),()))).1,((Go.IntKind.wrap Go.IntKind.i64 ((Go.IntKind.wrap Go.IntKind.i64 (ex-(if ((70:Int)<(Go.IntKind.wrap Go.IntKind.i64 (ex-ey))) then (70:Int) else (Go.IntKind.wrap Go.IntKind.i64 (ex-ey)))))-ey)),()))).1.2.1==Y)))||((decide ((Go.IntKind.wrap Go.IntKind.i64 ((Go.IntKind.wrap Go.IntKind.i64 (ex-(if ((70:Int)<(Go.IntKind.wrap Go.IntKind.i64 (ex-ey))) then (70:Int) else (Go.IntKind.wrap Go.IntKind.i64 (ex-ey)))))-ey))>(63:Int)))&&(Y != (0:Int)))),()))))))) then
          (some (S122.F (f,(m,(nx,((S124.F ((S124.F ((S119.F (((0:Int),(X,())),((if ((70:Int)<(Go.IntKind.wrap Go.IntKind.i64 (ex-ey))) then (70:Int) else (Go.IntKind.wrap Go.IntKind.i64 (ex-ey))),()))).1,(S120.F (((0:Int),(Y,())),((Go.IntKind.wrap Go.IntKind.i64 ((Go.IntKind.wrap Go.IntKind.i64 (ex-(if ((70:Int)<(Go.IntKind.wrap Go.IntKind.i64 (ex-ey))) then (70:Int) else (Go.IntKind.wrap Go.IntKind.i64 (ex-ey)))))-ey)),()))))).1,(((0:Int),((1:Int),())),()))).1,((Go.IntKind.wrap Go.IntKind.i64 (ex-(if ((70:Int)<(Go.IntKind.wrap Go.IntKind.i64 (ex-ey))) then (70:Int) else (Go.IntKind.wrap Go.IntKind.i64 (ex-ey))))),(((!(((S119.F ((S120.F (((0:Int),(Y,())),((Go.IntKind.wrap Go.IntKind.i64 ((Go.IntKind.wrap Go.IntKind.i64 (ex-(if ((70:Int)<(Go.IntKind.wrap Go.IntKind.i64 (ex-ey))) then (70:Int) else (Go.IntKind.wrap Go.IntKind.i64 (ex-ey)))))-ey)),()))).1,((Go.IntKind.wrap Go.IntKind.i64 ((Go.IntKind.wrap Go.IntKind.i64 (ex-(if ((70:Int)<(Go.IntKind.wrap Go.IntKind.i64 (ex-ey))) then (70:Int) else (Go.IntKind.wrap Go.IntKind.i64 (ex-ey)))))-ey)),()))).1.1==(0:Int))&&((S119.F ((S120.F (((0:Int),(Y,())),((Go.IntKind.wrap Go.IntKind.i64 ((Go.IntKind.wrap Go.IntKind.i64 (ex-(if ((70:Int)<(Go.IntKind.wrap Go.IntKind.i64 (ex-ey))) then (70:Int) else (Go.IntKind.wrap Go.IntKind.i64 (ex-ey)))))-ey)),()))).1,((Go.IntKind.wrap Go.IntKind.i64 ((Go.IntKind.wrap Go.IntKind.i64 (ex-(if ((70:Int)<(Go.IntKind.wrap Go.IntKind.i64 (ex-ey))) then (70:Int) else (Go.IntKind.wrap Go.IntKind.i64 (ex-ey)))))-ey)),()))).1.2.1==Y)))||((decide ((Go.IntKind.wrap Go.IntKind.i64 ((Go.IntKind.wrap Go.IntKind.i64 (ex-(if ((70:Int)<(Go.IntKind.wrap Go.IntKind.i64 (ex-ey))) then (70:Int) else (Go.IntKind.wrap Go.IntKind.i64 (ex-ey)))))-ey))>(63:Int)))&&(Y != (0:Int)))),()))))))))
         else none)
        else none)
       else bif ((((S124.F ((S119.F (((0:Int),(X,())),((if ((70:Int)<(Go.IntKind.wrap Go.IntKind.i64 (ex-ey))) then (70:Int) else (Go.IntKind.wrap Go.IntKind.i64 (ex-ey))),()))).1,(S120.F (((0:Int),(Y,())),((Go.IntKind.wrap Go.IntKind.i64 ((Go.IntKind.wrap Go.IntKind.i64 (ex-(if ((70:Int)<(Go.IntKind.wrap Go.IntKind.i64 (ex-ey))) then (70:Int) else (Go.IntKind.wrap Go.IntKind.i64 (ex-ey)))))-ey)),()))))).1.1==(0:Int))&&((S124.F ((S119.F (((0:Int),(X,())),((if ((70:Int)<(Go.IntKind.wrap Go.IntKind.i64 (ex-ey))) then (70:Int) else (Go.IntKind.wrap Go.IntKind.i64 (ex-ey))),()))).1,(S120.F (((0:Int),(Y,())),((Go.IntKind.wrap Go.IntKind.i64 ((Go.IntKind.wrap Go.IntKind.i64 (ex-(if ((70:Int)<(Go.IntKind.wrap Go.IntKind.i64 (ex-ey))) then (70:Int) else (Go.IntKind.wrap Go.IntKind.i64 (ex-ey)))))-ey)),()))))).1.2.1==(0:Int)))&&(!((!(((S119.F ((S120.F (((0:Int),(Y,())),((Go.IntKind.wrap Go.IntKind.i64 ((Go.IntKind.wrap Go.IntKind.i64 (ex-(if ((70:Int)<(Go.IntKind.wrap Go.IntKind.i64 (ex-ey))) then (70:Int) else (Go.IntKind.wrap Go.IntKind.i64 (ex-ey)))))-ey)),()))).1,((Go.IntKind.wrap Go.IntKind.i64 ((Go.IntKind.wrap Go.IntKind.i64 (ex-(if ((70:Int)<(Go.IntKind.wrap Go.IntKind.i64 (ex-ey))) then (70:Int) else (Go.IntKind.wrap Go.IntKind.i64 (ex-ey)))))-ey)),()))).1.1==(0:Int))&&((S119.F ((S120.F (((0:Int),(Y,())),((Go.IntKind.wrap Go.IntKind.i64 ((Go.IntKind.wrap Go.IntKind.i64 (ex-(if ((70:Int)<(Go.IntKind.wrap Go.IntKind.i64 (ex-ey))) then (70:Int) else (Go.IntKind.wrap Go.IntKind.i64 (ex-ey)))))-ey)),()))).1,((Go.IntKind.wrap Go.IntKind.i64 ((Go.IntKind.wrap Go.IntKind.i64 (ex-(if ((70:Int)<(Go.IntKind.wrap Go.IntKind.i64 (ex-ey))) then (70:Int) else (Go.IntKind.wrap Go.IntKind.i64 (ex-ey)))))-ey)),()))).1.2.1==Y)))||((decide ((Go.IntKind.wrap Go.IntKind.i64 ((Go.IntKind.wrap Go.IntKind.i64 (ex-(if ((70:Int)<(Go.IntKind.wrap Go.IntKind.i64 (ex-ey))) then (70:Int) else (Go.IntKind.wrap Go.IntKind.i64 (ex-ey)))))-ey))>(63:Int)))&&(Y != (0:Int)))))) then
        (bif (S118.pre (f,((m==(4:Int)),()))) then
         (some ((S118.F (f,((m==(4:Int)),()))).1,((0:Int),((0:Int),()))))
        else none)
       else bif (S122.pre (f,(m,(nx,((S124.F ((S119.F (((0:Int),(X,())),((if ((70:Int)<(Go.IntKind.wrap Go.IntKind.i64 (ex-ey))) then (70:Int) else (Go.IntKind.wrap Go.IntKind.i64 (ex-ey))),()))).1,(S120.F (((0:Int),(Y,())),((Go.IntKind.wrap Go.IntKind.i64 ((Go.IntKind.wrap Go.IntKind.i64 (ex-(if ((70:Int)<(Go.IntKind.wrap Go.IntKind.i64 (ex-ey))) then (70:Int) else (Go.IntKind.wrap Go.IntKind.i64 (ex-ey)))))-ey)),()))))).1,((Go.IntKind.wrap Go.IntKind.i64 (ex-(if ((70:Int)<(Go.IntKind.wrap Go.IntKind.i64 (ex-ey))) then (70:Int) else (Go.IntKind.wrap Go.IntKind.i64 (ex-ey))))),(((!(((S119.F ((S120.F (((0:Int),(Y,())),((Go.IntKind.wrap Go.IntKind.i64 ((Go.IntKind.wrap Go.IntKind.i64 (ex-(if ((70:Int)<(Go.IntKind.wrap Go.IntKind.i64 (ex-ey))) then (70:Int) else (Go.IntKind.wrap Go.IntKind.i64 (ex-ey)))))-ey)),()))).1,((Go.IntKind.wrap Go.IntKind.i64 ((Go.IntKind.wrap Go.IntKind.i64 (ex-(if ((70:Int)<(Go.IntKind.wrap Go.IntKind.i64 (ex-ey))) then (70:Int) else (Go.IntKind.wrap Go.IntKind.i64 (ex-ey)))))-ey)),()))).1.1==(0:Int))&&((S119.F ((S120.F (((0:Int),(Y,())),((Go.IntKind.wrap Go.IntKind.i64 ((Go.IntKind.wrap Go.IntKind.i64 (ex-(if ((70:Int)<(Go.IntKind.wrap Go.IntKind.i64 (ex-ey))) then (70:Int) else (Go.IntKind.wrap Go.IntKind.i64 (ex-ey)))))-ey)),()))).1,((Go.IntKind.wrap Go.IntKind.i64 ((Go.IntKind.wrap Go.IntKind.i64 (ex-(if ((70:Int)<(Go.IntKind.wrap Go.IntKind.i64 (ex-ey))) then (70:Int) else (Go.IntKind.wrap Go.IntKind.i64 (ex-ey)))))-ey)),()))).1.2.1==Y)))||((decide ((Go.IntKind.wrap Go.IntKind.i64 ((Go.IntKind.wrap Go.IntKind.i64 (ex-(if ((70:Int)<(Go.IntKind.wrap Go.IntKind.i64 (ex-ey))) then (70:Int) else (Go.IntKind.wrap Go.IntKind.i64 (ex-ey)))))-ey))>(63:Int)))&&(Y != (0:Int)))),()))))))) then
        (some (S122.F (f,(m,(nx,((S124.F ((S119.F (((0:Int),(X,())),((if ((70:Int)<(Go.IntKind.wrap Go.IntKind.i64 (ex-ey))) then (70:Int) else (Go.IntKind.wrap Go.IntKind.i64 (ex-ey))),()))).1,(S120.F (((0:Int),(Y,())),((Go.IntKind.wrap Go.IntKind.i64 ((Go.IntKind.wrap Go.IntKind.i64 (ex-(if ((70:Int)<(Go.IntKind.wrap Go.IntKind.i64 (ex-ey))) then (70:Int) else (Go.IntKind.wrap Go.IntKind.i64 (ex-ey)))))-ey)),()))))).1,((Go.IntKind.wrap Go.IntKind.i64 (ex-(if ((70:Int)<(Go.IntKind.wrap Go.IntKind.i64 (ex-ey))) then (70:Int) else (Go.IntKind.wrap Go.IntKind.i64 (ex-ey))))),(((!(((S119.F ((S120.F (((0:Int),(Y,())),((Go.IntKind.wrap Go.IntKind.i64 ((Go.IntKind.wrap Go.IntKind.i64 (ex-(if ((70:Int)<(Go.IntKind.wrap Go.IntKind.i64 (ex-ey))) then (70:Int) else (Go.IntKind.wrap Go.IntKind.i64 (ex-ey)))))-ey)),()))).1,((Go.IntKind.wrap Go.IntKind.i64 ((Go.IntKind.wrap Go.IntKind.i64 (ex-(if ((70:Int)<(Go.IntKind.wrap Go.IntKind.i64 (ex-ey))) then (70:Int) else (Go.IntKind.wrap Go.IntKind.i64 (ex-ey)))))-ey)),()))).1.1==(0:Int))&&((S119.F ((S120.F (((0:Int),(Y,())),((Go.IntKind.wrap Go.IntKind.i64 ((Go.IntKind.wrap Go.IntKind.i64 (ex-(if ((70:Int)<(Go.IntKind.wrap Go.IntKind.i64 (ex-ey))) then (70:Int) else (Go.IntKind.wrap Go.IntKind.i64 (ex-ey)))))-ey)),()))).1,((Go.IntKind.wrap Go.IntKind.i64 ((Go.IntKind.wrap Go.IntKind.i64 (ex-(if ((70:Int)<(Go.IntKind.wrap Go.IntKind.i64 (ex-ey))) then (70:Int) else (Go.IntKind.wrap Go.IntKind.i64 (ex-ey)))))-ey)),()))).1.2.1==Y)))||((decide ((Go.IntKind.wrap Go.IntKind.i64 ((Go.IntKind.wrap Go.IntKind.i64 (ex-(if ((70:Int)<(Go.IntKind.wrap Go.IntKind.i64 (ex-ey))) then (70:Int) else (Go.IntKind.wrap Go.IntKind.i64 (ex-ey)))))-ey))>(63:Int)))&&(Y != (0:Int)))),()))))))))
       else none)
      else none)
     else none)
    else none)
   else none)
  else none)
 else none
theorem t71_tail (f m:Int) (nx:Bool) (X ex:Int) (ny:Bool) (Y ey:Int):T71 (f,m,(nx,X,ex,()),(ny,Y,ey,()),()) =
 (bif ((X==0)&&(Y==0))&&(nx==ny) then (bif S118.pre (f,nx,()) then some ((S118.F (f,nx,())).1,0,0,()) else none)
 else bif (X==0)||((Y != 0)&&decide (ex<ey)) then (bif X==0 then tail71 f m ny Y ey nx X ey else tail71 f m ny Y ey nx X ex)
 else bif Y==0 then tail71 f m nx X ex ny Y ex else tail71 f m nx X ex ny Y ey):=by kernel_rfl
theorem Wi_pair {n:Nat} (h:n<2^64):((0:Int),((n:Int),()))=Wi n:=by
 unfold Wi
 rw [Nat.div_eq_of_lt h,Nat.mod_eq_of_lt h]; rfl
theorem Wi_one:((0:Int),((1:Int),()))=Wi 1:=rfl
theorem Wi_zero {n:Nat} (h:n<2^128):(((Wi n).1==0)&&((Wi n).2.1==0))=decide (n=0):=by
 show (((n/2^64:Nat):Int)==0&&((n%2^64:Nat):Int)==0)=_
 rw [nbeq0,nbeq0,Bool.eq_iff_iff,Bool.and_eq_true,beq_iff_eq,beq_iff_eq,decide_eq_true_eq]
 omega
theorem more_eq {Y dn:Nat} (hY:Y<2^64):((!(((Wi (Y/2^dn*2^dn)).1==0)&&((Wi (Y/2^dn*2^dn)).2.1==(Y:Int))))||(decide ((dn:Int)>63)&&((Y:Int) != 0)))=decide (Y%2^dn≠0):=by
 have hdm:=Nat.div_add_mod Y (2^dn)
 rw [Nat.mul_comm] at hdm
 generalize hL:Y/2^dn*2^dn=L at *
 show ((!(((L/2^64:Nat):Int)==0&&((L%2^64:Nat):Int)==(Y:Int)))||(decide ((dn:Int)>63)&&((Y:Int) != 0)))=_
 rw [nbeq0,nbeq,nbne0]
 by_cases h:Y%2^dn=0
 ·rw [decide_eq_false (p:=Y%2^dn≠0) (by omega)]
  rw [show (L/2^64==0)=true by rw [beq_iff_eq]; omega,show (L%2^64==Y)=true by rw [beq_iff_eq]; omega]
  by_cases hy:Y=0
  ·rw [hy]; simp
  ·have:¬ (dn:Int)>63:=fun hd=>by
    have h1:Y<2^dn:=Nat.lt_of_lt_of_le hY (Nat.pow_le_pow_right (by decide) (by omega))
    rw [Nat.mod_eq_of_lt h1] at h
    exact hy h
   rw [decide_eq_false this]; rfl
 ·rw [decide_eq_true (p:=Y%2^dn≠0) h]
  rw [show (L%2^64==Y)=false by rw [beq_eq_false_iff_ne]; omega]
  simp
theorem blen_ge {n k:Nat} (h:2^k≤n):k+1≤blen n:=by
 have h1:=blen_lt n
 have:k<blen n:=(Nat.pow_lt_pow_iff_right (a:=2) (by decide)).1 (Nat.lt_of_le_of_lt h h1)
 omega
def sumBits (f m:Int) (nx:Bool) (X:Nat) (ex:Int) (ny:Bool) (Y:Nat) (ey:Int):Nat×Nat :=
 let e:=if ex≤ey then ex else ey
 let a:=X*2^(ex-e).toNat
 let b:=Y*2^(ey-e).toNat
 if nx=ny then (if a+b=0 then (sgnF f nx,0) else rndN f m nx (a+b) e false)
 else if a=b then (sgnF f (m==4),0) else if b<a then rndN f m nx (a-b) e false else rndN f m ny (b-a) e false
theorem sum_at {f m:Int} {nx:Bool} {X:Nat} {ey:Int} {ny:Bool} {Y:Nat} (D:Nat) :
  sumBits f m nx X (ey+D) ny Y ey=if nx=ny then (if X*2^D+Y=0 then (sgnF f nx,0) else rndN f m nx (X*2^D+Y) ey false)
   else if X*2^D=Y then (sgnF f (m==4),0) else if Y<X*2^D then rndN f m nx (X*2^D-Y) ey false else rndN f m ny (Y-X*2^D) ey false:=by
 unfold sumBits
 have he:(if ey+(D:Int)≤ey then ey+(D:Int) else ey)=ey:=by split <;> omega
 simp only [he]
 rw [show (ey+(D:Int)-ey).toNat=D by omega,show (ey-ey).toNat=0 by omega,Nat.pow_zero,Nat.mul_one]
theorem sum_comm (f m:Int) (nx:Bool) (X:Nat) (ex:Int) (ny:Bool) (Y:Nat) (ey:Int):sumBits f m nx X ex ny Y ey=sumBits f m ny Y ey nx X ex:=by
 unfold sumBits
 have he:(if ex≤ey then ex else ey)=(if ey≤ex then ey else ex):=by split <;> split <;> omega
 simp only [he]
 generalize (if ey≤ex then ey else ex)=e
 generalize X*2^(ex-e).toNat=a
 generalize Y*2^(ey-e).toNat=b
 by_cases hn:nx=ny
 ·subst hn
  rw [if_pos rfl,if_pos rfl,Nat.add_comm]
 ·rw [if_neg hn,if_neg (Ne.symm hn)]
  rcases Nat.lt_trichotomy a b with h | h | h
  ·rw [if_neg (by omega),if_neg (by omega),if_neg (by omega),if_pos h]
  ·rw [if_pos h,if_pos h.symm]
  ·rw [if_neg (by omega),if_pos h,if_neg (by omega),if_neg (by omega)]
theorem sum_zero {f m:Int} (hf:Fm f) (nx:Bool) (X:Nat) (ex:Int) (ny:Bool) (ey:Int):sumBits f m nx X ex ny 0 ey=if X=0 then (if nx=ny then (sgnF f nx,0) else (sgnF f (m==4),0)) else rndN f m nx X ex false:=by
 rcases Int.le_total ex ey with h | h
 ·obtain ⟨D,hD⟩:=Int.eq_ofNat_of_zero_le (show 0≤ey-ex by omega)
  have:ey=ex+D:=by omega
  subst this
  rw [sum_comm,sum_at,Nat.zero_mul,Nat.zero_add]
  by_cases hn:nx=ny
  ·subst hn
   simp only [↓reduceIte]
  ·rw [if_neg (Ne.symm hn),if_neg hn]
   by_cases hx:X=0
   ·subst hx
    simp only [↓reduceIte]
   ·rw [if_neg (by omega),if_neg (by omega),if_neg hx,Nat.sub_zero]
 ·obtain ⟨D,hD⟩:=Int.eq_ofNat_of_zero_le (show 0≤ex-ey by omega)
  have:ex=ey+D:=by omega
  subst this
  rw [sum_at,Nat.add_zero]
  by_cases hx:X=0
  ·subst hx
   rw [if_pos rfl,Nat.zero_mul,if_pos rfl,if_pos rfl]
  ·have hp:=Nat.two_pow_pos D
   have hpos:0<X*2^D:=Nat.mul_pos (by omega) hp
   rw [if_neg hx]
   by_cases hn:nx=ny
   ·rw [if_pos hn,if_neg (by omega),rnd_scale hf hx]
   ·rw [if_neg hn,if_neg (by omega),if_pos hpos,Nat.sub_zero,rnd_scale hf hx]
theorem tail_eq {f m:Int} (hf:Fm f) (hm:0≤m∧m≤5) (nx:Bool) (X D:Nat) (ny:Bool) (Y:Nat) (ey:Int) (hX:X<2^53) (hY:Y<2^53) (he:-2000≤ey∧ey+D≤2000) (h0:X≠0∨(Y=0∧nx≠ny)) :
  tail71 f m nx X (ey+D) ny Y ey=some (((sumBits f m nx X (ey+D) ny Y ey).1:Int),((sumBits f m nx X (ey+D) ny Y ey).2:Int),0,()):=by
 rw [sum_at]
 have hW:=fW_le hf
 have hP:=fP_lt hf
 have hU:∃ U dn:Nat,(if (70:Int)<(D:Int) then (70:Int) else (D:Int))=(U:Int)∧D=U+dn∧U≤70∧(dn≠0→U=70):=by
  by_cases h:70<D
  ·exact ⟨70,D-70,by rw [if_pos (by omega)]; rfl,by omega,by omega,fun _=>rfl⟩
  ·exact ⟨D,0,by rw [if_neg (by omega)],by omega,by omega,fun h=>absurd rfl h⟩
 obtain ⟨U,dn,hU1,hU2,hU3,hU4⟩:=hU
 have e1:IntKind.wrap .i64 (ey+(D:Int)-ey)=(D:Int):=by rw [wrapI (by omega)]; omega
 have e2:IntKind.wrap .i64 (ey+(D:Int)-(U:Int))=ey+(dn:Int):=by rw [wrapI (by omega)]; omega
 have e3:IntKind.wrap .i64 (ey+(dn:Int)-ey)=(dn:Int):=by rw [wrapI (by omega)]; omega
 have hpU:=Nat.two_pow_pos U
 have hpd:=Nat.two_pow_pos dn
 have hU70:2^U≤2^70:=Nat.pow_le_pow_right (by decide) hU3
 have hH:X*2^U<2^123:=by
  have h1:X*2^U≤X*2^70:=Nat.mul_le_mul_left _ hU70
  have h2:X*2^70<2^53*2^70:=Nat.mul_lt_mul_of_pos_right hX (by decide)
  omega
 have hXD:X*2^D=X*2^U*2^dn:=by rw [hU2,Nat.pow_add,Nat.mul_assoc]
 have hbig:Y%2^dn≠0→2^70≤X*2^U∧X≠0:=fun h=>by
  have hd:dn≠0:=fun h1=>by rw [h1,Nat.pow_zero,Nat.mod_one] at h; exact h rfl
  have hy:Y≠0:=fun h1=>by rw [h1,Nat.zero_mod] at h; exact h rfl
  have hx:X≠0:=by
   rcases h0 with h | h
   ·exact h
   ·exact absurd h.1 hy
  refine ⟨?_,hx⟩
  rw [hU4 hd]
  exact Nat.le_mul_of_pos_left _ (by omega)
 have hYL:Y/2^dn≤Y:=Nat.div_le_self _ _
 have hLd:Y/2^dn*2^dn≤Y:=Nat.div_mul_le_self _ _
 have p1:T119 (((0:Int),((X:Int),())),((U:Int),()))=some (Wi (X*2^U),()):=by
  rw [Wi_pair (by omega),T119_eq _ _ (by omega),Nat.mod_eq_of_lt (by omega)]
 have p2:T120 (((0:Int),((Y:Int),())),((dn:Int),()))=some (Wi (Y/2^dn),()):=by
  rw [Wi_pair (by omega),T120_eq _ _ (by omega)]
 have p3:T119 (Wi (Y/2^dn),((dn:Int),()))=some (Wi (Y/2^dn*2^dn),()):=by
  rw [T119_eq _ _ (by omega),Nat.mod_eq_of_lt (by omega)]
 have p4:=T121_eq (X*2^U) (Y/2^dn) (by omega)
 have p5:=T123_eq (X*2^U) (Y/2^dn)
 have pz:=T118_ok hf (m==4)
 unfold tail71
 simp only [e1,hU1,e2,e3,pre119 p1,fun119 p1,pre120 p2,fun120 p2,pre119 p3,fun119 p3,cond_true,pre121 p4,fun121 p4,pre123 p5,fun123 p5,more_eq (show Y<2^64 by omega)]
 have hdm:=Nat.div_add_mod Y (2^dn)
 have hml:=Nat.mod_lt Y hpd
 have hX0H:X=0→X*2^U=0:=fun h=>by rw [h,Nat.zero_mul]
 have hXb:X≠0→dn≠0→2^70≤X*2^U:=fun h1 h2=>by rw [hU4 h2]; exact Nat.le_mul_of_pos_left _ (by omega)
 have hHp:X≠0→0<X*2^U:=fun h=>Nat.mul_pos (by omega) hpU
 clear e1 e2 e3 p1 p2 p3
 rw [Nat.mul_comm] at hdm
 generalize hHe:X*2^U=H at *
 generalize hLe:Y/2^dn=L at *
 generalize hRe:Y%2^dn=R at *
 by_cases hn:nx=ny
 ·subst hn
  rw [if_pos rfl,show (nx==nx)=true by cases nx <;> rfl,cond_true]
  have hX0:X≠0:=by
   rcases h0 with h | h
   ·exact h
   ·exact absurd rfl h.2
  have hHp:=hHp hX0
  have hN:X*2^D+Y=Y+H*2^dn:=by rw [hXD,Nat.add_comm]
  have hNd:(X*2^D+Y)/2^dn=H+L:=by rw [hN,Nat.add_mul_div_right _ _ hpd,hLe,Nat.add_comm]
  have hNm:(X*2^D+Y)%2^dn=R:=by rw [hN,Nat.add_mul_mod_self_right,hRe]
  have hbl:R≠0→fP f+2≤blen (H+L):=fun h=>by
   have h1:=(hbig h).1
   have:=blen_ge (n:=H+L) (k:=70) (by omega)
   omega
  have p6:=T122_eq hf hm nx (H+L) (by omega) (ey+(dn:Int)) (by omega) (decide (R≠0)) (fun h=>hbl (by simpa using h))
  rw [if_neg (by omega)] at p6
  simp only [pre122 p6,fun122 p6,cond_true]
  have htr:=rnd_trunc (f:=f) (m:=m) (neg:=nx) (N:=X*2^D+Y) (k:=dn) (E:=ey) hf (by rw [hNd]; omega) (by rw [hNd,hNm]; exact hbl)
  rw [hNd,hNm] at htr
  have hpp:0<H*2^dn:=Nat.mul_pos hHp hpd
  rw [htr,if_neg (by rw [hXD]; omega)]
 ·rw [if_neg hn,show (nx==ny)=false by cases nx <;> cases ny <;> first | rfl | exact absurd rfl hn,cond_false]
  by_cases hlt:H<L
  ·-- low is the greater: nothing is lost
   have hm0:R=0:=by
    by_cases h:R=0
    ·exact h
    ·have:=(hbig h).1; omega
   have hdn:dn=0:=by
    by_cases h:dn=0
    ·exact h
    ·exfalso
     rcases h0 with h1 | h1
     ·have h2:=hXb h1 h
      omega
     ·have:=h1.1; omega
   subst hdn
   have hY1:Y=L:=by rw [← hLe]; simp
   subst hY1
   have hXD1:X*2^D=H:=by rw [hXD]; simp
   rw [hm0,hXD1]
   have p7:=T124_eq Y H (by omega) (by omega)
   have p6:=T122_eq hf hm ny (Y-H) (by omega) (ey+((0:Nat):Int)) (by omega) false (fun h=>by cases h)
   rw [if_neg (by omega)] at p6
   have z1:decide ((if H=Y then (0:Int) else if H<Y then -1 else 1)<0)=true:=by
    rw [if_neg (by omega),if_pos hlt]; rfl
   have z2:decide ((0:Nat)≠0)=false:=by decide
   have z3:=Wi_zero (n:=Y-H) (by omega)
   rw [decide_eq_false (p:=Y-H=0) (by omega)] at z3
   simp only [z1,z2,cond_true,cond_false,pre124 p7,fun124 p7,z3,Bool.false_and,pre122 p6,fun122 p6]
   rw [if_neg (by omega),if_neg (by omega),Int.natCast_zero,Int.add_zero]
  ·have hge:L≤H:=by omega
   have p7:=T124_eq H L (by omega) hge
   have z1:decide ((if H=L then (0:Int) else if H<L then -1 else 1)<0)=false:=by
    by_cases h:H=L
    ·rw [if_pos h]; rfl
    ·rw [if_neg h,if_neg hlt]; rfl
   simp only [z1,cond_false,pre124 p7,fun124 p7,cond_true]
   by_cases hm0:R=0
   ·rw [hm0,show decide ((0:Nat)≠0)=false by decide,cond_false]
    have hYe:Y=L*2^dn:=by omega
    have z3:=Wi_zero (n:=H-L) (by omega)
    rw [z3]
    by_cases hz:H-L=0
    ·have heq:X*2^D=Y:=by rw [hXD,hYe,show H=L by omega]
     rw [decide_eq_true hz,if_pos heq]
     simp only [Bool.not_false,Bool.and_self,cond_true,pre118 pz,fun118 pz]
     rfl
    ·rw [decide_eq_false hz]
     have p6:=T122_eq hf hm nx (H-L) (by omega) (ey+(dn:Int)) (by omega) false (fun h=>by cases h)
     rw [if_neg hz] at p6
     simp only [Bool.false_and,cond_false,pre122 p6,fun122 p6,cond_true]
     have hN:X*2^D-Y=(H-L)*2^dn:=by rw [hXD,Nat.sub_mul,← hYe]
     have hpp:0<(H-L)*2^dn:=Nat.mul_pos (by omega) hpd
     have hlt2:Y<X*2^D:=by omega
     rw [if_neg (by omega),if_pos hlt2,hN,rnd_scale hf hz]
   ·rw [decide_eq_true (p:=R≠0) hm0,cond_true]
    obtain ⟨hb1,hX0⟩:=hbig hm0
    have p8:=T124_eq (H-L) 1 (by omega) (by omega)
    rw [← Wi_one] at p8
    have hbl:fP f+2≤blen (H-L-1):=by
     have:=blen_ge (n:=H-L-1) (k:=69) (by omega)
     omega
    have p6:=T122_eq hf hm nx (H-L-1) (by omega) (ey+(dn:Int)) (by omega) true (fun _=>hbl)
    rw [if_neg (by omega)] at p6
    simp only [pre124 p8,fun124 p8,cond_true,Bool.not_true,Bool.and_false,cond_false,pre122 p6,fun122 p6]
    have h2:(L+1+(H-L-1))*2^dn=H*2^dn:=by rw [show L+1+(H-L-1)=H by omega]
    rw [Nat.add_mul,Nat.add_mul,Nat.one_mul] at h2
    have hN:X*2^D-Y=(2^dn-R)+(H-L-1)*2^dn:=by rw [hXD]; omega
    have hlt2:Y<X*2^D:=by omega
    have hNd:(X*2^D-Y)/2^dn=H-L-1:=by
     rw [hN,Nat.add_mul_div_right _ _ hpd,Nat.div_eq_of_lt (by omega),Nat.zero_add]
    have hNm:(X*2^D-Y)%2^dn=2^dn-R:=by
     rw [hN,Nat.add_mul_mod_self_right,Nat.mod_eq_of_lt (by omega)]
    have htr:=rnd_trunc (f:=f) (m:=m) (neg:=nx) (N:=X*2^D-Y) (k:=dn) (E:=ey) hf (by rw [hNd]; omega) (fun _=>by rw [hNd]; exact hbl)
    rw [hNd,hNm,decide_eq_true (p:=2^dn-R≠0) (by omega)] at htr
    rw [htr,if_neg (by omega),if_pos hlt2]
theorem T71_eq {f m:Int} (hf:Fm f) (hm:0≤m∧m≤5) (nx:Bool) (X:Nat) (ex:Int) (ny:Bool) (Y:Nat) (ey:Int) (hX:X<2^53) (hY:Y<2^53) (hex:-2000≤ex∧ex≤2000) (hey:-2000≤ey∧ey≤2000) :
  T71 (f,m,(nx,(X:Int),ex,()),(ny,(Y:Int),ey,()),())=some (((sumBits f m nx X ex ny Y ey).1:Int),((sumBits f m nx X ex ny Y ey).2:Int),0,()):=by
 rw [t71_tail]
 by_cases hX0:X=0
 ·subst hX0
  by_cases hYn:Y=0∧nx=ny
  ·obtain ⟨rfl,rfl⟩:=hYn
   have p0:=T118_ok hf nx
   rw [show ((((0:Nat):Int)==0)&&(((0:Nat):Int)==0)&&(nx==nx))=true by cases nx <;> rfl,cond_true]
   simp only [pre118 p0,fun118 p0,cond_true]
   rw [sum_zero hf,if_pos rfl,if_pos rfl]
   rfl
  ·have hg:((((0:Nat):Int)==0)&&(((Y:Nat):Int)==0)&&(nx==ny))=false:=by
    by_cases hy:Y=0
    ·have:nx≠ny:=fun h=>hYn ⟨hy,h⟩
     subst hy
     cases nx <;> cases ny <;> first | rfl | exact absurd rfl this
    ·rw [beq0_f Y hy,Bool.and_false,Bool.false_and]
   have h1:(((0:Nat):Int)==0)=true:=rfl
   rw [hg,cond_false,h1,Bool.true_or,cond_true,cond_true]
   have ht:=tail_eq hf hm ny Y 0 nx 0 ey hY hX (by omega) (by
    by_cases hy:Y=0
    ·exact .inr ⟨rfl,fun h=>hYn ⟨hy,h.symm⟩⟩
    ·exact .inl hy)
   rw [Int.natCast_zero,Int.add_zero] at ht
   rw [Int.natCast_zero,ht,sum_comm f m nx 0 ex,sum_zero hf,sum_zero hf]
 ·have hx0:((X:Int)==0)=false:=beq0_f _ hX0
  rw [hx0,Bool.false_and,Bool.false_and,cond_false,Bool.false_or,cond_false]
  by_cases hY0:Y=0
  ·subst hY0
   have ht:=tail_eq hf hm nx X 0 ny 0 ex hX hY (by omega) (.inl hX0)
   rw [Int.natCast_zero,Int.add_zero] at ht
   rw [show (((0:Nat):Int) != 0)=false by rfl,Bool.false_and,cond_false,show (((0:Nat):Int)==0)=true by rfl,cond_true,Int.natCast_zero,ht,sum_zero hf,sum_zero hf]
  ·rw [bne0_t _ hY0,Bool.true_and,beq0_f _ hY0,cond_false]
   by_cases hlt:ex<ey
   ·rw [decide_eq_true hlt,cond_true]
    obtain ⟨D,hD⟩:=Int.eq_ofNat_of_zero_le (show 0≤ey-ex by omega)
    have hee:ey=ex+D:=by omega
    subst hee
    rw [tail_eq hf hm ny Y D nx X ex hY hX (by omega) (.inl hY0),sum_comm f m ny Y]
   ·rw [decide_eq_false hlt,cond_false]
    obtain ⟨D,hD⟩:=Int.eq_ofNat_of_zero_le (show 0≤ex-ey by omega)
    have hee:ex=ey+D:=by omega
    subst hee
    rw [tail_eq hf hm nx X D ny Y ey hX hY (by omega) (.inl hX0)]
end VL
namespace VL
open Go Vx
def Hs (l:List Nat):Prop:=(∀ x∈l,x<2^32)∧l.length≤1000000
theorem Hs.dg {n:Nat} (h:n<2^100000):Hs (dg (2^32) n):=by
 refine ⟨dg_lt (by decide) n,?_⟩
 have:n<(2^32)^3125:=by rw [← Nat.pow_mul]; exact h
 have:=dg_len_le (B:=2^32) (by decide) 3125 n this
 omega
theorem wu_id (n:Nat) (h:n<2^64):IntKind.wrap .u64 (n:Int)=(n:Int):=wrapU (by omega)
theorem wu_mul (a b:Nat) (h:a*b<2^64):IntKind.wrap .u64 ((a:Int)*(b:Int))=((a*b:Nat):Int):=by
 rw [← Int.natCast_mul,wu_id _ h]
theorem wu_add (a b:Nat) (h:a+b<2^64):IntKind.wrap .u64 ((a:Int)+(b:Int))=((a+b:Nat):Int):=by
 rw [← Int.natCast_add,wu_id _ h]
theorem app_lt {B:Nat} {l:List Nat} {v:Nat} (h:∀ x∈l,x<B) (hv:v<B):∀ x∈l++[v],x<B:=fun x hx=>by
 rcases List.mem_append.1 hx with hx | hx
 ·exact h x hx
 ·have:x=v:=by simpa using hx
  rw [this]; exact hv
theorem nv_snoc (B:Nat) (l:List Nat) (v:Nat):nv B (l++[v])=nv B l+B^l.length*v:=by
 rw [nv_append]; simp [nv]
theorem nv_rep (B n:Nat):nv B (List.replicate n 0)=0:=by
 induction n with
 | zero=>rfl
 | succ n ih=>rw [List.replicate_succ]; simp [nv,ih]
end VL
namespace VL
open Go Vx
theorem nv_drop_next (B:Nat) (l:List Nat) (i:Nat) (h:i<l.length):nv B (l.drop i)=l.getD i 0+B*nv B (l.drop (i+1)):=by
 rw [List.drop_eq_getElem_cons h,List.getD_eq_getElem?_getD,List.getElem?_eq_getElem h]; rfl
theorem take_lt {B:Nat} (hB:2≤B) {l:List Nat} (h:∀ x∈l,x<B) (i:Nat):nv B (l.take i)<B^i:=by
 have:=nv_lt hB (l.take i) fun x hx=>h x (List.mem_of_mem_take hx)
 refine Nat.lt_of_lt_of_le this (Nat.pow_le_pow_right (by omega) ?_)
 rw [List.length_take]
 exact Nat.min_le_left _ _
theorem split_lt {P A A' X Y:Nat} (h:A<P) (hxy:X<Y):A+P*X<A'+P*Y:=by
 have:P*(X+1)≤P*Y:=Nat.mul_le_mul_left _ hxy
 rw [Nat.mul_add,Nat.mul_one] at this
 omega
theorem row_lt {B:Nat} (hB:2≤B) {a b:List Nat} (ha:∀ x∈a,x<B) {i:Nat} (hia:i<a.length) (hib:i<b.length) (hd:nv B (a.drop (i+1))=nv B (b.drop (i+1))) (h:a.getD i 0<b.getD i 0):nv B a<nv B b:=by
 rw [nv_split B a i (by omega),nv_split B b i (by omega),nv_drop_next B a i hia,nv_drop_next B b i hib,hd]
 exact split_lt (take_lt hB ha i) (by omega)
theorem dg_len_lt {B:Nat} (hB:2≤B) {x y:Nat} (h:(dg B x).length<(dg B y).length):x<y:=by
 have h1:=dg_len_gt hB x
 rcases Nat.lt_or_ge x y with h2 | h2
 ·exact h2
 ·have:=dg_len_le hB (dg B x).length y (by omega)
  omega
theorem minus_step {P B A A' O a b c c' v:Nat} (h:A+P*c=A'+O) (h2:a+B*c'=b+c+v):A+P*a+P*B*c'=A'+P*b+(O+P*v):=by
 have h3:P*(a+B*c')=P*(b+c+v):=by rw [h2]
 rw [Nat.mul_add,Nat.mul_add,Nat.mul_add,← Nat.mul_assoc] at h3
 omega
theorem dg_len_mono {B:Nat} (hB:2≤B) {x y:Nat} (h:y≤x):(dg B y).length≤(dg B x).length:=by
 rcases Nat.lt_or_ge (dg B x).length (dg B y).length with h1 | h1
 ·have:=dg_len_lt hB h1; omega
 ·exact h1
theorem Hs.len {n:Nat} (h:n<2^100000):(VL.dg (2^32) n).length≤3125:=by
 have:n<(2^32)^3125:=by rw [← Nat.pow_mul]; exact h
 exact dg_len_le (B:=2^32) (by decide) 3125 n this
theorem quo2i (x:Nat) (h:x<2^60):quoI .i64 (x:Int) 2=((x/2:Nat):Int):=by
 unfold quoI
 have e:(x:Int).tdiv 2=((x/2:Nat):Int):=rfl
 rw [e,wrapI (by omega)]
theorem quoM (x m:Nat) (h:x<2^64) (hm:0<m):quoI .u64 (x:Int) (m:Int)=((x/m:Nat):Int):=by
 unfold quoI
 have e:(x:Int).tdiv (m:Int)=((x/m:Nat):Int):=rfl
 have:=Nat.div_le_self x m
 generalize x/m=q at *
 rw [e,wrapU (by omega)]
end VL
namespace VL
open Go Vx
theorem fP_le {f:Int} (hf:Fm f):fP f≤53:=by
 rcases Fm_cases hf with rfl | rfl | rfl | rfl <;> decide
theorem mode_cases {m:Int} (hm:0≤m∧m≤5):m=0∨m=1∨m=2∨m=3∨m=4∨m=5:=by omega
theorem cut_lt_big {f m:Int} (hf:Fm f) {neg:Bool} {n:Nat} {e q:Int} (h:topE n e-fP f+1≤q):cutN m neg n e q false≤2^fP f:=cut_le h
end VL
namespace VL
open Go Vx
def sumD (nx:Bool) (X:Nat) (ex:Int) (ny:Bool) (Y:Nat) (ey:Int):Bool×Nat×Int :=
 if X=0 then (ny,Y,ey) else if Y=0 then (nx,X,ex) else
 let e:=if ey<ex then ey else ex
 let a:=X*2^(ex-e).toNat
 let b:=Y*2^(ey-e).toNat
 if nx=ny then (nx,a+b,e) else if b≤a then (nx,a-b,e) else (ny,b-a,e)
def mant (f:Int) (a:Nat):Nat:=if eF f a=0 then mF f a else mF f a+2^(fP f-1)
def xpn (f:Int) (a:Nat):Int:=1-(fX f:Int)-(fP f:Int)+1+(if eF f a=0 then 0 else (eF f a:Int)-1)
theorem mF_lt (f:Int) (a:Nat):mF f a<2^(fP f-1):=Nat.mod_lt _ (Nat.two_pow_pos _)
theorem mant_lt {f:Int} (hf:Fm f) (a:Nat):mant f a<2^53:=by
 have h1:=mF_lt f a
 have h2:=fP_ge hf
 have h3:=fP_lt hf
 have h4:=fW_le hf
 have h5:2^(fP f-1)≤2^52:=Nat.pow_le_pow_right (by decide) (by rcases Fm_cases hf with rfl | rfl | rfl | rfl <;> decide)
 unfold mant
 split <;> omega
theorem eF_lt {f:Int} (hf:Fm f) (a:Nat):eF f a<2048:=by
 have:2^(fW f-fP f)≤2^11:=Nat.pow_le_pow_right (by decide) (by rcases Fm_cases hf with rfl | rfl | rfl | rfl <;> decide)
 have h:eF f a<2^(fW f-fP f):=Nat.mod_lt _ (Nat.two_pow_pos _)
 omega
theorem xpn_bound {f:Int} (hf:Fm f) (a:Nat):-2000≤xpn f a∧xpn f a≤2000:=by
 have h1:=eF_lt hf a
 have h2:=fX_le hf
 have h3:=fP_le hf
 have h4:=fX_ge hf
 have h5:=fP_ge hf
 have h6:(eF f a:Int)≤2*fX f+1:=by
  have:eF f a<2^(fW f-fP f):=Nat.mod_lt _ (Nat.two_pow_pos _)
  have:=fX_eq hf
  omega
 unfold xpn
 split <;> omega
def isInf (f:Int) (a:Nat):Bool:=eF f a==fullF f&&mF f a==0
def addR (f m:Int) (a b:Nat):Int×Int×Int×Unit :=
 bif snan f a||snan f b then ((nanF f:Int),1,0,())
 else bif nan f a||nan f b then ((nanF f:Int),0,0,())
 else bif (isInf f a&&isInf f b)&&!(sF f a==sF f b) then ((nanF f:Int),1,0,())
 else bif isInf f a then ((a:Int),0,0,())
 else bif isInf f b then ((b:Int),0,0,())
 else (((sumBits f m (sF f a) (mant f a) (xpn f a) (sF f b) (mant f b) (xpn f b)).1:Int),((sumBits f m (sF f a) (mant f a) (xpn f a) (sF f b) (mant f b) (xpn f b)).2:Int),0,())
def addA (f m:Int) (a b:Nat):Int×Int×Int×Unit :=
 if Fm f then (if 0≤m∧m≤5 then (if chk f a=0∧chk f b=0 then addR f m a b else (0,0,4,())) else (0,0,3,())) else (0,0,2,())
theorem part_vals {f:Int} {a:Nat} (h:eF f a≠fullF f):nan f a=false∧snan f a=false∧isInf f a=false:=by
 unfold snan nan isInf
 simp [h]
end VL
namespace VL
open Go Vx
theorem T98_ok {f:Int} {a:Nat} (h:chk f a=0):T98 (f,(a:Int),())=some (sF f a,(eF f a:Int),(mF f a:Int),0,()):=by
 obtain ⟨hf,h0⟩:=chk_zero h
 have ha:=pat_lt h
 show t98 S66.pre S66.F S90.pre S90.F f a=_
 unfold t98
 have p0:=T66_eq f a ha
 have p2:=T90_eq hf a ha
 have hr1:decide (0≤f)=true:=decide_eq_true hf.1
 have hr2:decide (f<((4:Nat):Int))=true:=decide_eq_true hf.2
 simp only [row_at hf,hr1,hr2,pre66 p0,fun66 p0,pre90 p2,fun90 p2,h,cond_true,bne_self_eq_false,cond_false]
theorem T72_ok {f:Int} {a:Nat} (h:chk f a=0):T72 (f,rowOf f,(a:Int),())=some ((sF f a,(mant f a:Int),xpn f a,()),()):=by
 obtain ⟨hf,h0⟩:=chk_zero h
 show t72 S98.pre S98.F f (rowOf f) a=_
 unfold t72
 have h1:=fP_ge hf
 have h3:=fP_le hf
 have h4:=fX_le hf
 have hE:=eF_lt hf a
 have hM:=mF_lt f a
 have hPp:2^(fP f-1)≤2^52:=Nat.pow_le_pow_right (by decide) (by omega)
 have p0:=T98_ok h
 have r1:(rowOf f).2.1=(fP f:Int):=rfl
 have r2:(rowOf f).2.2.1=1-(fX f:Int):=rfl
 have e0:IntKind.wrap .i64 ((fP f:Int)-1)=((fP f-1:Nat):Int):=wsub1 _ (by omega)
 have e1:IntKind.wrap .i64 (IntKind.wrap .i64 ((1-(fX f:Int))-(fP f:Int))+1)=1-(fX f:Int)-(fP f:Int)+1:=by
  rw [wrapI (n:=_-(fP f:Int)) (by omega),wrapI (by omega)]
 have e2:IntKind.wrap .i64 (eF f a:Int)=(eF f a:Int):=wrapI (by omega)
 have e3:shlI .u64 1 ((fP f-1:Nat):Int)=((2^(fP f-1):Nat):Int):=shlI_one (by omega)
 have e4:orI .u64 (mF f a:Int) ((2^(fP f-1):Nat):Int)=((mF f a+2^(fP f-1):Nat):Int):=by
  have:=orN (a:=mF f a) (b:=1) (k:=fP f-1) hM (by omega)
  rwa [Nat.one_mul] at this
 simp only [pre98 p0,fun98 p0,cond_true,r1,r2,e0,e1,e2,e3,e4,nnn]
 by_cases hz:eF f a=0
 ·have hg:decide ((eF f a:Int)>0)=false:=decide_eq_false (by omega)
  have hm:mant f a=mF f a:=by unfold mant; rw [if_pos hz]
  have hx:xpn f a=1-(fX f:Int)-(fP f:Int)+1:=by unfold xpn; rw [if_pos hz,Int.add_zero]
  rw [hg,cond_false,hm,hx]
 ·have hg:decide ((eF f a:Int)>0)=true:=decide_eq_true (by omega)
  have hm:mant f a=mF f a+2^(fP f-1):=by unfold mant; rw [if_neg hz]
  have hx:IntKind.wrap .i64 ((1-(fX f:Int)-(fP f:Int)+1)+IntKind.wrap .i64 ((eF f a:Int)-1))=xpn f a:=by
   unfold xpn; rw [if_neg hz,wrapI (n:=(eF f a:Int)-1) (by omega),wrapI (by omega)]
  rw [hg,cond_true,hm,hx]
theorem cls_isInf (f:Int) (a:Nat):(cls f a==2||cls f a==9)=isInf f a:=by
 unfold cls isInf
 cases eF f a==fullF f <;> cases eF f a==0 <;> cases mF f a==0 <;> cases sF f a <;> cases mF f a/2^(fP f-2) != 0 <;> rfl
theorem cls_signs (f:Int) (a b:Nat):((isInf f a&&isInf f b)&&(cls f a != cls f b))=((isInf f a&&isInf f b)&&!(sF f a==sF f b)):=by
 unfold cls isInf
 cases eF f a==fullF f <;> cases mF f a==0 <;> cases eF f b==fullF f <;> cases mF f b==0 <;> first | rfl | (cases sF f a <;> cases sF f b <;> rfl)
theorem T27_eq (f m:Int) {a b:Nat} (ha:a<2^64) (hb:b<2^64):T27 (f,m,(a:Int),(b:Int),())=some (addA f m a b):=by
 show t27 S69.pre S69.F S65.pre S65.F S70.pre S70.F S72.pre S72.F S71.pre S71.F f m a b=_
 unfold t27 addA
 by_cases hf:Fm f
 ·rw [if_pos hf]
  have p0:=T69_ok hf
  simp only [pre69 p0,fun69 p0,cond_true,bne_self_eq_false,cond_false]
  by_cases hm:0≤m∧m≤5
  ·have hmm:(decide (m<0)||decide (m>5))=false:=by
    rw [decide_eq_false (p:=m<0) (by omega),decide_eq_false (p:=m>5) (by omega)]; rfl
   rw [if_pos hm,hmm,cond_false]
   have c4:∀ x:Nat,chk f x≠0→chk f x=4:=fun x h=>by
    unfold chk at h ⊢
    rw [if_pos hf] at h ⊢
    split at h
    ·exact absurd rfl h
    ·rename_i h1; rw [if_neg h1]
   by_cases hca:chk f a=0
   ·have p1:=T65_ok ha hca
    by_cases hcb:chk f b=0
    ·have p2:=T65_ok hb hcb
     rw [if_pos ⟨hca,hcb⟩]
     have p3:=T70_ok hf
     have p4:=T72_ok hca
     have p5:=T72_ok hcb
     have p6:=T71_eq hf hm (sF f a) (mant f a) (xpn f a) (sF f b) (mant f b) (xpn f b) (mant_lt hf a) (mant_lt hf b) (xpn_bound hf a) (xpn_bound hf b)
     simp only [pre65 p1,fun65 p1,pre65 p2,fun65 p2,cond_true,bne_self_eq_false,cond_false,pre70 p3,fun70 p3,pre72 p4,fun72 p4,pre72 p5,fun72 p5,pre71 p6,fun71 p6,cls_isInf,cls_signs]
     unfold addR
     rw [← cls_snan,← cls_snan,← cls_nan,← cls_nan]
     generalize ((isInf f a&&isInf f b)&&!(sF f a==sF f b))=w1
     generalize isInf f a=w2
     generalize isInf f b=w3
     generalize (cls f a==0)=x1
     generalize (cls f b==0)=x2
     generalize (cls f a==1)=x3
     generalize (cls f b==1)=x4
     cases x1 <;> cases x2 <;> cases x3 <;> cases x4 <;> cases w1 <;> cases w2 <;> cases w3 <;> rfl
    ·have p2:=T65_bad hb hcb
     rw [if_neg (fun h=>hcb h.2)]
     have hne:(chk f b != 0)=true:=by simpa using hcb
     simp only [pre65 p1,fun65 p1,pre65 p2,fun65 p2,cond_true,bne_self_eq_false,cond_false,hne]
     rw [c4 b hcb]
   ·have p1:=T65_bad ha hca
    rw [if_neg (fun h=>hca h.1)]
    have hne:(chk f a != 0)=true:=by simpa using hca
    simp only [pre65 p1,fun65 p1,cond_true,hne]
    rw [c4 a hca]
  ·rw [if_neg hm]
   have:(decide (m<0)||decide (m>5))=true:=by
    by_cases h:m<0
    ·rw [decide_eq_true h]; rfl
    ·rw [decide_eq_true (p:=m>5) (by omega),Bool.or_true]
   rw [this]; rfl
 ·rw [if_neg hf]
  have p0:=T69_bad hf
  simp only [pre69 p0,fun69 p0]
  rfl
end VL
namespace VL
open Go Vx
theorem infB_eq (f:Int) (neg:Bool):infB f neg=infF f+sgnF f neg:=by
 unfold infB infF fullF; rw [Nat.mul_comm]
theorem add_sgn (f:Int) (s:Bool) (x:Nat):x+sgnF f s=mkF f s x:=by
 unfold mkF sgnF; cases s <;> rfl
theorem inf_ge {f:Int} (hf:Fm f):infF f=(2*fX f+1)*2^(fP f-1):=by
 unfold infF fullF; rw [← fX_eq hf,Nat.mul_comm]
theorem nan_of_le {f:Int} (hf:Fm f) {a:Nat} (h:absF f a≤infF f):nan f a=false:=by
 unfold nan
 rw [eF_abs hf,mF_abs hf]
 by_cases he:absF f a/2^(fP f-1)=fullF f
 ·have hdm:=Nat.div_add_mod (absF f a) (2^(fP f-1))
  rw [he] at hdm
  unfold infF at h
  have:absF f a%2^(fP f-1)=0:=by omega
  rw [this]; simp
 ·simp [he]
def rndM (f m:Int) (neg:Bool) (n:Nat) (e:Int):Nat×Nat :=
 if topE n e>fX f then ((if upw m neg then infF f else infF f-1),20)
 else
  let q:=lowE f (topE n e)
  let u:=cutN m neg n e q false
  if q+blen u-1>fX f then ((if upw m neg then infF f else infF f-1),20)
  else ((q-(1-(fX f:Int)-fP f+1)).toNat*2^(fP f-1)+u,
   if cutR n e q false=0 then 0 else if isTiny f m neg n e false then 24 else 16)
theorem infF_pos {f:Int} (hf:Fm f):1≤infF f:=by
 rw [inf_ge hf]
 exact Nat.mul_pos (by omega) (Nat.two_pow_pos _)
theorem bey_M {f m:Int} (hf:Fm f) (neg:Bool):beyB f m neg=mkF f neg (if upw m neg then infF f else infF f-1):=by
 have:=infF_pos hf
 unfold beyB
 rw [infB_eq,← add_sgn]
 split <;> omega
theorem rnd_M {f:Int} (hf:Fm f) (m:Int) (neg:Bool) (n:Nat) (e:Int):rndN f m neg n e false=(mkF f neg (rndM f m neg n e).1,(rndM f m neg n e).2):=by
 unfold rndN rndM
 by_cases h:topE n e>fX f
 ·rw [if_pos h,if_pos h,bey_M hf]
 ·rw [if_neg h,if_neg h]
  dsimp only
  by_cases h2:lowE f (topE n e)+(blen (cutN m neg n e (lowE f (topE n e)) false):Int)-1>fX f
  ·rw [if_pos h2,if_pos h2,bey_M hf]
  ·rw [if_neg h2,if_neg h2]
   dsimp only
   rw [add_sgn]
theorem low_facts (f:Int) (hf:Fm f) (t:Int) (ht:¬ t>fX f):t-(fP f:Int)+1≤lowE f t∧1-(fX f:Int)-(fP f:Int)+1≤lowE f t∧lowE f t≤(fX f:Int)-(fP f:Int)+1:=by
 have:=fX_ge hf
 unfold lowE; split <;> refine ⟨?_,?_,?_⟩ <;> omega
theorem rndM_lt {f m:Int} (hf:Fm f) {neg:Bool} {n:Nat} {e:Int} (h1:¬ topE n e>fX f) (h2:¬ lowE f (topE n e)+(blen (cutN m neg n e (lowE f (topE n e)) false):Int)-1>fX f) :
  (lowE f (topE n e)-(1-(fX f:Int)-fP f+1)).toNat*2^(fP f-1)+cutN m neg n e (lowE f (topE n e)) false<infF f:=by
 obtain ⟨g1,g2,g3⟩:=low_facts f hf _ h1
 have hu:=cut_lt_big (m:=m) (neg:=neg) hf g1
 generalize lowE f (topE n e)=q at *
 generalize cutN m neg n e q false=u at *
 have hP:=fP_ge hf
 have hX:=fX_ge hf
 have hpp:=Nat.two_pow_pos (fP f-1)
 have h2p:2^fP f=2*2^(fP f-1):=by rw [← Nat.pow_succ',Nat.succ_eq_add_one,Nat.sub_add_cancel (by omega)]
 rw [inf_ge hf]
 obtain ⟨k,hk⟩:=Int.eq_ofNat_of_zero_le (show 0≤q-(1-(fX f:Int)-(fP f:Int)+1) by omega)
 rw [hk,Int.toNat_natCast]
 rcases Nat.lt_or_ge u (2^fP f) with h | h
 ·have hk2:k+2≤2*fX f+1:=by omega
  have:=Nat.mul_le_mul_right (2^(fP f-1)) hk2
  rw [Nat.add_mul] at this
  omega
 ·have hb:fP f+1≤blen u:=blen_ge h
  have hk2:k+3≤2*fX f+1:=by omega
  have:=Nat.mul_le_mul_right (2^(fP f-1)) hk2
  rw [Nat.add_mul] at this
  omega
theorem rndM_le {f:Int} (hf:Fm f) (m:Int) (neg:Bool) (n:Nat) (e:Int):(rndM f m neg n e).1≤infF f:=by
 unfold rndM
 by_cases h:topE n e>fX f
 ·rw [if_pos h]; dsimp only; split <;> omega
 ·rw [if_neg h]
  dsimp only
  by_cases h2:lowE f (topE n e)+(blen (cutN m neg n e (lowE f (topE n e)) false):Int)-1>fX f
  ·rw [if_pos h2]; dsimp only; split <;> omega
  ·rw [if_neg h2]
   exact Nat.le_of_lt (rndM_lt hf h h2)
theorem sgn_zero (f:Int) (s:Bool):sgnF f s=mkF f s 0:=by
 rw [← add_sgn,Nat.zero_add]
theorem infF_lt {f:Int} (hf:Fm f):infF f<2^(fW f-1):=by have:=inf_room hf; omega
theorem mk_place {f:Int} (s:Bool) {x:Nat} (hx:x<2^(fW f-1)):place f (mkF f s x)=bif s then -(x:Int) else x:=by
 unfold place
 rw [mk_abs s hx,mk_sgn s hx]
theorem rnd_self {f m:Int} (hf:Fm f) {a:Nat} (h:chk f a=0) (hfin:eF f a≠fullF f) (h0:mant f a≠0):rndN f m (sF f a) (mant f a) (xpn f a) false=(a,0):=by
 have hP:=fP_ge hf
 have hX:=fX_ge hf
 have hpp:=Nat.two_pow_pos (fP f-1)
 have h2p:2^fP f=2*2^(fP f-1):=by rw [← Nat.pow_succ',Nat.succ_eq_add_one,Nat.sub_add_cancel (by omega)]
 have hM:=mF_lt f a
 have hEl:eF f a<fullF f:=Nat.lt_of_le_of_ne (e_le a) hfin
 have hfull:fullF f=2*fX f+1:=by unfold fullF; rw [← fX_eq hf]
 have habs:=abs_eq hf a
 have hpat:=pat_mk h
 rw [rnd_M hf]
 have key:rndM f m (sF f a) (mant f a) (xpn f a)=(absF f a,0):=by
  have hbits:∃ t,topE (mant f a) (xpn f a)=t∧t≤fX f∧lowE f t=xpn f a∧xpn f a+(blen (mant f a):Int)-1=t:=by
   refine ⟨_,rfl,?_,?_,rfl⟩
   ·unfold topE xpn
    by_cases he:eF f a=0
    ·have hm:mant f a=mF f a:=by unfold mant; rw [if_pos he]
     have:=blen_bound (n:=mant f a) (k:=fP f-1) (by rw [hm]; exact hM)
     rw [if_pos he]; omega
    ·have hm:mant f a=mF f a+2^(fP f-1):=by unfold mant; rw [if_neg he]
     have:=blen_bound (n:=mant f a) (k:=fP f) (by rw [hm]; omega)
     rw [if_neg he]; omega
   ·unfold lowE topE xpn
    by_cases he:eF f a=0
    ·have hm:mant f a=mF f a:=by unfold mant; rw [if_pos he]
     have hb:=blen_bound (n:=mant f a) (k:=fP f-1) (by rw [hm]; exact hM)
     rw [if_pos he,if_pos (by omega)]; omega
    ·have hm:mant f a=mF f a+2^(fP f-1):=by unfold mant; rw [if_neg he]
     have hb:=blen_bound (n:=mant f a) (k:=fP f) (by rw [hm]; omega)
     have hb2:=blen_ge (n:=mant f a) (k:=fP f-1) (by rw [hm]; omega)
     rw [if_neg he]
     by_cases h1:eF f a=1
     ·rw [h1]; split <;> omega
     ·rw [if_neg (by omega)]; omega
  obtain ⟨t,ht,ht2,hlow,htb⟩:=hbits
  have hcut:cutR (mant f a) (xpn f a) (xpn f a) false=0:=by rw [cutR_f,rstE_lo (Int.le_refl _)]
  have hcn:cutN m (sF f a) (mant f a) (xpn f a) (xpn f a) false=mant f a:=by
   unfold cutN
   rw [if_neg (fun hh=>hh.1 hcut),quoE_lo (Int.le_refl _),Int.sub_self]
   simp
  unfold rndM
  rw [ht,if_neg (by omega),hlow]
  dsimp only
  rw [hcn,if_neg (by omega),hcut,if_pos rfl]
  congr 1
  rw [habs]
  unfold xpn mant
  by_cases he:eF f a=0
  ·rw [if_pos he,if_pos he,he,Nat.mul_zero,Int.add_zero,Int.sub_self]
   simp
  ·rw [if_neg he,if_neg he]
   rw [show (1-(fX f:Int)-(fP f:Int)+1+((eF f a:Int)-1)-(1-(fX f:Int)-(fP f:Int)+1)).toNat=eF f a-1 by omega]
   obtain ⟨k,hk⟩:∃ k,eF f a=k+1:=⟨eF f a-1,by omega⟩
   rw [hk,Nat.add_sub_cancel,Nat.mul_add,Nat.mul_one,Nat.mul_comm k]
   omega
 rw [key]
 dsimp only
 rw [← hpat]
end VL
namespace VL
open Go Vx
def qm (f:Int):Int:=1-(fX f:Int)-(fP f:Int)+1
def cutJ (m:Int) (neg:Bool) (n j:Nat):Nat :=
 if clsR (n%2^j) j≠0∧furM m neg (decide (n/2^j%2=1)) (clsR (n%2^j) j)=true then n/2^j+1 else n/2^j
def limM (f m:Int) (neg:Bool):Nat:=if upw m neg then infF f else infF f-1
theorem cutJ_bound (m:Int) (neg:Bool) (n j:Nat):n/2^j≤cutJ m neg n j∧cutJ m neg n j≤n/2^j+1:=by
 unfold cutJ; split <;> omega
theorem two_P {f:Int} (hf:Fm f):2^fP f=2*2^(fP f-1):=by
 have hP:=fP_ge hf
 rw [← Nat.pow_succ',Nat.succ_eq_add_one,Nat.sub_add_cancel (by omega)]
theorem blen_mono {n k:Nat} (h:n≤k):blen n≤blen k:=blen_bound (Nat.lt_of_le_of_lt h (blen_lt k))
theorem cls_mono {r r' j:Nat} (h:r≤r'):clsR r j≤clsR r' j:=by
 unfold clsR
 generalize 2^(j-1)=H
 by_cases h0:r=0
 ·rw [if_pos h0]; exact Nat.zero_le _
 rw [if_neg h0,if_neg (show ¬ r'=0 by omega)]
 by_cases h1:r'<H
 ·rw [if_pos (show r<H by omega),if_pos h1]; exact Nat.le_refl _
 rw [if_neg h1]
 by_cases h2:r'=H
 ·rw [if_pos h2]
  split
  ·decide
  ·rw [if_pos (by omega)]; exact Nat.le_refl _
 ·rw [if_neg h2]
  split
  ·decide
  ·split <;> decide
theorem clsR_le (r j:Nat):clsR r j≤3:=by
 unfold clsR
 split
 ·decide
 ·split
  ·decide
  ·split <;> decide
theorem up_mono {m:Int} (hm:0≤m∧m≤5) (neg odd:Bool) {c c':Nat} (h:c≤c') (hc':c'≤3) (hu:c≠0∧furM m neg odd c=true):c'≠0∧furM m neg odd c'=true:=by
 obtain ⟨h0,h1⟩:=hu
 refine ⟨by omega,?_⟩
 rcases (show c=1∨c=2∨c=3 by omega) with rfl | rfl | rfl <;> rcases (show c'=1∨c'=2∨c'=3 by omega) with rfl | rfl | rfl <;> rcases mode_cases hm with rfl | rfl | rfl | rfl | rfl | rfl <;> cases neg <;> cases odd <;> first | rfl | (exfalso; omega) | (revert h1; decide)
theorem cutJ_mono {m:Int} (hm:0≤m∧m≤5) (neg:Bool) {n k j:Nat} (h:n≤k):cutJ m neg n j≤cutJ m neg k j:=by
 have hq:n/2^j≤k/2^j:=Nat.div_le_div_right h
 have h1:=cutJ_bound m neg n j
 have h2:=cutJ_bound m neg k j
 rcases Nat.lt_or_ge (n/2^j) (k/2^j) with hlt | hge
 ·omega
 ·have he:n/2^j=k/2^j:=by omega
  have hr:n%2^j≤k%2^j:=by
   have a1:=Nat.div_add_mod n (2^j)
   have a2:=Nat.div_add_mod k (2^j)
   rw [he] at a1
   omega
  unfold cutJ
  rw [he]
  have hu:=up_mono hm neg (decide (k/2^j%2=1)) (cls_mono (j:=j) hr) (clsR_le _ _)
  split
  ·rename_i hh
   rw [if_pos (hu hh)]
   omega
  ·split <;> omega
def magI (f m:Int) (neg:Bool) (n:Nat):Nat:=if n=0 then 0 else (rndM f m neg n (qm f)).1
def plcI (f m:Int) (S:Int):Int:=if S<0 then -(magI f m true S.natAbs:Int) else (magI f m false S.natAbs:Int)
end VL
namespace VL
open Go Vx
def addN (f m:Int) (a b:Nat):Nat×Nat :=
 bif snan f a||snan f b then (nanF f,1)
 else bif nan f a||nan f b then (nanF f,0)
 else bif (isInf f a&&isInf f b)&&!(sF f a==sF f b) then (nanF f,1)
 else bif isInf f a then (a,0)
 else bif isInf f b then (b,0)
 else sumBits f m (sF f a) (mant f a) (xpn f a) (sF f b) (mant f b) (xpn f b)
theorem addR_N (f m:Int) (a b:Nat):addR f m a b=(((addN f m a b).1:Int),((addN f m a b).2:Int),0,()):=by
 unfold addR addN
 cases snan f a||snan f b <;> cases nan f a||nan f b <;> cases (isInf f a&&isInf f b)&&!(sF f a==sF f b) <;> cases isInf f a <;> cases isInf f b <;> rfl
end VL
namespace VL
open Go Vx
def vI (f:Int) (neg:Bool) (X:Nat) (e:Int):Int:=bif neg then -((X*2^(e-qm f).toNat:Nat):Int) else ((X*2^(e-qm f).toNat:Nat):Int)
theorem rnd_qm {f:Int} (hf:Fm f) (m:Int) (neg:Bool) {N:Nat} (hN:N≠0) {e:Int} (he:qm f≤e) :
  rndN f m neg N e false=(mkF f neg (rndM f m neg (N*2^(e-qm f).toNat) (qm f)).1,(rndM f m neg (N*2^(e-qm f).toNat) (qm f)).2):=by
 have h:=rnd_scale (f:=f) (m:=m) (neg:=neg) hf hN (e-qm f).toNat (qm f)
 rw [show qm f+((e-qm f).toNat:Int)=e by omega] at h
 rw [← h,rnd_M hf]
theorem sum_form {f:Int} (hf:Fm f) (nx:Bool) (X:Nat) (ex:Int) (ny:Bool) (Y:Nat) (ey:Int) (hx:qm f≤ex) (hy:qm f≤ey) :
  (vI f nx X ex+vI f ny Y ey=0→∀ m,∃ s,sumBits f m nx X ex ny Y ey=(sgnF f s,0)) ∧
  (vI f nx X ex+vI f ny Y ey≠0→∀ m,sumBits f m nx X ex ny Y ey =
   (mkF f (decide (vI f nx X ex+vI f ny Y ey<0)) (rndM f m (decide (vI f nx X ex+vI f ny Y ey<0)) (vI f nx X ex+vI f ny Y ey).natAbs (qm f)).1,
    (rndM f m (decide (vI f nx X ex+vI f ny Y ey<0)) (vI f nx X ex+vI f ny Y ey).natAbs (qm f)).2)):=by
 obtain ⟨e,he⟩:∃ e,(if ex≤ey then ex else ey)=e:=⟨_,rfl⟩
 have he2:e≤ex∧e≤ey∧qm f≤e:=by rw [← he]; split <;> omega
 obtain ⟨a,ha⟩:∃ a,X*2^(ex-e).toNat=a:=⟨_,rfl⟩
 obtain ⟨b,hb⟩:∃ b,Y*2^(ey-e).toNat=b:=⟨_,rfl⟩
 have hS:∀ m,sumBits f m nx X ex ny Y ey=if nx=ny then (if a+b=0 then (sgnF f nx,0) else rndN f m nx (a+b) e false)
   else if a=b then (sgnF f (m==4),0) else if b<a then rndN f m nx (a-b) e false else rndN f m ny (b-a) e false:=fun m=>by
  unfold sumBits
  simp only [he,ha,hb]
 have hp:=Nat.two_pow_pos (e-qm f).toNat
 have hA:X*2^(ex-qm f).toNat=a*2^(e-qm f).toNat:=by
  rw [← ha,Nat.mul_assoc,← Nat.pow_add]; congr 2; omega
 have hB:Y*2^(ey-qm f).toNat=b*2^(e-qm f).toNat:=by
  rw [← hb,Nat.mul_assoc,← Nat.pow_add]; congr 2; omega
 have hr:∀ m neg N,N≠0→rndN f m neg N e false=(mkF f neg (rndM f m neg (N*2^(e-qm f).toNat) (qm f)).1,(rndM f m neg (N*2^(e-qm f).toNat) (qm f)).2) :=
  fun m neg N hN=>rnd_qm hf m neg hN he2.2.2
 have hsum:=Nat.add_mul a b (2^(e-qm f).toNat)
 have hd1:=Nat.sub_mul a b (2^(e-qm f).toNat)
 have hd2:=Nat.sub_mul b a (2^(e-qm f).toNat)
 unfold vI
 rw [hA,hB]
 have hz:∀ n:Nat,n*2^(e-qm f).toNat=0→n=0:=fun n h=>by
  rcases Nat.mul_eq_zero.1 h with h | h
  ·exact h
  ·omega
 have hz2:∀ n:Nat,n≠0→n*2^(e-qm f).toNat≠0:=fun n h h2=>h (hz n h2)
 by_cases hn:nx=ny
 ·subst hn
  have hT:(bif nx then -((a*2^(e-qm f).toNat:Nat):Int) else ((a*2^(e-qm f).toNat:Nat):Int))+(bif nx then -((b*2^(e-qm f).toNat:Nat):Int) else ((b*2^(e-qm f).toNat:Nat):Int))=bif nx then -(((a+b)*2^(e-qm f).toNat:Nat):Int) else (((a+b)*2^(e-qm f).toNat:Nat):Int):=by
   rw [hsum]; cases nx <;> simp only [cond_true,cond_false] <;> omega
  rw [hT]
  refine ⟨fun h m=>?_,fun h m=>?_⟩
  ·have:a+b=0:=hz _ (by cases nx <;> simp only [cond_true,cond_false] at h <;> omega)
   exact ⟨nx,by rw [hS,if_pos rfl,if_pos this]⟩
  ·have h0:a+b≠0:=fun h1=>h (by rw [h1,Nat.zero_mul]; cases nx <;> rfl)
   have h1:=hz2 _ h0
   rw [hS,if_pos rfl,if_neg h0,hr _ _ _ h0]
   generalize (a+b)*2^(e-qm f).toNat=n at *
   cases nx <;> simp only [cond_true,cond_false]
   ·rw [decide_eq_false (by omega),Int.natAbs_natCast]
   ·rw [decide_eq_true (by omega),Int.natAbs_neg,Int.natAbs_natCast]
 ·have hny:ny=!nx:=by cases nx <;> cases ny <;> first | rfl | exact absurd rfl hn
  subst hny
  rcases Nat.lt_trichotomy a b with hab | hab | hab
  ·have hT:(bif nx then -((a*2^(e-qm f).toNat:Nat):Int) else ((a*2^(e-qm f).toNat:Nat):Int))+(bif !nx then -((b*2^(e-qm f).toNat:Nat):Int) else ((b*2^(e-qm f).toNat:Nat):Int))=bif !nx then -(((b-a)*2^(e-qm f).toNat:Nat):Int) else (((b-a)*2^(e-qm f).toNat:Nat):Int):=by
    have:=Nat.mul_le_mul_right (2^(e-qm f).toNat) (Nat.le_of_lt hab)
    rw [hd2]; cases nx <;> simp only [cond_true,cond_false,Bool.not_true,Bool.not_false] <;> omega
   have h0:b-a≠0:=by omega
   have h1:=hz2 _ h0
   rw [hT]
   refine ⟨fun h=>?_,fun h m=>?_⟩
   ·exfalso
    generalize (b-a)*2^(e-qm f).toNat=n at *
    cases nx <;> simp only [cond_true,cond_false,Bool.not_true,Bool.not_false] at h <;> omega
   ·rw [hS,if_neg hn,if_neg (show ¬ a=b by omega),if_neg (show ¬ b<a by omega),hr _ _ _ h0]
    generalize (b-a)*2^(e-qm f).toNat=n at *
    cases nx <;> simp only [cond_true,cond_false,Bool.not_true,Bool.not_false]
    ·rw [decide_eq_true (by omega),Int.natAbs_neg,Int.natAbs_natCast]
    ·rw [decide_eq_false (by omega),Int.natAbs_natCast]
  ·subst hab
   refine ⟨fun _ m=>⟨m==4,by rw [hS,if_neg hn,if_pos rfl]⟩,fun h=>?_⟩
   exfalso
   apply h
   cases nx <;> simp only [cond_true,cond_false,Bool.not_true,Bool.not_false] <;> omega
  ·have hT:(bif nx then -((a*2^(e-qm f).toNat:Nat):Int) else ((a*2^(e-qm f).toNat:Nat):Int))+(bif !nx then -((b*2^(e-qm f).toNat:Nat):Int) else ((b*2^(e-qm f).toNat:Nat):Int))=bif nx then -(((a-b)*2^(e-qm f).toNat:Nat):Int) else (((a-b)*2^(e-qm f).toNat:Nat):Int):=by
    have:=Nat.mul_le_mul_right (2^(e-qm f).toNat) (Nat.le_of_lt hab)
    rw [hd1]; cases nx <;> simp only [cond_true,cond_false,Bool.not_true,Bool.not_false] <;> omega
   have h0:a-b≠0:=by omega
   have h1:=hz2 _ h0
   rw [hT]
   refine ⟨fun h=>?_,fun h m=>?_⟩
   ·exfalso
    generalize (a-b)*2^(e-qm f).toNat=n at *
    cases nx <;> simp only [cond_true,cond_false] at h <;> omega
   ·rw [hS,if_neg hn,if_neg (show ¬ a=b by omega),if_pos hab,hr _ _ _ h0]
    generalize (a-b)*2^(e-qm f).toNat=n at *
    cases nx <;> simp only [cond_true,cond_false]
    ·rw [decide_eq_false (by omega),Int.natAbs_natCast]
    ·rw [decide_eq_true (by omega),Int.natAbs_neg,Int.natAbs_natCast]
theorem up_end {m:Int} (hm:0≤m∧m≤5) {neg:Bool} {c:Nat} (hc:c=1∨c=2∨c=3) (h:furM m neg true c=true):upw m neg=true:=by
 rcases hc with rfl | rfl | rfl <;> rcases mode_cases hm with rfl | rfl | rfl | rfl | rfl | rfl <;> cases neg <;> first | rfl | (revert h; decide)
end VL
namespace VL
open Go Vx
theorem xpn_ge (f:Int) (a:Nat):qm f≤xpn f a:=by
 unfold xpn qm
 split <;> omega
def sl (V:Nat→Int) (i:Nat):List Int:=[if 0<i then V 0 else 0,if 1<i then V 1 else 0,if 2<i then V 2 else 0,if 3<i then V 3 else 0,if 4<i then V 4 else 0,if 5<i then V 5 else 0]
end VL
namespace VL
open Go Vx
def vA (f:Int) (a:Nat):Int:=vI f (sF f a) (mant f a) (xpn f a)
theorem plc_zero (f m:Int):plcI f m 0=0:=by
 unfold plcI magI
 rw [if_neg (by omega)]
 rfl
theorem sum_plc {f m:Int} (hf:Fm f) {a c:Nat} (fa:eF f a≠fullF f) (fc:eF f c≠fullF f):place f (addN f m a c).1=plcI f m (vA f a+vA f c):=by
 obtain ⟨v1,v2,v3⟩:=part_vals fa
 obtain ⟨w1,w2,w3⟩:=part_vals fc
 have hadd:addN f m a c=sumBits f m (sF f a) (mant f a) (xpn f a) (sF f c) (mant f c) (xpn f c):=by
  unfold addN
  rw [v1,v2,v3,w1,w2,w3]; rfl
 obtain ⟨hz,hnz⟩:=sum_form hf (sF f a) (mant f a) (xpn f a) (sF f c) (mant f c) (xpn f c) (xpn_ge f a) (xpn_ge f c)
 rw [hadd]
 unfold vA
 by_cases h0:vI f (sF f a) (mant f a) (xpn f a)+vI f (sF f c) (mant f c) (xpn f c)=0
 ·obtain ⟨s,hs⟩:=hz h0 m
  rw [hs,h0,plc_zero,sgn_zero,mk_place s (Nat.two_pow_pos _)]
  cases s <;> rfl
 ·rw [hnz h0 m]
  generalize vI f (sF f a) (mant f a) (xpn f a)+vI f (sF f c) (mant f c) (xpn f c)=S at *
  have hle:=rndM_le hf m (decide (S<0)) S.natAbs (qm f)
  rw [mk_place _ (Nat.lt_of_le_of_lt hle (infF_lt hf))]
  unfold plcI magI
  rw [if_neg (show ¬ S.natAbs=0 by omega),if_neg (show ¬ S.natAbs=0 by omega)]
  by_cases hS:S<0
  ·rw [decide_eq_true hS,if_pos hS]; rfl
  ·rw [decide_eq_false hS,if_neg hS]; rfl
end VL
namespace VL
open Go Vx
def tz (n:Nat):Nat:=if n=0 then 0 else if n%2=1 then 0 else tz (n/2)+1
termination_by n
decreasing_by omega
theorem tz_of:∀ (t k:Nat),tz (2^t*(2*k+1))=t
 | 0,k=>by
  rw [tz,Nat.pow_zero,Nat.one_mul,if_neg (by omega),if_pos (by omega)]
 | t+1,k=>by
  have e:2^(t+1)*(2*k+1)=2*(2^t*(2*k+1)):=by rw [Nat.pow_succ,Nat.mul_comm (2^t) 2,Nat.mul_assoc]
  have hp:0<2^t*(2*k+1):=Nat.mul_pos (Nat.two_pow_pos t) (by omega)
  have ih:=tz_of t k
  rw [e]
  generalize 2^t*(2*k+1)=n at *
  rw [tz,if_neg (by omega),if_neg (by omega),show 2*n/2=n by omega,ih]
theorem tz_split {n:Nat} (h:n≠0):∃ k,n=2^tz n*(2*k+1):=by
 obtain ⟨t,k,e⟩:=two_split (x:=n) (by omega)
 refine ⟨k,?_⟩
 have:=tz_of t k
 rw [← e] at this
 rw [this]; exact e
theorem word_split {x i t k r:Nat} (hx:x=2^t*(2*k+1)) (ht:t<64):(2^64)^i*(x+2^64*r)=2^(64*i+t)*(2*(k+2^(64-t-1)*r)+1):=by
 have h1:2^64=2^t*(2^(64-t-1)*2):=by rw [← Nat.pow_succ,← Nat.pow_add]; congr 1; omega
 rw [pow64,hx,Nat.pow_add,Nat.mul_assoc]
 congr 1
 rw [h1,Nat.mul_assoc,← Nat.mul_add]
 congr 1
 rw [Nat.mul_assoc,Nat.mul_left_comm]
 omega
abbrev Dya:=Den (.pair (.bool) (.pair (.slice (.int .u64)) (.pair (.int .i64) (.unit))))
def dy (s:Bool) (n:Nat) (e:Int):Dya:=(s,Dw n,e,())
theorem dy_zero:dy false 0 0=(false,[],0,()):=by unfold dy; rw [Dw_zero]
theorem quo64m (i:Nat) (h:i≤1000000):quoI .i64 ((64*i:Nat):Int) 64=(i:Int):=by
 rw [quoN _ (by omega),show 64*i/64=i by omega]
theorem W100_eq (n:Nat) (h0:n≠0) (hl:(dg (2^64) n).length≤1000000) (M:PMem P100_5.mem) :
  W100_5 (((0:Int),(Dw n,((),((),())))),M)=some (.inl ((((64*(tz n/64):Nat):Int),(Dw n,((),((),())))),M)):=by
 have key:=lfix_ind (m100_5 S102.pre S102.F S92.pre S92.F S141.pre S141.F) (fun x=>(dg (2^64) n).length-x.1.1.toNat/64)
  (fun x=>∃ i:Nat,i≤(dg (2^64) n).length∧nv (2^64) ((dg (2^64) n).take i)=0∧x=((((64*i:Nat):Int),(Dw n,((),((),())))),M))
  (fun _=>.inl ((((64*(tz n/64):Nat):Int),(Dw n,((),((),())))),M)) ?_ (((0:Int),(Dw n,((),((),())))),M) ⟨0,Nat.zero_le _,rfl,rfl⟩
 ·exact key
 intro L x hx hL
 obtain ⟨i,hi,hz,rfl⟩:=hx
 have hnv:=nv_Dw n
 have ha:=dg_lt (B:=2^64) (by decide) n
 have hlt:i<(dg (2^64) n).length:=by
  rcases Nat.lt_or_ge i (dg (2^64) n).length with h | h
  ·exact h
  ·rw [List.take_of_length_le h,hnv] at hz; exact absurd hz h0
 unfold h100_5
 have e64:IntKind.wrap .i64 (((64*i:Nat):Int)+64)=((64*(i+1):Nat):Int):=by rw [wrapI (by omega)]; omega
 have hxl:=getD_lt (by decide) ha i
 unfold Dw at hL ⊢
 rcases Nat.eq_zero_or_pos ((dg (2^64) n).getD i 0) with hw | hw
 ·simp (disch:=omega) only [quo64m,wadd,wadd1,wadd64,wsubn,wsub1,wmul64,ilt_t,ilt_f,ile_t,ile_f,igt_t,igt_f,ige_t,ige_f,ipos_t,ipos_f,igt0_t,igt0_f,nnn,beq0_t,beq0_f,bne0_t,bne0_f,Int.toNat_natCast,Int.toNat_zero,cond_true,cond_false,Bool.and_self,Bool.true_and,Bool.and_true,Bool.false_and,Bool.and_false,Bool.not_true,Bool.not_false,Bool.or_self,Bool.true_or,Bool.or_true,Bool.false_or,Bool.or_false,Wd_len,Wd_getD,e64]
  refine hL _ ⟨i+1,by omega,?_,rfl⟩ (by simp only [Int.toNat_natCast]; omega)
  rw [nv_take_succ _ _ _ hlt,hz,hw,Nat.mul_zero]
 ·simp (disch:=omega) only [quo64m,wadd,wadd1,wadd64,wsubn,wsub1,wmul64,ilt_t,ilt_f,ile_t,ile_f,igt_t,igt_f,ige_t,ige_f,ipos_t,ipos_f,igt0_t,igt0_f,nnn,beq0_t,beq0_f,bne0_t,bne0_f,Int.toNat_natCast,Int.toNat_zero,cond_true,cond_false,Bool.and_self,Bool.true_and,Bool.and_true,Bool.false_and,Bool.and_false,Bool.not_true,Bool.not_false,Bool.or_self,Bool.true_or,Bool.or_true,Bool.false_or,Bool.or_false,Wd_len,Wd_getD]
  obtain ⟨t,k,e⟩:=two_split hw
  have ht:t<64:=by
   have h1:2^t*1≤2^t*(2*k+1):=Nat.mul_le_mul_left _ (by omega)
   exact (Nat.pow_lt_pow_iff_right (a:=2) (by decide)).1 (by omega)
  have hv:n=(2^64)^i*((dg (2^64) n).getD i 0+2^64*nv (2^64) ((dg (2^64) n).drop (i+1))):=by
   have h1:=nv_split (2^64) (dg (2^64) n) i hi
   rw [hnv,hz,Nat.zero_add,nv_drop_next _ _ _ hlt] at h1
   exact h1
  rw [word_split e ht] at hv
  have htz:tz n=64*i+t:=by rw [hv]; exact tz_of _ _
  rw [htz,show (64*i+t)/64=i by omega]
theorem T100_eq (s:Bool) (l:List Nat) (hl:Ws l) (e:Int) (he:-100000000≤e∧e≤100000000) :
  T100 ((s,Wd l,e,()),())=some (if nv (2^64) l=0 then dy false 0 0 else dy s (nv (2^64) l/2^tz (nv (2^64) l)) (e+tz (nv (2^64) l)),()):=by
 show t100 S102.pre S102.F S92.pre S92.F S141.pre S141.F W100_5 (s,Wd l,e,())=_
 unfold t100
 dsimp only
 have p0:=T102_eq l hl
 simp only [pre102 p0,fun102 p0,cond_true]
 have hlt:=nv_lt (B:=2^64) (by decide) l hl.1
 have hll:=hl.2
 generalize hn:nv (2^64) l=n at *
 have hdl:(dg (2^64) n).length≤1000000:=Nat.le_trans (dg_len_le (by decide) _ _ hlt) hll
 by_cases h0:n=0
 ·subst h0
  rw [Dw_zero,if_pos rfl,dy_zero]; rfl
 ·have hlen:(((Dw n).length:Int)==0)=false:=beq0_f _ (by have:=Dw_len h0; omega)
  rw [hlen,cond_false,if_neg h0]
  have hw:=W100_eq n h0 hdl ((s,Wd l,e,()),(false,[],0,()),())
  rw [show W100_5 (((0:Int),(Dw n,((),((),())))),((s,Wd l,e,()),((false,([],((0:Int),()))),())))=_ from hw]
  dsimp only [obind,obind2]
  obtain ⟨k,hk⟩:=tz_split h0
  have htl:tz n/64<(dg (2^64) n).length:=by
   rcases Nat.lt_or_ge (tz n/64) (dg (2^64) n).length with h | h
   ·exact h
   ·exfalso
    have h1:=dg_len_gt (B:=2^64) (by decide) n
    rw [pow64] at h1
    have h2:2^(64*(dg (2^64) n).length)≤2^tz n:=Nat.pow_le_pow_right (by decide) (by omega)
    have h3:2^tz n*1≤2^tz n*(2*k+1):=Nat.mul_le_mul_left _ (by omega)
    omega
  have hword:∃ k',(dg (2^64) n).getD (tz n/64) 0=2^(tz n%64)*(2*k'+1):=by
   have h1:(dg (2^64) n).getD (tz n/64) 0=n/(2^64)^(tz n/64)%2^64:=by
    have h2:dg (2^64) n=pd (2^64) (dg (2^64) n).length n:=pd_at (by decide) (dg_lt (by decide) n) rfl (nv_Dw n)
    rw [h2,pd_get _ _ _ _ htl]
   have h3:n/(2^64)^(tz n/64)=2^(tz n%64)*(2*k+1):=by
    have h4:2^tz n=(2^64)^(tz n/64)*2^(tz n%64):=by rw [pow64,← Nat.pow_add]; congr 1; omega
    have h5:n=(2^64)^(tz n/64)*(2^(tz n%64)*(2*k+1)):=by rw [← Nat.mul_assoc,← h4]; exact hk
    have h6:=Nat.mul_div_cancel_left (2^(tz n%64)*(2*k+1)) (show 0<(2^64)^(tz n/64) from Nat.pow_pos (by decide))
    rw [← h5] at h6
    exact h6
   rw [h1,h3]
   have hr:tz n%64<64:=Nat.mod_lt _ (by decide)
   generalize tz n%64=r at *
   have h6:2^64=2^r*(2^(64-r-1)*2):=by rw [← Nat.pow_succ,← Nat.pow_add]; congr 1; omega
   rw [h6,Nat.mul_mod_mul_left]
   refine ⟨(2*k+1)%(2^(64-r-1)*2)/2,?_⟩
   congr 1
   have h7:(2*k+1)%(2^(64-r-1)*2)%2=(2*k+1)%2:=Nat.mod_mod_of_dvd _ ⟨_,Nat.mul_comm _ _⟩
   omega
  obtain ⟨k',hk'⟩:=hword
  have hwl:=getD_lt (B:=2^64) (by decide) (dg_lt (by decide) n) (tz n/64)
  have p1:=T92_eq (t:=tz n%64) (k:=k') (by rw [← hk']; exact hwl)
  rw [← hk'] at p1
  have p2:=T141_eq (dg (2^64) n) (dg_ws n hdl) (tz n) (by omega)
  rw [nv_Dw] at p2
  have e1:IntKind.wrap .i64 (((64*(tz n/64):Nat):Int)+((tz n%64:Nat):Int))=(tz n:Int):=by rw [wrapI (by omega)]; omega
  have e2:IntKind.wrap .i64 (e+(tz n:Int))=e+(tz n:Int):=wrapI (by omega)
  have hg:decide (((tz n/64:Nat):Int)<((dg (2^64) n).length:Int))=true:=decide_eq_true (by omega)
  unfold Dw at *
  simp (disch:=omega) only [quo64m,wadd,wadd1,wadd64,wsubn,wsub1,wmul64,ilt_t,ilt_f,ile_t,ile_f,igt_t,igt_f,ige_t,ige_f,ipos_t,ipos_f,igt0_t,igt0_f,nnn,beq0_t,beq0_f,bne0_t,bne0_f,Int.toNat_natCast,Int.toNat_zero,cond_true,cond_false,Bool.and_self,Bool.true_and,Bool.and_true,Bool.false_and,Bool.and_false,Bool.not_true,Bool.not_false,Bool.or_self,Bool.true_or,Bool.or_true,Bool.false_or,Bool.or_false,Wd_len,Wd_getD,pre92 p1,fun92 p1,e1,pre141 p2,fun141 p2,e2]
  rfl
theorem T100_dy (s:Bool) {n:Nat} (hn:n<(2^64)^5000) (e:Int) (he:-100000000≤e∧e≤100000000) :
  T100 (dy s n e,())=some (if n=0 then dy false 0 0 else dy s (n/2^tz n) (e+tz n),()):=by
 have:=T100_eq s (dg (2^64) n) (Dw_ws hn) e he
 rw [nv_Dw] at this
 exact this
theorem tz_odd (k:Nat):tz (2*k+1)=0:=by have:=tz_of 0 k; rwa [Nat.pow_zero,Nat.one_mul] at this
theorem set_same' {l:List Nat} {i:Nat} (h:i<l.length):l.set i (l.getD i 0)=l:=by
 rw [List.getD_eq_getElem?_getD,List.getElem?_eq_getElem h]
 exact List.set_getElem_self h
theorem W172_eq (a:List Nat) (ha:∀ x∈a,x<2^64) (hlen:a.length≤1000000) (w s:Nat) (hs:s<64) (hw:w≤10000000) (i:Nat) (hi:i≤a.length) :
  W172_6 (((a.length:Int),(Wd a,((w:Int),((s:Int),((i:Int),((),())))))),(Wd (pd (2^64) (w+a.length+1) (2^(64*w+s)*nv (2^64) (a.take i))),()))=some (.inl (((),()),(Wd (pd (2^64) (w+a.length+1) (2^(64*w+s)*nv (2^64) a)),()))):=by
 have key:=lfix_ind (m172_6 S102.pre S102.F) (fun x=>a.length-x.1.2.2.2.2.1.toNat)
  (fun x=>∃ i:Nat,i≤a.length∧x=(((a.length:Int),(Wd a,((w:Int),((s:Int),((i:Int),((),())))))),(Wd (pd (2^64) (w+a.length+1) (2^(64*w+s)*nv (2^64) (a.take i))),())))
  (fun _=>.inl (((),()),(Wd (pd (2^64) (w+a.length+1) (2^(64*w+s)*nv (2^64) a)),()))) ?_ _ ⟨i,hi,rfl⟩
 ·exact key
 intro L x hx hL
 obtain ⟨i,hi,rfl⟩:=hx
 unfold h172_6
 rcases Nat.lt_or_ge i a.length with hlt | hge
 ·have hxl:=getD_lt (by decide) ha i
  have ht:=nv_lt (B:=2^64) (by decide) (a.take i) fun x hx=>ha x (List.mem_of_mem_take hx)
  rw [List.length_take,Nat.min_eq_left (by omega),pow64] at ht
  have hV:2^(64*w+s)*nv (2^64) (a.take i)<2^(64*(w+i)+s):=by
   have e:64*(w+i)+s=(64*w+s)+64*i:=by omega
   rw [e,Nat.pow_add _ (64*w+s)]
   exact Nat.mul_lt_mul_of_pos_left ht (Nat.two_pow_pos _)
  have hnext:=nv_take_succ (2^64) a i hlt
  have hgo:=hL (((a.length:Int),(Wd a,((w:Int),((s:Int),(((i+1:Nat):Int),((),())))))),(Wd (pd (2^64) (w+a.length+1) (2^(64*w+s)*nv (2^64) (a.take (i+1)))),())) ⟨i+1,by omega,rfl⟩ (by simp only [Int.toNat_natCast]; omega)
  rw [hnext,Nat.mul_add,← Nat.mul_assoc,show 2^(64*w+s)*(2^64)^i=2^(64*(w+i)+s) by rw [pow64,← Nat.pow_add]; congr 1; omega] at hgo
  have hz1:(pd (2^64) (w+a.length+1) (2^(64*w+s)*nv (2^64) (a.take i))).getD (w+i+1) 0=0:=by
   rw [pd_get _ _ _ _ (by omega),pow64]
   have h64:2^(64*(w+i)+s)≤2^(64*(w+i+1)):=Nat.pow_le_pow_right (by decide) (by omega)
   rw [Nat.div_eq_of_lt (by omega)]
  generalize hout:pd (2^64) (w+a.length+1) (2^(64*w+s)*nv (2^64) (a.take i))=out at *
  obtain ⟨q1,q2,q3⟩:=left_step (k:=w+i) hs hout.symm (by omega) hV hxl
  have hol:out.length=w+a.length+1:=by rw [← hout,pd_len]
  have g1:a.getD i 0*2^s%2^64=(a.getD i 0%2^(64-s))*2^s:=by
   have:2^64=2^(64-s)*2^s:=by rw [← Nat.pow_add]; congr 1; omega
   rw [this,Nat.mul_mod_mul_right]
  have e8:IntKind.wrap .u64 (64-(s:Int))=((64-s:Nat):Int):=by rw [wrapU (by omega)]; omega
  rcases Nat.eq_zero_or_pos s with hs0 | hs0
  ·have hq:out.set (w+i) (out.getD (w+i) 0+a.getD i 0%2^(64-s)*2^s)=pd (2^64) (w+a.length+1) (2^(64*w+s)*nv (2^64) (a.take i)+2^(64*(w+i)+s)*a.getD i 0):=by
    rw [← q3]
    have hd:a.getD i 0/2^(64-s)=0:=by rw [hs0]; exact Nat.div_eq_of_lt hxl
    have hg:(out.set (w+i) (out.getD (w+i) 0+a.getD i 0%2^(64-s)*2^s)).getD (w+i+1) 0=0:=by rw [getD_set_ne (by omega)]; exact hz1
    rw [hd]
    have:=set_same' (l:=out.set (w+i) (out.getD (w+i) 0+a.getD i 0%2^(64-s)*2^s)) (i:=w+i+1) (by rw [List.length_set]; omega)
    rw [hg] at this
    exact this.symm
   simp (disch:=omega) only [wadd,wadd1,wadd64,wsubn,wsub1,wmul64,ilt_t,ilt_f,ile_t,ile_f,igt_t,igt_f,ige_t,ige_f,ipos_t,ipos_f,igt0_t,igt0_f,nnn,beq0_t,beq0_f,bne0_t,bne0_f,Int.toNat_natCast,Int.toNat_zero,cond_true,cond_false,Bool.and_self,Bool.true_and,Bool.and_true,Bool.false_and,Bool.and_false,Bool.not_true,Bool.not_false,Bool.or_self,Bool.true_or,Bool.or_true,Bool.false_or,Bool.or_false,Wd_len,Wd_getD,shlN _ s (by omega),g1,orN q1 q2,Wd_set,hq]
   exact hgo
  ·simp (disch:=omega) only [wadd,wadd1,wadd64,wsubn,wsub1,wmul64,ilt_t,ilt_f,ile_t,ile_f,igt_t,igt_f,ige_t,ige_f,ipos_t,ipos_f,igt0_t,igt0_f,nnn,beq0_t,beq0_f,bne0_t,bne0_f,Int.toNat_natCast,Int.toNat_zero,cond_true,cond_false,Bool.and_self,Bool.true_and,Bool.and_true,Bool.false_and,Bool.and_false,Bool.not_true,Bool.not_false,Bool.or_self,Bool.true_or,Bool.or_true,Bool.false_or,Bool.or_false,Wd_len,Wd_getD,e8,shlN _ s (by omega),shrN _ (64-s) (by omega),g1,orN q1 q2,Wd_set,List.length_set,q3]
   exact hgo
 ·have e:i=a.length:=by omega
  subst e
  rw [List.take_length]
  simp (disch:=omega) only [wadd,wadd1,wadd64,wsubn,wsub1,wmul64,ilt_t,ilt_f,ile_t,ile_f,igt_t,igt_f,ige_t,ige_f,ipos_t,ipos_f,igt0_t,igt0_f,nnn,beq0_t,beq0_f,bne0_t,bne0_f,Int.toNat_natCast,Int.toNat_zero,cond_true,cond_false,Bool.and_self,Bool.true_and,Bool.and_true,Bool.false_and,Bool.and_false,Bool.not_true,Bool.not_false,Bool.or_self,Bool.true_or,Bool.or_true,Bool.false_or,Bool.or_false]
theorem T172_eq {x:Nat} (hx:x<(2^64)^5000) (n:Nat) (hn:n≤1000000):T172 (Dw x,(n:Int),())=some (Dw (x*2^n),()):=by
 show t172 S102.pre S102.F W172_6 (Dw x) n=_
 unfold t172
 have hws:=Dw_ws hx
 have hl:(dg (2^64) x).length≤5000:=dg_len_le (by decide) _ _ hx
 have hv:=nv_Dw x
 by_cases h0:x=0
 ·subst h0
  rw [Dw_zero,Nat.zero_mul,Dw_zero]; rfl
 ·have hlen:(((Dw x).length:Int)==0)=false:=beq0_f _ (by have:=Dw_len h0; omega)
  rw [hlen,cond_false]
  have e4:Int.tmod (n:Int) 64=((n%64:Nat):Int):=rfl
  have e5:IntKind.wrap .u64 ((n%64:Nat):Int)=((n%64:Nat):Int):=wu_id _ (by omega)
  have hw:=W172_eq (dg (2^64) x) hws.1 (by omega) (n/64) (n%64) (Nat.mod_lt _ (by decide)) (by omega) 0 (Nat.zero_le _)
  rw [show nv (2^64) ((dg (2^64) x).take 0)=0 by rfl,Nat.mul_zero,pd_zero,show 64*(n/64)+n%64=n by omega,show ((0:Nat):Int)=0 from rfl,hv] at hw
  have e3:decide (((n/64+(dg (2^64) x).length+1:Nat):Int)*8≤140737488355328)=true:=decide_eq_true (by omega)
  have hV:2^n*x<(2^64)^(n/64+(dg (2^64) x).length+1):=by
   have:=dg_len_gt (B:=2^64) (by decide) x
   rw [pow64] at this ⊢
   have h1:2^n*x<2^n*2^(64*(dg (2^64) x).length):=Nat.mul_lt_mul_of_pos_left this (Nat.two_pow_pos _)
   rw [← Nat.pow_add] at h1
   exact Nat.lt_of_lt_of_le h1 (Nat.pow_le_pow_right (by decide) (by omega))
  have p1:=T102_eq (pd (2^64) (n/64+(dg (2^64) x).length+1) (2^n*x)) ⟨pd_lt (by decide) _ _,by rw [pd_len]; omega⟩
  rw [pd_nv (by decide) _ _ hV,Nat.mul_comm (2^n)] at p1
  rw [Nat.mul_comm (2^n)] at hw
  unfold Dw at *
  simp (disch:=omega) only [wadd,wadd1,wadd64,wsubn,wsub1,wmul64,ilt_t,ilt_f,ile_t,ile_f,igt_t,igt_f,ige_t,ige_f,ipos_t,ipos_f,igt0_t,igt0_f,nnn,beq0_t,beq0_f,bne0_t,bne0_f,Int.toNat_natCast,Int.toNat_zero,cond_true,cond_false,Bool.and_self,Bool.true_and,Bool.and_true,Bool.false_and,Bool.and_false,Bool.not_true,Bool.not_false,Bool.or_self,Bool.true_or,Bool.or_true,Bool.false_or,Bool.or_false,Wd_len,quoN n (by omega),e4,e5,e3,Wd_rep,hw]
  generalize pd (2^64) (n/64+(dg (2^64) x).length+1) (x*2^n)=out at *
  show (bif S102.pre (Wd out,()) then some (S102.F (Wd out,())) else none)=_
  rw [pre102 p1,fun102 p1]
  rfl
end VL
namespace VL
open Go Vx
theorem W144_eq (a b:List Nat) (ha:∀ x∈a,x<2^64) (hb:∀ x∈b,x<2^64) (hla:a.length≤1000000) (hab:a.length=b.length) :
  W144_7 ((Wd a,(Wd b,((a.length:Int)-1,()))),())=some (if nv (2^64) a=nv (2^64) b then .inl ((),()) else .inr (((if nv (2^64) a<nv (2^64) b then (-1:Int) else 1),()),())):=by
 have key:=lfix_ind (m144_7 S173.pre S173.F) (fun x=>(x.1.2.2.1+1).toNat)
  (fun x=>∃ j:Nat,j≤a.length∧nv (2^64) (a.drop j)=nv (2^64) (b.drop j)∧x=((Wd a,(Wd b,((j:Int)-1,()))),()))
  (fun _=>if nv (2^64) a=nv (2^64) b then .inl ((),()) else .inr (((if nv (2^64) a<nv (2^64) b then (-1:Int) else 1),()),())) ?_ ((Wd a,(Wd b,((a.length:Int)-1,()))),())
  ⟨a.length,Nat.le_refl _,by rw [List.drop_length,hab,List.drop_length],rfl⟩
 ·exact key
 intro L x hx hL
 obtain ⟨j,hj,hd,rfl⟩:=hx
 unfold h144_7
 rcases j with _ | i
 ·have e1:decide ((((0:Nat):Int)-1)≥0)=false:=rfl
  rw [List.drop_zero,List.drop_zero] at hd
  simp only [e1,cond_false,if_pos hd]
 ·have e0:(((i+1:Nat):Int)-1)=(i:Int):=by omega
  have e2:IntKind.wrap .i64 ((i:Int)-1)=(i:Int)-1:=wrapI (by omega)
  have e3:decide ((i:Int)≥0)=true:=decide_eq_true (by omega)
  simp (disch:=omega) only [e0,e2,e3,wadd,wadd1,wadd64,wsubn,wsub1,wmul64,ilt_t,ilt_f,ile_t,ile_f,igt_t,igt_f,ige_t,ige_f,ipos_t,ipos_f,igt0_t,igt0_f,nnn,beq0_t,beq0_f,bne0_t,bne0_f,Int.toNat_natCast,Int.toNat_zero,cond_true,cond_false,Bool.and_self,Bool.true_and,Bool.and_true,Bool.false_and,Bool.and_false,Bool.not_true,Bool.not_false,Bool.or_self,Bool.true_or,Bool.or_true,Bool.false_or,Bool.or_false,Wd_len,Wd_getD]
  rcases Nat.lt_trichotomy (a.getD i 0) (b.getD i 0) with h | h | h
  ·have hr:=row_lt (by decide) ha (by omega) (by omega) hd h
   simp (disch:=omega) only [wadd,wadd1,wadd64,wsubn,wsub1,wmul64,ilt_t,ilt_f,ile_t,ile_f,igt_t,igt_f,ige_t,ige_f,ipos_t,ipos_f,igt0_t,igt0_f,nnn,beq0_t,beq0_f,bne0_t,bne0_f,Int.toNat_natCast,Int.toNat_zero,cond_true,cond_false,Bool.and_self,Bool.true_and,Bool.and_true,Bool.false_and,Bool.and_false,Bool.not_true,Bool.not_false,Bool.or_self,Bool.true_or,Bool.or_true,Bool.false_or,Bool.or_false]
   rw [if_neg (by omega),if_pos hr]
  ·simp (disch:=omega) only [wadd,wadd1,wadd64,wsubn,wsub1,wmul64,ilt_t,ilt_f,ile_t,ile_f,igt_t,igt_f,ige_t,ige_f,ipos_t,ipos_f,igt0_t,igt0_f,nnn,beq0_t,beq0_f,bne0_t,bne0_f,Int.toNat_natCast,Int.toNat_zero,cond_true,cond_false,Bool.and_self,Bool.true_and,Bool.and_true,Bool.false_and,Bool.and_false,Bool.not_true,Bool.not_false,Bool.or_self,Bool.true_or,Bool.or_true,Bool.false_or,Bool.or_false]
   refine hL _ ⟨i,by omega,?_,rfl⟩ (by simp only [Int.toNat_natCast]; omega)
   rw [nv_drop_next _ a i (by omega),nv_drop_next _ b i (by omega),hd,h]
  ·have hr:=row_lt (by decide) hb (by omega) (by omega) hd.symm h
   simp (disch:=omega) only [wadd,wadd1,wadd64,wsubn,wsub1,wmul64,ilt_t,ilt_f,ile_t,ile_f,igt_t,igt_f,ige_t,ige_f,ipos_t,ipos_f,igt0_t,igt0_f,nnn,beq0_t,beq0_f,bne0_t,bne0_f,Int.toNat_natCast,Int.toNat_zero,cond_true,cond_false,Bool.and_self,Bool.true_and,Bool.and_true,Bool.false_and,Bool.and_false,Bool.not_true,Bool.not_false,Bool.or_self,Bool.true_or,Bool.or_true,Bool.false_or,Bool.or_false]
   rw [if_neg (by omega),if_neg (by omega)]
theorem T173_dw {x:Nat} (hx:x<(2^64)^5000):T173 (Dw x,())=some (Dw x,()):=by
 have:=T173_eq (dg (2^64) x) (Dw_ws hx).2
 rw [dg_trim (by decide)] at this
 exact this
theorem T144_eq {x y:Nat} (hx:x<(2^64)^5000) (hy:y<(2^64)^5000):T144 (Dw x,Dw y,())=some (if x=y then 0 else if x<y then -1 else 1,()):=by
 show t144 S173.pre S173.F W144_7 (Dw x) (Dw y)=_
 unfold t144
 have p0:=T173_dw hx
 have p1:=T173_dw hy
 have hX:=Dw_ws hx
 have hY:=Dw_ws hy
 have hlx:=hX.2
 simp only [pre173 p0,fun173 p0,pre173 p1,fun173 p1,cond_true]
 clear p0 p1
 rcases Nat.lt_trichotomy (dg (2^64) x).length (dg (2^64) y).length with h | h | h
 ·have hr:=dg_len_lt (by decide) h
  unfold Dw
  simp (disch:=omega) only [wadd,wadd1,wadd64,wsubn,wsub1,wmul64,ilt_t,ilt_f,ile_t,ile_f,igt_t,igt_f,ige_t,ige_f,ipos_t,ipos_f,igt0_t,igt0_f,nnn,beq0_t,beq0_f,bne0_t,bne0_f,Int.toNat_natCast,Int.toNat_zero,cond_true,cond_false,Bool.and_self,Bool.true_and,Bool.and_true,Bool.false_and,Bool.and_false,Bool.not_true,Bool.not_false,Bool.or_self,Bool.true_or,Bool.or_true,Bool.false_or,Bool.or_false,Wd_len]
  rw [if_neg (by omega),if_pos hr]
 ·have hw:=W144_eq _ _ hX.1 hY.1 hlx h
  rw [nv_Dw,nv_Dw] at hw
  have e2:IntKind.wrap .i64 (((dg (2^64) x).length:Int)-1)=((dg (2^64) x).length:Int)-1:=wrapI (by omega)
  unfold Dw
  simp (disch:=omega) only [wadd,wadd1,wadd64,wsubn,wsub1,wmul64,ilt_t,ilt_f,ile_t,ile_f,igt_t,igt_f,ige_t,ige_f,ipos_t,ipos_f,igt0_t,igt0_f,nnn,beq0_t,beq0_f,bne0_t,bne0_f,Int.toNat_natCast,Int.toNat_zero,cond_true,cond_false,Bool.and_self,Bool.true_and,Bool.and_true,Bool.false_and,Bool.and_false,Bool.not_true,Bool.not_false,Bool.or_self,Bool.true_or,Bool.or_true,Bool.false_or,Bool.or_false,Wd_len,e2,hw]
  by_cases he:x=y
  ·rw [if_pos he,if_pos he]; first | rfl | skip
  ·rw [if_neg he,if_neg he]; first | rfl | skip
 ·have hr:=dg_len_lt (by decide) h
  unfold Dw
  simp (disch:=omega) only [wadd,wadd1,wadd64,wsubn,wsub1,wmul64,ilt_t,ilt_f,ile_t,ile_f,igt_t,igt_f,ige_t,ige_f,ipos_t,ipos_f,igt0_t,igt0_f,nnn,beq0_t,beq0_f,bne0_t,bne0_f,Int.toNat_natCast,Int.toNat_zero,cond_true,cond_false,Bool.and_self,Bool.true_and,Bool.and_true,Bool.false_and,Bool.and_false,Bool.not_true,Bool.not_false,Bool.or_self,Bool.true_or,Bool.or_true,Bool.false_or,Bool.or_false,Wd_len]
  rw [if_neg (by omega),if_neg (by omega)]
theorem set_drop {out a:List Nat} {i v:Nat} (hol:out.length=i) (h:i<a.length):(out++a.drop i).set i v=(out++[v])++a.drop (i+1):=by
 rw [List.set_append_right _ _ (by omega),hol,Nat.sub_self,List.drop_eq_getElem_cons h,List.set_cons_zero,List.append_assoc]
 rfl
theorem get_drop {out a:List Nat} {i:Nat} (hol:out.length=i):(out++a.drop i).getD i 0=a.getD i 0:=by
 rw [List.getD_eq_getElem?_getD,List.getElem?_append_right (by omega),hol,Nat.sub_self,List.getElem?_drop,Nat.add_zero,← List.getD_eq_getElem?_getD]
theorem W1174_eq (a b:List Nat) (ha:∀ x∈a,x<2^64) (hb:∀ x∈b,x<2^64) (hla:a.length≤1000000) (hba:b.length≤a.length) (hv:nv (2^64) b≤nv (2^64) a) :
  W1174_3 (((a.length:Int),(Wd b,((0:Int),((0:Int),((),()))))),(Wd a,()))=some (.inl (((),()),(Wd (pd (2^64) a.length (nv (2^64) a-nv (2^64) b)),()))):=by
 have key:=lfix_ind (m1174_3 S1173.pre S1173.F S157.pre S157.F S173.pre S173.F) (fun x=>a.length-x.1.2.2.2.1.toNat)
  (fun x=>∃ (i:Nat) (out:List Nat) (c:Nat),i≤a.length∧out.length=i∧(∀ x∈out,x<2^64)∧c≤1∧nv (2^64) (a.take i)+(2^64)^i*c=nv (2^64) (b.take i)+nv (2^64) out ∧
   x=(((a.length:Int),(Wd b,((c:Int),((i:Int),((),()))))),(Wd (out++a.drop i),())))
  (fun _=>.inl (((),()),(Wd (pd (2^64) a.length (nv (2^64) a-nv (2^64) b)),()))) ?_ (((a.length:Int),(Wd b,((0:Int),((0:Int),((),()))))),(Wd a,()))
  ⟨0,[],0,Nat.zero_le _,rfl,(fun x hx=>by simp at hx),by decide,by simp [nv],rfl⟩
 ·exact key
 intro L x hx hL
 obtain ⟨i,out,c,hi,hol,hod,hc,hov,rfl⟩:=hx
 unfold h1174_3
 rcases Nat.lt_or_ge i a.length with hlt | hge
 ·have hxa:=getD_lt (by decide) ha i
  have hxb:=getD_lt (by decide) hb i
  have hna:=nv_take_next (2^64) a i
  have hnb:=nv_take_next (2^64) b i
  have hzb:b.length≤i→b.getD i 0=0:=fun h=>by rw [List.getD_eq_getElem?_getD,List.getElem?_eq_none h]; rfl
  have hset:=fun v=>set_drop (v:=v) hol hlt
  have hlen:(out++a.drop i).length=a.length:=by simp; omega
  have hget:=get_drop (a:=a) hol
  generalize hda:a.getD i 0=da at *
  generalize hdb:b.getD i 0=db at *
  have hgo:∀ c' v:Nat,c'≤1→v<2^64→da+2^64*c'=db+c+v→L (((a.length:Int),(Wd b,((c':Int),(((i+1:Nat):Int),((),()))))),(Wd (out++[v]++a.drop (i+1)),()))=_:=fun c' v h1 h2 h3 =>
   hL _ ⟨i+1,out++[v],c',by omega,by simp; omega,app_lt hod h2,h1,by
    rw [hna,hnb,nv_snoc,hol,Nat.pow_succ]
    exact minus_step hov h3,rfl⟩ (by simp only [Int.toNat_natCast]; omega)
  have hgo2:=hgo (if da<db+c then 1 else 0) ((da+2^64-db-c)%2^64) (by split <;> omega) (Nat.mod_lt _ (by decide)) (by split <;> omega)
  have hF:=subF da db c hc hxa hxb
  have hP:=subP (da:Int) (db:Int) c hc
  rcases Nat.lt_or_ge i b.length with hib | hib
  ·simp (disch:=omega) only [wadd,wadd1,wadd64,wsubn,wsub1,wmul64,ilt_t,ilt_f,ile_t,ile_f,igt_t,igt_f,ige_t,ige_f,ipos_t,ipos_f,igt0_t,igt0_f,nnn,beq0_t,beq0_f,bne0_t,bne0_f,Int.toNat_natCast,Int.toNat_zero,cond_true,cond_false,Bool.and_self,Bool.true_and,Bool.and_true,Bool.false_and,Bool.and_false,Bool.not_true,Bool.not_false,Bool.or_self,Bool.true_or,Bool.or_true,Bool.false_or,Bool.or_false,Wd_len,Wd_getD,hdb,hget,hF,hP,hlen,Wd_set,hset]
   exact hgo2
  ·have h0:=hzb hib
   rw [h0] at hF hP
   simp (disch:=omega) only [wadd,wadd1,wadd64,wsubn,wsub1,wmul64,ilt_t,ilt_f,ile_t,ile_f,igt_t,igt_f,ige_t,ige_f,ipos_t,ipos_f,igt0_t,igt0_f,nnn,beq0_t,beq0_f,bne0_t,bne0_f,Int.toNat_natCast,Int.toNat_zero,cond_true,cond_false,Bool.and_self,Bool.true_and,Bool.and_true,Bool.false_and,Bool.and_false,Bool.not_true,Bool.not_false,Bool.or_self,Bool.true_or,Bool.or_true,Bool.false_or,Bool.or_false,Wd_len,Wd_getD,hget]
   have hF':S157.F ((da:Int),((0:Int),((c:Int),())))=_:=hF
   have hP':S157.pre ((da:Int),((0:Int),((c:Int),())))=true:=hP
   rw [h0] at hgo2
   simp (disch:=omega) only [wadd,wadd1,wadd64,wsubn,wsub1,wmul64,ilt_t,ilt_f,ile_t,ile_f,igt_t,igt_f,ige_t,ige_f,ipos_t,ipos_f,igt0_t,igt0_f,nnn,beq0_t,beq0_f,bne0_t,bne0_f,Int.toNat_natCast,Int.toNat_zero,cond_true,cond_false,Bool.and_self,Bool.true_and,Bool.and_true,Bool.false_and,Bool.and_false,Bool.not_true,Bool.not_false,Bool.or_self,Bool.true_or,Bool.or_true,Bool.false_or,Bool.or_false,hF',hP',hlen,Wd_set,hset]
   exact hgo2
 ·have e:i=a.length:=by omega
  subst e
  rw [List.take_length,List.take_of_length_le hba] at hov
  have hlt:=nv_lt (B:=2^64) (by decide) out hod
  rw [hol] at hlt
  have hc0:(2^64)^a.length*c=0:=by
   rcases (show c=0∨c=1 by omega) with h | h
   ·rw [h,Nat.mul_zero]
   ·rw [h,Nat.mul_one] at hov; omega
  have ho:=pd_at (B:=2^64) (v:=nv (2^64) a-nv (2^64) b) (by decide) hod hol (by omega)
  rw [List.drop_length,List.append_nil]
  simp (disch:=omega) only [wadd,wadd1,wadd64,wsubn,wsub1,wmul64,ilt_t,ilt_f,ile_t,ile_f,igt_t,igt_f,ige_t,ige_f,ipos_t,ipos_f,igt0_t,igt0_f,nnn,beq0_t,beq0_f,bne0_t,bne0_f,Int.toNat_natCast,Int.toNat_zero,cond_true,cond_false,Bool.and_self,Bool.true_and,Bool.and_true,Bool.false_and,Bool.and_false,Bool.not_true,Bool.not_false,Bool.or_self,Bool.true_or,Bool.or_true,Bool.false_or,Bool.or_false,Wd_len]
  rw [← ho]
theorem T1146_eq (l:List Nat) (hl:Ws l):T1146 (Wd l,())=some (Dw (nv (2^64) l),()):=by
 show t1146 S173.pre S173.F (Wd l)=_
 unfold t1146
 have p0:=T173_eq l hl.2
 have hle:=(trim_len l).1
 have h2:=hl.2
 have e3:decide ((((trimL l).length:Nat):Int)*8≤140737488355328)=true:=decide_eq_true (by omega)
 simp (disch:=omega) only [wadd,wadd1,wadd64,wsubn,wsub1,wmul64,ilt_t,ilt_f,ile_t,ile_f,igt_t,igt_f,ige_t,ige_f,ipos_t,ipos_f,igt0_t,igt0_f,nnn,beq0_t,beq0_f,bne0_t,bne0_f,Int.toNat_natCast,Int.toNat_zero,cond_true,cond_false,Bool.and_self,Bool.true_and,Bool.and_true,Bool.false_and,Bool.and_false,Bool.not_true,Bool.not_false,Bool.or_self,Bool.true_or,Bool.or_true,Bool.false_or,Bool.or_false,pre173 p0,fun173 p0,Wd_len,e3,List.length_replicate,List.drop_replicate,Nat.sub_self]
 rw [List.take_of_length_le (by rw [Wd_len]; exact Nat.le_refl _),List.replicate_zero,List.append_nil,trim_dg (by decide) l hl.1]
 rfl
theorem T145_eq {x y:Nat} (hx:x<(2^64)^5000) (h:y≤x):T145 (Dw x,Dw y,())=some (Dw (x-y),0,()):=by
 show t145 S1174.pre S1174.F S1146.pre S1146.F S144.pre S144.F S146.pre S146.F S173.pre S173.F S174.pre S174.F (Dw x) (Dw y)=_
 unfold t145
 have hy:y<(2^64)^5000:=Nat.lt_of_le_of_lt h hx
 have p0:=T144_eq hx hy
 have p1:=T1146_eq (dg (2^64) x) (Dw_ws hx)
 rw [nv_Dw] at p1
 have p1:T1146 (Dw x,())=some (Dw x,()):=p1
 have p2:=T173_dw hy
 have z1:decide ((if x=y then (0:Int) else if x<y then -1 else 1)<0)=false:=by
  by_cases he:x=y
  ·rw [if_pos he]; rfl
  ·rw [if_neg he,if_neg (by omega)]; rfl
 have hX:=Dw_ws hx
 have hY:=Dw_ws hy
 have hlx:=hX.2
 have p3:T1174 (Dw x,Dw y,())=some (Dw (x-y),()):=by
  show t1174 S1173.pre S1173.F S157.pre S157.F S173.pre S173.F W1174_3 (Dw x) (Dw y)=_
  unfold t1174
  have hw:=W1174_eq (dg (2^64) x) (dg (2^64) y) hX.1 hY.1 hlx (dg_len_mono (by decide) h) (by rw [nv_Dw,nv_Dw]; exact h)
  rw [nv_Dw,nv_Dw] at hw
  have q1:=T1173_eq (pd (2^64) (dg (2^64) x).length (x-y)) (by rw [pd_len]; exact hlx)
  have hlt:=dg_len_gt (B:=2^64) (by decide) x
  rw [trim_dg (by decide) _ (pd_lt (by decide) _ _),pd_nv (by decide) _ _ (by omega)] at q1
  rw [show (Dw x).length=(dg (2^64) x).length from Wd_len _]
  rw [show W1174_3 ((((dg (2^64) x).length:Int),(Dw y,((0:Int),((0:Int),((),()))))),(Dw x,()))=_ from hw]
  show (bif S1173.pre (Wd (pd (2^64) (dg (2^64) x).length (x-y)),()) then some (S1173.F (Wd (pd (2^64) (dg (2^64) x).length (x-y)),())) else none)=_
  simp only [pre1173 q1,fun1173 q1,cond_true]
  rfl
 simp only [pre144 p0,fun144 p0,cond_true,z1,cond_false,pre1146 p1,fun1146 p1,pre173 p2,fun173 p2,pre1174 p3,fun1174 p3]
def od (s:Bool) (n:Nat) (e:Int):Bool×Nat×Int:=if n=0 then (false,0,0) else (s,n/2^tz n,e+tz n)
def dyO (t:Bool×Nat×Int):Dya:=dy t.1 t.2.1 t.2.2
theorem od_dy (s:Bool) (n:Nat) (e:Int):(if n=0 then dy false 0 0 else dy s (n/2^tz n) (e+tz n))=dyO (od s n e):=by
 unfold od dyO
 split <;> rfl
theorem od_cases (s:Bool) (n:Nat) (e:Int):(od s n e=(false,0,0)∧n=0)∨((od s n e).1=s∧(od s n e).2.1%2=1∧n≠0∧n=2^tz n*(od s n e).2.1∧(od s n e).2.2=e+tz n):=by
 unfold od
 by_cases h:n=0
 ·rw [if_pos h]; exact .inl ⟨rfl,h⟩
 ·right
  rw [if_neg h]
  obtain ⟨k,hk⟩:=tz_split h
  have hd:n/2^tz n=2*k+1:=by
   have:=Nat.mul_div_cancel_left (2*k+1) (Nat.two_pow_pos (tz n))
   rw [← hk] at this
   exact this
  dsimp only
  rw [hd]
  exact ⟨rfl,by omega,h,hk,rfl⟩
theorem tz_le {n k:Nat} (h:n<2^k) (h0:n≠0):tz n<k:=by
 obtain ⟨j,hj⟩:=tz_split h0
 have h1:2^tz n*1≤2^tz n*(2*j+1):=Nat.mul_le_mul_left _ (by omega)
 exact (Nat.pow_lt_pow_iff_right (a:=2) (by decide)).1 (by omega)
theorem od_bound (s:Bool) {n k:Nat} (e:Int) (hn:n<2^k) (he:-20000≤e∧e≤20000):(od s n e).2.1<2^k∧-20000≤(od s n e).2.2∧(od s n e).2.2≤20000+k:=by
 rcases od_cases s n e with ⟨h,_⟩ | ⟨_,h2,h3,h4,h5⟩
 ·rw [h]; exact ⟨Nat.two_pow_pos _,by dsimp only; omega,by dsimp only; omega⟩
 ·have hle:(od s n e).2.1≤n:=by
   have:=Nat.le_mul_of_pos_left (od s n e).2.1 (Nat.two_pow_pos (tz n))
   omega
  have:=tz_le hn h3
  refine ⟨by omega,by omega,by omega⟩
theorem big_lt {n k:Nat} (h:n<2^k) (hk:k≤64*2000):n<(2^64)^2000:=by
 rw [pow64]
 exact Nat.lt_of_lt_of_le h (Nat.pow_le_pow_right (by decide) hk)
theorem dy_len {n k:Nat} (h:n<2^k) (hk:k≤64*1000):(Dw n).length≤1000:=by
 unfold Dw; rw [Wd_len]
 refine dg_len_le (by decide) _ _ ?_
 rw [pow64]
 exact Nat.lt_of_lt_of_le h (Nat.pow_le_pow_right (by decide) hk)
theorem T103_ok (s:Bool) {n k:Nat} (h:n<2^k) (hk:k≤64*1000) (e:Int) (he:-40000≤e∧e≤40000):T103 (dy s n e,())=some (0,()):=by
 show t103 (s,Dw n,e,())=_
 unfold t103
 have:=dy_len h hk
 dsimp only
 rw [decide_eq_false (p:=((Dw n).length:Int)>1024) (by omega),decide_eq_false (p:=e < -40000) (by omega),decide_eq_false (p:=e>40000) (by omega)]
 rfl
theorem T104_ok (s:Bool) {n:Nat} (h:n<2^6000) (e:Int) (he:-20000≤e∧e≤20000):T104 (dy s n e,())=some (dyO (od s n e),0,()):=by
 show t104 S100.pre S100.F (s,Dw n,e,())=_
 unfold t104
 have p0:=T100_dy s (lt5000 (big_lt h (by decide))) e (by omega)
 rw [od_dy] at p0
 have p0:T100 ((s,Dw n,e,()),())=some (dyO (od s n e),()):=p0
 have hb:=od_bound s e h he
 have hl:=dy_len hb.1 (by decide)
 have e1:decide ((((dyO (od s n e)).2.1.length:Nat):Int)>1024)=false:=decide_eq_false (by
  show ¬ ((((Dw (od s n e).2.1).length:Nat):Int)>1024)
  omega)
 have e2:decide ((dyO (od s n e)).2.2.1 < -40000)=false:=decide_eq_false (by
  show ¬ ((od s n e).2.2 < -40000)
  omega)
 have e3:decide ((dyO (od s n e)).2.2.1>40000)=false:=decide_eq_false (by
  show ¬ ((od s n e).2.2>40000)
  omega)
 simp only [pre100 p0,fun100 p0,cond_true,e1,e2,e3,cond_false,Bool.or_self]
theorem T143_dw {x y:Nat} (hx:x<(2^64)^5000) (hy:y<(2^64)^5000):T143 (Dw x,Dw y,())=some (Dw (x+y),()):=by
 have h1:(dg (2^64) x).length≤5000:=dg_len_le (by decide) _ _ hx
 have h2:(dg (2^64) y).length≤5000:=dg_len_le (by decide) _ _ hy
 have:=T143_eq (dg (2^64) x) (dg (2^64) y) (Dw_ws hx) (Dw_ws hy) (by rw [dg_trim (by decide)]; omega) (by rw [dg_trim (by decide)]; omega)
 rw [nv_Dw,nv_Dw] at this
 exact this
end VL
namespace VL
open Go Vx
theorem Dw_small {x:Nat} (h0:x≠0) (h:x<2^64):Dw x=(x:Int)::[]:=by
 unfold Dw
 rw [dg_pos (by decide) (by omega),Nat.mod_eq_of_lt h,Nat.div_eq_of_lt h,dg_zero]; rfl
theorem T40_fin {f:Int} {a:Nat} (h:chk f a=0) (hfin:eF f a≠fullF f):T40 (f,(a:Int),())=some (dyO (od (sF f a) (mant f a) (xpn f a)),0,()):=by
 obtain ⟨hf,h0⟩:=chk_zero h
 have ha:=pat_lt h
 show t40 S66.pre S66.F S90.pre S90.F S91.pre S91.F S92.pre S92.F f a=_
 unfold t40
 have h1:=fP_ge hf
 have h2:=fP_lt hf
 have h3:=fW_le hf
 have h4:=fX_le hf
 have h5:=fP_le hf
 have h6:=fX_ge hf
 have hE:=eF_lt hf a
 have hM:=mF_lt f a
 have hPp:2^(fP f-1)≤2^52:=Nat.pow_le_pow_right (by decide) (by omega)
 have hpp:=Nat.two_pow_pos (fP f-1)
 have p0:=T66_eq f a ha
 have p1:=T91_eq (fW f-fP f) (by omega)
 have p2:=T90_eq hf a ha
 have hr1:decide (0≤f)=true:=decide_eq_true hf.1
 have hr2:decide (f<((4:Nat):Int))=true:=decide_eq_true hf.2
 have r1:(rowOf f).1=(fW f:Int):=rfl
 have r2:(rowOf f).2.1=(fP f:Int):=rfl
 have r3:(rowOf f).2.2.1=1-(fX f:Int):=rfl
 have e1:IntKind.wrap .i64 ((fW f:Int)-(fP f:Int))=((fW f-fP f:Nat):Int):=wsubn _ _ (by omega)
 have e2:IntKind.wrap .i64 ((fP f:Int)-1)=((fP f-1:Nat):Int):=wsub1 _ (by omega)
 have e3:shlI .u64 1 ((fP f-1:Nat):Int)=((2^(fP f-1):Nat):Int):=shlI_one (by omega)
 have e4:orI .u64 (mF f a:Int) ((2^(fP f-1):Nat):Int)=((mF f a+2^(fP f-1):Nat):Int):=by
  have:=orN (a:=mF f a) (b:=1) (k:=fP f-1) hM (by omega)
  rwa [Nat.one_mul] at this
 have hfl:(((eF f a:Nat):Int)==((2^(fW f-fP f)-1:Nat):Int))=false:=by
  rw [nbeq]; exact beq_eq_false_iff_ne.2 hfin
 have ew:∀ z:Int,-1000000≤z∧z≤1000000→IntKind.wrap .i64 z=z:=fun z hz=>wrapI (by omega)
 simp only [row_at hf,r1,r2,r3,hr1,hr2,pre66 p0,fun66 p0,pre90 p2,fun90 p2,h,cond_true,bne_self_eq_false,cond_false,e1,e2,e3,e4,pre91 p1,fun91 p1,hfl,nnn]
 by_cases hz:eF f a=0
 ·have hg:(((eF f a:Nat):Int)==0)=true:=beq0_t _ hz
  have hm:mant f a=mF f a:=by unfold mant; rw [if_pos hz]
  have hx:xpn f a=1-(fX f:Int)-(fP f:Int)+1:=by unfold xpn; rw [if_pos hz,Int.add_zero]
  rw [hg,cond_true,hm,hx]
  by_cases hm0:mF f a=0
  ·rw [beq0_t _ hm0,cond_true]
   unfold od dyO
   rw [if_pos hm0,dy_zero]
  ·obtain ⟨k,hk⟩:=tz_split hm0
   have htl:=tz_le (n:=mF f a) (k:=53) (by omega) hm0
   have p3:=T92_eq (t:=tz (mF f a)) (k:=k) (by omega)
   rw [← hk] at p3
   have hq:mF f a/2^tz (mF f a)≠0:=by
    have:=Nat.mul_div_cancel_left (2*k+1) (Nat.two_pow_pos (tz (mF f a)))
    rw [← hk] at this
    omega
   have hql:=Nat.div_le_self (mF f a) (2^tz (mF f a))
   rw [beq0_f _ hm0,cond_false]
   simp only [pre92 p3,fun92 p3,cond_true,nnn,shrN (mF f a) (tz (mF f a)) (by omega)]
   rw [← Dw_small hq (by omega)]
   unfold od dyO dy
   rw [if_neg hm0]
   rw [ew 1 (by omega),ew (1-1) (by omega),ew (1-1+_) (by omega),ew (1-1+_-_) (by omega),ew (1-1+_-_+1) (by omega),ew _ (by omega)]
   rw [show (1:Int)-1+(1-(fX f:Int))-(fP f:Int)+1+(tz (mF f a):Int)=1-(fX f:Int)-(fP f:Int)+1+(tz (mF f a):Int) by omega]
 ·have hg:(((eF f a:Nat):Int)==0)=false:=beq0_f _ hz
  have hm:mant f a=mF f a+2^(fP f-1):=by unfold mant; rw [if_neg hz]
  have hx:xpn f a=1-(fX f:Int)-(fP f:Int)+1+((eF f a:Int)-1):=by unfold xpn; rw [if_neg hz]
  rw [hg,cond_false,hm,hx]
  have hm0:mF f a+2^(fP f-1)≠0:=by omega
  have hml:mF f a+2^(fP f-1)<2^54:=by omega
  generalize mF f a+2^(fP f-1)=n at *
  obtain ⟨k,hk⟩:=tz_split hm0
  have htl:=tz_le hml hm0
  have p3:=T92_eq (t:=tz n) (k:=k) (by rw [← hk]; omega)
  rw [← hk] at p3
  have hq:n/2^tz n≠0:=by
   have:=Nat.mul_div_cancel_left (2*k+1) (Nat.two_pow_pos (tz n))
   rw [← hk] at this
   omega
  have hql:=Nat.div_le_self n (2^tz n)
  rw [beq0_f _ hm0,cond_false]
  simp only [pre92 p3,fun92 p3,cond_true,nnn,shrN n (tz n) (by omega)]
  rw [← Dw_small hq (by omega)]
  unfold od dyO dy
  rw [if_neg hm0]
  rw [ew (eF f a:Int) (by omega),ew ((eF f a:Int)-1) (by omega),ew ((eF f a:Int)-1+_) (by omega),ew ((eF f a:Int)-1+_-_) (by omega),ew ((eF f a:Int)-1+_-_+1) (by omega),ew _ (by omega)]
  rw [show (eF f a:Int)-1+(1-(fX f:Int))-(fP f:Int)+1+(tz n:Int)=1-(fX f:Int)-(fP f:Int)+1+((eF f a:Int)-1)+(tz n:Int) by omega]
theorem od_idem (s:Bool) (n:Nat) (e:Int):od (od s n e).1 (od s n e).2.1 (od s n e).2.2=od s n e:=by
 rcases od_cases s n e with ⟨h,_⟩ | ⟨_,h2,_,_,_⟩
 ·rw [h]; rfl
 ·obtain ⟨k,hk⟩:∃ k,(od s n e).2.1=2*k+1:=⟨(od s n e).2.1/2,by omega⟩
  generalize hD:od s n e=D at *
  obtain ⟨d1,d2,d3⟩:=D
  simp only at hk h2 ⊢
  subst hk
  unfold od
  rw [if_neg (by omega),tz_odd,Nat.pow_zero,Nat.div_one,Int.natCast_zero,Int.add_zero]
end VL
namespace VL
open Go Vx
theorem qm_neg {f:Int} (hf:Fm f):qm f≤0:=by
 have:=fX_ge hf
 have:=fP_ge hf
 unfold qm; omega
theorem vI_zero (f:Int) (s:Bool) (e:Int):vI f s 0 e=0:=by
 unfold vI; rw [Nat.zero_mul]; cases s <;> rfl
theorem T47_eq (s:Bool) {n:Nat} (hn:n<(2^64)^5000) (e:Int):T47 (dy s n e,())=some (if n=0 then 0 else if s=true then -1 else 1,()):=by
 show t47 S102.pre S102.F (s,Dw n,e,())=_
 unfold t47
 have p0:=T102_eq (dg (2^64) n) (Dw_ws hn)
 rw [nv_Dw] at p0
 have p0:T102 (Dw n,())=some (Dw n,()):=p0
 dsimp only
 simp only [pre102 p0,fun102 p0,cond_true]
 by_cases h:n=0
 ·rw [if_pos h,h,Dw_zero]; rfl
 ·have hlen:(((Dw n).length:Int)==0)=false:=beq0_f _ (by have:=Dw_len h; omega)
  rw [if_neg h,hlen,cond_false]
  cases s <;> rfl
end VL
namespace VL
open Go Vx
def cd (f:Int) (S:Int):Dya:=dyO (od (decide (S<0)) S.natAbs (qm f))
theorem tz_mul {n:Nat} (h:n≠0) (d:Nat):tz (n*2^d)=tz n+d:=by
 obtain ⟨k,hk⟩:=tz_split h
 have e:n*2^d=2^(tz n+d)*(2*k+1):=by
  rw [Nat.pow_add,Nat.mul_assoc,Nat.mul_comm (2^d),← Nat.mul_assoc,← hk]
 rw [e]; exact tz_of _ _
theorem cd_of {f:Int} (s:Bool) (n:Nat) {e:Int} (he:qm f≤e):dyO (od s n e)=cd f (vI f s n e):=by
 unfold cd
 congr 1
 by_cases h0:n=0
 ·subst h0
  rw [vI_zero]; rfl
 ·have hp:=Nat.two_pow_pos (e-qm f).toNat
  have hpos:0<n*2^(e-qm f).toNat:=Nat.mul_pos (by omega) hp
  have hs:decide (vI f s n e<0)=s:=by
   unfold vI
   generalize n*2^(e-qm f).toNat=N at *
   cases s <;> simp only [cond_true,cond_false]
   ·exact decide_eq_false (by omega)
   ·exact decide_eq_true (by omega)
  have hn:(vI f s n e).natAbs=n*2^(e-qm f).toNat:=by
   unfold vI
   cases s
   ·exact Int.natAbs_natCast _
   ·exact (Int.natAbs_neg _).trans (Int.natAbs_natCast _)
  rw [hs,hn]
  unfold od
  rw [if_neg h0,if_neg (by omega),tz_mul h0]
  have hd:n*2^(e-qm f).toNat/2^(tz n+(e-qm f).toNat)=n/2^tz n:=by
   rw [Nat.pow_add,Nat.mul_div_mul_right _ _ hp]
  rw [hd]
  congr 2
  omega
def Bd (f:Int) (n:Nat) (e:Int):Prop:=qm f≤e∧e≤6000∧n*2^(e-qm f).toNat<2^5000
theorem qm_ge {f:Int} (hf:Fm f):-1100≤qm f:=by
 have:=fX_le hf
 have:=fP_le hf
 unfold qm; omega
theorem Bd.lt {f:Int} {n:Nat} {e:Int} (h:Bd f n e):n<2^5000:=by
 have:=Nat.le_mul_of_pos_right n (Nat.two_pow_pos (e-qm f).toNat)
 exact Nat.lt_of_le_of_lt this h.2.2
theorem Bd.od {f:Int} (hf:Fm f) {n:Nat} {e:Int} (s:Bool) (h:Bd f n e):Bd f (VL.od s n e).2.1 (VL.od s n e).2.2:=by
 rcases od_cases s n e with ⟨hz,_⟩ | ⟨_,h2,h3,h4,h5⟩
 ·rw [hz]
  exact ⟨qm_neg hf,by dsimp only; omega,by dsimp only; rw [Nat.zero_mul]; exact Nat.two_pow_pos _⟩
 ·have hle:2^(tz n+(e-qm f).toNat)≤n*2^(e-qm f).toNat:=by
   rw [Nat.pow_add]
   refine Nat.mul_le_mul_right _ ?_
   have:=Nat.le_mul_of_pos_right (2^tz n) (show 0<(VL.od s n e).2.1 by omega)
   omega
  have hlt:=(Nat.pow_lt_pow_iff_right (a:=2) (by decide)).1 (Nat.lt_of_le_of_lt hle h.2.2)
  have hq:=qm_neg hf
  have h1:=h.1
  refine ⟨by omega,by omega,?_⟩
  have e1:(VL.od s n e).2.1*2^((VL.od s n e).2.2-qm f).toNat=n*2^(e-qm f).toNat:=by
   rw [h5,show (e+(tz n:Int)-qm f).toNat=tz n+(e-qm f).toNat by omega,Nat.pow_add,← Nat.mul_assoc,Nat.mul_comm _ (2^tz n),← h4]
  rw [e1]; exact h.2.2
theorem Bd.sft {f:Int} {X:Nat} {ex e:Int} (h:Bd f X ex) (h1:e≤ex) (h2:qm f≤e):X*2^(ex-e).toNat<2^5000:=by
 have e1:X*2^(ex-qm f).toNat=X*2^(ex-e).toNat*2^(e-qm f).toNat:=by
  rw [Nat.mul_assoc,← Nat.pow_add]; congr 2; omega
 have:=Nat.le_mul_of_pos_right (X*2^(ex-e).toNat) (Nat.two_pow_pos (e-qm f).toNat)
 rw [← e1] at this
 exact Nat.lt_of_le_of_lt this h.2.2
theorem dbl2 (k:Nat):(2:Nat)^k+2^k=2^(k+1):=by rw [Nat.pow_succ]; omega
end VL
namespace VL
open Go Vx
structure Hid (p:Prop):Prop where
 out:p
end VL
namespace VL
open Go Vx
theorem T40_full {f:Int} {a:Nat} (h:chk f a=0) (hfull:eF f a=fullF f):T40 (f,(a:Int),())=some ((false,[],0,()),40,()):=by
 obtain ⟨hf,h0⟩:=chk_zero h
 have ha:=pat_lt h
 show t40 S66.pre S66.F S90.pre S90.F S91.pre S91.F S92.pre S92.F f a=_
 unfold t40
 have h2:=fP_lt hf
 have h3:=fW_le hf
 have h4:=fP_ge hf
 have h5:=fP_le hf
 have p0:=T66_eq f a ha
 have p1:=T91_eq (fW f-fP f) (by omega)
 have p2:=T90_eq hf a ha
 have hr1:decide (0≤f)=true:=decide_eq_true hf.1
 have hr2:decide (f<((4:Nat):Int))=true:=decide_eq_true hf.2
 have r1:(rowOf f).1=(fW f:Int):=rfl
 have r2:(rowOf f).2.1=(fP f:Int):=rfl
 have e1:IntKind.wrap .i64 ((fW f:Int)-(fP f:Int))=((fW f-fP f:Nat):Int):=wsubn _ _ (by omega)
 have hfl:(((eF f a:Nat):Int)==((2^(fW f-fP f)-1:Nat):Int))=true:=by
  rw [nbeq]; exact beq_iff_eq.2 hfull
 simp only [row_at hf,r1,r2,hr1,hr2,pre66 p0,fun66 p0,pre90 p2,fun90 p2,h,cond_true,bne_self_eq_false,cond_false,e1,pre91 p1,fun91 p1,hfl]
theorem T40_bad {f:Int} {a:Nat} (ha:a<2^64) (h:chk f a≠0):T40 (f,(a:Int),())=some ((false,[],0,()),chk f a,()):=by
 show t40 S66.pre S66.F S90.pre S90.F S91.pre S91.F S92.pre S92.F f a=_
 unfold t40
 have p0:=T66_eq f a ha
 have:(chk f a != 0)=true:=by simpa using h
 simp only [pre66 p0,fun66 p0,this,cond_true]
end VL
namespace VL
open Go Vx
theorem set_same {l:List Nat} {j v:Nat} (hj:j<l.length) (h:l.getD j 0=v):l.set j v=l:=by
 rw [List.getD_eq_getElem?_getD,List.getElem?_eq_getElem hj,Option.getD_some] at h
 subst h
 exact List.set_getElem_self hj
end VL
namespace VL
open Go Vx
theorem Dw_len0 (n:Nat):((((Dw n).length:Nat):Int)==0)=decide (n=0):=by
 by_cases h:n=0
 ·subst h; rw [Dw_zero]; rfl
 ·rw [decide_eq_false h]; exact beq0_f _ (by have:=Dw_len h; omega)
end VL
namespace VL
open Go Vx
theorem a32 {x:Nat} (h:x<2^64):andI .u64 (x:Int) 4294967295=((x%2^32:Nat):Int):=andI_mask (n:=32) h (by decide)
theorem s32 (x:Nat):shrI .u64 (x:Int) 32=((x/2^32:Nat):Int):=by
 have h:=shrI_u64 (a:=(x:Int)) 32 (by decide)
 rw [show ((32:Nat):Int)=32 from rfl] at h
 rw [h]; norm_cast
theorem mul_hi {x0 x1 y0 y1:Nat} (h0:x0<2^32) (h1:x1<2^32) (k0:y0<2^32) (k1:y1<2^32) :
  ((x1*y1%2^64+(x1*y0%2^64+x0*y0%2^64/2^32)%2^64/2^32)%2^64+((x1*y0%2^64+x0*y0%2^64/2^32)%2^64%2^32+x0*y1%2^64)%2^64/2^32)%2^64=(x0+2^32*x1)*(y0+2^32*y1)/2^64:=by
 have b00:x0*y0≤(2^32-1)*(2^32-1):=Nat.mul_le_mul (by omega) (by omega)
 have b01:x0*y1≤(2^32-1)*(2^32-1):=Nat.mul_le_mul (by omega) (by omega)
 have b10:x1*y0≤(2^32-1)*(2^32-1):=Nat.mul_le_mul (by omega) (by omega)
 have b11:x1*y1≤(2^32-1)*(2^32-1):=Nat.mul_le_mul (by omega) (by omega)
 have e1:x0*(2^32*y1)=2^32*(x0*y1):=Nat.mul_left_comm _ _ _
 have e2:2^32*x1*y0=2^32*(x1*y0):=Nat.mul_assoc _ _ _
 have e3:2^32*x1*(2^32*y1)=2^64*(x1*y1):=by
  rw [Nat.mul_assoc,Nat.mul_left_comm x1,← Nat.mul_assoc]
 rw [Nat.add_mul,Nat.mul_add,Nat.mul_add,e1,e2,e3]
 generalize x0*y0=a at *
 generalize x0*y1=b at *
 generalize x1*y0=c at *
 generalize x1*y1=d at *
 have ha:a%2^64=a:=Nat.mod_eq_of_lt (by omega)
 have hb:b%2^64=b:=Nat.mod_eq_of_lt (by omega)
 have hc:c%2^64=c:=Nat.mod_eq_of_lt (by omega)
 have hd:d%2^64=d:=Nat.mod_eq_of_lt (by omega)
 rw [ha,hb,hc,hd]
 have ht:(c+a/2^32)%2^64=c+a/2^32:=Nat.mod_eq_of_lt (by omega)
 rw [ht]
 generalize hT:c+a/2^32=t
 have hw:(t%2^32+b)%2^64=t%2^32+b:=Nat.mod_eq_of_lt (by omega)
 rw [hw]
 have hq:(d+t/2^32)%2^64=d+t/2^32:=Nat.mod_eq_of_lt (by omega)
 rw [hq]
 omega
theorem T315_eq {x y:Nat} (hx:x<2^64) (hy:y<2^64):T315 ((x:Int),(y:Int),())=some (((x*y/2^64:Nat):Int),((x*y%2^64:Nat):Int),()):=by
 show t315 (x:Int) (y:Int)=_
 unfold t315
 dsimp only
 rw [a32 hx,a32 hy,s32 x,s32 y]
 have hm:∀ z:Nat,z%2^64<2^64:=fun z=>Nat.mod_lt _ (by decide)
 have am:∀ z:Nat,andI .u64 ((z%2^64:Nat):Int) 4294967295=((z%2^64%2^32:Nat):Int):=fun z=>a32 (hm z)
 have wm:∀ a b:Nat,IntKind.wrap .u64 ((a:Int)*(b:Int))=((a*b%2^64:Nat):Int):=fun a b=>by rw [← Int.natCast_mul]; exact wrapN _
 have wa:∀ a b:Nat,IntKind.wrap .u64 ((a:Int)+(b:Int))=(((a+b)%2^64:Nat):Int):=fun a b=>by rw [← Int.natCast_add]; exact wrapN _
 simp only [wm,wa,s32,am]
 have e:=mul_hi (x0:=x%2^32) (x1:=x/2^32) (y0:=y%2^32) (y1:=y/2^32) (by omega) (by omega) (by omega) (by omega)
 rw [Nat.mod_add_div,Nat.mod_add_div] at e
 rw [e]
theorem T316_eq {x y:Nat} (hx:x<2^64) (hy:y<2^64):T316 ((x:Int),(y:Int),())=some (Wi (x*y),()):=by
 show t316 S315.pre S315.F (x:Int) (y:Int)=_
 unfold t316
 have p:=T315_eq hx hy
 simp only [pre315 p,fun315 p,cond_true]
 rfl
def zro (f:Int) (a:Nat):Bool:=eF f a==0&&mF f a==0
theorem cls_zro {f:Int} (hf:Fm f) (a:Nat):(cls f a==5||cls f a==6)=zro f a:=by
 have hp:=full_pos hf
 have hne:(eF f a==fullF f&&eF f a==0)=false:=by
  cases h:eF f a==fullF f
  ·rfl
  ·have:=beq_iff_eq.1 h
   rw [Bool.true_and,this]
   exact beq_eq_false_iff_ne.2 (by omega)
 unfold cls zro
 cases h1:eF f a==fullF f <;> cases h2:eF f a==0 <;> rw [h1,h2] at hne <;> cases mF f a==0 <;> cases sF f a <;> cases mF f a/2^(fP f-2) != 0 <;> first | rfl | cases hne
theorem zro_mant {f:Int} {a:Nat} (h:zro f a=false):mant f a≠0:=by
 unfold zro at h
 unfold mant
 by_cases hz:eF f a=0
 ·rw [if_pos hz]
  intro hm
  rw [hz,hm] at h
  cases h
 ·rw [if_neg hz]
  have:=Nat.two_pow_pos (fP f-1)
  omega
end VL
namespace VL
open Go Vx
theorem ex_sqrt (n:Nat):∃ r,r*r≤n∧n<(r+1)*(r+1):=by
 induction n with
 | zero=>exact ⟨0,by decide,by decide⟩
 | succ n ih =>
  obtain ⟨r,h1,h2⟩:=ih
  by_cases h:n+1<(r+1)*(r+1)
  ·exact ⟨r,by omega,h⟩
  ·refine ⟨r+1,by omega,?_⟩
   have:(r+1+1)*(r+1+1)=(r+1)*(r+1)+2*(r+1)+1:=by
    rw [Nat.mul_add (r+1+1),Nat.add_mul (r+1) 1 (r+1)]; omega
   omega
noncomputable def isq (n:Nat):Nat:=Classical.choose (ex_sqrt n)
theorem isq_le (n:Nat):isq n*isq n≤n:=(Classical.choose_spec (ex_sqrt n)).1
theorem isq_lt (n:Nat):n<(isq n+1)*(isq n+1):=(Classical.choose_spec (ex_sqrt n)).2
theorem sq_mono {a b:Nat} (h:a≤b):a*a≤b*b:=Nat.mul_le_mul h h
theorem sq_lt {a b:Nat} (h:a*a<b*b):a<b:=by
 rcases Nat.lt_or_ge a b with h1 | h1
 ·exact h1
 ·exact absurd (sq_mono h1) (by omega)
theorem isq_of {n r:Nat} (h1:r*r≤n) (h2:n<(r+1)*(r+1)):isq n=r:=by
 have h3:=isq_le n
 have h4:=isq_lt n
 have:=sq_lt (show r*r<(isq n+1)*(isq n+1) by omega)
 have:=sq_lt (show isq n*isq n<(r+1)*(r+1) by omega)
 omega
theorem isq_ge {n r:Nat} (h:r*r≤n):r≤isq n:=by
 have:=sq_lt (show r*r<(isq n+1)*(isq n+1) from Nat.lt_of_le_of_lt h (isq_lt n))
 omega
theorem isq_sq (r:Nat):isq (r*r)=r:=isq_of (Nat.le_refl _) (by rw [Nat.mul_add,Nat.add_mul]; omega)
theorem isq_pos {n:Nat} (h:n≠0):1≤isq n:=isq_ge (by omega)
theorem mul_sq (a b:Nat):(a*b)*(a*b)=a*a*(b*b):=by
 rw [Nat.mul_assoc,Nat.mul_left_comm b a b,Nat.mul_assoc]
theorem isq_scale (n K:Nat) (hK:0<K):isq (n*(K*K))/K=isq n:=by
 symm
 have h1:=isq_le (n*(K*K))
 have h2:=isq_lt (n*(K*K))
 generalize isq (n*(K*K))=R at *
 have hKK:=Nat.mul_pos hK hK
 apply isq_of
 ·have h3:=sq_mono (Nat.div_mul_le_self R K)
  rw [mul_sq] at h3
  exact Nat.le_of_mul_le_mul_right (Nat.le_trans h3 h1) hKK
 ·have h3:R+1≤(R/K+1)*K:=by
   have:=Nat.lt_div_mul_add hK (a:=R)
   rw [Nat.add_mul,Nat.one_mul]; omega
  have h4:=sq_mono h3
  rw [mul_sq] at h4
  exact Nat.lt_of_mul_lt_mul_right (Nat.lt_of_lt_of_le h2 h4)
theorem sq_pow2:∀ (k R n:Nat),R*R=n*(2^k*2^k)→∃ q,R=q*2^k∧q*q=n
 | 0,R,n,h=>⟨R,by omega,by omega⟩
 | k+1,R,n,h=>by
  have e:n*(2^(k+1)*2^(k+1))=4*(n*(2^k*2^k)):=by
   rw [Nat.pow_succ,mul_sq,← Nat.mul_assoc n,Nat.mul_comm]
  rw [e] at h
  have hev:R%2=0:=by
   rcases Nat.mod_two_eq_zero_or_one R with h1 | h1
   ·exact h1
   ·have h2:R=2*(R/2)+1:=by omega
    have h3:R*R%2=1:=by rw [Nat.mul_mod,h1]
    omega
  obtain ⟨S,rfl⟩:∃ S,R=2*S:=⟨R/2,by omega⟩
  rw [mul_sq] at h
  obtain ⟨q,h1,h2⟩:=sq_pow2 k S n (by omega)
  exact ⟨q,by rw [h1,Nat.pow_succ,Nat.mul_comm (2^k) 2,Nat.mul_left_comm],h2⟩
theorem isq_exact (n k:Nat):isq (n*(2^k*2^k))*isq (n*(2^k*2^k))=n*(2^k*2^k)↔isq n*isq n=n:=by
 constructor
 ·intro h
  obtain ⟨q,h1,h2⟩:=sq_pow2 k _ n h
  rw [← h2,isq_sq]
 ·intro h
  have e:n*(2^k*2^k)=(isq n*2^k)*(isq n*2^k):=by rw [mul_sq,h]
  rw [e,isq_sq]
theorem isq_even {n k:Nat} (h:isq n*isq n=n):isq (n*(2^k*2^k))=isq n*2^k:=by
 have e:n*(2^k*2^k)=(isq n*2^k)*(isq n*2^k):=by rw [mul_sq,h]
 rw [e,isq_sq]
theorem rnd_more {f m:Int} {neg:Bool} {N:Nat} {E:Int} (hf:Fm f) (hb:fP f+2≤blen N):rndN f m neg N E true=rndN f m neg (2*N+1) (E-1) false:=by
 have hP:=fP_ge hf
 have e1:(2*N+1)/2^1=N:=by omega
 have e2:(2*N+1)%2^1≠0:=by omega
 have h0:N≠0:=fun h=>by
  rw [h] at hb
  have:blen 0=0:=rfl
  omega
 have:=rnd_trunc (f:=f) (m:=m) (neg:=neg) (N:=2*N+1) (k:=1) (E:=E-1) hf (by rw [e1]; exact h0) (fun _=>by rw [e1]; exact hb)
 rw [e1,decide_eq_true e2,show E-1+((1:Nat):Int)=E by omega] at this
 exact this
theorem rnd_fine {f m:Int} {neg:Bool} {N k:Nat} {E:Int} (hf:Fm f) (hb:fP f+2≤blen (N/2^k)):rndN f m neg (N/2^k) E true=rndN f m neg (2*N+1) (E-k-1) false:=by
 have hP:=fP_ge hf
 have e1:(2*N+1)/2^(k+1)=N/2^k:=by
  rw [Nat.pow_succ,Nat.mul_comm (2^k),← Nat.div_div_eq_div_mul,show (2*N+1)/2=N by omega]
 have e2:(2*N+1)%2^(k+1)≠0:=by
  rw [Nat.pow_succ,Nat.mul_comm (2^k),Nat.mod_mul]; omega
 have h0:N/2^k≠0:=fun h=>by
  rw [h] at hb
  have:blen 0=0:=rfl
  omega
 have:=rnd_trunc (f:=f) (m:=m) (neg:=neg) (N:=2*N+1) (k:=k+1) (E:=E-k-1) hf (by rw [e1]; exact h0) (fun _=>by rw [e1]; exact hb)
 rw [e1,decide_eq_true e2,show E-k-1+((k+1:Nat):Int)=E by omega] at this
 exact this
noncomputable def rootB (f m:Int) (X:Nat) (E:Int):Nat×Nat :=
 if isq X*isq X=X then rndN f m false (isq X) E false else rndN f m false (2*isq X+1) (E-1) false
theorem rootB_mark {f m:Int} (hf:Fm f) {X:Nat} {E:Int} (hb:fP f+2≤blen (isq X)):rootB f m X E=rndN f m false (isq X) E (!decide (isq X*isq X=X)):=by
 unfold rootB
 by_cases h:isq X*isq X=X
 ·rw [if_pos h,decide_eq_true h]; rfl
 ·rw [if_neg h,decide_eq_false h,Bool.not_false,rnd_more hf hb]
theorem rootB_fine {f m:Int} (hf:Fm f) {X k:Nat} {E:Int} (h0:X≠0) (hb:fP f+2≤blen (isq X)):rootB f m (X*(2^k*2^k)) (E-k)=rootB f m X E:=by
 have hpos:=isq_pos h0
 have hsc:=isq_scale X (2^k) (Nat.two_pow_pos k)
 unfold rootB
 by_cases h:isq X*isq X=X
 ·rw [if_pos h,if_pos ((isq_exact X k).2 h),isq_even h,rnd_scale hf (by omega),show E-(k:Int)+(k:Int)=E by omega]
 ·rw [if_neg h,if_neg (fun h2=>h ((isq_exact X k).1 h2)),← rnd_more hf hb]
  have:=rnd_fine (f:=f) (m:=m) (neg:=false) (N:=isq (X*(2^k*2^k))) (k:=k) (E:=E) hf (by rw [hsc]; exact hb)
  rw [hsc] at this
  exact this.symm
theorem isq_blen {X k:Nat} (h:2^(2*k)≤X):k+1≤blen (isq X):=by
 apply blen_ge
 apply isq_ge
 rw [← Nat.pow_add,show k+k=2*k by omega]
 exact h
theorem isq_bound {X k:Nat} (h:X<2^(2*k)):isq X<2^k:=by
 apply sq_lt
 rw [← Nat.pow_add,show k+k=2*k by omega]
 exact Nat.lt_of_le_of_lt (isq_le X) h
end VL
namespace VL
open Go Vx
theorem tmodP (e:Int):(Int.tmod e 2 != 0)=decide (e%2=1):=by
 have:Int.tmod e 2=0↔e%2=0:=by
  rw [← Int.dvd_iff_tmod_eq_zero,Int.dvd_iff_emod_eq_zero]
 rw [Bool.eq_iff_iff,bne_iff_ne,decide_eq_true_eq]
 omega
theorem quo2 (z:Int) (h:-1000000≤z∧z≤1000000):quoI .i64 (2*z) 2=z:=by
 unfold quoI
 rw [Int.mul_tdiv_cancel_left z (by decide)]
 exact wrapI (by omega)
theorem W317_eq (n:Nat) (hn:n<2^128):W317_2 ((((0:Int),((0:Int),((),()))),(Wi n,())):Pat.D P317_2)=some (.inl (((isq n:Int),((),())),(Wi n,()))):=by
 have hb:isq n<2^64:=isq_bound (k:=64) hn
 have key:=lfix_ind (m317_2 S123.pre S123.F S316.pre S316.F) (fun x=>64-x.1.1.toNat)
  (fun x=>∃ i:Nat,i≤64∧x=(((i:Int),(((isq n/2^(64-i)*2^(64-i):Nat):Int),((),()))),(Wi n,())))
  (fun _=>.inl (((isq n:Int),((),())),(Wi n,()))) ?_ _ ⟨0,by omega,by rw [Nat.div_eq_of_lt hb]⟩
 ·exact key
 intro L x hx hL
 obtain ⟨i,hi,rfl⟩:=hx
 unfold h317_2
 rcases Nat.lt_or_ge i 64 with hlt | hge
 ·have e5:IntKind.wrap .i64 ((63:Int)-(i:Int))=((63-i:Nat):Int):=by rw [wrapI (by omega)]; omega
  have e6:IntKind.wrap .i64 ((i:Int)+1)=((i+1:Nat):Int):=by rw [wrapI (by omega)]; omega
  have e7:decide ((0:Int)≤((63-i:Nat):Int))=true:=decide_eq_true (by omega)
  have e8:decide ((i:Int)<64)=true:=decide_eq_true (by omega)
  have es:64-i=(63-i)+1:=by omega
  rw [es]
  generalize hs:63-i=s at *
  have hs63:s≤63:=by omega
  have hsh:=shlI_one hs63
  have hp:=Nat.two_pow_pos s
  have hd:isq n/2^(s+1)=isq n/2^s/2:=by rw [Nat.pow_succ,Nat.div_div_eq_div_mul]
  have hdm:=Nat.div_add_mod (isq n) (2^s)
  have hml:=Nat.mod_lt (isq n) hp
  have hps:2^(s+1)=2^s*2:=Nat.pow_succ ..
  generalize hc:isq n/2^s=c at *
  have hcle:c*2^s≤isq n:=by rw [Nat.mul_comm]; omega
  have e1:c/2*2^(s+1)=2^s*(2*(c/2)):=by rw [hps,Nat.mul_comm,Nat.mul_assoc]
  have hw:orI .u64 ((c/2*2^(s+1):Nat):Int) ((2^s:Nat):Int)=((2^s*(2*(c/2)+1):Nat):Int):=by
   have hlt2:2^s*(2*(c/2)+1)<2^64:=by
    have h1:isq n<2^s*(c+1):=by rw [Nat.mul_add,Nat.mul_one]; omega
    have h2:2^s*(c+1)≤2^64:=by
     have e:2^64=2^s*2^(64-s):=by rw [← Nat.pow_add]; congr 1; omega
     have h3:c<2^(64-s):=by
      rw [e] at hb
      have:2^s*c<2^s*2^(64-s):=by omega
      exact Nat.lt_of_mul_lt_mul_left this
     rw [e]
     exact Nat.mul_le_mul_left _ h3
    have e2:2^64=2^(s+1)*2^(63-s):=by rw [← Nat.pow_add]; congr 1; omega
    have h4:c/2<2^(63-s):=by
     have h3:2^s*c<2^64:=by omega
     rw [e2,hps,Nat.mul_assoc] at h3
     have:=Nat.lt_of_mul_lt_mul_left h3
     omega
    have h5:2^s*(2*(c/2)+1)<2^s*(2*(c/2+1)):=Nat.mul_lt_mul_of_pos_left (by omega) hp
    have h6:2^s*(2*(c/2+1))≤2^64:=by
     rw [e2,hps,Nat.mul_assoc]
     exact Nat.mul_le_mul_left _ (Nat.mul_le_mul_left _ h4)
    omega
   have ha:c/2*2^(s+1)<2^64:=by
    rw [e1]
    have:=Nat.mul_le_mul_left (2^s) (show 2*(c/2)≤2*(c/2)+1 by omega)
    omega
   rw [orN2 ha (Nat.pow_lt_pow_right (by decide) (by omega))]
   congr 1
   have:=Nat.two_pow_add_eq_or_of_lt (i:=s+1) (b:=2^s) (by rw [hps]; omega) (c/2)
   rw [Nat.mul_comm (c/2),← this,hps,Nat.mul_add,Nat.mul_one,Nat.mul_assoc]
  have hW:2^s*(2*(c/2)+1)<2^64:=by
   have h3:2^s*c<2^64:=by omega
   have e:2^64=2^s*(2*2^(63-s)):=by rw [← Nat.mul_assoc,← Nat.pow_succ,← Nat.pow_add]; congr 1; omega
   rw [e] at h3 ⊢
   have h4:=Nat.lt_of_mul_lt_mul_left h3
   exact Nat.mul_lt_mul_of_pos_left (by omega) hp
  have p0:=T316_eq hW hW
  have p1:=T123_eq (2^s*(2*(c/2)+1)*(2^s*(2*(c/2)+1))) n
  have hle:decide ((if 2^s*(2*(c/2)+1)*(2^s*(2*(c/2)+1))=n then (0:Int) else if 2^s*(2*(c/2)+1)*(2^s*(2*(c/2)+1))<n then -1 else 1)≤0)=decide (c%2=1):=by
   have h1:2^s*(2*(c/2)+1)*(2^s*(2*(c/2)+1))≤n↔c%2=1:=by
    constructor
    ·intro h
     have h2:=isq_ge h
     have h3:2^s*(2*(c/2)+1)<2^s*(c+1):=by rw [Nat.mul_add (2^s) c,Nat.mul_one]; omega
     have:=Nat.lt_of_mul_lt_mul_left h3
     omega
    ·intro h
     have e:2*(c/2)+1=c:=by omega
     rw [e,Nat.mul_comm (2^s) c]
     exact Nat.le_trans (sq_mono hcle) (isq_le n)
   rw [Bool.eq_iff_iff,decide_eq_true_eq,decide_eq_true_eq,← h1]
   split
   ·omega
   ·split <;> omega
  dsimp only
  simp only [e5,e6,e7,e8,hd,hsh,hw,cond_true,pre316 p0,fun316 p0,pre123 p1,fun123 p1,hle]
  by_cases hc1:c%2=1
  ·rw [decide_eq_true hc1,cond_true]
   have e:2*(c/2)+1=c:=by omega
   rw [e]
   exact hL _ ⟨i+1,by omega,by rw [show 64-(i+1)=s by omega,hc,Nat.mul_comm]⟩ (by simp only [Int.toNat_natCast]; omega)
  ·rw [decide_eq_false hc1,cond_false]
   have e:2*(c/2)=c:=by omega
   rw [e1,e]
   exact hL _ ⟨i+1,by omega,by rw [show 64-(i+1)=s by omega,hc,Nat.mul_comm]⟩ (by simp only [Int.toNat_natCast]; omega)
 ·have e:i=64:=by omega
  subst e
  have e8:decide (((64:Nat):Int)<64)=false:=rfl
  simp only [e8,cond_false,Nat.sub_self,Nat.pow_zero,Nat.div_one,Nat.mul_one]
theorem Wi_eq {a b:Nat}:(((Wi a).1==(Wi b).1)&&((Wi a).2.1==(Wi b).2.1))=decide (a=b):=by
 show (((a/2^64:Nat):Int)==((b/2^64:Nat):Int)&&((a%2^64:Nat):Int)==((b%2^64:Nat):Int))=_
 rw [nbeq,nbeq,Bool.eq_iff_iff,Bool.and_eq_true,beq_iff_eq,beq_iff_eq,decide_eq_true_eq]
 omega
theorem T317_eq (n:Nat) (hn:n<2^128):T317 (Wi n,())=some ((isq n:Int),decide (isq n*isq n=n),()):=by
 have hb:isq n<2^64:=isq_bound (k:=64) hn
 show t317 S123.pre S123.F S316.pre S316.F W317_2 (Wi n)=_
 unfold t317
 have hw:=W317_eq n hn
 have p0:=T316_eq hb hb
 show Vx.obind (W317_2 (((0:Int),((0:Int),((),()))),(Wi n,()))) _=_
 rw [hw]
 show (bif S316.pre ((isq n:Int),((isq n:Int),())) then some ((isq n:Int),((((S316.F ((isq n:Int),((isq n:Int),()))).1.1==(Wi n).1)&&((S316.F ((isq n:Int),((isq n:Int),()))).1.2.1==(Wi n).2.1)),())) else none)=_
 simp only [pre316 p0,fun316 p0,cond_true]
 exact congrArg (fun b:Bool=>some ((isq n:Int),(b,()))) Wi_eq
theorem T314_lo {n:Nat} (hn:n<2^64):T314 (((0:Int),((n:Int),())),())=some ((blen n:Int),()):=by
 show t314 S178.pre S178.F ((0:Int),((n:Int),()))=_
 unfold t314
 have p0:=T178_eq n hn
 simp only [bne_self_eq_false,cond_false,pre178 p0,fun178 p0,cond_true]
theorem T313_eq {f:Int} {a:Nat} (h:chk f a=0):T313 (f,rowOf f,(a:Int),())=some ((mant f a:Int),xpn f a,()):=by
 obtain ⟨hf,h0⟩:=chk_zero h
 show t313 S98.pre S98.F f (rowOf f) a=_
 unfold t313
 have h1:=fP_ge hf
 have h2:=fP_lt hf
 have h3:=fW_le hf
 have h4:=fX_le hf
 have h5:=fP_le hf
 have h6:=fX_ge hf
 have hE:=eF_lt hf a
 have hM:=mF_lt f a
 have hPp:2^(fP f-1)≤2^52:=Nat.pow_le_pow_right (by decide) (by omega)
 have p98:=T98_ok h
 have r2:(rowOf f).2.1=(fP f:Int):=rfl
 have r3:(rowOf f).2.2.1=1-(fX f:Int):=rfl
 have e2:IntKind.wrap .i64 ((fP f:Int)-1)=((fP f-1:Nat):Int):=wsub1 _ (by omega)
 have e3:shlI .u64 1 ((fP f-1:Nat):Int)=((2^(fP f-1):Nat):Int):=shlI_one (by omega)
 have e4:orI .u64 (mF f a:Int) ((2^(fP f-1):Nat):Int)=((mF f a+2^(fP f-1):Nat):Int):=by
  have:=orN (a:=mF f a) (b:=1) (k:=fP f-1) hM (by omega)
  rwa [Nat.one_mul] at this
 have hE2:eF f a<65536:=by
  have:=e_le (f:=f) a
  have e:fullF f=2*fX f+1:=by unfold fullF; rw [← fX_eq hf]
  omega
 have e5:∀ k:Nat,k<65536→IntKind.wrap .i64 (IntKind.wrap .i64 (IntKind.wrap .i64 (IntKind.wrap .i64 (IntKind.wrap .i64 (k:Int)-1)+(1-(fX f:Int)))-(fP f:Int))+1)=(k:Int)-1+(1-(fX f:Int))-(fP f:Int)+1:=fun k hk=>by
  rw [wrapI (n:=(k:Int)) (by omega),wrapI (n:=(k:Int)-1) (by omega),wrapI (n:=(k:Int)-1+_) (by omega),wrapI (n:=(k:Int)-1+_-_) (by omega),wrapI (by omega)]
 have e6:=e5 1 (by decide)
 rw [show ((1:Nat):Int)=1 from rfl] at e6
 dsimp only
 simp only [r2,r3,e2,nnn,cond_true,pre98 p98,fun98 p98,e3,e4,e6,e5 _ hE2,nbeq0]
 unfold mant xpn
 by_cases hz:eF f a=0
 ·rw [hz,if_pos rfl,if_pos rfl]
  show some ((mF f a:Int),((1:Int)-1+(1-(fX f:Int))-(fP f:Int)+1,()))=_
  rw [show (1:Int)-1+(1-(fX f:Int))-(fP f:Int)+1=1-(fX f:Int)-(fP f:Int)+1+0 by omega]
 ·have:(eF f a==0)=false:=by simpa using hz
  rw [this,cond_false,if_neg hz,if_neg hz]
  rw [show (eF f a:Int)-1+(1-(fX f:Int))-(fP f:Int)+1=1-(fX f:Int)-(fP f:Int)+1+((eF f a:Int)-1) by omega]
def okL (f:Int) (l:List Nat):Bool:=l.all fun a=>chk f a==0
theorem chk_cases {f:Int} (hf:Fm f) (a:Nat):chk f a=0∨chk f a=4:=by
 unfold chk
 rw [if_pos hf]
 split <;> simp
theorem W311_eq {f:Int} (hf:Fm f) (l:List Nat) (hl:∀ a∈l,a<2^64) (hlen:l.length<1000) (z r:Den (.pair (.int .i64) (.pair (.int .i64) (.pair (.int .i64) (.pair (.int .i64) (.unit)))))) :
  W311_7 ((((l.length:Int),(Wd l,(f,((0:Int),((),((),())))))),(z,(r,()))):Pat.D P311_7)=some (bif okL f l then .inl (((),((),())),(z,(r,()))) else .inr (((),((4:Int),())),(r,()))):=by
 have key:=lfix_ind (m311_7 S69.pre S69.F S66.pre S66.F) (fun x=>l.length-x.1.2.2.2.1.toNat)
  (fun x=>∃ i:Nat,i≤l.length∧okL f (l.take i)=true∧x=(((l.length:Int),(Wd l,(f,((i:Int),((),((),())))))),(z,(r,()))))
  (fun _=>bif okL f l then .inl (((),((),())),(z,(r,()))) else .inr (((),((4:Int),())),(r,()))) ?_ _ ⟨0,Nat.zero_le _,rfl,rfl⟩
 ·exact key
 intro L x hx hL
 obtain ⟨i,hi,hok,rfl⟩:=hx
 unfold h311_7
 rcases Nat.lt_or_ge i l.length with hlt | hge
 ·have hg:l.getD i 0=l[i]:=by simp [List.getD_eq_getElem?_getD,hlt]
  have hmem:l[i]∈l:=List.getElem_mem hlt
  have ha:=hl _ hmem
  have p0:=T66_eq f l[i] ha
  have e0:decide ((i:Int)<(l.length:Int))=true:=decide_eq_true (by omega)
  have e1:(decide ((0:Int)≤(i:Int))&&decide ((i:Int)<((Wd l).length:Int)))=true:=by rw [Wd_len,decide_eq_true (by omega),decide_eq_true (by omega)]; rfl
  have e2:(Wd l).getD (Int.toNat (i:Int)) 0=((l[i]:Nat):Int):=by rw [Int.toNat_natCast,Wd_getD,hg]
  have e3:IntKind.wrap .i64 ((i:Int)+1)=((i+1:Nat):Int):=by rw [wrapI (by omega)]; omega
  have htk:l.take (i+1)=l.take i++[l[i]]:=by rw [List.take_succ_eq_append_getElem hlt]
  dsimp only
  simp only [e0,e1,e2,e3,cond_true,pre66 p0,fun66 p0]
  by_cases hc:chk f l[i]=0
  ·rw [hc,bne_self_eq_false,cond_false]
   refine hL _ ⟨i+1,by omega,?_,rfl⟩ (by simp only [Int.toNat_natCast]; omega)
   unfold okL at hok ⊢
   rw [htk,List.all_append,hok,List.all_cons,hc]; rfl
  ·have h4:chk f l[i]=4:=(chk_cases hf _).resolve_left hc
   have hno:okL f l=false:=by
    unfold okL
    rw [List.all_eq_false]
    exact ⟨l[i],hmem,by rw [h4]; decide⟩
   rw [h4,hno]; rfl
 ·have e:i=l.length:=by omega
  subst e
  rw [List.take_length] at hok
  have e0:decide ((l.length:Int)<(l.length:Int))=false:=decide_eq_false (by omega)
  simp only [e0,cond_false]
  rw [hok]; rfl
noncomputable def chkL (f m:Int) (l:List Nat):Int:=if ¬ Fm f then 2 else if m<0∨m>5 then 3 else bif okL f l then 0 else 4
theorem T311_ok {f m:Int} (hf:Fm f) (l:List Nat) (hl:∀ a∈l,a<2^64) (hlen:l.length<1000):T311 (f,m,Wd l,())=some (rowOf f,chkL f m l,()):=by
 show t311 S69.pre S69.F S66.pre S66.F W311_7 f m (Wd l)=_
 unfold t311 chkL
 have p0:=T69_ok hf
 rw [if_neg (show ¬ ¬ Fm f from fun h=>h hf)]
 simp only [pre69 p0,fun69 p0,cond_true,bne_self_eq_false,cond_false]
 by_cases hm:m<0∨m>5
 ·have:(decide (m<0)||decide (m>5))=true:=by rw [Bool.or_eq_true,decide_eq_true_eq,decide_eq_true_eq]; exact hm
  rw [this,if_pos hm]; rfl
 ·have:(decide (m<0)||decide (m>5))=false:=by rw [Bool.or_eq_false_iff,decide_eq_false_iff_not,decide_eq_false_iff_not]; omega
  rw [this,if_neg hm,cond_false,Wd_len,W311_eq hf l hl hlen]
  cases okL f l <;> rfl
theorem T311_bad {f m:Int} (hf:¬ Fm f) (l:List Nat):T311 (f,m,Wd l,())=some ((0,0,0,0,()),2,()):=by
 show t311 S69.pre S69.F S66.pre S66.F W311_7 f m (Wd l)=_
 unfold t311
 have p0:=T69_bad hf
 simp only [pre69 p0,fun69 p0,cond_true]
 rfl
theorem T312_eq {f:Int} (hf:Fm f) (c:Int):T312 (f,c,())=some (bif c==1 then ((nanF f:Int),0,true,()) else bif (c==0||c==2||c==3||c==4) then ((nanF f:Int),1,true,()) else ((0:Int),0,false,())):=by
 show t312 S70.pre S70.F f c=_
 unfold t312
 have p0:=T70_ok hf
 simp only [pre70 p0,fun70 p0,cond_true]
 cases c==1 <;> cases c==0 <;> cases c==2 <;> cases c==3 <;> cases c==4 <;> rfl
theorem cls_below {f:Int} (hf:Fm f) (a:Nat):(cls f a==2||cls f a==3||cls f a==4)=(sF f a&&!zro f a&&!nan f a):=by
 have hfull:=full_pos hf
 unfold cls zro nan
 simp only [bne]
 cases h1:eF f a==fullF f <;> cases h2:mF f a==0 <;> cases sF f a <;> cases h3:eF f a==0 <;> cases mF f a/2^(fP f-2)==0 <;> first | rfl | (exfalso; rw [beq_iff_eq] at h1 h3; omega)
theorem cls_up {f:Int} (hf:Fm f) (a:Nat):(cls f a==9)=(isInf f a&&!sF f a):=by
 have hfull:=full_pos hf
 unfold cls isInf
 simp only [bne]
 cases h1:eF f a==fullF f <;> cases h2:mF f a==0 <;> cases sF f a <;> cases h3:eF f a==0 <;> cases mF f a/2^(fP f-2)==0 <;> first | rfl | (exfalso; rw [beq_iff_eq] at h1 h3; omega)
noncomputable def rootX (f m:Int) (n:Nat) (e:Int):Nat×Nat:=if e%2=1 then rootB f m (n*2*2^200) ((e-1)/2-100) else rootB f m (n*2^200) (e/2-100)
noncomputable def sqrtF (f m:Int) (a:Nat):Int×Int×Int×Unit :=
 if chkL f m [a]≠0 then (0,0,chkL f m [a],())
 else bif nan f a then ((nanF f:Int),(bif snan f a then 1 else 0),0,())
 else bif sF f a&&!zro f a then ((nanF f:Int),1,0,())
 else bif zro f a||isInf f a then ((a:Int),0,0,())
 else (((rootX f m (mant f a) (xpn f a)).1:Int),((rootX f m (mant f a) (xpn f a)).2:Int),0,())
theorem chkL_zero {f m:Int} {l:List Nat} (h:chkL f m l=0):Fm f∧(0≤m∧m≤5)∧∀ a∈l,chk f a=0:=by
 unfold chkL at h
 by_cases hf:Fm f
 ·rw [if_neg (show ¬ ¬ Fm f from fun h=>h hf)] at h
  by_cases hm:m<0∨m>5
  ·rw [if_pos hm] at h; cases h
  ·rw [if_neg hm] at h
   refine ⟨hf,by omega,?_⟩
   cases hk:okL f l
   ·rw [hk] at h; cases h
   ·unfold okL at hk
    rw [List.all_eq_true] at hk
    exact fun a ha=>by simpa using hk a ha
 ·rw [if_pos hf] at h; cases h
theorem rootX_prog {f m:Int} (hf:Fm f) {n:Nat} (h0:n≠0) (hn:n<2^64) (e:Int) (s:Nat) (hs:blen n+s=126∨blen n+s=127) (hpar:(e-s)%2=0) :
  rootX f m n e=rootB f m (n*2^s) ((e-s)/2)∧63≤blen (isq (n*2^s))∧n*2^s<2^128:=by
 have hPl:=fP_le hf
 have hb:=blen_bound hn
 have hb1:=blen_pos h0
 have hle:=blen_le h0
 have hlt:=blen_lt n
 have hlow:2^(2*62)≤n*2^s:=by
  have:2^(blen n-1)*2^s≤n*2^s:=Nat.mul_le_mul_right _ hle
  rw [← Nat.pow_add] at this
  exact Nat.le_trans (Nat.pow_le_pow_right (by decide) (by omega)) this
 have hbl:=isq_blen hlow
 have hX0:n*2^s≠0:=fun h=>by rw [h] at hlow; exact absurd hlow (by decide)
 have hup:n*2^s<2^128:=by
  have:n*2^s<2^blen n*2^s:=Nat.mul_lt_mul_of_pos_right hlt (Nat.two_pow_pos s)
  rw [← Nat.pow_add] at this
  exact Nat.lt_of_lt_of_le this (Nat.pow_le_pow_right (by decide) (by omega))
 refine ⟨?_,hbl,hup⟩
 unfold rootX
 by_cases ho:e%2=1
 ·rw [if_pos ho]
  obtain ⟨k,hk⟩:∃ k,s+2*k=201:=⟨(201-s)/2,by omega⟩
  have:=rootB_fine (f:=f) (m:=m) (k:=k) (E:=(e-s)/2) hf hX0 (by omega)
  rw [← this]
  have e1:n*2*2^200=n*2^s*(2^k*2^k):=by
   rw [Nat.mul_assoc n 2,show 2*2^200=2^201 by decide,← hk,← Nat.pow_add,show k+k=2*k by omega,Nat.pow_add,Nat.mul_assoc]
  rw [e1,show (e-1)/2-100=(e-(s:Int))/2-(k:Int) by omega]
 ·rw [if_neg ho]
  obtain ⟨k,hk⟩:∃ k,s+2*k=200:=⟨(200-s)/2,by omega⟩
  have:=rootB_fine (f:=f) (m:=m) (k:=k) (E:=(e-s)/2) hf hX0 (by omega)
  rw [← this]
  have e1:n*2^200=n*2^s*(2^k*2^k):=by
   rw [← hk,← Nat.pow_add,show k+k=2*k by omega,Nat.pow_add,Nat.mul_assoc]
  rw [e1,show e/2-100=(e-(s:Int))/2-(k:Int) by omega]
theorem T318_eq (f m:Int) {a:Nat} (ha:a<2^64):T318 (f,m,(a:Int),())=some (sqrtF f m a):=by
 show t318 S311.pre S311.F S65.pre S65.F S312.pre S312.F S313.pre S313.F S314.pre S314.F S119.pre S119.F S317.pre S317.F S122.pre S122.F f m a=_
 unfold t318 sqrtF
 rw [show ((a:Int)::[])=Wd [a] from rfl]
 by_cases hf:Fm f
 case neg =>
  have p0:=T311_bad (m:=m) hf [a]
  have e0:chkL f m [a]=2:=by unfold chkL; rw [if_pos hf]
  rw [e0]
  simp only [pre311 p0,fun311 p0,cond_true]
  rfl
 have p0:=T311_ok (m:=m) hf [a] (fun b hb=>by rw [List.mem_singleton] at hb; omega) (show (1:Nat)<1000 by decide)
 by_cases hk:chkL f m [a]≠0
 ·rw [if_pos hk]
  have:(chkL f m [a] != 0)=true:=bne_iff_ne.2 hk
  simp only [pre311 p0,fun311 p0,cond_true,this]
 have hk:chkL f m [a]=0:=Classical.not_not.1 hk
 obtain ⟨_,hm,hc⟩:=chkL_zero hk
 have h:=hc a (List.mem_singleton.2 rfl)
 rw [if_neg (show ¬ chkL f m [a]≠0 from fun h=>h hk)]
 rw [hk] at p0
 have p1:=T65_ok ha h
 have p2:=T312_eq hf (cls f a)
 have hcn:=cls_nan f a
 have hcs:=cls_snan f a
 have hcb:=cls_below hf a
 have hcz:=cls_zro hf a
 have hcu:=cls_up hf a
 simp only [pre311 p0,fun311 p0,cond_true,bne_self_eq_false,cond_false,pre65 p1,fun65 p1,pre312 p2,fun312 p2]
 cases hn:nan f a
 case true =>
  cases hs:snan f a
  ·rw [hs] at hcs
   rw [hn,hcs,Bool.or_false] at hcn
   rw [hcn]; rfl
  ·rw [hs] at hcs
   have h1:(cls f a==1)=false:=by
    rw [beq_iff_eq] at hcs
    rw [hcs]; rfl
   rw [h1,hcs]; rfl
 rw [hn,Bool.or_eq_false_iff] at hcn
 rw [hn,Bool.not_false,Bool.and_true] at hcb
 rw [hcn.1,hcn.2,Bool.false_or]
 simp only [cond_false]
 rw [hcb]
 cases hb:sF f a&&!zro f a
 case true=>rfl
 simp only [cond_false]
 have e1:((cls f a==9)||(cls f a==6)||(cls f a==5))=(zro f a||isInf f a):=by
  rw [Bool.or_assoc,Bool.or_comm (cls f a==6),hcz,hcu]
  cases hz:zro f a
  ·rw [hz,Bool.not_false,Bool.and_true] at hb
   rw [hb]; cases isInf f a <;> rfl
  ·rw [Bool.or_true,Bool.true_or]
 rw [e1]
 cases hzi:zro f a||isInf f a
 case true=>rfl
 simp only [cond_false]
 rw [Bool.or_eq_false_iff] at hzi
 have h0:=zro_mant hzi.1
 have hml:=mant_lt hf a
 have hx:=xpn_bound hf a
 have h64:mant f a<2^64:=Nat.lt_of_lt_of_le hml (Nat.pow_le_pow_right (by decide) (by decide))
 have hbl:=blen_bound hml
 have hbl1:=blen_pos h0
 have p3:=T313_eq h
 have p4:=T314_lo h64
 have hWi:((0:Int),((mant f a:Int),()))=Wi (mant f a):=by
  unfold Wi
  rw [Nat.div_eq_of_lt h64,Nat.mod_eq_of_lt h64]; rfl
 rw [hWi] at p4
 generalize hs:126-blen (mant f a)=s at *
 have e12:IntKind.wrap .i64 ((126:Int)-(blen (mant f a):Int))=(s:Int):=by rw [wrapI (by omega)]; omega
 have e11:IntKind.wrap .i64 ((s:Int)+1)=((s+1:Nat):Int):=by rw [wrapI (by omega)]; omega
 have e13:IntKind.wrap .i64 (xpn f a-(s:Int))=xpn f a-(s:Int):=wrapI (by omega)
 have e14:IntKind.wrap .i64 (xpn f a-((s+1:Nat):Int))=xpn f a-((s+1:Nat):Int):=wrapI (by omega)
 have go:∀ t:Nat,(blen (mant f a)+t=126∨blen (mant f a)+t=127)→(xpn f a-t)%2=0 →
   T119 (Wi (mant f a),(t:Int),())=some (Wi (mant f a*2^t),()) ∧
   T317 (Wi (mant f a*2^t),())=some ((isq (mant f a*2^t):Int),decide (isq (mant f a*2^t)*isq (mant f a*2^t)=mant f a*2^t),()) ∧
   quoI .i64 (xpn f a-(t:Int)) 2=(xpn f a-(t:Int))/2 ∧
   T122 (f,m,false,((0:Int),((isq (mant f a*2^t):Int),())),(xpn f a-(t:Int))/2,!decide (isq (mant f a*2^t)*isq (mant f a*2^t)=mant f a*2^t),()) =
    some (((rootX f m (mant f a) (xpn f a)).1:Int),((rootX f m (mant f a) (xpn f a)).2:Int),0,()):=fun t ht hp=>by
  obtain ⟨r1,r2,r3⟩:=rootX_prog (m:=m) hf h0 h64 (xpn f a) t ht hp
  have q1:=T119_eq (mant f a) t (Nat.lt_of_lt_of_le h64 (Nat.pow_le_pow_right (by decide) (by decide)))
  rw [Nat.mod_eq_of_lt r3] at q1
  have hq:quoI .i64 (xpn f a-(t:Int)) 2=(xpn f a-(t:Int))/2:=by
   have:=quo2 ((xpn f a-(t:Int))/2) (by omega)
   rw [show 2*((xpn f a-(t:Int))/2)=xpn f a-(t:Int) by omega] at this
   exact this
  have hr64:isq (mant f a*2^t)<2^64:=isq_bound (k:=64) r3
  have hr0:isq (mant f a*2^t)≠0:=fun h=>by
   rw [h] at r2
   have:blen 0=0:=rfl
   omega
  have hPl:=fP_le hf
  have q4:=T122_eq hf hm false (isq (mant f a*2^t)) (Nat.lt_of_lt_of_le hr64 (Nat.pow_le_pow_right (by decide) (by decide))) ((xpn f a-(t:Int))/2) (by omega) (!decide (isq (mant f a*2^t)*isq (mant f a*2^t)=mant f a*2^t)) (fun _=>by omega)
  rw [if_neg hr0,← rootB_mark hf (by omega),← r1] at q4
  have hWr:Wi (isq (mant f a*2^t))=((0:Int),((isq (mant f a*2^t):Int),())):=by
   unfold Wi
   rw [Nat.div_eq_of_lt hr64,Nat.mod_eq_of_lt hr64]; rfl
  rw [hWr] at q4
  exact ⟨q1,T317_eq _ r3,hq,q4⟩
 simp only [pre313 p3,fun313 p3,pre314 p4,fun314 p4,cond_true,e12,e11,e13,e14,tmodP,hWi]
 by_cases ho:(xpn f a-(s:Int))%2=1
 ·obtain ⟨q1,q2,q3,q4⟩:=go (s+1) (by omega) (by omega)
  rw [decide_eq_true ho]
  simp only [pre119 q1,fun119 q1,pre317 q2,fun317 q2,q3,pre122 q4,fun122 q4,cond_true]
 ·obtain ⟨q1,q2,q3,q4⟩:=go s (by omega) (by omega)
  rw [decide_eq_false ho]
  simp only [pre119 q1,fun119 q1,pre317 q2,fun317 q2,q3,pre122 q4,fun122 q4,cond_true,cond_false]
end VL
namespace VL
open Go Vx
theorem isq_self (n:Nat):isq n≤n:=by
 have:=isq_le n
 rcases Nat.eq_zero_or_pos (isq n) with h | h
 ·omega
 ·have:=Nat.le_mul_of_pos_left (isq n) h
  omega
end VL
namespace VL
open Go Vx
theorem dig_test {q r yn1 yn0 u u1:Nat} (hq:q*yn1+r=u):(2^32*r+u1<q*yn0)↔u*2^32+u1<q*(yn1*2^32+yn0):=by
 rw [Nat.mul_add,← Nat.mul_assoc,← hq,Nat.add_mul]
 omega
theorem dig_cond {q r yn1 yn0 u u1:Nat} (hq:q*yn1+r=u) (hr:r<2^32) (h0:yn0<2^32) (hu1:u1<2^32) (hlt:u<yn1*2^32+yn0) :
  (decide ((q:Int)≥4294967296)||decide (IntKind.wrap .u64 ((q:Int)*(yn0:Int))>IntKind.wrap .u64 (IntKind.wrap .u64 ((4294967296:Int)*(r:Int))+(u1:Int))))=decide (u*2^32+u1<q*(yn1*2^32+yn0)):=by
 rcases Nat.lt_or_ge q (2^32) with h | h
 ·have hm:q*yn0≤(2^32-1)*(2^32-1):=Nat.mul_le_mul (by omega) (by omega)
  have e1:IntKind.wrap .u64 ((q:Int)*(yn0:Int))=((q*yn0:Nat):Int):=wu_mul _ _ (by omega)
  have e2:IntKind.wrap .u64 ((4294967296:Int)*(r:Int))=((2^32*r:Nat):Int):=wu_mul (2^32) r (by omega)
  have e3:IntKind.wrap .u64 (((2^32*r:Nat):Int)+(u1:Int))=((2^32*r+u1:Nat):Int):=wu_add _ _ (by omega)
  have e4:decide ((q:Int)≥4294967296)=false:=decide_eq_false (by omega)
  rw [e1,e2,e3,e4,Bool.false_or,Bool.eq_iff_iff,decide_eq_true_eq,decide_eq_true_eq,← dig_test hq]
  omega
 ·have e4:decide ((q:Int)≥4294967296)=true:=decide_eq_true (by omega)
  have hm:2^32*(yn1*2^32+yn0)≤q*(yn1*2^32+yn0):=Nat.mul_le_mul_right _ h
  rw [e4,Bool.true_or,decide_eq_true (by omega)]
theorem dig_start {yn1 yn0 u u1:Nat} (hy:0<yn1) (hu1:u1<2^32):u*2^32+u1<(u/yn1+1)*(yn1*2^32+yn0):=by
 have h1:u<(u/yn1+1)*yn1:=by
  have:=Nat.lt_div_mul_add hy (a:=u)
  rw [Nat.add_mul,Nat.one_mul]; exact this
 rw [Nat.mul_add,← Nat.mul_assoc]
 omega
theorem dig_down {q r yn1 yn0 u u1:Nat} (hq:q*yn1+r=u) (h:u*2^32+u1<q*(yn1*2^32+yn0)):1≤q∧(q-1)*yn1+(r+yn1)=u:=by
 have h1:1≤q:=by
  rcases Nat.eq_zero_or_pos q with h0 | h0
  ·rw [h0,Nat.zero_mul] at h; omega
  ·exact h0
 refine ⟨h1,?_⟩
 obtain ⟨p,rfl⟩:∃ p,q=p+1:=⟨q-1,by omega⟩
 rw [Nat.add_mul,Nat.one_mul] at hq
 rw [show p+1-1=p by omega]
 omega
theorem dig_break {q r yn1 yn0 u u1:Nat} (hq:q*yn1+r=u) (hr:2^32≤r) (h0:yn0<2^32) (hlt:u<yn1*2^32+yn0):q*(yn1*2^32+yn0)≤u*2^32+u1:=by
 have h1:q*yn1<2^32*yn1:=by omega
 have h2:q<2^32:=Nat.lt_of_mul_lt_mul_right h1
 have h3:q*yn0≤2^32*(2^32-1):=Nat.mul_le_mul (by omega) (by omega)
 have h4:¬ 2^32*r+u1<q*yn0:=by omega
 rw [dig_test hq] at h4
 omega
theorem div_is {a b q:Nat} (h1:q*b≤a) (h2:a<(q+1)*b):a/b=q:=Nat.div_eq_of_lt_le h1 h2
theorem W328a_eq {u u1 yn0 yn1:Nat} (h0:yn0<2^32) (h1:yn1<2^32) (hy:0<yn1) (hu1:u1<2^32) (hlt:u<yn1*2^32+yn0) (u0 y s:Int) :
  W328_17 ((((u%yn1:Nat):Int),((u:Int),((u1:Int),((yn0:Int),((yn1:Int),(((u/yn1:Nat):Int),(u0,(y,(s,()))))))))),()) =
   some (.inl (((u:Int),((u1:Int),((yn0:Int),((yn1:Int),((((u*2^32+u1)/(yn1*2^32+yn0):Nat):Int),(u0,(y,(s,())))))))),())):=by
 have key:=lfix_ind (m328_17 S327.pre S327.F) (fun x=>x.1.2.2.2.2.2.1.toNat)
  (fun x=>∃ q r:Nat,q*yn1+r=u∧r<2^32∧u*2^32+u1<(q+1)*(yn1*2^32+yn0)∧x=(((r:Int),((u:Int),((u1:Int),((yn0:Int),((yn1:Int),((q:Int),(u0,(y,(s,()))))))))),()))
  (fun _=>.inl (((u:Int),((u1:Int),((yn0:Int),((yn1:Int),((((u*2^32+u1)/(yn1*2^32+yn0):Nat):Int),(u0,(y,(s,())))))))),())) ?_ _
  ⟨u/yn1,u%yn1,by rw [Nat.mul_comm]; exact Nat.div_add_mod u yn1,Nat.lt_trans (Nat.mod_lt _ hy) h1,dig_start hy hu1,rfl⟩
 ·exact key
 intro L x hx hL
 obtain ⟨q,r,hq,hr,hup,rfl⟩:=hx
 unfold h328_17
 have hqu:q≤u:=by
  have:=Nat.le_mul_of_pos_right q hy
  omega
 dsimp only
 rw [dig_cond hq hr h0 hu1 hlt]
 by_cases hc:u*2^32+u1<q*(yn1*2^32+yn0)
 ·obtain ⟨d1,d2⟩:=dig_down hq hc
  have e1:IntKind.wrap .u64 ((q:Int)-1)=((q-1:Nat):Int):=by rw [wrapU (by omega)]; omega
  have e2:IntKind.wrap .u64 ((r:Int)+(yn1:Int))=((r+yn1:Nat):Int):=wu_add _ _ (by omega)
  rw [decide_eq_true hc,cond_true,e1,e2]
  by_cases hb:2^32≤r+yn1
  ·have e3:decide (((r+yn1:Nat):Int)≥4294967296)=true:=decide_eq_true (by omega)
   rw [e3,cond_true]
   have:=dig_break (u1:=u1) d2 hb h0 hlt
   rw [div_is this (by rw [show q-1+1=q by omega]; exact hc)]
  ·have e3:decide (((r+yn1:Nat):Int)≥4294967296)=false:=decide_eq_false (by omega)
   rw [e3,cond_false]
   exact hL _ ⟨q-1,r+yn1,d2,by omega,by rw [show q-1+1=q by omega]; exact hc,rfl⟩ (by simp only [Int.toNat_natCast]; omega)
 ·rw [decide_eq_false hc,cond_false,div_is (by omega) hup]
theorem W328b_eq {u u1 yn0 yn1:Nat} (h0:yn0<2^32) (h1:yn1<2^32) (hy:0<yn1) (hu1:u1<2^32) (hlt:u<yn1*2^32+yn0) (q1 y s:Int) :
  W328_24 (((yn0:Int),(((u%yn1:Nat):Int),((yn1:Int),(q1,((u:Int),((u1:Int),(((u/yn1:Nat):Int),(y,(s,()))))))))),()) =
   some (.inl ((q1,((u:Int),((u1:Int),((((u*2^32+u1)/(yn1*2^32+yn0):Nat):Int),(y,(s,())))))),())):=by
 have key:=lfix_ind (m328_24 S327.pre S327.F) (fun x=>x.1.2.2.2.2.2.2.1.toNat)
  (fun x=>∃ q r:Nat,q*yn1+r=u∧r<2^32∧u*2^32+u1<(q+1)*(yn1*2^32+yn0)∧x=(((yn0:Int),((r:Int),((yn1:Int),(q1,((u:Int),((u1:Int),((q:Int),(y,(s,()))))))))),()))
  (fun _=>.inl ((q1,((u:Int),((u1:Int),((((u*2^32+u1)/(yn1*2^32+yn0):Nat):Int),(y,(s,())))))),())) ?_ _
  ⟨u/yn1,u%yn1,by rw [Nat.mul_comm]; exact Nat.div_add_mod u yn1,Nat.lt_trans (Nat.mod_lt _ hy) h1,dig_start hy hu1,rfl⟩
 ·exact key
 intro L x hx hL
 obtain ⟨q,r,hq,hr,hup,rfl⟩:=hx
 unfold h328_24
 have hqu:q≤u:=by
  have:=Nat.le_mul_of_pos_right q hy
  omega
 dsimp only
 rw [dig_cond hq hr h0 hu1 hlt]
 by_cases hc:u*2^32+u1<q*(yn1*2^32+yn0)
 ·obtain ⟨d1,d2⟩:=dig_down hq hc
  have e1:IntKind.wrap .u64 ((q:Int)-1)=((q-1:Nat):Int):=by rw [wrapU (by omega)]; omega
  have e2:IntKind.wrap .u64 ((r:Int)+(yn1:Int))=((r+yn1:Nat):Int):=wu_add _ _ (by omega)
  rw [decide_eq_true hc,cond_true,e1,e2]
  by_cases hb:2^32≤r+yn1
  ·have e3:decide (((r+yn1:Nat):Int)≥4294967296)=true:=decide_eq_true (by omega)
   rw [e3,cond_true]
   have:=dig_break (u1:=u1) d2 hb h0 hlt
   rw [div_is this (by rw [show q-1+1=q by omega]; exact hc)]
  ·have e3:decide (((r+yn1:Nat):Int)≥4294967296)=false:=decide_eq_false (by omega)
   rw [e3,cond_false]
   exact hL _ ⟨q-1,r+yn1,d2,by omega,by rw [show q-1+1=q by omega]; exact hc,rfl⟩ (by simp only [Int.toNat_natCast]; omega)
 ·rw [decide_eq_false hc,cond_false,div_is (by omega) hup]
theorem div_digits {A y u32 u1 u0 q1 r1 q0 r0:Nat} (hA:A=(u32*2^32+u1)*2^32+u0) (h1:u32*2^32+u1=q1*y+r1) (h2:r1*2^32+u0=q0*y+r0) (hr:r0<y) :
  A/y=q1*2^32+q0∧A%y=r0:=by
 have e:A=(q1*2^32+q0)*y+r0:=by
  rw [hA,h1,Nat.add_mul,Nat.add_mul,Nat.mul_right_comm]; omega
 have hy:0<y:=by omega
 rw [e,Nat.mul_comm _ y]
 exact ⟨by rw [Nat.mul_add_div hy,Nat.div_eq_of_lt hr,Nat.add_zero],by rw [Nat.mul_add_mod,Nat.mod_eq_of_lt hr]⟩
theorem split64 (U X:Nat):U*2^64+X=(U*2^32+X/2^32)*2^32+X%2^32:=by omega
theorem orL {a b k:Nat} (ha:a<2^k) (h:b*2^k+a<2^64):orI .u64 ((b*2^k:Nat):Int) (a:Int)=((b*2^k+a:Nat):Int):=by
 rw [orN2 (by omega) (by omega)]
 congr 1
 have:=Nat.two_pow_add_eq_or_of_lt ha b
 rw [Nat.mul_comm b,← this]
theorem T327_eq {n:Nat} (hn:n<2^64):T327 ((n:Int),())=some (((64-blen n:Nat):Int),()):=by
 show t327 S178.pre S178.F (n:Int)=_
 unfold t327
 have p0:=T178_eq n hn
 have hb:=blen_bound hn
 have e:IntKind.wrap .i64 ((64:Int)-(blen n:Int))=((64-blen n:Nat):Int):=by rw [wrapI (by omega)]; omega
 simp only [pre178 p0,fun178 p0,cond_true,e]
theorem T328_eq {hi lo y:Nat} (hlo:lo<2^64) (hy:y<2^64) (hlt:hi<y) :
  T328 ((hi:Int),(lo:Int),(y:Int),())=some ((((hi*2^64+lo)/y:Nat):Int),(((hi*2^64+lo)%y:Nat):Int),()):=by
 have hy0:0<y:=by omega
 show t328 S327.pre S327.F W328_17 W328_24 (hi:Int) (lo:Int) (y:Int)=_
 unfold t328
 have hbl:=blen_bound hy
 have hbl1:=blen_pos (n:=y) (by omega)
 have p0:=T327_eq hy
 generalize hs:64-blen y=s at *
 have e9:IntKind.wrap .u64 (s:Int)=(s:Int):=wu_id _ (by omega)
 have e10:IntKind.wrap .u64 ((64:Int)-(s:Int))=((64-s:Nat):Int):=by rw [wrapU (by omega)]; omega
 have g0:((y:Int)==0)=false:=beq0_f _ (by omega)
 have g1:decide ((y:Int)≤(hi:Int))=false:=decide_eq_false (by omega)
 have g2:((y:Int) != 0)=true:=bne0_t _ (by omega)
 dsimp only
 simp only [g0,g1,g2,cond_false,cond_true,pre327 p0,fun327 p0,e9,e10]
 by_cases hh:hi=0
 ·subst hh
  have e1:(((0:Nat):Int)==0)=true:=rfl
  rw [e1,cond_true,quoM _ _ hlo hy0,Nat.zero_mul,Nat.zero_add]
  rfl
 have e1:((hi:Int)==0)=false:=beq0_f _ hh
 rw [e1,cond_false]
 have hp:=Nat.two_pow_pos s
 have hyl:=blen_le (n:=y) (by omega)
 have hyu:=blen_lt y
 have hY1:y*2^s<2^64:=by
  have:y*2^s<2^blen y*2^s:=Nat.mul_lt_mul_of_pos_right hyu hp
  rw [← Nat.pow_add,show blen y+s=64 by omega] at this
  exact this
 have hY2:2^63≤y*2^s:=by
  have:2^(blen y-1)*2^s≤y*2^s:=Nat.mul_le_mul_right _ hyl
  rw [← Nat.pow_add,show blen y-1+s=63 by omega] at this
  exact this
 have hH:hi*2^s<y*2^s:=Nat.mul_lt_mul_of_pos_right hlt hp
 have hlos:lo/2^(64-s)<2^s:=by
  rw [Nat.div_lt_iff_lt_mul (Nat.two_pow_pos _),← Nat.pow_add,show s+(64-s)=64 by omega]
  exact hlo
 have e264:2^64=2^s*2^(64-s):=by rw [← Nat.pow_add]; congr 1; omega
 have hU:hi*2^s+lo/2^(64-s)<y*2^s:=by
  have h1:(hi+1)*2^s≤y*2^s:=Nat.mul_le_mul_right _ hlt
  rw [Nat.add_mul,Nat.one_mul] at h1
  omega
 have hsc:(hi*2^64+lo)*2^s=(hi*2^s+lo/2^(64-s))*2^64+lo*2^s%2^64:=by
  have h1:lo*2^s=lo*2^s/2^64*2^64+lo*2^s%2^64:=by
   have:=Nat.div_add_mod (lo*2^s) (2^64)
   omega
  have h2:lo*2^s/2^64=lo/2^(64-s):=by
   rw [e264,Nat.mul_comm lo,Nat.mul_div_mul_left _ _ hp]
  rw [h2] at h1
  rw [Nat.add_mul,Nat.add_mul,Nat.mul_right_comm]
  omega
 have s1:=shlN hi s (by omega)
 have s2:=shrN lo (64-s) (by omega)
 have s3:=shlN y s (by omega)
 have s4:=shlN lo s (by omega)
 rw [Nat.mod_eq_of_lt (by omega)] at s1 s3
 have hY32:y*2^s/2^32*2^32+y*2^s%2^32=y*2^s:=by omega
 have hdiv:(hi*2^64+lo)*2^s/(y*2^s)=(hi*2^64+lo)/y:=Nat.mul_div_mul_right _ _ hp
 have hmod:(hi*2^64+lo)*2^s%(y*2^s)=(hi*2^64+lo)%y*2^s:=Nat.mul_mod_mul_right _ _ _
 have hX:lo*2^s%2^64<2^64:=Nat.mod_lt _ (by decide)
 have s5:=orL (b:=hi) hlos (by omega)
 rw [s1,s2,s3,s4,s5]
 have hq64:(hi*2^64+lo)/y<2^64:=by
  rw [Nat.div_lt_iff_lt_mul hy0]
  have:(hi+1)*2^64≤y*2^64:=Nat.mul_le_mul_right _ hlt
  omega
 rw [hsc] at hdiv hmod
 generalize hi*2^s+lo/2^(64-s)=U at *
 generalize lo*2^s%2^64=X at *
 generalize hYd:y*2^s=Y at *
 rw [s32 Y,s32 X,a32 hY1,a32 hX]
 have hYY1:Y/2^32<2^32:=by omega
 have hYY0:Y%2^32<2^32:=by omega
 have hYp:0<Y/2^32:=by omega
 have g3:(((Y/2^32:Nat):Int) != 0)=true:=bne0_t _ (by omega)
 have hrem:∀ V:Nat,V<2^64→IntKind.wrap .u64 ((V:Int)-IntKind.wrap .u64 (((V/(Y/2^32):Nat):Int)*((Y/2^32:Nat):Int)))=((V%(Y/2^32):Nat):Int):=fun V hV=>by
  have hdm:=Nat.div_add_mod V (Y/2^32)
  rw [Nat.mul_comm] at hdm
  rw [wu_mul _ _ (by omega)]
  generalize V/(Y/2^32)*(Y/2^32)=z at *
  generalize V%(Y/2^32)=w at *
  rw [wrapU (by omega)]
  omega
 rw [g3,cond_true,quoM _ _ (by omega) hYp,hrem U (by omega)]
 have w1:=W328a_eq hYY0 hYY1 hYp (show X/2^32<2^32 by omega) (u:=U) (by omega) ((X%2^32:Nat):Int) (Y:Int) (s:Int)
 rw [w1,hY32]
 show (bif (((Y/2^32:Nat):Int) != 0) then _ else _)=_
 rw [g3,cond_true]
 dsimp only
 have hd1:=Nat.div_add_mod (U*2^32+X/2^32) Y
 have hr1:=Nat.mod_lt (U*2^32+X/2^32) (show 0<Y by omega)
 have hq1:(U*2^32+X/2^32)/Y<2^32:=by
  rw [Nat.div_lt_iff_lt_mul (by omega)]
  have:(U+1)*2^32≤Y*2^32:=Nat.mul_le_mul_right _ hU
  omega
 have hrem2:∀ a b c q r:Nat,a*2^32+b=Y*q+r→r<Y→IntKind.wrap .u64 (IntKind.wrap .u64 (IntKind.wrap .u64 ((a:Int)*4294967296)+(b:Int))-IntKind.wrap .u64 ((q:Int)*(Y:Int)))=(r:Int):=fun a b _ q r h1 h2=>by
  have e:(q:Int)*(Y:Int)=((Y*q:Nat):Int):=by rw [Int.natCast_mul,Int.mul_comm]
  rw [e]
  generalize Y*q=z at *
  show ((((a:Int)*4294967296)%18446744073709551616+(b:Int))%18446744073709551616-((z:Int)%18446744073709551616))%18446744073709551616=(r:Int)
  omega
 rw [hrem2 U (X/2^32) 0 _ _ hd1.symm hr1]
 clear w1
 obtain ⟨q1,hQ1⟩:∃ q,q=(U*2^32+X/2^32)/Y:=⟨_,rfl⟩
 obtain ⟨r1,hR1⟩:∃ q,q=(U*2^32+X/2^32)%Y:=⟨_,rfl⟩
 rw [← hQ1] at hd1 hq1
 rw [← hR1] at hd1 hr1
 rw [← hQ1,← hR1]
 rw [quoM _ _ (by omega) hYp,hrem r1 (by omega)]
 have w2:=W328b_eq hYY0 hYY1 hYp (show X%2^32<2^32 by omega) (u:=r1) (by omega) (q1:Int) (Y:Int) (s:Int)
 rw [w2,hY32]
 show some (_,(_,()))=_
 dsimp only
 have hd2:=Nat.div_add_mod (r1*2^32+X%2^32) Y
 have hr2:=Nat.mod_lt (r1*2^32+X%2^32) (show 0<Y by omega)
 have hq2:(r1*2^32+X%2^32)/Y<2^32:=by
  rw [Nat.div_lt_iff_lt_mul (by omega)]
  have:(r1+1)*2^32≤Y*2^32:=Nat.mul_le_mul_right _ hr1
  omega
 rw [hrem2 r1 (X%2^32) 0 _ _ hd2.symm hr2]
 obtain ⟨q0,hQ0⟩:∃ q,q=(r1*2^32+X%2^32)/Y:=⟨_,rfl⟩
 obtain ⟨r0,hR0⟩:∃ q,q=(r1*2^32+X%2^32)%Y:=⟨_,rfl⟩
 rw [← hQ0] at hd2 hq2
 rw [← hR0] at hd2 hr2
 rw [← hQ0,← hR0]
 obtain ⟨f1,f2⟩:=div_digits (A:=U*2^64+X) (y:=Y) (u32:=U) (u1:=X/2^32) (u0:=X%2^32) (split64 U X) (by rw [Nat.mul_comm q1]; exact hd1.symm) (by rw [Nat.mul_comm q0]; exact hd2.symm) hr2
 rw [hdiv] at f1
 rw [hmod] at f2
 have e5:IntKind.wrap .u64 (IntKind.wrap .u64 ((q1:Int)*4294967296)+(q0:Int))=(((hi*2^64+lo)/y:Nat):Int):=by
  rw [f1]
  show ((((q1:Int)*4294967296)%18446744073709551616)+(q0:Int))%18446744073709551616=_
  omega
 have e6:shrI .u64 (r0:Int) (s:Int)=(((hi*2^64+lo)%y:Nat):Int):=by
  rw [shrN _ _ (by omega),← f2,Nat.mul_div_cancel _ hp]
 rw [e5,e6]
end VL
namespace VL
open Go Vx
theorem lfix_ex {D Y:Type} {Φ:{R:Type}→(D→Option R)→(Y→Option R)→D→Option R} (hp:Par Φ) (μ:D→Nat) (I:D→Prop) (Q:Y→Prop)
  (h:∀ (L:D→Option Y) x,I x→(∀ x',I x'→μ x'<μ x→∃ y,L x'=some y∧Q y)→∃ y,Φ L some x=some y∧Q y):∀ x,I x→∃ y,lfix (fun L=>Φ L some) x=some y∧Q y:=by
 have key:∀ m x,I x→μ x<m→∃ y,iter (fun L=>Φ L some) m x=some y∧Q y:=by
  intro m
  induction m with
  | zero=>intro x _ h; omega
  | succ m ih =>
   intro x hx hm
   simp only [iter]
   exact h _ x hx fun x' hx' hlt=>ih x' hx' (by omega)
 intro x hx
 obtain ⟨y,hy,hQ⟩:=key (μ x+1) x hx (by omega)
 exact ⟨y,lfix_of hp hy,hQ⟩
theorem pow_up (i:Nat):(2^64)^(i+1)=(2^64)^i*2^64:=Nat.pow_succ ..
theorem win_get {A us C:List Nat} {i:Nat} (h:i<us.length):(Wd (A++us++C)).getD (A.length+i) 0=((us.getD i 0:Nat):Int):=by
 rw [Wd_getD]
 congr 1
 rw [List.getD_eq_getElem?_getD,List.getD_eq_getElem?_getD,List.append_assoc,List.getElem?_append_right (by omega),Nat.add_sub_cancel_left,List.getElem?_append_left h]
theorem win_set {A us C:List Nat} {i v:Nat} (h:i<us.length):(Wd (A++us++C)).set (A.length+i) (v:Int)=Wd (A++us.set i v++C):=by
 rw [Wd_set]
 congr 1
 rw [List.append_assoc,List.set_append_right _ _ (by omega),Nat.add_sub_cancel_left,List.set_append_left _ _ h,← List.append_assoc]
theorem digits_eq {out us:List Nat} {i:Nat} (hol:out.length=i) (hi:i<us.length):(out++us.drop i).getD i 0=us.getD i 0:=by
 rw [List.getD_eq_getElem?_getD,List.getD_eq_getElem?_getD,List.getElem?_append_right (by omega),hol,Nat.sub_self,List.getElem?_drop,Nat.add_zero]
theorem mul_word {x y c:Nat} (hx:x<2^64) (hy:y<2^64) (hc:c<2^64) :
  x*y+c=2^64*(x*y/2^64+(x*y%2^64+c)/2^64)+(x*y%2^64+c)%2^64∧x*y/2^64+(x*y%2^64+c)/2^64<2^64:=by
 have:x*y≤(2^64-1)*(2^64-1):=Nat.mul_le_mul (by omega) (by omega)
 generalize x*y=z at *
 omega
theorem sub_word {d l b:Nat} (hd:d<2^64) (hl:l<2^64) (hb:b≤1) :
  (d+2^64-l-b)%2^64+l+b=d+2^64*(if d<l+b then 1 else 0)∧(d+2^64-l-b)%2^64<2^64∧(if d<l+b then 1 else 0)≤1:=by
 split <;> omega
theorem take_step {P U V O x y c b d o l c' b':Nat} (h:O+x*V=U+P*(c+b)) (h1:x*y+c=2^64*c'+l) (h2:o+l+b=d+2^64*b') :
  O+P*o+x*(V+P*y)=U+P*d+P*2^64*(c'+b'):=by
 have h3:P*(c+b+o+x*y)=P*(d+2^64*(c'+b')):=by
  congr 1; omega
 rw [Nat.mul_add P,Nat.mul_add P,Nat.mul_add P d,← Nat.mul_assoc P (2^64)] at h3
 rw [Nat.mul_add x,Nat.mul_left_comm x P y]
 omega
theorem T330_eq (A us C v:List Nat) (hlen:us.length=v.length+1) (hu:∀ x∈us,x<2^64) (hv:∀ x∈v,x<2^64) (hn:v.length≤1000000) {x:Nat} (hx:x<2^64) :
  ∃ out:List Nat,out.length=us.length∧(∀ z∈out,z<2^64)∧nv (2^64) out+x*nv (2^64) v=nv (2^64) us+(if nv (2^64) us<x*nv (2^64) v then (2^64)^us.length else 0) ∧
   T330 ((Wd (A++us++C),(A.length,us.length)),(Wd v,((x:Int),())))=some (Wd (A++out++C),decide (nv (2^64) us<x*nv (2^64) v),()):=by
 show ∃ out:List Nat,_∧_∧_∧t330 S315.pre S315.F S155.pre S155.F S157.pre S157.F W330_3 (Wd (A++us++C),(A.length,us.length)) (Wd v) (x:Int)=_
 have key:=lfix_ex (m330_3 S315.pre S315.F S155.pre S155.F S157.pre S157.F) (fun s=>v.length-s.1.2.2.2.1.toNat)
  (fun s=>∃ (i:Nat) (out:List Nat) (c b:Nat),i≤v.length∧out.length=i∧(∀ z∈out,z<2^64)∧c<2^64∧b≤1∧nv (2^64) out+x*nv (2^64) (v.take i)=nv (2^64) (us.take i)+(2^64)^i*(c+b) ∧
   s=(((v.length:Int),(Wd v,((x:Int),((i:Int),(Wd v,((A.length,us.length),((c:Int),((b:Int),())))))))),(Wd (A++(out++us.drop i)++C),())))
  (fun y=>∃ (out:List Nat) (c b:Nat),out.length=v.length∧(∀ z∈out,z<2^64)∧c<2^64∧b≤1∧nv (2^64) out+x*nv (2^64) v=nv (2^64) (us.take v.length)+(2^64)^v.length*(c+b) ∧
   y=.inl ((Wd v,((A.length,us.length),((c:Int),((b:Int),())))),(Wd (A++(out++us.drop v.length)++C),()))) ?_
  (((v.length:Int),(Wd v,((x:Int),((0:Int),(Wd v,((A.length,us.length),((0:Int),((0:Int),())))))))),(Wd (A++us++C),()))
  ⟨0,[],0,0,Nat.zero_le _,rfl,(fun z hz=>by simp at hz),by decide,by decide,by simp [nv],rfl⟩
 ·obtain ⟨y,hy,out,c,b,k1,k2,k3,k4,k5,rfl⟩:=key
  have hy:W330_3 (((v.length:Int),(Wd v,((x:Int),((0:Int),(Wd v,((A.length,us.length),((0:Int),((0:Int),())))))))),(Wd (A++us++C),()))=_:=hy
  have hlt:v.length<us.length:=by omega
  have hwl:(out++us.drop v.length).length=us.length:=by simp [k1]; omega
  have hdg:=digits_eq (us:=us) k1 hlt
  have hg:=win_get (A:=A) (C:=C) (us:=out++us.drop v.length) (i:=v.length) (by omega)
  rw [hdg] at hg
  have hst:=fun z=>win_set (A:=A) (C:=C) (us:=out++us.drop v.length) (i:=v.length) (v:=z) (by omega)
  have hsd:=fun z=>set_drop (a:=us) (v:=z) k1 hlt
  have hd:=getD_lt (by decide) hu v.length
  obtain ⟨w1,w2,w3⟩:=sub_word (d:=us.getD v.length 0) (l:=c) (b:=b) hd k3 k4
  have q1:=subF (us.getD v.length 0) c b k4 hd k3
  have q2:=subP ((us.getD v.length 0:Nat):Int) (c:Int) b k4
  have hnx:=nv_take_next (2^64) us v.length
  rw [List.take_of_length_le (show us.length≤v.length+1 by omega)] at hnx
  have hnil:us.drop (v.length+1)=[]:=List.drop_of_length_le (by omega)
  unfold t330
  dsimp only
  rw [Wd_len,hy]
  have e0:decide ((0:Int)≤(v.length:Int))=true:=decide_eq_true (by omega)
  have e1:decide ((v.length:Int)<(us.length:Int))=true:=decide_eq_true (by omega)
  dsimp only [obind,obind2]
  simp only [e0,e1,Bool.and_self,cond_true,Wd_len,Int.toNat_natCast,hg,q2,q1,hst,hsd,hnil,List.append_nil]
  generalize us.getD v.length 0=d at *
  generalize (d+2^64-c-b)%2^64=o at *
  have hO:nv (2^64) (out++[o])+x*nv (2^64) v=nv (2^64) us+(2^64)^us.length*(if d<c+b then 1 else 0):=by
   rw [nv_snoc,k1,hnx,hlen,pow_up]
   have h3:(2^64)^v.length*(o+c+b)=(2^64)^v.length*(d+2^64*(if d<c+b then 1 else 0)):=by rw [w1]
   rw [Nat.mul_add,Nat.mul_add,Nat.mul_add _ d,← Nat.mul_assoc _ (2^64)] at h3
   rw [Nat.mul_add] at k5
   omega
  have hod:=app_lt k2 w2
  have hOl:=nv_lt (B:=2^64) (by decide) (out++[o]) hod
  have hol:(out++[o]).length=us.length:=by simp [k1]; omega
  rw [hol] at hOl
  by_cases hb:d<c+b
  ·rw [if_pos hb,Nat.mul_one] at hO
   have hlt2:nv (2^64) us<x*nv (2^64) v:=by omega
   refine ⟨out++[o],hol,hod,by rw [if_pos hlt2]; exact hO,?_⟩
   rw [if_pos hb,decide_eq_true hlt2]; rfl
  ·rw [if_neg hb,Nat.mul_zero,Nat.add_zero] at hO
   have hlt2:¬ nv (2^64) us<x*nv (2^64) v:=by omega
   refine ⟨out++[o],hol,hod,by rw [if_neg hlt2,Nat.add_zero]; exact hO,?_⟩
   rw [if_neg hb,decide_eq_false hlt2]; rfl
 intro L s hs hL
 obtain ⟨i,out,c,b,hi,hol,hod,hc,hb,hinv,rfl⟩:=hs
 unfold h330_3
 rcases Nat.lt_or_ge i v.length with hlt | hge
 ·have hy:=getD_lt (by decide) hv i
  have hd:=getD_lt (by decide) hu i
  have hnv:=nv_take_next (2^64) v i
  have hnu:=nv_take_next (2^64) us i
  have hwl:(out++us.drop i).length=us.length:=by simp [hol]; omega
  have hdg:=digits_eq (us:=us) hol (by omega)
  have hg:=win_get (A:=A) (C:=C) (us:=out++us.drop i) (i:=i) (by omega)
  rw [hdg] at hg
  have hst:=fun z=>win_set (A:=A) (C:=C) (us:=out++us.drop i) (i:=i) (v:=z) (by omega)
  have hsd:=fun z=>set_drop (a:=us) (v:=z) hol (by omega)
  have hgv:(Wd v).getD i 0=((v.getD i 0:Nat):Int):=Wd_getD v i
  generalize v.getD i 0=y at *
  generalize us.getD i 0=d at *
  have p0:=T315_eq hx hy
  obtain ⟨m1,m2⟩:=mul_word hx hy hc
  have q1:=addF (x*y%2^64) c 0
  have q2:=addP ((x*y%2^64:Nat):Int) (c:Int) 0 (by decide)
  rw [Nat.add_zero] at q1
  have hl:(x*y%2^64+c)%2^64<2^64:=Nat.mod_lt _ (by decide)
  have e5:=wu_add (x*y/2^64) ((x*y%2^64+c)/2^64) m2
  generalize x*y/2^64+(x*y%2^64+c)/2^64=c' at *
  generalize hlq:(x*y%2^64+c)%2^64=l at *
  obtain ⟨w1,w2,w3⟩:=sub_word (d:=d) (l:=l) (b:=b) hd hl hb
  have r1:=subF d l b hb hd hl
  have r2:=subP (d:Int) (l:Int) b hb
  generalize (d+2^64-l-b)%2^64=o at *
  generalize (if d<l+b then 1 else 0)=b' at *
  have hstep:=take_step (P:=(2^64)^i) hinv m1 w1
  have e0:decide ((i:Int)<(v.length:Int))=true:=decide_eq_true (by omega)
  have e1:decide ((0:Int)≤(i:Int))=true:=decide_eq_true (by omega)
  have e2:decide ((i:Int)<((us.length:Nat):Int))=true:=decide_eq_true (by omega)
  have e3:IntKind.wrap .i64 ((i:Int)+1)=((i+1:Nat):Int):=by rw [wrapI (by omega)]; omega
  have z0:((0:Nat):Int)=0:=rfl
  rw [z0] at q1 q2
  dsimp only
  simp only [e0,e1,e2,e3,cond_true,Bool.and_self,Wd_len,Int.toNat_natCast,hgv,hg,pre315 p0,fun315 p0,q1,q2,r1,r2,e5,hst,hsd]
  refine hL _ ⟨i+1,out++[o],c',b',by omega,by simp [hol],app_lt hod w2,m2,w3,?_,rfl⟩ (by simp only [Int.toNat_natCast]; omega)
  rw [nv_snoc,hol,hnv,hnu,pow_up]
  exact hstep
 ·have e:i=v.length:=by omega
  subst e
  have e0:decide ((v.length:Int)<(v.length:Int))=false:=decide_eq_false (by omega)
  simp only [e0,cond_false]
  rw [List.take_length] at hinv
  exact ⟨_,rfl,out,c,b,hol,hod,hc,hb,hinv,rfl⟩
end VL
namespace VL
open Go Vx
theorem back_step {P U V O y c d:Nat} (h:O+P*c=U+V):O+P*((d+y+c)%2^64)+P*2^64*((d+y+c)/2^64)=U+P*d+(V+P*y):=by
 have h1:P*((d+y+c)%2^64+2^64*((d+y+c)/2^64))=P*(d+y+c):=by rw [Nat.mod_add_div]
 rw [Nat.mul_add,Nat.mul_add P (d+y),Nat.mul_add,← Nat.mul_assoc P (2^64)] at h1
 omega
theorem T331_eq (A us C v:List Nat) (hlen:us.length=v.length+1) (hu:∀ x∈us,x<2^64) (hv:∀ x∈v,x<2^64) (hn:v.length≤1000000) :
  ∃ out:List Nat,out.length=us.length∧(∀ z∈out,z<2^64)∧nv (2^64) out+(if (2^64)^us.length≤nv (2^64) us+nv (2^64) v then (2^64)^us.length else 0)=nv (2^64) us+nv (2^64) v ∧
   T331 ((Wd (A++us++C),(A.length,us.length)),(Wd v,()))=some (Wd (A++out++C),decide ((2^64)^us.length≤nv (2^64) us+nv (2^64) v),()):=by
 show ∃ out:List Nat,_∧_∧_∧t331 S155.pre S155.F W331_3 (Wd (A++us++C),(A.length,us.length)) (Wd v)=_
 have key:=lfix_ex (m331_3 S155.pre S155.F) (fun s=>v.length-s.1.2.2.1.toNat)
  (fun s=>∃ (i:Nat) (out:List Nat) (c:Nat),i≤v.length∧out.length=i∧(∀ z∈out,z<2^64)∧c≤1∧nv (2^64) out+(2^64)^i*c=nv (2^64) (us.take i)+nv (2^64) (v.take i) ∧
   s=(((v.length:Int),(Wd v,((i:Int),(Wd v,((A.length,us.length),((c:Int),())))))),(Wd (A++(out++us.drop i)++C),())))
  (fun y=>∃ (out:List Nat) (c:Nat),out.length=v.length∧(∀ z∈out,z<2^64)∧c≤1∧nv (2^64) out+(2^64)^v.length*c=nv (2^64) (us.take v.length)+nv (2^64) v ∧
   y=.inl ((Wd v,((A.length,us.length),((c:Int),()))),(Wd (A++(out++us.drop v.length)++C),()))) ?_
  (((v.length:Int),(Wd v,((0:Int),(Wd v,((A.length,us.length),((0:Int),())))))),(Wd (A++us++C),()))
  ⟨0,[],0,Nat.zero_le _,rfl,(fun z hz=>by simp at hz),by decide,by simp [nv],rfl⟩
 ·obtain ⟨y,hy,out,c,k1,k2,k3,k5,rfl⟩:=key
  have hy:W331_3 (((v.length:Int),(Wd v,((0:Int),(Wd v,((A.length,us.length),((0:Int),())))))),(Wd (A++us++C),()))=_:=hy
  have hlt:v.length<us.length:=by omega
  have hwl:(out++us.drop v.length).length=us.length:=by simp [k1]; omega
  have hdg:=digits_eq (us:=us) k1 hlt
  have hg:=win_get (A:=A) (C:=C) (us:=out++us.drop v.length) (i:=v.length) (by omega)
  rw [hdg] at hg
  have hst:=fun z=>win_set (A:=A) (C:=C) (us:=out++us.drop v.length) (i:=v.length) (v:=z) (by omega)
  have hsd:=fun z=>set_drop (a:=us) (v:=z) k1 hlt
  have hd:=getD_lt (by decide) hu v.length
  have q1:=addF (us.getD v.length 0) 0 c
  have q2:=addP ((us.getD v.length 0:Nat):Int) ((0:Nat):Int) c k3
  have z0:((0:Nat):Int)=0:=rfl
  rw [z0] at q1 q2
  have hnx:=nv_take_next (2^64) us v.length
  rw [List.take_of_length_le (show us.length≤v.length+1 by omega)] at hnx
  have hnil:us.drop (v.length+1)=[]:=List.drop_of_length_le (by omega)
  unfold t331
  dsimp only
  rw [Wd_len,hy]
  have e0:decide ((0:Int)≤(v.length:Int))=true:=decide_eq_true (by omega)
  have e1:decide ((v.length:Int)<(us.length:Int))=true:=decide_eq_true (by omega)
  dsimp only [obind,obind2]
  simp only [e0,e1,Bool.and_self,cond_true,Wd_len,Int.toNat_natCast,hg,q2,q1,hst,hsd,hnil,List.append_nil]
  have hstep:=back_step (P:=(2^64)^v.length) (y:=0) (d:=us.getD v.length 0) k5
  generalize us.getD v.length 0=d at *
  have ho:(d+0+c)%2^64<2^64:=Nat.mod_lt _ (by decide)
  have hO:nv (2^64) (out++[(d+0+c)%2^64])+(2^64)^us.length*((d+0+c)/2^64)=nv (2^64) us+nv (2^64) v:=by
   rw [nv_snoc,k1,hnx,hlen,pow_up]
   rw [Nat.mul_zero] at hstep
   omega
  have hod:=app_lt k2 ho
  have hOl:=nv_lt (B:=2^64) (by decide) (out++[(d+0+c)%2^64]) hod
  have hol:(out++[(d+0+c)%2^64]).length=us.length:=by simp [k1]; omega
  rw [hol] at hOl
  by_cases hb:(d+0+c)/2^64=1
  ·rw [hb,Nat.mul_one] at hO
   have hlt2:(2^64)^us.length≤nv (2^64) us+nv (2^64) v:=by omega
   refine ⟨out++[(d+0+c)%2^64],hol,hod,by rw [if_pos hlt2]; exact hO,?_⟩
   rw [hb,decide_eq_true hlt2]; rfl
  ·have hb0:(d+0+c)/2^64=0:=by omega
   rw [hb0,Nat.mul_zero,Nat.add_zero] at hO
   have hlt2:¬ (2^64)^us.length≤nv (2^64) us+nv (2^64) v:=by omega
   refine ⟨out++[(d+0+c)%2^64],hol,hod,by rw [if_neg hlt2,Nat.add_zero]; exact hO,?_⟩
   rw [hb0,decide_eq_false hlt2]; rfl
 intro L s hs hL
 obtain ⟨i,out,c,hi,hol,hod,hc,hinv,rfl⟩:=hs
 unfold h331_3
 rcases Nat.lt_or_ge i v.length with hlt | hge
 ·have hy:=getD_lt (by decide) hv i
  have hd:=getD_lt (by decide) hu i
  have hnv:=nv_take_next (2^64) v i
  have hnu:=nv_take_next (2^64) us i
  have hwl:(out++us.drop i).length=us.length:=by simp [hol]; omega
  have hdg:=digits_eq (us:=us) hol (by omega)
  have hg:=win_get (A:=A) (C:=C) (us:=out++us.drop i) (i:=i) (by omega)
  rw [hdg] at hg
  have hst:=fun z=>win_set (A:=A) (C:=C) (us:=out++us.drop i) (i:=i) (v:=z) (by omega)
  have hsd:=fun z=>set_drop (a:=us) (v:=z) hol (by omega)
  have hgv:(Wd v).getD i 0=((v.getD i 0:Nat):Int):=Wd_getD v i
  generalize v.getD i 0=y at *
  generalize us.getD i 0=d at *
  have q1:=addF d y c
  have q2:=addP (d:Int) (y:Int) c hc
  have ho:(d+y+c)%2^64<2^64:=Nat.mod_lt _ (by decide)
  have hc':(d+y+c)/2^64≤1:=by omega
  have hstep:=back_step (P:=(2^64)^i) (y:=y) (d:=d) hinv
  have e0:decide ((i:Int)<(v.length:Int))=true:=decide_eq_true (by omega)
  have e1:decide ((0:Int)≤(i:Int))=true:=decide_eq_true (by omega)
  have e2:decide ((i:Int)<((us.length:Nat):Int))=true:=decide_eq_true (by omega)
  have e3:IntKind.wrap .i64 ((i:Int)+1)=((i+1:Nat):Int):=by rw [wrapI (by omega)]; omega
  dsimp only
  simp only [e0,e1,e2,e3,cond_true,Bool.and_self,Wd_len,Int.toNat_natCast,hgv,hg,q1,q2,hst,hsd]
  refine hL _ ⟨i+1,out++[(d+y+c)%2^64],(d+y+c)/2^64,by omega,by simp [hol],app_lt hod ho,hc',?_,rfl⟩ (by simp only [Int.toNat_natCast]; omega)
  rw [nv_snoc,hol,hnv,hnu,pow_up]
  exact hstep
 ·have e:i=v.length:=by omega
  subst e
  have e0:decide ((v.length:Int)<(v.length:Int))=false:=decide_eq_false (by omega)
  simp only [e0,cond_false]
  rw [List.take_length] at hinv
  exact ⟨_,rfl,out,c,hol,hod,hc,hinv,rfl⟩
theorem W332b_eq (A C v:List Nat) {k U:Nat} (hk:k=v.length+1) (hv:∀ x∈v,x<2^64) (hn:v.length≤1000000) (us:List Nat) (g:Nat) (hlen:us.length=k) (hu:∀ x∈us,x<2^64) (hg:g<2^64)
  (hinv:nv (2^64) us+g*nv (2^64) v=U+(2^64)^k) :
  ∃ out:List Nat,out.length=k∧(∀ z∈out,z<2^64)∧nv (2^64) out=U%nv (2^64) v ∧
   W332_13 ((((g:Int),((A.length,k),(Wd v,()))),(Wd (A++us++C),())):P332_13.D)=some (.inl ((((U/nv (2^64) v:Nat):Int),()),(Wd (A++out++C),()))):=by
 have key:=lfix_ex (m332_13 S328.pre S328.F S315.pre S315.F S155.pre S155.F S330.pre S330.F S331.pre S331.F) (fun s=>s.1.1.toNat)
  (fun s=>∃ (us:List Nat) (g:Nat),us.length=k∧(∀ x∈us,x<2^64)∧g<2^64∧nv (2^64) us+g*nv (2^64) v=U+(2^64)^k ∧
   s=(((g:Int),((A.length,k),(Wd v,()))),(Wd (A++us++C),())))
  (fun y=>∃ out:List Nat,out.length=k∧(∀ z∈out,z<2^64)∧nv (2^64) out=U%nv (2^64) v∧y=.inl ((((U/nv (2^64) v:Nat):Int),()),(Wd (A++out++C),()))) ?_
  (((g:Int),((A.length,k),(Wd v,()))),(Wd (A++us++C),())) ⟨us,g,hlen,hu,hg,hinv,rfl⟩
 ·obtain ⟨y,hy,out,k1,k2,k3,rfl⟩:=key
  exact ⟨out,k1,k2,k3,hy⟩
 clear hinv hg hu hlen us g
 intro L s hs hL
 obtain ⟨us,g,hlen,hu,hg,hinv,rfl⟩:=hs
 unfold h332_13
 obtain ⟨out,o1,o2,o3,o4⟩:=T331_eq A us C v (by omega) hu hv hn
 rw [hlen] at o1 o3 o4
 have hul:=nv_lt (B:=2^64) (by decide) us hu
 rw [hlen] at hul
 have hg1:1≤g:=by
  rcases Nat.eq_zero_or_pos g with h | h
  ·rw [h,Nat.zero_mul] at hinv; omega
  ·exact h
 obtain ⟨p,rfl⟩:∃ p,g=p+1:=⟨g-1,by omega⟩
 rw [Nat.add_mul,Nat.one_mul] at hinv
 have e1:IntKind.wrap .u64 (((p+1:Nat):Int)-1)=(p:Int):=by rw [wrapU (by omega)]; omega
 dsimp only
 rw [pre331 o4,fun331 o4,cond_true,e1]
 dsimp only
 by_cases hc:(2^64)^k≤nv (2^64) us+nv (2^64) v
 ·rw [if_pos hc] at o3
  rw [decide_eq_true hc,cond_true]
  have hV:nv (2^64) out<nv (2^64) v:=by omega
  have hd:U=nv (2^64) v*p+nv (2^64) out:=by rw [Nat.mul_comm]; omega
  have hpos:0<nv (2^64) v:=by omega
  refine ⟨_,rfl,out,o1,o2,?_,?_⟩
  ·rw [hd,Nat.mul_add_mod,Nat.mod_eq_of_lt hV]
  ·rw [hd,Nat.mul_add_div hpos,Nat.div_eq_of_lt hV,Nat.add_zero]
 ·rw [if_neg hc] at o3
  rw [decide_eq_false hc,cond_false]
  exact hL _ ⟨out,p,o1,o2,by omega,by omega,rfl⟩ (by simp only [Int.toNat_natCast]; omega)
theorem lex_le {h l r w:Nat} (hl:l<2^64) (hw:w<2^64):(decide ((h:Int)<(r:Int))||(((h:Int)==(r:Int))&&decide ((l:Int)≤(w:Int))))=decide (h*2^64+l≤r*2^64+w):=by
 rw [Bool.eq_iff_iff,Bool.or_eq_true,Bool.and_eq_true,decide_eq_true_eq,decide_eq_true_eq,decide_eq_true_eq,beq_iff_eq]
 omega
theorem est_down {U V P v1 v2 u2 u0 g rest:Nat} (hP:0<P) (hV:(v1*2^64+v2)*P≤V) (hU:U<(u2*2^64+u0+1)*P) (hg:g*v1+rest=u2) (h:¬ g*v2≤rest*2^64+u0):U/V<g:=by
 rcases Nat.lt_or_ge (U/V) g with h1 | h1
 ·exact h1
 ·exfalso
  have h2:g*V≤U:=Nat.le_trans (Nat.mul_le_mul_right V h1) (Nat.div_mul_le_self U V)
  have h3:g*((v1*2^64+v2)*P)≤g*V:=Nat.mul_le_mul_left g hV
  rw [← Nat.mul_assoc] at h3
  have h4:=Nat.lt_of_mul_lt_mul_right (Nat.lt_of_le_of_lt (Nat.le_trans h3 h2) hU)
  rw [Nat.mul_add,← Nat.mul_assoc] at h4
  rw [← hg,Nat.add_mul] at h4
  omega
theorem est_start {U V P v1 v2 u2 u0:Nat} (hP:0<P) (h1:0<v1) (hV:(v1*2^64+v2)*P≤V) (hU:U<(u2*2^64+u0+1)*P) (hu0:u0<2^64):U/V≤u2/v1:=by
 rw [Nat.le_div_iff_mul_le h1]
 have h2:U/V*V≤U:=Nat.div_mul_le_self U V
 have h3:U/V*((v1*2^64+v2)*P)≤U/V*V:=Nat.mul_le_mul_left _ hV
 rw [← Nat.mul_assoc] at h3
 have h4:=Nat.lt_of_mul_lt_mul_right (Nat.lt_of_le_of_lt (Nat.le_trans h3 h2) hU)
 rw [Nat.mul_add,← Nat.mul_assoc] at h4
 omega
theorem two_top {v:List Nat} {n:Nat} (hn:v.length=n+2):(v.getD (n+1) 0*2^64+v.getD n 0)*(2^64)^n≤nv (2^64) v:=by
 have h1:=nv_take_next (2^64) v n
 have h2:=nv_take_next (2^64) v (n+1)
 rw [List.take_of_length_le (by omega)] at h2
 rw [h2,h1,pow_up,Nat.add_mul,Nat.mul_comm _ ((2^64)^n),Nat.mul_comm (v.getD n 0),Nat.mul_assoc,Nat.mul_comm (2^64) (v.getD (n+1) 0)]
 omega
theorem three_top {u:List Nat} {n:Nat} (hu:∀ x∈u,x<2^64) (hn:u.length=n+3):nv (2^64) u<((u.getD (n+2) 0*2^64+u.getD (n+1) 0)*2^64+u.getD n 0+1)*(2^64)^n:=by
 have h0:=nv_take_lt hu n
 have h1:=nv_take_next (2^64) u n
 have h2:=nv_take_next (2^64) u (n+1)
 have h3:=nv_take_next (2^64) u (n+2)
 rw [List.take_of_length_le (show u.length≤n+2+1 by omega)] at h3
 rw [h3,h2,h1]
 rw [show (2^64)^(n+2)=(2^64)^n*2^64*2^64 by rw [show n+2=n+1+1 by omega,pow_up,pow_up],pow_up]
 generalize (2^64)^n=P at *
 generalize u.getD (n+2) 0=a
 generalize u.getD (n+1) 0=b
 generalize u.getD n 0=c
 rw [Nat.mul_comm (_+1) P,Nat.mul_add,Nat.mul_add,Nat.add_mul,Nat.mul_add,Nat.mul_one]
 have e1:P*(a*2^64*2^64)=P*2^64*2^64*a:=by rw [Nat.mul_assoc P,Nat.mul_assoc P,Nat.mul_assoc a,Nat.mul_comm a]
 have e2:P*(b*2^64)=P*2^64*b:=by rw [Nat.mul_assoc P,Nat.mul_comm b]
 rw [e1,e2]
 omega
end VL
namespace VL
open Go Vx
theorem W332a_eq (A us C v:List Nat) {n:Nat} (hvl:v.length=n+2) (hlen:us.length=n+3) (hu:∀ x∈us,x<2^64) (hv:∀ x∈v,x<2^64) (hn:v.length≤1000000)
  (hV0:0<v.getD (n+1) 0) (g rest:Nat) (hg:g<2^64) (hr:rest<2^64) (hinv:g*v.getD (n+1) 0+rest=us.getD (n+2) 0*2^64+us.getD (n+1) 0) (hq:nv (2^64) us/nv (2^64) v≤g) :
  ∃ g':Nat,g'<2^64∧nv (2^64) us/nv (2^64) v≤g' ∧
   W332_6 ((((g:Int),((rest:Int),((v.length:Int),((A.length,us.length),(Wd v,()))))),(Wd (A++us++C),())):P332_6.D)=some (.inl (((A.length,us.length),(Wd v,((g':Int),()))),(Wd (A++us++C),()))):=by
 have key:=lfix_ex (m332_6 S328.pre S328.F S315.pre S315.F S155.pre S155.F S330.pre S330.F S331.pre S331.F) (fun s=>s.1.1.toNat)
  (fun s=>∃ (g rest:Nat),g<2^64∧rest<2^64∧g*v.getD (n+1) 0+rest=us.getD (n+2) 0*2^64+us.getD (n+1) 0∧nv (2^64) us/nv (2^64) v≤g ∧
   s=(((g:Int),((rest:Int),((v.length:Int),((A.length,us.length),(Wd v,()))))),(Wd (A++us++C),())))
  (fun y=>∃ g':Nat,g'<2^64∧nv (2^64) us/nv (2^64) v≤g'∧y=.inl (((A.length,us.length),(Wd v,((g':Int),()))),(Wd (A++us++C),()))) ?_
  (((g:Int),((rest:Int),((v.length:Int),((A.length,us.length),(Wd v,()))))),(Wd (A++us++C),())) ⟨g,rest,hg,hr,hinv,hq,rfl⟩
 ·obtain ⟨y,hy,g',k1,k2,rfl⟩:=key
  exact ⟨g',k1,k2,hy⟩
 clear hinv hg hr hq g rest
 intro L s hs hL
 obtain ⟨g,rest,hg,hr,hinv,hq,rfl⟩:=hs
 unfold h332_6
 have hv1:=getD_lt (by decide) hv (n+1)
 have hv2:=getD_lt (by decide) hv n
 have hu0:=getD_lt (by decide) hu n
 have g1:(Wd v).getD (n+1) 0=((v.getD (n+1) 0:Nat):Int):=Wd_getD v _
 have g2:(Wd v).getD n 0=((v.getD n 0:Nat):Int):=Wd_getD v _
 have g3:=win_get (A:=A) (C:=C) (us:=us) (i:=n) (by omega)
 have e11:IntKind.wrap .i64 ((v.length:Int)-2)=(n:Int):=by rw [wrapI (by omega)]; omega
 have e12:IntKind.wrap .i64 ((v.length:Int)-1)=((n+1:Nat):Int):=by rw [wrapI (by omega)]; omega
 have p0:=T315_eq hg hv2
 have e0:decide ((0:Int)≤(n:Int))=true:=decide_eq_true (by omega)
 have e1:decide ((n:Int)<(v.length:Int))=true:=decide_eq_true (by omega)
 have e2:decide ((n:Int)<(us.length:Int))=true:=decide_eq_true (by omega)
 have e3:decide ((0:Int)≤((n+1:Nat):Int))=true:=decide_eq_true (by omega)
 have e4:decide (((n+1:Nat):Int)<(v.length:Int))=true:=decide_eq_true (by omega)
 have hlo:g*v.getD n 0%2^64<2^64:=Nat.mod_lt _ (by decide)
 have hlex:=lex_le (h:=g*v.getD n 0/2^64) (r:=rest) hlo hu0
 rw [show g*v.getD n 0/2^64*2^64+g*v.getD n 0%2^64=g*v.getD n 0 by omega] at hlex
 dsimp only
 simp only [e11,e12,e0,e1,e2,e3,e4,Bool.and_self,Bool.true_or,cond_true,Wd_len,Int.toNat_natCast,g1,g2,g3,pre315 p0,fun315 p0,hlex]
 by_cases hc:g*v.getD n 0≤rest*2^64+us.getD n 0
 ·rw [decide_eq_true hc,cond_true]
  exact ⟨_,rfl,g,hg,hq,rfl⟩
 ·rw [decide_eq_false hc,cond_false]
  have hdn:=est_down (Nat.pow_pos (by decide)) (two_top hvl) (three_top hu hlen) hinv hc
  have hg1:1≤g:=Nat.lt_of_le_of_lt (Nat.zero_le _) hdn
  obtain ⟨p,rfl⟩:∃ p,g=p+1:=⟨g-1,by omega⟩
  have e5:IntKind.wrap .u64 (((p+1:Nat):Int)-1)=(p:Int):=by rw [wrapU (by omega)]; omega
  have q1:=addF rest (v.getD (n+1) 0) 0
  have q2:=addP (rest:Int) ((v.getD (n+1) 0:Nat):Int) 0 (by decide)
  have z0:((0:Nat):Int)=0:=rfl
  rw [z0] at q1 q2
  simp only [q1,q2,cond_true,e5]
  by_cases hb:(rest+v.getD (n+1) 0+0)/2^64=0
  ·have e6:((((rest+v.getD (n+1) 0+0)/2^64:Nat):Int) != 0)=false:=by rw [hb]; rfl
   rw [e6,cond_false]
   have hs:(rest+v.getD (n+1) 0+0)%2^64=rest+v.getD (n+1) 0:=by omega
   rw [hs]
   refine hL _ ⟨p,rest+v.getD (n+1) 0,by omega,by omega,?_,Nat.le_of_lt_succ hdn,rfl⟩ (by simp only [Int.toNat_natCast]; omega)
   rw [Nat.add_mul,Nat.one_mul] at hinv
   omega
  ·have e6:((((rest+v.getD (n+1) 0+0)/2^64:Nat):Int) != 0)=true:=bne0_t _ hb
   rw [e6,cond_true]
   exact ⟨_,rfl,p,by omega,Nat.le_of_lt_succ hdn,rfl⟩
theorem T332_eq (A us C v:List Nat) {n:Nat} (hvl:v.length=n+2) (hlen:us.length=n+3) (hu:∀ x∈us,x<2^64) (hv:∀ x∈v,x<2^64) (hn:v.length≤1000000)
  (hlt:nv (2^64) us<nv (2^64) v*2^64) :
  ∃ out:List Nat,out.length=us.length∧(∀ z∈out,z<2^64)∧nv (2^64) out=nv (2^64) us%nv (2^64) v ∧
   T332 ((Wd (A++us++C),(A.length,us.length)),(Wd v,()))=some (Wd (A++out++C),((nv (2^64) us/nv (2^64) v:Nat):Int),()):=by
 show ∃ out:List Nat,_∧_∧_∧t332 S328.pre S328.F S315.pre S315.F S155.pre S155.F S330.pre S330.F S331.pre S331.F W332_6 W332_13 (Wd (A++us++C),(A.length,us.length)) (Wd v)=_
 have hVp:0<nv (2^64) v:=by omega
 have hq64:nv (2^64) us/nv (2^64) v<2^64:=by rw [Nat.div_lt_iff_lt_mul hVp,Nat.mul_comm]; exact hlt
 have hv1:=getD_lt (by decide) hv (n+1)
 have hu2:=getD_lt (by decide) hu (n+2)
 have hu1:=getD_lt (by decide) hu (n+1)
 have hu0:=getD_lt (by decide) hu n
 have fin:∀ g:Nat,g<2^64→nv (2^64) us/nv (2^64) v≤g →
   ∃ out:List Nat,out.length=us.length∧(∀ z∈out,z<2^64)∧nv (2^64) out=nv (2^64) us%nv (2^64) v ∧
    (bif S330.pre ((Wd (A++us++C),(A.length,us.length)),(Wd v,((g:Int),()))) then
     (bif (S330.F ((Wd (A++us++C),(A.length,us.length)),(Wd v,((g:Int),())))).2.1 then
      (Vx.obind (W332_13 (((g:Int),((A.length,us.length),(Wd v,()))),((S330.F ((Wd (A++us++C),(A.length,us.length)),(Wd v,((g:Int),())))).1,()))) fun y5 =>
      Vx.obind2 y5 (fun y6=>some (y6.2.1,y6.1)) (fun _=>none))
     else some ((S330.F ((Wd (A++us++C),(A.length,us.length)),(Wd v,((g:Int),())))).1,((g:Int),())))
    else none)=(some (Wd (A++out++C),(((nv (2^64) us/nv (2^64) v:Nat):Int),())):Option (LK.B K332×DenS O332)):=by
  intro g hg hq
  obtain ⟨out,o1,o2,o3,o4⟩:=T330_eq A us C v (by omega) hu hv hn hg
  have hpr:S330.pre ((Wd (A++us++C),(A.length,us.length)),(Wd v,((g:Int),())))=true:=pre330 o4
  have hfr:S330.F ((Wd (A++us++C),(A.length,us.length)),(Wd v,((g:Int),())))=(Wd (A++out++C),decide (nv (2^64) us<g*nv (2^64) v),()):=fun330 o4
  rw [hpr,hfr]
  rw [cond_true]
  by_cases hb:nv (2^64) us<g*nv (2^64) v
  ·rw [if_pos hb] at o3
   obtain ⟨out2,u1,u2,u3,u4⟩:=W332b_eq A C v (k:=us.length) (U:=nv (2^64) us) (by omega) hv hn out g o1 o2 hg o3
   refine ⟨out2,u1,u2,u3,?_⟩
   dsimp only
   rw [decide_eq_true hb,cond_true,u4]
  ·rw [if_neg hb,Nat.add_zero] at o3
   have h1:nv (2^64) us/nv (2^64) v=g:=by
    have:g≤nv (2^64) us/nv (2^64) v:=by rw [Nat.le_div_iff_mul_le hVp]; omega
    exact Nat.le_antisymm hq this
   have h2:nv (2^64) out=nv (2^64) us%nv (2^64) v:=by
    have:=Nat.div_add_mod (nv (2^64) us) (nv (2^64) v)
    rw [h1,Nat.mul_comm] at this
    omega
   refine ⟨out,o1,o2,h2,?_⟩
   dsimp only
   rw [decide_eq_false hb,cond_false,h1]
 have g1:(Wd v).getD (n+1) 0=((v.getD (n+1) 0:Nat):Int):=Wd_getD v _
 have g2:=win_get (A:=A) (C:=C) (us:=us) (i:=n+2) (by omega)
 have g3:=win_get (A:=A) (C:=C) (us:=us) (i:=n+1) (by omega)
 have e10:IntKind.wrap .i64 ((v.length:Int)-1)=((n+1:Nat):Int):=by rw [wrapI (by omega)]; omega
 have e0:decide ((0:Int)≤(v.length:Int))=true:=decide_eq_true (by omega)
 have e1:decide ((v.length:Int)<(us.length:Int))=true:=decide_eq_true (by omega)
 have e2:decide ((0:Int)≤((n+1:Nat):Int))=true:=decide_eq_true (by omega)
 have e3:decide (((n+1:Nat):Int)<(v.length:Int))=true:=decide_eq_true (by omega)
 have e4:decide (((n+1:Nat):Int)<(us.length:Int))=true:=decide_eq_true (by omega)
 have evl:v.length=n+2:=hvl
 have g2':(Wd (A++us++C)).getD (A.length+v.length) 0=((us.getD (n+2) 0:Nat):Int):=by rw [evl]; exact g2
 unfold t332
 dsimp only
 simp only [Wd_len,Int.toNat_natCast,e10,g1,g2',g3,e0,e1,e2,e3,e4,Bool.and_self,cond_true]
 by_cases hc:us.getD (n+2) 0<v.getD (n+1) 0
 ·have e5:decide (((us.getD (n+2) 0:Nat):Int)<((v.getD (n+1) 0:Nat):Int))=true:=decide_eq_true (by omega)
  have p0:=T328_eq hu1 hv1 hc
  simp only [e5,cond_true,pre328 p0,fun328 p0]
  have hgl:(us.getD (n+2) 0*2^64+us.getD (n+1) 0)/v.getD (n+1) 0<2^64:=by
   rw [Nat.div_lt_iff_lt_mul (by omega)]
   have:(us.getD (n+2) 0+1)*2^64≤v.getD (n+1) 0*2^64:=Nat.mul_le_mul_right _ hc
   rw [Nat.add_mul,Nat.one_mul] at this
   rw [Nat.mul_comm (2^64)]
   omega
  have hrl:(us.getD (n+2) 0*2^64+us.getD (n+1) 0)%v.getD (n+1) 0<2^64:=Nat.lt_trans (Nat.mod_lt _ (by omega)) hv1
  have hst:=est_start (Nat.pow_pos (n:=n) (show 0<2^64 by decide)) (show 0<v.getD (n+1) 0 by omega) (two_top hvl) (three_top hu hlen) hu0
  obtain ⟨g',k1,k2,k3⟩:=W332a_eq A us C v hvl hlen hu hv hn (by omega) _ _ hgl hrl (by rw [Nat.mul_comm]; exact Nat.div_add_mod _ _) hst
  rw [k3]
  obtain ⟨out,o1,o2,o3,o4⟩:=fin g' k1 k2
  exact ⟨out,o1,o2,o3,o4⟩
 ·have e5:decide (((us.getD (n+2) 0:Nat):Int)<((v.getD (n+1) 0:Nat):Int))=false:=decide_eq_false (by omega)
  simp only [e5,cond_false]
  obtain ⟨out,o1,o2,o3,o4⟩:=fin (2^64-1) (by decide) (Nat.le_pred_of_lt hq64)
  exact ⟨out,o1,o2,o3,o4⟩
end VL
namespace VL
open Go Vx
theorem byword_step {X Q d r a B:Nat} (hX:X=Q*d+r):X*B+a=(Q*B+(r*B+a)/d)*d+(r*B+a)%d:=by
 have h1:=Nat.div_add_mod (r*B+a) d
 rw [hX,Nat.add_mul,Nat.add_mul,Nat.mul_right_comm,Nat.mul_comm ((r*B+a)/d) d]
 omega
theorem W1329_eq (l:List Nat) (hl:∀ x∈l,x<2^64) (hn:l.length≤1000000) {d:Nat} (hd:0<d) (hd2:d<2^64) :
  ∃ qs:List Nat,qs.length=l.length∧(∀ x∈qs,x<2^64)∧nv (2^64) qs=nv (2^64) l/d ∧
   W1329_3 ((((d:Int),(((l.length:Int)-1),((),((0:Int),())))),(Wd l,())):P1329_3.D)=some (.inl (((),(((nv (2^64) l%d:Nat):Int),())),(Wd qs,()))):=by
 have key:=lfix_ex (m1329_3 S328.pre S328.F S173.pre S173.F) (fun s=>(s.1.2.1+1).toNat)
  (fun s=>∃ (k:Nat) (qs:List Nat) (r:Nat),k≤l.length∧qs.length+k=l.length∧(∀ x∈qs,x<2^64)∧r<d∧nv (2^64) (l.drop k)=nv (2^64) qs*d+r ∧
   s=(((d:Int),(((k:Int)-1),((),((r:Int),())))),(Wd (l.take k++qs),())))
  (fun y=>∃ qs:List Nat,qs.length=l.length∧(∀ x∈qs,x<2^64)∧nv (2^64) qs=nv (2^64) l/d∧y=.inl (((),(((nv (2^64) l%d:Nat):Int),())),(Wd qs,()))) ?_
  (((d:Int),(((l.length:Int)-1),((),((0:Int),())))),(Wd l,()))
  ⟨l.length,[],0,Nat.le_refl _,by simp,(fun z hz=>by simp at hz),hd,by simp [nv],by simp⟩
 ·obtain ⟨y,hy,qs,k1,k2,k3,rfl⟩:=key
  exact ⟨qs,k1,k2,k3,hy⟩
 intro L s hs hL
 obtain ⟨k,qs,r,hk,hql,hqd,hr,hinv,rfl⟩:=hs
 unfold h1329_3
 rcases k with _ | i
 ·have e0:decide ((((0:Nat):Int)-1)≥0)=false:=rfl
  dsimp only
  rw [e0,cond_false]
  rw [List.drop_zero] at hinv
  have hdv:nv (2^64) l/d=nv (2^64) qs:=by rw [hinv,Nat.mul_comm,Nat.mul_add_div hd,Nat.div_eq_of_lt hr,Nat.add_zero]
  have hmd:nv (2^64) l%d=r:=by rw [hinv,Nat.mul_comm,Nat.mul_add_mod,Nat.mod_eq_of_lt hr]
  exact ⟨_,rfl,qs,by omega,hqd,hdv.symm,by rw [hmd,List.take_zero,List.nil_append]⟩
 ·have ei:(((i+1:Nat):Int)-1)=(i:Int):=by omega
  have ha:=getD_lt (by decide) hl i
  have hg:(Wd (l.take (i+1)++qs)).getD i 0=((l.getD i 0:Nat):Int):=by
   rw [Wd_getD]
   congr 1
   rw [List.getD_eq_getElem?_getD,List.getD_eq_getElem?_getD,List.getElem?_append_left (by simp; omega),List.getElem?_take_of_lt (by omega)]
  have hdn:=nv_drop_next (2^64) l i (by omega)
  have hset:∀ z:Nat,(Wd (l.take (i+1)++qs)).set i (z:Int)=Wd (l.take i++(z::qs)):=fun z=>by
   rw [Wd_set,List.set_append_left _ _ (by simp; omega),List.take_succ_eq_append_getElem (show i<l.length by omega),List.set_append_right _ _ (by simp; omega)]
   have:i-(l.take i).length=0:=by simp; omega
   rw [this]
   simp
  have hlen:(Wd (l.take (i+1)++qs)).length=l.length:=by rw [Wd_len]; simp; omega
  generalize l.getD i 0=a at *
  have p0:=T328_eq (hi:=r) ha hd2 hr
  have e0:decide ((i:Int)≥0)=true:=decide_eq_true (by omega)
  have e1:decide ((0:Int)≤(i:Int))=true:=decide_eq_true (by omega)
  have e2:decide ((i:Int)<(l.length:Int))=true:=decide_eq_true (by omega)
  have e3:IntKind.wrap .i64 ((i:Int)-1)=(i:Int)-1:=wrapI (by omega)
  dsimp only
  simp only [ei,e0,e1,e2,e3,hlen,Bool.and_self,cond_true,Int.toNat_natCast,hg,pre328 p0,fun328 p0,hset]
  have hq:(r*2^64+a)/d<2^64:=by
   rw [Nat.div_lt_iff_lt_mul hd]
   have:(r+1)*2^64≤d*2^64:=Nat.mul_le_mul_right _ hr
   rw [Nat.mul_comm (2^64)]
   omega
  refine hL _ ⟨i,(r*2^64+a)/d::qs,(r*2^64+a)%d,by omega,by simp; omega,?_,Nat.mod_lt _ hd,?_,rfl⟩ (by dsimp only; omega)
  ·intro x hx
   rcases List.mem_cons.1 hx with rfl | hx
   ·exact hq
   ·exact hqd x hx
  ·have:=byword_step (B:=2^64) (a:=a) hinv
   rw [hdn]
   show a+2^64*_=((r*2^64+a)/d+2^64*nv (2^64) qs)*d+_
   rw [Nat.mul_comm (2^64) (nv (2^64) qs),Nat.add_comm ((r*2^64+a)/d),← this]
   omega
theorem trim_Dw {l:List Nat} (h:∀ x∈l,x<2^64):Wd (trimL l)=Dw (nv (2^64) l):=by
 unfold Dw
 rw [trim_dg (by decide) l h]
theorem T1329_eq {a:Nat} (ha:a<(2^64)^5000) {d:Nat} (hd:0<d) (hd2:d<2^64):T1329 (Dw a,(d:Int),())=some (Dw (a/d),((a%d:Nat):Int),()):=by
 show t1329 S328.pre S328.F S173.pre S173.F W1329_3 (Dw a) (d:Int)=_
 unfold t1329
 have hw:=Dw_ws ha
 obtain ⟨qs,k1,k2,k3,k4⟩:=W1329_eq (dg (2^64) a) hw.1 hw.2 hd hd2
 rw [nv_Dw] at k3 k4
 have hl:(dg (2^64) a).length≤1000000:=hw.2
 have e0:IntKind.wrap .i64 (((Dw a).length:Int)-1)=(((dg (2^64) a).length:Int)-1):=by
  unfold Dw
  rw [Wd_len,wrapI (by omega)]
 have p0:=T173_eq qs (by omega)
 rw [e0]
 have k4:W1329_3 ((((d:Int),((((dg (2^64) a).length:Int)-1),((),((0:Int),())))),(Dw a,())):P1329_3.D)=_:=k4
 rw [k4]
 show (bif S173.pre (Wd qs,()) then some ((S173.F (Wd qs,())).1,(((a%d:Nat):Int),())) else none)=_
 simp only [pre173 p0,fun173 p0,cond_true,trim_Dw k2,k3]
theorem W333_eq (v:List Nat) {n:Nat} (hvl:v.length=n+2) (hv:∀ x∈v,x<2^64) (hn:v.length≤900000) {X:Nat} (Q:Nat) (hQ:Q≤50000) (s:Int) (us:List Nat) (hus:us.length=Q+n+2)
  (hud:∀ x∈us,x<2^64) (hX:nv (2^64) us=X) (hlt:X<nv (2^64) v*(2^64)^Q) :
  ∃ qs us':List Nat,qs.length=Q∧(∀ x∈qs,x<2^64)∧nv (2^64) qs=X/nv (2^64) v∧us'.length=Q+n+2∧(∀ x∈us',x<2^64)∧nv (2^64) us'=X%nv (2^64) v ∧
   W333_14 (((Wd v,(((Q:Int)-1),((),((),((v.length:Int),(s,())))))),(Wd us,(Wd (List.replicate Q 0),()))):P333_14.D)=some (.inl (((),((),((v.length:Int),(s,())))),(Wd us',(Wd qs,())))):=by
 have hV0:0<nv (2^64) v:=by
  rcases Nat.eq_zero_or_pos (nv (2^64) v) with h | h
  ·rw [h,Nat.zero_mul] at hlt; omega
  ·exact h
 have hVl:=nv_lt (B:=2^64) (by decide) v hv
 have key:=lfix_ex (m333_14 S1146.pre S1146.F S1329.pre S1329.F S144.pre S144.F S146.pre S146.F S329.pre S329.F S327.pre S327.F S186.pre S186.F S332.pre S332.F S173.pre S173.F S171.pre S171.F) (fun s=>(s.1.2.1+1).toNat)
  (fun x=>∃ (k:Nat) (qs us:List Nat),k≤Q∧qs.length+k=Q∧(∀ x∈qs,x<2^64)∧us.length=Q+n+2∧(∀ x∈us,x<2^64)∧nv (2^64) us<nv (2^64) v*(2^64)^k ∧
   X=nv (2^64) qs*(2^64)^k*nv (2^64) v+nv (2^64) us ∧
   x=((Wd v,(((k:Int)-1),((),((),((v.length:Int),(s,())))))),(Wd us,(Wd (List.replicate k 0++qs),()))))
  (fun y=>∃ qs us':List Nat,qs.length=Q∧(∀ x∈qs,x<2^64)∧nv (2^64) qs=X/nv (2^64) v∧us'.length=Q+n+2∧(∀ x∈us',x<2^64)∧nv (2^64) us'=X%nv (2^64) v ∧
   y=.inl (((),((),((v.length:Int),(s,())))),(Wd us',(Wd qs,())))) ?_
  ((Wd v,(((Q:Int)-1),((),((),((v.length:Int),(s,())))))),(Wd us,(Wd (List.replicate Q 0),())))
  ⟨Q,[],us,Nat.le_refl _,by simp,(fun z hz=>by simp at hz),hus,hud,by rw [hX]; exact hlt,by simp [nv,hX],by simp⟩
 ·obtain ⟨y,hy,qs,us',k1,k2,k3,k4,k5,k6,rfl⟩:=key
  exact ⟨qs,us',k1,k2,k3,k4,k5,k6,hy⟩
 clear hlt hX hud hus us
 intro L x hx hL
 obtain ⟨k,qs,us,hk,hql,hqd,hus,hud,hlt,hinv,rfl⟩:=hx
 unfold h333_14
 rcases k with _ | j
 ·have e0:decide ((((0:Nat):Int)-1)≥0)=false:=rfl
  dsimp only
  rw [e0,cond_false]
  rw [Nat.pow_zero,Nat.mul_one] at hlt hinv
  have hdv:X/nv (2^64) v=nv (2^64) qs:=by rw [hinv,Nat.mul_comm,Nat.mul_add_div hV0,Nat.div_eq_of_lt hlt,Nat.add_zero]
  have hmd:X%nv (2^64) v=nv (2^64) us:=by rw [hinv,Nat.mul_comm,Nat.mul_add_mod,Nat.mod_eq_of_lt hlt]
  exact ⟨_,rfl,qs,us,by omega,hqd,hdv.symm,hus,hud,hmd.symm,by simp⟩
 ·have ei:(((j+1:Nat):Int)-1)=(j:Int):=by omega
  have hjl:j+(n+3)≤us.length:=by omega
  have hsplit:us=us.take j++(us.drop j).take (n+3)++us.drop (j+(n+3)):=by
   rw [List.append_assoc,← List.drop_drop,List.take_append_drop,List.take_append_drop]
  have hAl:(us.take j).length=j:=by simp; omega
  have hwl:((us.drop j).take (n+3)).length=n+3:=by simp; omega
  have hAd:∀ x∈us.take j,x<2^64:=fun x hx=>hud x (List.mem_of_mem_take hx)
  have hwd:∀ x∈(us.drop j).take (n+3),x<2^64:=fun x hx=>hud x (List.mem_of_mem_drop (List.mem_of_mem_take hx))
  have hCd:∀ x∈us.drop (j+(n+3)),x<2^64:=fun x hx=>hud x (List.mem_of_mem_drop hx)
  have hCl:(us.drop (j+(n+3))).length+j+(n+3)=us.length:=by simp; omega
  generalize us.take j=A at *
  generalize (us.drop j).take (n+3)=w at *
  generalize us.drop (j+(n+3))=C at *
  subst hsplit
  have hAlt:=nv_lt (B:=2^64) (by decide) A hAd
  have hval:∀ w:List Nat,w.length=n+3→nv (2^64) (A++w++C)=nv (2^64) A+(2^64)^j*nv (2^64) w+(2^64)^(j+(n+3))*nv (2^64) C:=fun w hw=>by
   rw [nv_append,nv_append,hAl,show (A++w).length=j+(n+3) by simp [hAl,hw]]
  have hPj:=Nat.pow_pos (n:=j) (show 0<2^64 by decide)
  have hv1:=hval w hwl
  rw [hAl] at hAlt
  have hC0:nv (2^64) C=0:=by
   rcases Nat.eq_zero_or_pos (nv (2^64) C) with h | h
   ·exact h
   ·exfalso
    have h1:(2^64)^(j+(n+3))*1≤(2^64)^(j+(n+3))*nv (2^64) C:=Nat.mul_le_mul_left _ h
    have h2:nv (2^64) v*(2^64)^(j+1)≤(2^64)^(n+2)*(2^64)^(j+1):=Nat.mul_le_mul_right _ (by rw [hvl] at hVl; omega)
    rw [← Nat.pow_add,show n+2+(j+1)=j+(n+3) by omega] at h2
    omega
  rw [hC0,Nat.mul_zero,Nat.add_zero] at hv1
  have hwlt:nv (2^64) w<nv (2^64) v*2^64:=by
   have h1:(2^64)^j*nv (2^64) w<(2^64)^j*(nv (2^64) v*2^64):=by
    rw [pow_up,← Nat.mul_assoc] at hlt
    rw [Nat.mul_left_comm,← Nat.mul_assoc]
    omega
   exact Nat.lt_of_mul_lt_mul_left h1
  obtain ⟨out,o1,o2,o3,o4⟩:=T332_eq A w C v hvl hwl hwd hv (by omega) hwlt
  rw [hAl,hwl] at o4
  have hout:out.length=n+3:=by omega
  have hv2:=hval out hout
  rw [hC0,Nat.mul_zero,Nat.add_zero,o3] at hv2
  have hdm:=Nat.div_add_mod (nv (2^64) w) (nv (2^64) v)
  have hml:=Nat.mod_lt (nv (2^64) w) hV0
  have hq64:nv (2^64) w/nv (2^64) v<2^64:=by rw [Nat.div_lt_iff_lt_mul hV0,Nat.mul_comm]; exact hwlt
  have e0:decide ((j:Int)≥0)=true:=decide_eq_true (by omega)
  have e1:decide ((0:Int)≤(j:Int))=true:=decide_eq_true (by omega)
  have e3:IntKind.wrap .i64 (IntKind.wrap .i64 ((j:Int)+(v.length:Int))+1)=((j+(n+3):Nat):Int):=by
   rw [wrapI (n:=(j:Int)+_) (by omega),wrapI (by omega)]; omega
  have e4:decide ((j:Int)≤((j+(n+3):Nat):Int))=true:=decide_eq_true (by omega)
  have e5:decide ((((j+(n+3):Nat):Int))≤((Wd (A++w++C)).length:Int))=true:=decide_eq_true (by rw [Wd_len]; simp; omega)
  have e6:decide ((j:Int)<((Wd (List.replicate (j+1) 0++qs)).length:Int))=true:=decide_eq_true (by rw [Wd_len]; simp; omega)
  have e7:IntKind.wrap .i64 ((j:Int)-1)=(j:Int)-1:=wrapI (by omega)
  have hset:∀ z:Nat,(Wd (List.replicate (j+1) 0++qs)).set j (z:Int)=Wd (List.replicate j 0++(z::qs)):=fun z=>by
   rw [Wd_set,List.set_append_left _ _ (by simp),List.replicate_succ',List.set_append_right _ _ (by simp)]
   simp
  have e8:j+(n+3)-j=n+3:=by omega
  dsimp only
  simp only [ei,e0,e1,e3,e4,e5,e6,e7,Bool.and_self,cond_true,Int.toNat_natCast,e8]
  rw [pre332 o4,fun332 o4,cond_true]
  dsimp only
  rw [hset]
  refine hL _ ⟨j,nv (2^64) w/nv (2^64) v::qs,A++out++C,by omega,by simp; omega,?_,by simp; omega,?_,?_,?_,rfl⟩ (by dsimp only; omega)
  ·intro x hx
   rcases List.mem_cons.1 hx with rfl | hx
   ·exact hq64
   ·exact hqd x hx
  ·intro x hx
   rcases List.mem_append.1 hx with hx | hx
   ·rcases List.mem_append.1 hx with hx | hx
    ·exact hAd x hx
    ·exact o2 x hx
   ·exact hCd x hx
  ·rw [hv2]
   have:(2^64)^j*(nv (2^64) w%nv (2^64) v+1)≤(2^64)^j*nv (2^64) v:=Nat.mul_le_mul_left _ hml
   rw [Nat.mul_add,Nat.mul_one] at this
   rw [Nat.mul_comm (nv (2^64) v)]
   omega
  ·rw [hv2,hinv,hv1]
   show _=(nv (2^64) w/nv (2^64) v+2^64*nv (2^64) qs)*(2^64)^j*nv (2^64) v+_
   have h1:(2^64)^j*nv (2^64) w=(2^64)^j*(nv (2^64) v*(nv (2^64) w/nv (2^64) v))+(2^64)^j*(nv (2^64) w%nv (2^64) v):=by rw [← Nat.mul_add,hdm]
   rw [h1,pow_up,Nat.add_mul,Nat.add_mul]
   generalize nv (2^64) w/nv (2^64) v=q
   generalize nv (2^64) v=V
   generalize (2^64)^j=P
   have h2:nv (2^64) qs*(P*2^64)*V=2^64*nv (2^64) qs*P*V:=by rw [Nat.mul_comm P,← Nat.mul_assoc,Nat.mul_comm (nv (2^64) qs)]
   have h3:P*(V*q)=q*P*V:=by rw [Nat.mul_comm V,← Nat.mul_assoc,Nat.mul_comm P]
   rw [h2,h3]
   omega
end VL
