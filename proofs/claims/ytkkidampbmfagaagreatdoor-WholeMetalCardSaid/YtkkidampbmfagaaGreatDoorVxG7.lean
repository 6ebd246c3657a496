/- Part 7 of the proof. What is proved: symbolic execution of the functions, proved sound; what each function of the program computes, and that every run ends with it; what these functions compute, in plain numbers. Conditions: each theorem bears its own. -/
import Derived.Test.YtkkidampbmfagaaGreatDoorVxG6
import Derived.ProofKit
import Derived.LaidMore
import Derived.OpenShut
import Derived.Stop.Joined
import GoSem.ClaimJoined
set_option linter.all false
set_option exponentiation.threshold 1000000
noncomputable section
namespace VL
open Go Vx
def FF (f w:Int):Prop:=(f=0/\w=2)∨(f=0/\w=3)∨(f=1/\w=3)∨(f=2/\w=3)
theorem Na {f w:Int} (h:FF f w):Fm f/\Fm w/\2*fP f+2<=fP w/\qm w+fP w+2<=qm f-fX f-3/\qm w<=2*qm f/\2*fX f+4<=fX w/\(fX f:Int)-qm f+4<=fX w/\2*((fP f:Int)+1)+qm f<=0/\qm w+1<=qm f:=by
 rcases h with ⟨rfl,rfl⟩ | ⟨rfl,rfl⟩ | ⟨rfl,rfl⟩ | ⟨rfl,rfl⟩ <;> exact ⟨⟨by decide,by decide⟩,⟨by decide,by decide⟩,by decide,by decide,by decide,by decide,by decide,by decide,by decide⟩
def AL (f w:Int) (a:Nat):Nat :=
 bif nan f a then By w else bif Ao f a then Bv w (sF f a) else bif Ax f a then AZ w (sF f a) else (At w 0 (sF f a) (Af f a) (Ag f a) false).1
theorem dP {w:Int} (hw:Fm w):Aj w (By w)=0/\nan w (By w)=true/\Ao w (By w)=false/\Ax w (By w)=false:=by
 rcases CH hw with rfl | rfl | rfl | rfl <;> decide +kernel
theorem Tm {w:Int} (hw:Fm w) (s:Bool):Aj w (Bv w s)=0/\nan w (Bv w s)=false/\Ao w (Bv w s)=true/\Ax w (Bv w s)=false/\sF w (Bv w s)=s:=by
 rcases CH hw with rfl | rfl | rfl | rfl <;> cases s <;> decide +kernel
theorem Ue {w:Int} (hw:Fm w) (s:Bool):Aj w (AZ w s)=0/\nan w (AZ w s)=false/\Ao w (AZ w s)=false/\Ax w (AZ w s)=true/\sF w (AZ w s)=s/\Af w (AZ w s)=0:=by
 rcases CH hw with rfl | rfl | rfl | rfl <;> cases s <;> decide +kernel
theorem aCb {w:Int} (hw:Fm w) (f:Int):AL w f (By w)=By f:=by
 unfold AL
 rw [(dP hw).2.1,cond_true]
theorem aCa {w:Int} (hw:Fm w) (f:Int) (s:Bool):AL w f (Bv w s)=Bv f s:=by
 obtain ⟨_,h2,h3,_,h5⟩:=Tm hw s
 unfold AL
 rw [h2,h3,h5,cond_false,cond_true]
theorem bB {w:Int} (hw:Fm w) (f:Int) (s:Bool):AL w f (AZ w s)=AZ f s:=by
 obtain ⟨_,h2,h3,h4,h5,_⟩:=Ue hw s
 unfold AL
 rw [h2,h3,h4,h5,cond_false,cond_false,cond_true]
theorem aCc {w:Int} (f:Int) {s:Bool} {x:Nat} (h:TC w s x):AL w f x=(At f 0 s (Af w x) (Ag w x) false).1:=by
 obtain ⟨_,h2,h3,h4,h5,_⟩:=h
 unfold AL
 rw [h2,h3,h4,h5,cond_false,cond_false,cond_false]
def same (f w:Int) (a x:Nat):Prop :=
 Aj f a=0/\Aj w x=0/\nan w x=nan f a/\Ao w x=Ao f a/\Ax w x=Ax f a/\(nan f a=false->sF w x=sF f a)/\(nan f a=false->Ao f a=false->VV w x=VV f a)
theorem Sa {f:Int} (hf:Fm f) {a:Nat} (h:eF f a≠Av f):VV f a<2^(fX f+2601):=by
 have h1:=aA4 hf (pL hf h)
 obtain ⟨m1,m2⟩:=tC hf a
 unfold VV at h1 ⊢
 rwa [m1,m2] at h1
theorem xO {f:Int} (hf:Fm f) {a:Nat} (h:eF f a≠Av f):Ag f a+fP f<=fX f+1:=by
 have h1:=(xN hf (pL hf h)).2
 rwa [(tC hf a).2] at h1
theorem WB {f:Int} {a:Nat} (ha:Aj f a=0) (h:Ao f a=true):a=Bv f (sF f a):=by
 obtain ⟨hf,_⟩:=Ca ha
 obtain ⟨i1,_,i3,_,i5⟩:=Tm hf (sF f a)
 exact aDQ hf ha i1 h i3 i5.symm
theorem vX {f w:Int} (h:FF f w) {a:Nat} (ha:Aj f a=0):same f w a (AL f w a):=by
 obtain ⟨hf,hw,hP,hq1,hq2,hX1,hX2,_,hq3⟩:=Na h
 unfold same
 cases hn:nan f a
 ·cases hi:Ao f a
  ·have hfin:=HL hn hi
   cases hz:Ax f a
   ·have e:AL f w a=(At w 0 (sF f a) (Af f a) (Ag f a) false).1:=by unfold AL; rw [hn,hi,hz]; rfl
    have m0:=CG hz
    have hx:=Dx f a
    have hqw:=M2 hw
    have hN0:=R9 (f:=f) (x:=a) m0
    have et:At w 0 (sF f a) (Af f a) (Ag f a) false=At w 0 (sF f a) (VV f a) (-2600) false :=
     Xf hw (-2600) m0 hN0 (by omega) (Int.le_refl _) (by unfold VV; rw [Int.sub_self,show Ag f a - -2600=Ag f a+2600 by omega]; exact (Nat.mul_one _).symm)
    have htop:=Cj (Sa hf hfin)
    have mlt:Af f a<2^fP w:=Nat.lt_of_lt_of_le (MX hf a) (Nat.pow_le_pow_right (by decide) (by omega))
    obtain ⟨v1,v2⟩:=aCM hw (sF f a) (N:=VV f a) (E:=-2600) hN0 (by omega) (by omega) mlt (i:=(Ag f a+2600).toNat) (by omega) rfl
    rw [e,et]
    obtain ⟨q1,q2,q3,q4,q5,q6⟩:=v1
    refine ⟨ha,q1,q3,q4,q5,fun _=>q2,fun _ _=>?_⟩
    rw [Int.sub_neg] at v2
    exact v2
   ·have e:AL f w a=AZ w (sF f a):=by unfold AL; rw [hn,hi,hz]; rfl
    obtain ⟨z1,z2,z3,z4,z5,z6⟩:=Ue hw (sF f a)
    rw [e]
    refine ⟨ha,z1,z2,z3,z4,fun _=>z5,fun _ _=>?_⟩
    have za:=Uf f a
    rw [hz,beq_iff_eq] at za
    have za:Af f a=0:=by omega
    unfold VV
    rw [z6,za,Nat.zero_mul,Nat.zero_mul]
  ·have e:AL f w a=Bv w (sF f a):=by unfold AL; rw [hn,hi]; rfl
   obtain ⟨z1,z2,z3,z4,z5⟩:=Tm hw (sF f a)
   rw [e]
   have hz:Ax f a=false:=by
    rw [WB ha hi]
    exact (Tm hf (sF f a)).2.2.2.1
   refine ⟨ha,z1,z2,z3,by rw [hz]; exact z4,fun _=>z5,fun _ h=>by cases h⟩
 ·have e:AL f w a=By w:=by unfold AL; rw [hn]; rfl
  obtain ⟨z1,z2,z3,z4⟩:=dP hw
  rw [e]
  have hi:Ao f a=false:=by
   unfold nan at hn
   unfold Ao
   rw [Bool.and_eq_true] at hn
   cases hm:mF f a==0
   ·rw [Bool.and_false]
   ·rw [bne,hm] at hn; exact absurd hn.2 (by decide)
  have hz:Ax f a=false:=by
   unfold nan at hn
   unfold Ax
   rw [Bool.and_eq_true] at hn
   cases hm:mF f a==0
   ·rw [Bool.and_false]
   ·rw [bne,hm] at hn; exact absurd hn.2 (by decide)
  exact ⟨ha,z1,z2,by rw [hi]; exact z3,by rw [hz]; exact z4,fun h=>absurd h (by decide),fun h=>absurd h (by decide)⟩
theorem vY {f w:Int} (h:FF f w) {a x:Nat} (s:same f w a x):same f w (Cc f a) (Cc w x):=by
 obtain ⟨hf,hw,_⟩:=Na h
 obtain ⟨s1,s2,s3,s4,s5,s6,s7⟩:=s
 unfold same
 have z1:Ax f (Cc f a)=Ax f a:=by unfold Ax; rw [SY hf,WD hf]
 have z2:Ax w (Cc w x)=Ax w x:=by unfold Ax; rw [SY hw,WD hw]
 rw [tL hf,tL hw,rP hf,rP hw,z1,z2,dV,dV]
 refine ⟨MZ hf a,MZ hw x,s3,s4,s5,fun h=>by rw [s6 h],fun h1 h2=>?_⟩
 have:=s7 h1 h2
 unfold VV at this ⊢
 rw [tB hf,tB hw,xM hf,xM hw]
 exact this
theorem VU {f w:Int} (hf:Fm f) (hw:Fm w) (hPP:fP f+1<=fP w) (hq:qm w+1<=qm f) (neg:Bool) {N:Nat} {E:Int} (h0:N≠0) (hE:E<=qm w) (hlow:2^(qm w-E).toNat<=N) (htop:E+Ab N<=fX w)
  (hmid:∀ X,X%2^Bb w N E=0->2*N<=2*X+2^Bb w N E->2*X<=2*N+2^Bb w N E->X≠N->X%2^Bb f N E≠2^(Bb f N E-1)) :
  AL w f (At w 0 neg N E false).1=(At f 0 neg N E false).1:=by
 obtain ⟨t1,t2⟩:=aJh hf hw hPP hq neg h0 hE hlow htop hmid
 rw [aCc f t1,t2]
def Oa (f:Int) (nx:Bool) (A:Nat) (ny:Bool) (B:Nat):Nat :=
 if nx=ny then (if A+B=0 then AZ f nx else (At f 0 nx (A+B) (-2600) false).1)
 else if A=B then AZ f false else if B<A then (At f 0 nx (A-B) (-2600) false).1 else (At f 0 ny (B-A) (-2600) false).1
theorem wG {f:Int} (hf:Fm f) (nx ny:Bool) (a b:Nat):(Df f 0 nx (Af f a) (Ag f a) ny (Af f b) (Ag f b)).1=Oa f nx (VV f a) ny (VV f b):=by
 have hx:=Dx f a
 have hy:=Dx f b
 have hq:=M2 hf
 unfold Df Oa VV
 obtain ⟨e,he,e1,e2,e3⟩:∃ e:Int,(if Ag f a<=Ag f b then Ag f a else Ag f b)=e/\e<=Ag f a/\e<=Ag f b/\-2600<=e:=⟨_,rfl,by split <;> omega,by split <;> omega,by split <;> omega⟩
 dsimp only
 rw [he]
 have hA:Af f a*2^(Ag f a+2600).toNat=Af f a*2^(Ag f a-e).toNat*2^(e+2600).toNat:=by rw [Nat.mul_assoc,← Nat.pow_add]; congr 2; omega
 have hB:Af f b*2^(Ag f b+2600).toNat=Af f b*2^(Ag f b-e).toNat*2^(e+2600).toNat:=by rw [Nat.mul_assoc,← Nat.pow_add]; congr 2; omega
 rw [hA,hB]
 have hp:=Nat.two_pow_pos (e+2600).toNat
 have hpe:∀ n:Nat,n≠0->∀ s,At f 0 s n e false=At f 0 s (n*2^(e+2600).toNat) (-2600) false:=fun n hn s =>
  Xf hf (-2600) hn (Nat.mul_ne_zero hn (by omega)) e3 (Int.le_refl _) (by rw [Int.sub_self,show e - -2600=e+2600 by omega]; exact (Nat.mul_one _).symm)
 generalize Af f a*2^(Ag f a-e).toNat=A
 generalize Af f b*2^(Ag f b-e).toNat=B
 rw [← Nat.add_mul,← Nat.mul_sub_right_distrib,← Nat.mul_sub_right_distrib]
 have c0:(A+B)*2^(e+2600).toNat=0↔A+B=0:=by
  constructor
  ·intro h
   rcases Nat.mul_eq_zero.1 h with h | h
   ·exact h
   ·omega
  ·intro h; rw [h,Nat.zero_mul]
 have c1:A*2^(e+2600).toNat=B*2^(e+2600).toNat↔A=B:=⟨fun h=>Nat.eq_of_mul_eq_mul_right hp h,fun h=>by rw [h]⟩
 have c2:B*2^(e+2600).toNat<A*2^(e+2600).toNat↔B<A:=⟨fun h=>Nat.lt_of_mul_lt_mul_right h,fun h=>Nat.mul_lt_mul_of_pos_right h hp⟩
 simp only [c0,c1,c2]
 by_cases hs:nx=ny
 ·rw [if_pos hs,if_pos hs]
  by_cases h:A+B=0
  ·rw [if_pos h,if_pos h]
  ·rw [if_neg h,if_neg h,hpe _ h]
 ·rw [if_neg hs,if_neg hs]
  by_cases h:A=B
  ·rw [if_pos h,if_pos h]; rfl
  ·rw [if_neg h,if_neg h]
   by_cases h2:B<A
   ·rw [if_pos h2,if_pos h2,hpe _ (by omega)]
   ·rw [if_neg h2,if_neg h2,hpe _ (by omega)]
theorem aI6 {f w:Int} (hf:Fm f) (hP:2*fP f+2<=fP w) (hq:qm w+1<=qm f) {n k i j N:Nat} {E:Int} (hE:E<=qm w) (hn:n<2^fP f) (hk:k<2^fP f) (hi:(qm f-E).toNat<=i) (hj:(qm f-E).toNat<=j) (h0:N≠0)
  (hN:N=n*2^i+k*2^j∨N+k*2^j=n*2^i∨N+n*2^i=k*2^j) :
  ∀ X,X%2^Bb w N E=0->2*N<=2*X+2^Bb w N E->2*X<=2*N+2^Bb w N E->X≠N->X%2^Bb f N E≠2^(Bb f N E-1):=by
 rcases Nat.le_total j i with h | h
 ·exact wH hf hP hq hE hn hk h hj h0 hN
 ·refine wH hf hP hq hE hk hn h hi h0 ?_
  rcases hN with h | h | h
  ·exact .inl (by omega)
  ·exact .inr (.inr h)
  ·exact .inr (.inl h)
theorem aI4 {f w:Int} (h:FF f w) {a b:Nat} (ha:eF f a≠Av f) (hb:eF f b≠Av f) (s t:Bool):AL w f (Oa w s (VV f a) t (VV f b))=Oa f s (VV f a) t (VV f b):=by
 obtain ⟨hf,hw,hP,hq1,hq2,hX1,hX2,_,hq3⟩:=Na h
 have hx:=Dx f a
 have hy:=Dx f b
 have hqw:=M2 hw
 have hP8:=BD hf
 have ta:=Sa hf ha
 have tb:=Sa hf hb
 have ma:=MX hf a
 have mb:=MX hf b
 have key:∀ (neg:Bool) (N:Nat),N≠0->(N=VV f a+VV f b∨N+VV f b=VV f a∨N+VV f a=VV f b)->AL w f (At w 0 neg N (-2600) false).1=(At f 0 neg N (-2600) false).1:=by
  intro neg N h0 hN
  have hmid:=aI6 hf hP hq3 (E:=-2600) (by omega) ma mb (i:=(Ag f a+2600).toNat) (j:=(Ag f b+2600).toNat) (by omega) (by omega) h0 hN
  have hNt:N<2^(fX f+2602):=by
   rw [aJi (a:=fX f+2602) (b:=fX f+2601) rfl]
   rcases hN with h | h | h <;> omega
  have hbl:=Cj hNt
  have hdiv:N%2^(qm w+2600).toNat=0:=by
   have d1:2^(qm w+2600).toNat ∣ VV f a:=Nat.dvd_trans (Nat.pow_dvd_pow 2 (show (qm w+2600).toNat<=(Ag f a+2600).toNat by omega)) (Nat.dvd_mul_left _ _)
   have d2:2^(qm w+2600).toNat ∣ VV f b:=Nat.dvd_trans (Nat.pow_dvd_pow 2 (show (qm w+2600).toNat<=(Ag f b+2600).toNat by omega)) (Nat.dvd_mul_left _ _)
   apply Nat.mod_eq_zero_of_dvd
   rcases hN with h | h | h
   ·rw [h]; exact Nat.dvd_add d1 d2
   ·exact (Nat.dvd_add_left d2).1 (by rw [h]; exact d1)
   ·exact (Nat.dvd_add_left d1).1 (by rw [h]; exact d2)
  have hlow:2^(qm w - -2600).toNat<=N:=by
   rw [show qm w - -2600=qm w+2600 by omega]
   exact Nat.le_of_dvd (by omega) (Nat.dvd_of_mod_eq_zero hdiv)
  exact VU hf hw (by omega) hq3 neg h0 (by omega) hlow (by omega) hmid
 unfold Oa
 by_cases hs:s=t
 ·rw [if_pos hs,if_pos hs]
  by_cases hz:VV f a+VV f b=0
  ·rw [if_pos hz,if_pos hz,bB hw]
  ·rw [if_neg hz,if_neg hz,key s _ hz (.inl rfl)]
 ·rw [if_neg hs,if_neg hs]
  by_cases hz:VV f a=VV f b
  ·rw [if_pos hz,if_pos hz,bB hw]
  ·rw [if_neg hz,if_neg hz]
   by_cases h2:VV f b<VV f a
   ·rw [if_pos h2,if_pos h2,key s _ (by omega) (.inr (.inl (by omega)))]
   ·rw [if_neg h2,if_neg h2,key t _ (by omega) (.inr (.inr (by omega)))]
end VL
namespace VL
open Go Vx
theorem aEj {f w:Int} (h:FF f w) {a b:Nat} (ha:eF f a≠Av f) (hb:eF f b≠Av f) (ma0:Af f a≠0) (mb0:Af f b≠0) (s:Bool) :
  AL w f (At w 0 s (VV f a*VV f b) (-5200) false).1=(At f 0 s (VV f a*VV f b) (-5200) false).1:=by
 obtain ⟨hf,hw,hP,hq1,hq2,hX1,hX2,_,hq3⟩:=Na h
 have hx:=Dx f a
 have hy:=Dx f b
 have hqw:=M2 hw
 have hqf:=M2 hf
 have hP8:=BD hf
 have ta:=Sa hf ha
 have tb:=Sa hf hb
 have ma:=MX hf a
 have mb:=MX hf b
 have hN:VV f a*VV f b=(Af f a*Af f b)*2^((Ag f a+2600).toNat+(Ag f b+2600).toNat):=by
  unfold VV
  rw [Nat.pow_add]
  ac_rfl
 have hn:Af f a*Af f b<2^(2*fP f):=by
  rw [Nat.two_mul,Nat.pow_add]
  exact Nat.mul_lt_mul'' ma mb
 have h0:VV f a*VV f b≠0:=Nat.mul_ne_zero (R9 ma0) (R9 mb0)
 have hmid:=aCL (f:=f) (w:=w) (N:=VV f a*VV f b) (E:=-5200) hn (by omega) (i:=(Ag f a+2600).toNat+(Ag f b+2600).toNat) (by omega) hN
 have hlow:2^(qm w - -5200).toNat<=VV f a*VV f b:=by
  have h1:2^(qm w - -5200).toNat<=2^((Ag f a+2600).toNat+(Ag f b+2600).toNat):=Nat.pow_le_pow_right (by decide) (by omega)
  have h2:1*2^((Ag f a+2600).toNat+(Ag f b+2600).toNat)<=(Af f a*Af f b)*2^((Ag f a+2600).toNat+(Ag f b+2600).toNat):=Nat.mul_le_mul_right _ (Nat.mul_pos (by omega) (by omega))
  omega
 have htop:VV f a*VV f b<2^(fX f+2601+(fX f+2601)):=by
  rw [Nat.pow_add]
  exact Nat.mul_lt_mul'' ta tb
 have hbl:=Cj htop
 exact VU hf hw (by omega) hq3 s h0 (by omega) hlow (by omega) hmid
theorem tH {f:Int} (hf:Fm f) {a b:Nat} (ma0:Af f a≠0) (mb0:Af f b≠0) (s:Bool) :
  At f 0 s (Af f a*Af f b) (Ag f a+Ag f b) false=At f 0 s (VV f a*VV f b) (-5200) false:=by
 have hx:=Dx f a
 have hy:=Dx f b
 have hqf:=M2 hf
 refine Xf hf (-5200) (Nat.mul_ne_zero ma0 mb0) (Nat.mul_ne_zero (R9 ma0) (R9 mb0)) (by omega) (Int.le_refl _) ?_
 unfold VV
 rw [Int.sub_self,show (Ag f a+Ag f b - -5200).toNat=(Ag f a+2600).toNat+(Ag f b+2600).toNat by omega,Nat.pow_add]
 show _=_*1
 rw [Nat.mul_one]
 ac_rfl
def NH (f m:Int) (neg:Bool) (A B:Nat):Nat×Nat:=E9 f m neg (A*2^6000/B) (-6000) (decide (A*2^6000%B≠0))
theorem aCs {f m:Int} {neg:Bool} (hf:Fm f) {n k:Nat} (hn:n≠0) (hk:0<k) (hk53:k<2^53) (e:Int) {s:Nat} (hs:300<=s) :
  E9 f m neg (n*2^s/k) (e-s) (decide (n*2^s%k≠0))=DE f m neg n k e:=by
 obtain ⟨t,ht⟩:∃ t,300+t=s:=⟨s-300,by omega⟩
 have e300:n*2^s=n*2^300*2^t:=by rw [Nat.mul_assoc,← Nat.pow_add,ht]
 obtain ⟨q1,q2⟩:=u7 (n:=n*2^300) hk t
 have hP:=Eu hf
 have hb:fP f+1<=Ab (n*2^300/k):=by
  apply E2
  rw [Nat.le_div_iff_mul_le hk]
  have h1:2^fP f*k<=2^53*2^53:=Nat.mul_le_mul (Nat.pow_le_pow_right (by decide) hP) (by omega)
  have h2:1*2^300<=n*2^300:=Nat.mul_le_mul_right _ (by omega)
  have h3:(2:Nat)^53*2^53<=2^300:=by rw [← Nat.pow_add]; exact Nat.pow_le_pow_right (by decide) (by decide)
  rw [Nat.one_mul] at h2
  exact Nat.le_trans h1 (Nat.le_trans h3 h2)
 have:=vH (f:=f) (m:=m) (neg:=neg) hf (R:=n*2^300*2^t/k) (k:=t) (E:=e-s) (more:=decide (n*2^300*2^t%k≠0)) (by rw [q1]; exact hb)
 rw [e300,← this,q1,show e-(s:Int)+(t:Int)=e-300 by omega]
 unfold DE
 congr 1
 rw [Bool.eq_iff_iff,Bool.or_eq_true,decide_eq_true_eq,decide_eq_true_eq,decide_eq_true_eq]
 exact q2.symm
theorem o0 {f:Int} (hf:Fm f) (a b:Nat) :
  ∃ s:Nat,(s:Int)=6000+Ag f a-Ag f b/\300<=s/\VV f a*2^6000/VV f b=Af f a*2^s/Af f b/\(VV f a*2^6000%VV f b≠0↔Af f a*2^s%Af f b≠0):=by
 have ha:=gU hf a
 have hb:=gU hf b
 obtain ⟨s,hs⟩:=Int.eq_ofNat_of_zero_le (show 0<=6000+Ag f a-Ag f b by omega)
 have hp:=Nat.two_pow_pos (Ag f b+2600).toNat
 have e:VV f a*2^6000=Af f a*2^s*2^(Ag f b+2600).toNat:=by
  unfold VV
  rw [Nat.mul_assoc,Nat.mul_assoc,← Nat.pow_add,← Nat.pow_add]
  congr 2
  omega
 refine ⟨s,by omega,by omega,?_,?_⟩
 ·rw [e]; unfold VV; exact Nat.mul_div_mul_right _ _ hp
 ·rw [e]; unfold VV
  rw [Nat.mul_mod_mul_right]
  constructor
  ·intro h hc
   rw [hc,Nat.zero_mul] at h
   exact h rfl
  ·intro h
   exact Nat.mul_ne_zero h (by omega)
theorem oY {f m:Int} (hf:Fm f) {a b:Nat} (ma0:Af f a≠0) (mb0:Af f b≠0) (neg:Bool) :
  DE f m neg (Af f a) (Af f b) (Ag f a-Ag f b)=NH f m neg (VV f a) (VV f b):=by
 obtain ⟨s,h1,h2,h3,h4⟩:=o0 hf a b
 have:=aCs (f:=f) (m:=m) (neg:=neg) hf ma0 (show 0<Af f b by omega) (GE hf b) (Ag f a-Ag f b) h2
 rw [← this]
 unfold NH
 rw [h3,show Ag f a-Ag f b-(s:Int)=-6000 by omega]
 congr 1
 rw [Bool.eq_iff_iff,decide_eq_true_eq,decide_eq_true_eq]
 exact h4.symm
theorem aCt {f w:Int} (h:FF f w) {a b:Nat} (ha:eF f a≠Av f) (hb:eF f b≠Av f) (ma0:Af f a≠0) (mb0:Af f b≠0) (neg:Bool) :
  AL w f (NH w 0 neg (VV f a) (VV f b)).1=(NH f 0 neg (VV f a) (VV f b)).1:=by
 obtain ⟨hf,hw,hP,hq1,hq2,hX1,hX2,_,hq3⟩:=Na h
 obtain ⟨s,s1,s2,s3,s4⟩:=o0 hf a b
 have hx:=Dx f a
 have hy:=Dx f b
 have hxt:=xO hf ha
 have hyt:=xO hf hb
 have hqw:=M2 hw
 have hqf:=M2 hf
 have hP8:=BD hf
 have hP5:=Eu hf
 have ma:=MX hf a
 have mb:=MX hf b
 have hk0:0<Af f b:=by omega
 unfold NH
 rw [s3]
 have hdec:decide (VV f a*2^6000%VV f b≠0)=decide (Af f a*2^s%Af f b≠0):=by
  rw [Bool.eq_iff_iff,decide_eq_true_eq,decide_eq_true_eq]
  exact s4
 rw [hdec]
 have hmb:Af f b<2^53:=GE hf b
 generalize Af f a=n at *
 generalize Af f b=k at *
 have hdm:=Nat.div_add_mod (n*2^s) k
 have hr:=Nat.mod_lt (n*2^s) hk0
 have hks:k<=2^s:=Nat.le_trans (Nat.le_of_lt hmb) (Nat.pow_le_pow_right (by decide) (by omega))
 have hlo:2^(s-fP f)<=n*2^s/k:=by
  rw [Nat.le_div_iff_mul_le hk0]
  have h1:2^(s-fP f)*k<=2^(s-fP f)*2^fP f:=Nat.mul_le_mul_left _ (Nat.le_of_lt mb)
  rw [← Nat.pow_add,show s-fP f+fP f=s by omega] at h1
  have h2:1*2^s<=n*2^s:=Nat.mul_le_mul_right _ (by omega)
  omega
 have hhi:n*2^s/k<2^(fP f+s):=by
  have h1:n*2^s<2^(fP f+s):=VJ ma
  exact Nat.lt_of_le_of_lt (Nat.div_le_self _ _) h1
 generalize hR:n*2^s/k=R at *
 generalize hrr:n*2^s%k=r at *
 have bl:=E2 hlo
 have bh:=Cj hhi
 have hR0:R≠0:=fun h=>by
  rw [h] at bl
  have:Ab 0=0:=rfl
  omega
 unfold E9
 by_cases hr0:r=0
 ·-- exact
  rw [decide_eq_false (fun h=>h hr0),if_neg (by decide),if_neg (by decide)]
  have hjw:Bb w R (-6000)=Ab R-fP w:=by unfold Bb; omega
  have hjf:Ab R-fP f<=Bb f R (-6000):=by unfold Bb; omega
  refine VU hf hw (by omega) hq3 neg hR0 (by omega) ?_ (by omega) ?_
  ·exact Nat.le_trans (Nat.pow_le_pow_right (by decide) (show (qm w - -6000).toNat<=s-fP f by omega)) hlo
  ·intro X hX h1 h2 hne
   have hc:k*R=n*2^s:=by omega
   exact u6 hP ma mb hk0 hks hR0 (by omega) (by omega) (by omega) hjw hjf h1 h2 (fun hc2=>hne (Nat.eq_of_mul_eq_mul_left hk0 (by rw [← hc2,hc])))
 ·rw [decide_eq_true hr0,if_pos rfl,if_pos rfl]
  have hN0:2*R+1≠0:=by omega
  have b2:Ab (2*R+1)=Ab R+1:=by
   have:=aBQ (x:=2*R+1) hN0
   rw [show (2*R+1)/2=R by omega] at this
   exact this
  have hjw:Bb w (2*R+1) (-6000-1)=Ab (2*R+1)-fP w:=by unfold Bb; omega
  have hjf:Ab (2*R+1)-fP f<=Bb f (2*R+1) (-6000-1):=by unfold Bb; omega
  refine VU hf hw (by omega) hq3 neg hN0 (by omega) ?_ (by omega) ?_
  ·have h1:=Nat.pow_le_pow_right (n:=2) (by decide) (show (qm w-(-6000-1)).toNat<=s-fP f by omega)
   omega
  ·intro X hX h1 h2 hne
   have e2:n*2^(s+1)=2*(n*2^s):=by rw [Nat.pow_succ]; ac_rfl
   have e3:k*(2*R+1)=2*(k*R)+k:=by rw [Nat.mul_add,Nat.mul_one,Nat.mul_left_comm]
   have hks2:k<=2^(s+1):=Nat.le_trans hks (Nat.pow_le_pow_right (by decide) (by omega))
   refine u6 hP ma mb hk0 hks2 hN0 (by omega) (by omega) (by omega) hjw hjf h1 h2 ?_
   intro hc
   have hX2:X%2=0:=by
    have:=Ty (j:=1) hX (by omega)
    rwa [Nat.pow_one] at this
   obtain ⟨Y,hY⟩:∃ Y,X=2*Y:=⟨X/2,by omega⟩
   rw [e2,hY,Nat.mul_left_comm k 2 Y] at hc
   have hc2:n*2^s=k*Y:=by omega
   have:n*2^s%k=0:=by rw [hc2]; exact Nat.mul_mod_right _ _
   omega
end VL
namespace VL
open Go Vx
def HI (f w:Int) (x r:Nat):Prop:=Aj w x=0/\AL w f x=r
theorem HJ {w:Int} (hw:Fm w) (f:Int):HI f w (By w) (By f):=⟨(dP hw).1,aCb hw f⟩
theorem Ps {w:Int} (hw:Fm w) (f:Int) (s:Bool):HI f w (Bv w s) (Bv f s):=⟨(Tm hw s).1,aCa hw f s⟩
theorem bF {w:Int} (hw:Fm w) (f:Int) (s:Bool):HI f w (AZ w s) (AZ f s):=⟨(Ue hw s).1,bB hw f s⟩
theorem Qt {w:Int} (hw:Fm w) (m:Int) (s:Bool) (N:Nat) (E:Int):Aj w (At w m s N E false).1=0:=by
 rw [N6 hw]
 have h1:=vG hw m s N E
 have h2:=Tl hw
 exact WF hw s (by omega)
theorem aI3 {w:Int} (hw:Fm w) (s t:Bool) (A B:Nat):Aj w (Oa w s A t B)=0:=by
 unfold Oa
 split
 ·split
  ·exact (Ue hw _).1
  ·exact Qt hw _ _ _ _
 ·split
  ·exact (Ue hw _).1
  ·split
   ·exact Qt hw _ _ _ _
   ·exact Qt hw _ _ _ _
def SG (f:Int) (a b:Nat):Nat :=
 bif nan f a||nan f b then By f
 else bif (Ao f a&&Ao f b)&&!(sF f a==sF f b) then By f
 else bif Ao f a then Bv f (sF f a)
 else bif Ao f b then Bv f (sF f b)
 else (Df f 0 (sF f a) (Af f a) (Ag f a) (sF f b) (Af f b) (Ag f b)).1
theorem Vy {f:Int} {a b:Nat} (ha:Aj f a=0) (hb:Aj f b=0):(C8 f 0 a b).1=((SG f a b:Nat):Int):=by
 obtain ⟨hf,_⟩:=Ca ha
 unfold C8
 rw [if_pos hf,if_pos (by decide),if_pos ⟨ha,hb⟩]
 unfold SF SG
 cases hna:nan f a
 ·cases hnb:nan f b
  ·rw [HY hna,HY hnb]
   cases hia:Ao f a
   ·cases hib:Ao f b
    ·rfl
    ·show ((b:Nat):Int)=((Bv f (sF f b):Nat):Int)
     rw [← WB hb hib]
   ·cases hib:Ao f b
    ·show ((a:Nat):Int)=((Bv f (sF f a):Nat):Int)
     rw [← WB ha hia]
    ·cases sF f a==sF f b
     ·rfl
     ·show ((a:Nat):Int)=((Bv f (sF f a):Nat):Int)
      rw [← WB ha hia]
  ·cases BM f a <;> cases BM f b <;> rfl
 ·cases nan f b <;> cases BM f a <;> cases BM f b <;> rfl
theorem Vz {f w:Int} (h:FF f w) {a b x y:Nat} (sa:same f w a x) (sb:same f w b y):HI f w (SG w x y) (SG f a b):=by
 obtain ⟨hf,hw,_⟩:=Na h
 obtain ⟨a1,a2,a3,a4,a5,a6,a7⟩:=sa
 obtain ⟨b1,b2,b3,b4,b5,b6,b7⟩:=sb
 unfold SG
 rw [a3,a4,b3,b4]
 cases hna:nan f a
 ·cases hnb:nan f b
  ·rw [a6 hna,b6 hnb]
   cases hia:Ao f a
   ·cases hib:Ao f b
    ·show HI f w (Df w 0 (sF f a) (Af w x) (Ag w x) (sF f b) (Af w y) (Ag w y)).1 (Df f 0 (sF f a) (Af f a) (Ag f a) (sF f b) (Af f b) (Ag f b)).1
     rw [wG hf,wG hw,a7 hna hia,b7 hnb hib]
     exact ⟨aI3 hw _ _ _ _,aI4 h (HL hna hia) (HL hnb hib) _ _⟩
    ·exact Ps hw f _
   ·cases hib:Ao f b
    ·exact Ps hw f _
    ·cases sF f a==sF f b
     ·exact HJ hw f
     ·exact Ps hw f _
  ·exact HJ hw f
 ·exact HJ hw f
def TA (f:Int) (a b:Nat):Nat :=
 bif nan f a||nan f b then By f
 else bif (Ao f a&&Ax f b)||(Ax f a&&Ao f b) then By f
 else bif Ao f a||Ao f b then Bv f (!(sF f a==sF f b))
 else bif Ax f a||Ax f b then AZ f (!(sF f a==sF f b))
 else (At f 0 (!(sF f a==sF f b)) (Af f a*Af f b) (Ag f a+Ag f b) false).1
theorem nR {A B:Type} (c:Bool) (x y:A×B):(bif c then x else y).1=bif c then x.1 else y.1:=by cases c <;> rfl
theorem nS (c:Bool) (x y:Nat):(bif c then (x:Int) else (y:Int))=((bif c then x else y:Nat):Int):=by cases c <;> rfl
theorem tG {f:Int} {a b:Nat} (ha:Aj f a=0) (hb:Aj f b=0):(Ee f 0 a b).1=((TA f a b:Nat):Int):=by
 obtain ⟨hf,_⟩:=Ca ha
 unfold Ee
 rw [if_neg (show ¬ ¬ Fm f from fun h=>h hf),if_neg (by decide),if_neg (fun h=>h ha),if_neg (fun h=>h hb)]
 unfold Tz TA
 simp only [nR,nS]
theorem tI {f w:Int} (h:FF f w) {a b x y:Nat} (sa:same f w a x) (sb:same f w b y):HI f w (TA w x y) (TA f a b):=by
 obtain ⟨hf,hw,_⟩:=Na h
 obtain ⟨a1,a2,a3,a4,a5,a6,a7⟩:=sa
 obtain ⟨b1,b2,b3,b4,b5,b6,b7⟩:=sb
 unfold TA
 rw [a3,a4,b3,b4,a5,b5]
 cases hna:nan f a
 ·cases hnb:nan f b
  ·rw [a6 hna,b6 hnb]
   simp only [Bool.or_self,cond_false]
   cases hi1:Ao f a&&Ax f b||Ax f a&&Ao f b
   ·simp only [cond_false]
    cases hi:Ao f a||Ao f b
    ·simp only [cond_false]
     cases hz:Ax f a||Ax f b
     ·simp only [cond_false]
      rw [Bool.or_eq_false_iff] at hi hz
      have ma0:=CG hz.1
      have mb0:=CG hz.2
      have mx0:=CG (a5.trans hz.1)
      have my0:=CG (b5.trans hz.2)
      rw [tH hf ma0 mb0,tH hw mx0 my0,a7 hna hi.1,b7 hnb hi.2]
      exact ⟨Qt hw _ _ _ _,aEj h (HL hna hi.1) (HL hnb hi.2) ma0 mb0 _⟩
     ·exact bF hw f _
    ·exact Ps hw f _
   ·exact HJ hw f
  ·exact HJ hw f
 ·exact HJ hw f
def SU (f:Int) (a b:Nat):Nat :=
 bif nan f a||nan f b then By f
 else bif (Ao f a&&Ao f b)||(Ax f a&&Ax f b) then By f
 else bif Ao f a then Bv f (!(sF f a==sF f b))
 else bif Ax f b then Bv f (!(sF f a==sF f b))
 else bif Ao f b||Ax f a then AZ f (!(sF f a==sF f b))
 else (DE f 0 (!(sF f a==sF f b)) (Af f a) (Af f b) (Ag f a-Ag f b)).1
theorem oX {f:Int} {a b:Nat} (ha:Aj f a=0) (hb:Aj f b=0):(D9 f 0 a b).1=((SU f a b:Nat):Int):=by
 obtain ⟨hf,_⟩:=Ca ha
 unfold D9
 rw [if_neg (show ¬ ¬ Fm f from fun h=>h hf),if_neg (by decide),if_neg (fun h=>h ha),if_neg (fun h=>h hb)]
 unfold ST SU
 simp only [nR,nS]
theorem aCr {w:Int} (hw:Fm w) (s:Bool) (A B:Nat):Aj w (NH w 0 s A B).1=0:=by
 unfold NH E9
 split
 ·exact Qt hw _ _ _ _
 ·exact Qt hw _ _ _ _
theorem aCx {f w:Int} (hw:Fm w) {na nb ia ib za zb s s':Bool} {P Q:Nat} (hs:na=false->nb=false->s=s') (key:na=false->nb=false->ia=false->ib=false->za=false->zb=false->HI f w P Q) :
  HI f w (bif na||nb then By w else bif ia&&ib||za&&zb then By w else bif ia then Bv w s else bif zb then Bv w s else bif ib||za then AZ w s else P)
   (bif na||nb then By f else bif ia&&ib||za&&zb then By f else bif ia then Bv f s' else bif zb then Bv f s' else bif ib||za then AZ f s' else Q):=by
 cases na
 ·cases nb
  ·rw [hs rfl rfl]
   cases ia
   ·cases zb
    ·cases ib
     ·cases za
      ·exact key rfl rfl rfl rfl rfl rfl
      ·exact bF hw f _
     ·cases za <;> exact bF hw f _
    ·cases ib <;> cases za <;> first | exact HJ hw f | exact Ps hw f _
   ·cases ib <;> cases za <;> cases zb <;> first | exact HJ hw f | exact Ps hw f _
  ·exact HJ hw f
 ·exact HJ hw f
theorem oZ {f w:Int} (h:FF f w) {a b x y:Nat} (sa:same f w a x) (sb:same f w b y):HI f w (SU w x y) (SU f a b):=by
 obtain ⟨hf,hw,_⟩:=Na h
 obtain ⟨a1,a2,a3,a4,a5,a6,a7⟩:=sa
 obtain ⟨b1,b2,b3,b4,b5,b6,b7⟩:=sb
 have key:nan f a=false->nan f b=false->Ao f a=false->Ao f b=false->Ax f a=false->Ax f b=false->∀ s,
   HI f w (DE w 0 s (Af w x) (Af w y) (Ag w x-Ag w y)).1 (DE f 0 s (Af f a) (Af f b) (Ag f a-Ag f b)).1:=by
  intro hna hnb hia hib hza hzb s
  have ma0:=CG hza
  have mb0:=CG hzb
  have mx0:=CG (a5.trans hza)
  have my0:=CG (b5.trans hzb)
  rw [oY hf ma0 mb0,oY hw mx0 my0,a7 hna hia,b7 hnb hib]
  exact ⟨aCr hw _ _ _,aCt h (HL hna hia) (HL hnb hib) ma0 mb0 _⟩
 unfold SU
 rw [a3,a4,b3,b4,a5,b5]
 exact aCx hw (fun h1 h2=>by rw [a6 h1,b6 h2]) (fun h1 h2 h3 h4 h5 h6=>by rw [a6 h1,b6 h2]; exact key h1 h2 h3 h4 h5 h6 _)
end VL
namespace VL
open Go Vx
theorem aAR (f:Int):∃ F:Nat,F<4/\RC (f,())=some ((F:Int),()):=by
 have h0:(0:Int)<=IntKind.wrap .u64 f:=by
  show (0:Int)<=f%18446744073709551616
  exact Int.emod_nonneg _ (by decide)
 obtain ⟨n,hn⟩:=Int.eq_ofNat_of_zero_le h0
 refine ⟨n%4,Nat.mod_lt _ (by decide),?_⟩
 show Yh f=_
 unfold Yh
 rw [hn,show Int.tmod (n:Int) 4=((n%4:Nat):Int) from rfl,Au (by omega)]
theorem aAS (f:Int):∃ F:Int,RD (f,())=some (F,()):=⟨_,rfl⟩
theorem MS {f:Int} (hf:Fm f) {a:Nat} (ha:a<2^64):∃ r:Nat,OP (f,(a:Int),())=some ((r:Int),())/\Aj f r=0:=by
 have key:∀ (W:Nat) (P E:Int),fW f=W->W<=63->OO (f,())=some ((W:Int),P,E,())->((W:Int)==64)=false->∃ r:Nat,OP (f,(a:Int),())=some ((r:Int),())/\Aj f r=0:=by
  intro W P E hW h63 p0 e0
  refine ⟨a%2^W,?_,SP hf (by rw [hW]; exact Nat.mod_lt _ (Nat.two_pow_pos W))⟩
  show Qy Hq.pre Hq.F f a=_
  unfold Qy
  have e1:decide ((0:Int)<=(W:Int))=true:=decide_eq_true (by omega)
  have hp:=Nat.two_pow_pos W
  have h2:2^W<=2^63:=Nat.pow_le_pow_right (by decide) h63
  have e2:IntKind.wrap .u64 (((2^W:Nat):Int)-1)=((2^W-1:Nat):Int):=by
   rw [show ((2^W:Nat):Int)-1=((2^W-1:Nat):Int) by omega,Ub _ (by omega)]
  simp only [uR p0,qW p0,cond_true,e0,cond_false,e1,Qv h63,e2,Pl ha (show W<=64 by omega)]
 rcases CH hf with rfl | rfl | rfl | rfl
 ·exact key 16 11 (-14) (by decide) (by decide) rfl rfl
 ·exact key 16 8 (-126) (by decide) (by decide) rfl rfl
 ·exact key 32 24 (-126) (by decide) (by decide) rfl rfl
 ·refine ⟨a,?_,SP hf ha⟩
  show Qy Hq.pre Hq.F 3 a=_
  unfold Qy
  have p0:OO ((3:Int),())=some (64,53,-1022,()):=rfl
  simp only [uR p0,qW p0,cond_true]
  rfl
theorem nN (m:Int) (hm:m=0∨m=3):C8 0 m 15360 4096=(if m=0 then 15360 else 15361,16,0,()):=by
 rcases hm with rfl | rfl
 ·decide +kernel
 ·decide +kernel
theorem aAQ:RB ()=some (true,()):=by
 show Yg Dj.pre Dj.F=_
 unfold Yg
 have p1:=Ri 0 0 (a:=15360) (b:=4096) (by decide) (by decide)
 have p2:=Ri 0 3 (a:=15360) (b:=4096) (by decide) (by decide)
 rw [nN 0 (.inl rfl)] at p1
 rw [nN 3 (.inr rfl)] at p2
 have p1:Nw ((0:Int),((0:Int),((15360:Int),((4096:Int),()))))=_:=p1
 have p2:Nw ((0:Int),((3:Int),((15360:Int),((4096:Int),()))))=_:=p2
 dsimp only
 simp only [TJ p1,Tf p1,TJ p2,Tf p2,cond_true]
 rfl
theorem aBo (l:List Int) (hl:∀ z∈l,Fm z) (hlen:l.length<1000) (rest:List Int×List Int×Int×Unit) :
  Vf (((l.length:Int),(l,((0:Int),rest))),())=some (.inl (rest,())):=by
 have key:=DH (sV AE.pre AE.F Aw.pre Aw.F) (fun x=>l.length-x.1.2.2.1.toNat)
  (fun x=>∃ i:Nat,i<=l.length/\x=(((l.length:Int),(l,((i:Int),rest))),()))
  (fun _=>.inl (rest,())) ?_ _ ⟨0,Nat.zero_le _,rfl⟩
 ·exact key
 intro L x hx hL
 obtain ⟨i,hi,rfl⟩:=hx
 unfold PY
 rcases Nat.lt_or_ge i l.length with hlt | hge
 ·have hg:l.getD i 0=l[i]:=by simp [List.getD_eq_getElem?_getD,hlt]
  have p0:=Nx (hl _ (List.getElem_mem hlt))
  have e0:decide ((i:Int)<(l.length:Int))=true:=decide_eq_true (by omega)
  have e1:(decide ((0:Int)<=(i:Int))&&decide ((i:Int)<(l.length:Int)))=true:=by rw [e0,decide_eq_true (by omega)]; rfl
  have e2:l.getD (Int.toNat (i:Int)) 0=l[i]:=by rw [Int.toNat_natCast,hg]
  have e3:IntKind.wrap .i64 ((i:Int)+1)=((i+1:Nat):Int):=by rw [Au (by omega)]; omega
  dsimp only
  simp only [e0,e1,e2,e3,cond_true,HX p0,HO p0,bne_self_eq_false,cond_false]
  exact hL _ ⟨i+1,by omega,rfl⟩ (by simp only [Int.toNat_natCast]; omega)
 ·have e0:decide ((i:Int)<(l.length:Int))=false:=decide_eq_false (by omega)
  simp only [e0,cond_false]
theorem aBp (l:List Int) (hl:∀ z∈l,0<=z/\z<=5) (hlen:l.length<1000) (rest:List Int×Int×Unit) :
  Sh (((l.length:Int),(l,((0:Int),rest))),())=some (.inl (rest,())):=by
 have key:=DH (sW AE.pre AE.F Aw.pre Aw.F) (fun x=>l.length-x.1.2.2.1.toNat)
  (fun x=>∃ i:Nat,i<=l.length/\x=(((l.length:Int),(l,((i:Int),rest))),()))
  (fun _=>.inl (rest,())) ?_ _ ⟨0,Nat.zero_le _,rfl⟩
 ·exact key
 intro L x hx hL
 obtain ⟨i,hi,rfl⟩:=hx
 unfold PZ
 rcases Nat.lt_or_ge i l.length with hlt | hge
 ·have hg:l.getD i 0=l[i]:=by simp [List.getD_eq_getElem?_getD,hlt]
  obtain ⟨b1,b2⟩:=hl _ (List.getElem_mem hlt)
  have e0:decide ((i:Int)<(l.length:Int))=true:=decide_eq_true (by omega)
  have e1:(decide ((0:Int)<=(i:Int))&&decide ((i:Int)<(l.length:Int)))=true:=by rw [e0,decide_eq_true (by omega)]; rfl
  have e2:l.getD (Int.toNat (i:Int)) 0=l[i]:=by rw [Int.toNat_natCast,hg]
  have e3:IntKind.wrap .i64 ((i:Int)+1)=((i+1:Nat):Int):=by rw [Au (by omega)]; omega
  have e4:(decide (l[i]<(0:Int))||decide (l[i]>(5:Int)))=false:=by rw [decide_eq_false (by omega),decide_eq_false (by omega)]; rfl
  dsimp only
  simp only [e0,e1,e2,e3,e4,cond_true,cond_false]
  exact hL _ ⟨i+1,by omega,rfl⟩ (by simp only [Int.toNat_natCast]; omega)
 ·have e0:decide ((i:Int)<(l.length:Int))=false:=decide_eq_false (by omega)
  simp only [e0,cond_false]
theorem aAU {f w m:Int} {a:Nat} (hw:Fm w) (hm:0<=m/\m<=5) (ha:Aj f a=0):RF ((f::w::[]),(m::[]),(a:Int),())=some (0,()):=by
 obtain ⟨hf,_⟩:=Ca ha
 show Yj AE.pre AE.F Aw.pre Aw.F Vf Sh (f::w::[]) (m::[]) a=_
 unfold Yj
 have q1:=aBo (f::w::[]) (fun z hz=>by
  rcases List.mem_cons.1 hz with rfl | hz
  ·exact hf
  ·rw [List.mem_singleton] at hz; rw [hz]; exact hw) (show (2:Nat)<1000 by decide) ((m::[]),(f::w::[]),(a:Int),())
 have q2:=aBp (m::[]) (fun z hz=>by rw [List.mem_singleton] at hz; rw [hz]; exact hm) (show (1:Nat)<1000 by decide) ((f::w::[]),(a:Int),())
 have p0:=IU f a (DJ ha)
 rw [ha] at p0
 rw [q1]
 show Vx.Bh (Sh ((((m::[]).length:Int),((m::[]),((0:Int),((f::w::[]),(a:Int),())))),())) _=_
 rw [q2]
 show (bif decide ((0:Int)<(((f::w::[]):List Int).length:Int)) then (bif Aw.pre (f,(a:Int),()) then some (Aw.F (f,(a:Int),())) else none) else none)=_
 have e0:decide ((0:Int)<(((f::w::[]):List Int).length:Int))=true:=rfl
 rw [e0]
 simp only [HW p0,HN p0,cond_true]
 rfl
theorem aB9 {f w m:Int} (hw:Fm w) (hm:0<=m/\m<=5) {a:Nat} (ha:Aj f a=0) (hfin:eF f a≠Av f) (hm0:Af f a≠0) :
  OQ (w,m,Ea (od (sF f a) (Af f a) (Ag f a)),())=some (((At w m (sF f a) (Af f a) (Ag f a) false).1:Int),((At w m (sF f a) (Af f a) (Ag f a) false).2:Int),0,()):=by
 obtain ⟨hf,_⟩:=Ca ha
 obtain ⟨o1,o2,o3⟩:=eE (sF f a) (n:=Af f a) (Ag f a) (GE hf a) (Of hf a)
 rcases JK (sF f a) (Af f a) (Ag f a) with ⟨_,h⟩ | ⟨h1,h2,h3,h4,h5⟩
 ·exact absurd h hm0
 generalize hod:od (sF f a) (Af f a) (Ag f a)=t at *
 have hsc:=JS (m:=m) (neg:=sF f a) hw (n:=t.2.1) (by omega) (tz (Af f a)) (Ag f a)
 rw [Nat.mul_comm,← h4,← h5] at hsc
 have p:=aA1 hw hm (sF f a) (n:=t.2.1) (Nat.lt_of_lt_of_le o1 (Nat.pow_le_pow_right (by decide) (by decide))) (by omega) h2 t.2.2 (by omega)
 rw [← hsc] at p
 have e:Ea t=dy (sF f a) t.2.1 t.2.2:=by rw [← h1]; rfl
 rw [e]
 exact p
theorem aAV {f w:Int} (hw:Fm w) {a:Nat} (ha:Aj f a=0):∃ g:Int,RG (f,w,(0:Int),(a:Int),())=some (((AL f w a:Nat):Int),g,()):=by
 obtain ⟨hf,_⟩:=Ca ha
 show ∃ g:Int,Yk Cx.pre Cx.F Cz.pre Cz.F CJ.pre CJ.F Cy.pre Cy.F Bm.pre Bm.F EW.pre EW.F Mt.pre Mt.F f w 0 a=some (((AL f w a:Nat):Int),g,())
 have p0:=RZ (DJ ha) ha
 have p1:=UZ ha
 have p2:=UV hw
 have p3:=UY hw (sF f a)
 have p4:=OE hw (sF f a)
 have c1:=SQ f a
 have c2:=VQ f a
 have c3:=aY hf a
 unfold Yk AL
 simp only [JQ p0,JD p0,W6 p1,Wv p1,W2 p2,Wp p2,W5 p3,Wu p3,Qo p4,Px p4,cond_true]
 cases hn:nan f a
 ·rw [hn] at c1
  have n0:(A4 f a==0)=false:=by cases h:A4 f a==0 <;> rw [h] at c1 <;> simp at c1 ⊢
  have n1:(A4 f a==1)=false:=by cases h:A4 f a==1 <;> rw [h] at c1 <;> simp at c1 ⊢
  rw [n0,n1]
  cases hi:Ao f a
  ·rw [hi] at c2
   have i2:(A4 f a==2)=false:=by cases h:A4 f a==2 <;> rw [h] at c2 <;> simp at c2 ⊢
   have i9:(A4 f a==9)=false:=by cases h:A4 f a==9 <;> rw [h] at c2 <;> simp at c2 ⊢
   rw [i2,i9]
   cases hz:Ax f a
   ·rw [hz] at c3
    have z5:(A4 f a==5)=false:=by cases h:A4 f a==5 <;> rw [h] at c3 <;> simp at c3 ⊢
    have z6:(A4 f a==6)=false:=by cases h:A4 f a==6 <;> rw [h] at c3 <;> simp at c3 ⊢
    rw [z5,z6]
    have hfin:=HL hn hi
    have p5:=Zp ha hfin
    have p6:=aB9 (m:=0) hw (by decide) ha hfin (CG hz)
    simp only [fD p5,cR p5,aF2 p6,aDD p6,cond_true,cond_false]
    exact ⟨_,rfl⟩
   ·rw [hz] at c3
    rw [Bool.or_eq_true] at c3
    rcases c3 with h | h
    ·have h6:(A4 f a==6)=false:=by rw [beq_iff_eq] at h; rw [h]; rfl
     rw [h,h6]
     simp only [cond_true,cond_false]
     exact ⟨_,rfl⟩
    ·rw [h]
     simp only [cond_true,cond_false]
     exact ⟨_,rfl⟩
  ·rw [hi] at c2
   rw [Bool.or_eq_true] at c2
   rcases c2 with h | h
   ·have h9:(A4 f a==9)=false:=by rw [beq_iff_eq] at h; rw [h]; rfl
    rw [h,h9]
    simp only [cond_true,cond_false]
    exact ⟨_,rfl⟩
   ·rw [h]
    simp only [cond_true,cond_false]
    exact ⟨_,rfl⟩
 ·rw [hn] at c1
  rw [Bool.or_eq_true] at c1
  rcases c1 with h | h
  ·have h0:(A4 f a==0)=false:=by rw [beq_iff_eq] at h; rw [h]; rfl
   rw [h,h0]
   simp only [cond_true,cond_false]
   exact ⟨_,rfl⟩
  ·rw [h]
   simp only [cond_true,cond_false]
   exact ⟨_,rfl⟩
theorem jL {f w:Int} (hw:Fm w) {a:Nat} (ha:Aj f a=0):∃ g:Int,RH (f,w,(0:Int),(a:Int),())=some (((AL f w a:Nat):Int),g,0,()):=by
 obtain ⟨g,p1⟩:=aAV (f:=f) hw ha
 have p0:=aAU (m:=0) hw (by decide) ha
 refine ⟨g,?_⟩
 show Yl Mj.pre Mj.F Mk.pre Mk.F f w 0 a=_
 unfold Yl
 simp only [aFU p0,aDv p0,aFV p1,aDw p1,cond_true,bne_self_eq_false,cond_false]
end VL
namespace VL
open Go Vx
def DI (o:Int):BinOp:=if o=0 then .add else if o=1 then .sub else if o=2 then .mul else .quo
def EC (o f:Int) (a b:Nat):Int:=if o=0 then (C8 f 0 a b).1 else if o=1 then (DM f 0 a b).1 else if o=2 then (Ee f 0 a b).1 else (D9 f 0 a b).1
theorem tU (o:Int):DI o=.add∨DI o=.sub∨DI o=.mul∨DI o=.quo:=by
 unfold DI; split
 ·exact .inl rfl
 ·split
  ·exact .inr (.inl rfl)
  ·split
   ·exact .inr (.inr (.inl rfl))
   ·exact .inr (.inr (.inr rfl))
theorem dL (k:FloatKind) (o:Int) {a b:Nat} (ha:Aj (fk k) a=0) (hb:Aj (fk k) b=0):EC o (fk k) a b=(CE (fk k) (BI (DI o) k a b):Nat):=by
 unfold EC DI
 by_cases h0:o=0
 ·rw [if_pos h0,if_pos h0]; exact (nB k ha hb).1
 rw [if_neg h0,if_neg h0]
 by_cases h1:o=1
 ·rw [if_pos h1,if_pos h1]; exact (aIZ k ha hb).1
 rw [if_neg h1,if_neg h1]
 by_cases h2:o=2
 ·rw [if_pos h2,if_pos h2]; exact (aEk k ha hb).1
 rw [if_neg h2,if_neg h2]; exact (aCv k ha hb).1
theorem jN (o:Int) (x y:Option Nat):RL (o,x,y,())=some (BH (DI o) .f64 x y,()):=by
 show Yo o x y=_
 unfold Yo DI
 by_cases h0:o=0
 ·subst h0; rfl
 rw [if_neg h0,beq_false_of_ne h0]
 by_cases h1:o=1
 ·subst h1; rfl
 rw [if_neg h1,beq_false_of_ne h1]
 by_cases h2:o=2
 ·subst h2; rfl
 rw [if_neg h2,beq_false_of_ne h2]; rfl
theorem jO {op:BinOp} (hop:op=.add∨op=.sub∨op=.mul∨op=.quo) (a b:Nat):RM (BH op .f64 (some a) (some b),())=some (((CE 3 (BI op .f64 a b):Nat):Int),()):=by
 obtain ⟨h1,h2⟩:=xC .f64 hop a b
 have h1:_=CE 3 (BI op .f64 a b):=h1
 show Yp (fun x=>x.1.isSome) (fun x=>(((x.1.getD 0:Nat):Int),())) (BH op .f64 (some a) (some b))=_
 unfold Yp
 rw [← h1]
 cases h:Dp .f64 (BH op .f64 (some a) (some b)) (BH op .f64 (some a) (some b)) != some .eq
 ·rw [cond_false,cond_false]
  dsimp only
  rw [h2 h,cond_true]
 ·rw [cond_true,cond_true]
  show some ((9221120237041090560:Int),())=_
  rw [show (9221120237041090560:Int)=((By 3:Nat):Int) by decide]; rfl
theorem UT {op:BinOp} (hop:op=.add∨op=.sub∨op=.mul∨op=.quo) (a b:Nat):RP (BH op .f32 (some a) (some b),())=some (((CE 2 (BI op .f32 a b):Nat):Int),()):=by
 obtain ⟨h1,h2⟩:=xC .f32 hop a b
 have h1:_=CE 2 (BI op .f32 a b):=h1
 have hlt:CE 2 (BI op .f32 a b)<2^32:=aBV a b
 show Ys (fun x=>x.1.isSome) (fun x=>(((x.1.getD 0:Nat):Int),())) (BH op .f32 (some a) (some b))=_
 unfold Ys
 rw [← h1] at hlt ⊢
 cases h:Dp .f32 (BH op .f32 (some a) (some b)) (BH op .f32 (some a) (some b)) != some .eq
 ·rw [h,cond_false] at hlt
  rw [cond_false,cond_false]
  dsimp only
  rw [h2 h,cond_true,Ub _ (by omega)]
 ·rw [cond_true,cond_true]
  show some ((2143289344:Int),())=_
  rw [show (2143289344:Int)=((By 2:Nat):Int) by decide]; rfl
theorem aAZ (o:Int) {a b:Nat} (ha:Aj 3 a=0) (hb:Aj 3 b=0):RR ((),o,(a:Int),(b:Int),())=some (EC o 3 a b,()):=by
 show Yu (fun _=>true) (fun x=>(some x.1.toNat,())) EX.pre EX.F EY.pre EY.F () o a b=_
 unfold Yu
 have p0:=jN o (some a) (some b)
 have p1:=jO (tU o) a b
 dsimp only
 have hm:EC o 3 a b=_:=dL .f64 o (a:=a) (b:=b) ha hb
 rw [Int.toNat_natCast,Int.toNat_natCast,uU p0,qZ p0,uV p1,q7 p1,hm]
 rfl
theorem aAY (o:Int) {a b:Nat} (ha:Aj 2 a=0) (hb:Aj 2 b=0):RQ ((),o,(a:Int),(b:Int),())=some (EC o 2 a b,()):=by
 show Yt (fun _=>true) (fun x=>(some x.1.toNat,())) Mn.pre Mn.F () o a b=_
 unfold Yt
 have la:a<2^32:=(Ca ha).2
 have lb:b<2^32:=(Ca hb).2
 have w1:IntKind.wrap .u32 (a:Int)=(a:Int):=by
  show (a:Int)%4294967296=a
  omega
 have w2:IntKind.wrap .u32 (b:Int)=(b:Int):=by
  show (b:Int)%4294967296=b
  omega
 have p1:=UT (.inl rfl) a b
 have p2:=UT (.inr (.inl rfl)) a b
 have p3:=UT (.inr (.inr (.inl rfl))) a b
 have p4:=UT (.inr (.inr (.inr rfl))) a b
 dsimp only
 have hm:EC o 2 a b=_:=dL .f32 o (a:=a) (b:=b) ha hb
 rw [w1,w2,Int.toNat_natCast,Int.toNat_natCast,WW p1,Wj p1,WW p2,Wj p2,WW p3,Wj p3,WW p4,Wj p4,hm]
 unfold DI
 by_cases h0:o=0
 ·subst h0; rfl
 rw [if_neg h0,beq_false_of_ne h0]
 by_cases h1:o=1
 ·subst h1; rfl
 rw [if_neg h1,beq_false_of_ne h1]
 by_cases h2:o=2
 ·subst h2; rfl
 rw [if_neg h2,beq_false_of_ne h2]; rfl
theorem aH5 {f:Int} (h:FF f 3) (o:Int) {a b:Nat} (ha:Aj f a=0) (hb:Aj f b=0) :
  Aj 3 (CE 3 (BI (DI o) .f64 (AL f 3 a) (AL f 3 b)))=0/\((AL 3 f (CE 3 (BI (DI o) .f64 (AL f 3 a) (AL f 3 b))):Nat):Int)=EC o f a b:=by
 have sa:=vX h ha
 have sb:=vX h hb
 have ca:Aj 3 (AL f 3 a)=0:=sa.2.1
 have cb:Aj 3 (AL f 3 b)=0:=sb.2.1
 have key:=dL .f64 o (a:=AL f 3 a) (b:=AL f 3 b) ca cb
 have key:EC o 3 (AL f 3 a) (AL f 3 b)=(CE 3 (BI (DI o) .f64 (AL f 3 a) (AL f 3 b)):Nat):=key
 unfold EC at key ⊢
 by_cases h0:o=0
 ·rw [if_pos h0] at key ⊢
  rw [Vy ca cb] at key
  rw [← Int.ofNat.inj key,Vy ha hb,(Vz h sa sb).2]
  exact ⟨(Vz h sa sb).1,rfl⟩
 rw [if_neg h0] at key ⊢
 by_cases h1:o=1
 ·rw [if_pos h1] at key ⊢
  have e1:DM 3 0 (AL f 3 a) (AL f 3 b)=C8 3 0 (AL f 3 a) (Cc 3 (AL f 3 b)):=by unfold DM; rw [if_pos cb]
  have e2:DM f 0 a b=C8 f 0 a (Cc f b):=by unfold DM; rw [if_pos hb]
  rw [e1,Vy ca (MZ (Ca cb).1 _)] at key
  rw [← Int.ofNat.inj key,e2,Vy ha (MZ (Ca hb).1 _),(Vz h sa (vY h sb)).2]
  exact ⟨(Vz h sa (vY h sb)).1,rfl⟩
 rw [if_neg h1] at key ⊢
 by_cases h2:o=2
 ·rw [if_pos h2] at key ⊢
  rw [tG ca cb] at key
  rw [← Int.ofNat.inj key,tG ha hb,(tI h sa sb).2]
  exact ⟨(tI h sa sb).1,rfl⟩
 ·rw [if_neg h2] at key ⊢
  rw [oX ca cb] at key
  rw [← Int.ofNat.inj key,oX ha hb,(oZ h sa sb).2]
  exact ⟨(oZ h sa sb).1,rfl⟩
theorem jM {f:Int} {a:Nat} (ha:Aj f a=0):RK ((f,()),(a:Int),())=some (some (AL f 3 a),()):=by
 show Yn D8.pre D8.F (fun _=>true) (fun x=>(some x.1.toNat,())) (f,()) a=_
 unfold Yn
 obtain ⟨g,p0⟩:=jL (f:=f) (w:=3) ⟨by decide,by decide⟩ ha
 dsimp only
 rw [uS p0,qX p0]
 rfl
theorem aAX {f:Int} (h:FF f 3) (o:Int) {a b:Nat} (ha:Aj f a=0) (hb:Aj f b=0):RO ((f,()),o,(a:Int),(b:Int),())=some (EC o f a b,()):=by
 obtain ⟨hc,hr⟩:=aH5 h o ha hb
 have p0:=jM ha
 have p1:=jM hb
 have p2:=jN o (some (AL f 3 a)) (some (AL f 3 b))
 have p3:RN ((f,()),BH (DI o) .f64 (some (AL f 3 a)) (some (AL f 3 b)),())=some (EC o f a b,()):=by
  show Yq EY.pre EY.F D8.pre D8.F (f,()) (BH (DI o) .f64 (some (AL f 3 a)) (some (AL f 3 b)))=_
  unfold Yq
  have q0:=jO (tU o) (AL f 3 a) (AL f 3 b)
  obtain ⟨g,q1⟩:=jL (f:=3) (w:=f) (Ca ha).1 hc
  dsimp only
  rw [uV q0,q7 q0]
  have q2:D8.pre ((3:Int),f,(0:Int),((CE 3 (BI (DI o) .f64 (AL f 3 a) (AL f 3 b)):Nat):Int),())=true:=uS q1
  have q3:D8.F ((3:Int),f,(0:Int),((CE 3 (BI (DI o) .f64 (AL f 3 a) (AL f 3 b)):Nat):Int),())=_:=qX q1
  rw [cond_true]
  erw [q2,q3,← hr]
  rfl
 show Yr Ml.pre Ml.F EX.pre EX.F Mm.pre Mm.F (f,()) o a b=_
 unfold Yr
 dsimp only
 rw [uT p0,qY p0,uT p1,qY p1]
 dsimp only
 rw [uU p2,qZ p2,aFX p3,aDy p3]
 rfl
end VL
namespace VL
open Go Vx
theorem Et {c:Bool} {x y:Int×Int×Int×Unit} (hx:x.2.2.1=0) (hy:y.2.2.1=0):(bif c then x else y).2.2.1=0:=by
 cases c
 ·exact hy
 ·exact hx
theorem nD {f:Int} {a b:Nat} (ha:Aj f a=0) (hb:Aj f b=0):(C8 f 0 a b).2.2.1=0:=by
 unfold C8
 rw [if_pos (Ca ha).1,if_pos (show (0:Int)<=0/\(0:Int)<=5 by decide),if_pos ⟨ha,hb⟩]
 exact Et rfl (Et rfl (Et rfl (Et rfl (Et rfl rfl))))
theorem aI0 {f:Int} {a b:Nat} (ha:Aj f a=0) (hb:Aj f b=0):(DM f 0 a b).2.2.1=0:=by
 unfold DM
 rw [if_pos hb]
 exact nD ha (MZ (Ca hb).1 b)
theorem aEm {f:Int} {a b:Nat} (ha:Aj f a=0) (hb:Aj f b=0):(Ee f 0 a b).2.2.1=0:=by
 unfold Ee
 rw [if_neg (show ¬ ¬ Fm f from fun h=>h (Ca ha).1),if_neg (show ¬ ((0:Int)<0∨(0:Int)>5) by decide),if_neg (show ¬ Aj f a≠0 from fun h=>h ha),if_neg (show ¬ Aj f b≠0 from fun h=>h hb)]
 exact Et rfl (Et rfl (Et rfl (Et rfl rfl)))
theorem aCw {f:Int} {a b:Nat} (ha:Aj f a=0) (hb:Aj f b=0):(D9 f 0 a b).2.2.1=0:=by
 unfold D9
 rw [if_neg (show ¬ ¬ Fm f from fun h=>h (Ca ha).1),if_neg (show ¬ ((0:Int)<0∨(0:Int)>5) by decide),if_neg (show ¬ Aj f a≠0 from fun h=>h ha),if_neg (show ¬ Aj f b≠0 from fun h=>h hb)]
 exact Et rfl (Et rfl (Et rfl (Et rfl (Et rfl rfl))))
theorem aAT (f m:Int) {a b c:Nat} (ha:a<2^64) (hb:b<2^64) (hc:c<2^64) :
  ∃ (F:Nat) (M:Int) (A B C:Nat),F<4/\Aj F A=0/\Aj F B=0/\RE ((f,m,(a:Int),(b:Int),(c:Int),()),())=some (((F:Int),M,(A:Int),(B:Int),(C:Int),()),()):=by
 obtain ⟨F,hF,p0⟩:=aAR f
 obtain ⟨M,p1⟩:=aAS m
 have hfm:Fm (F:Int):=⟨by omega,by omega⟩
 obtain ⟨A,p2,cA⟩:=MS hfm ha
 obtain ⟨B,p3,cB⟩:=MS hfm hb
 obtain ⟨C,p4,_⟩:=MS hfm hc
 refine ⟨F,M,A,B,C,hF,cA,cB,?_⟩
 show Yi Mf.pre Mf.F Mg.pre Mg.F Mh.pre Mh.F (f,m,(a:Int),(b:Int),(c:Int),())=_
 unfold Yi
 simp only [aFR p0,aDs p0,aFS p1,aDt p1,fC p2,cQ p2,fC p3,cQ p3,fC p4,cQ p4,cond_true]
theorem aBq {f:Int} (w:Aa .ifc) (l:List Nat) (hl:∀ a∈l,Aj f a=0) (hlen:l.length<1000) :
  Si (((l.length:Int),Wd l,(),(0:Int),()),(f,w,()),())=some (.inl ((),(f,w,()),())):=by
 have key:=DH (sX Aw.pre Aw.F) (fun x=>l.length-x.1.2.2.2.1.toNat)
  (fun x=>∃ i:Nat,i<=l.length/\x=(((l.length:Int),Wd l,(),(i:Int),()),(f,w,()),()))
  (fun _=>.inl ((),(f,w,()),())) ?_ _ ⟨0,Nat.zero_le _,rfl⟩
 ·exact key
 intro L x hx hL
 obtain ⟨i,hi,rfl⟩:=hx
 unfold P0
 rcases Nat.lt_or_ge i l.length with hlt | hge
 ·have hg:l.getD i 0=l[i]:=by simp [List.getD_eq_getElem?_getD,hlt]
  have hc:=hl _ (List.getElem_mem hlt)
  have p0:=IU f l[i] (DJ hc)
  have e0:decide ((i:Int)<(l.length:Int))=true:=decide_eq_true (by omega)
  have e1:(decide ((0:Int)<=(i:Int))&&decide ((i:Int)<((Wd l).length:Int)))=true:=by rw [AC,decide_eq_true (by omega),decide_eq_true (by omega)]; rfl
  have e2:(Wd l).getD (Int.toNat (i:Int)) 0=((l[i]:Nat):Int):=by rw [Int.toNat_natCast,Ci,hg]
  have e3:IntKind.wrap .i64 ((i:Int)+1)=((i+1:Nat):Int):=by rw [Au (by omega)]; omega
  dsimp only
  simp only [e0,e1,e2,e3,cond_true,HW p0,HN p0]
  rw [hc,bne_self_eq_false,cond_false]
  exact hL _ ⟨i+1,by omega,rfl⟩ (by simp only [Int.toNat_natCast]; omega)
 ·have e:i=l.length:=by omega
  subst e
  have e0:decide ((l.length:Int)<(l.length:Int))=false:=decide_eq_false (by omega)
  simp only [e0,cond_false]
theorem aA0 {f:Int} (w:Aa .ifc) {a b:Nat} (ha:Aj f a=0) (hb:Aj f b=0):RS ((f,w,()),((a:Int)::((b:Int)::[])),())=some ((f,w,()),(0:Int),()):=by
 show Yv Aw.pre Aw.F Si (f,w,()) (Wd [a,b])=_
 unfold Yv
 have h:Si ((((Wd [a,b]).length:Int),Wd [a,b],(),(0:Int),()),(f,w,()),())=_:=aBq w [a,b] (by intro x hx; simp at hx; rcases hx with rfl | rfl <;> assumption) (show (2:Nat)<1000 by decide)
 dsimp only
 rw [h]
theorem UU {f:Int} (w:Aa .ifc) (o:Int) {a b:Nat} (ha:Aj f a=0) (hb:Aj f b=0) (h1:DQ.pre w (o,(a:Int),(b:Int),())=true) (h2:DQ.F w (o,(a:Int),(b:Int),())=(EC o f a b,())) :
  RT ((f,w,()),o,(a:Int),(b:Int),())=some ((f,w,()),EC o f a b,(0:Int),()):=by
 show Yw Mo.pre Mo.F DQ.pre DQ.F (f,w,()) o a b=_
 unfold Yw
 have p:=aA0 w ha hb
 dsimp only
 rw [aF1 p,aDC p]
 dsimp only
 rw [h1,h2]
 rfl
def Vh (f:Int) (w:Aa .ifc) (a b:Nat):Prop :=
 ∀ o:Int,DQ.pre w (o,(a:Int),(b:Int),())=true/\DQ.F w (o,(a:Int),(b:Int),())=(EC o f a b,())
theorem Wa {f:Int} {w:Aa .ifc} {a b:Nat} (ha:Aj f a=0) (hb:Aj f b=0) (h:Vh f w a b) :
  RU ((f,w,()),(a:Int),(b:Int),())=some ((f,w,()),(C8 f 0 a b).1,(0:Int),())/\RV ((f,w,()),(a:Int),(b:Int),())=some ((f,w,()),(DM f 0 a b).1,(0:Int),()) /\
  RW ((f,w,()),(a:Int),(b:Int),())=some ((f,w,()),(Ee f 0 a b).1,(0:Int),())/\RX ((f,w,()),(a:Int),(b:Int),())=some ((f,w,()),(D9 f 0 a b).1,(0:Int),()):=by
 have p0:=UU w 0 ha hb (h 0).1 (h 0).2
 have p1:=UU w 1 ha hb (h 1).1 (h 1).2
 have p2:=UU w 2 ha hb (h 2).1 (h 2).2
 have p3:=UU w 3 ha hb (h 3).1 (h 3).2
 refine ⟨?_,?_,?_,?_⟩
 ·show Yx CI.pre CI.F (f,w,()) a b=_
  unfold Yx
  dsimp only
  rw [WX p0,Wk p0]; rfl
 ·show Yy CI.pre CI.F (f,w,()) a b=_
  unfold Yy
  dsimp only
  rw [WX p1,Wk p1]; rfl
 ·show Yz CI.pre CI.F (f,w,()) a b=_
  unfold Yz
  dsimp only
  rw [WX p2,Wk p2]; rfl
 ·show YA CI.pre CI.F (f,w,()) a b=_
  unfold YA
  dsimp only
  rw [WX p3,Wk p3]; rfl
theorem xK {f:Int} (h:FF f 3) {a b:Nat} (ha:Aj f a=0) (hb:Aj f b=0):Vh f (some (107,[f])) a b:=by
 intro o
 have p:=aAX h o ha hb
 exact ⟨(show DQ.pre (some (107,[f])) (o,(a:Int),(b:Int),())=Oy.pre ((f,()),o,(a:Int),(b:Int),()) by kernel_rfl).trans (aFY p),(show DQ.F (some (107,[f])) (o,(a:Int),(b:Int),())=Oy.F ((f,()),o,(a:Int),(b:Int),()) by kernel_rfl).trans (aDz p)⟩
theorem aJq {a b:Nat} (ha:Aj 2 a=0) (hb:Aj 2 b=0):Vh 2 (some (113,[])) a b:=by
 intro o
 have p:=aAY o ha hb
 exact ⟨(show DQ.pre (some (113,[])) (o,(a:Int),(b:Int),())=Oz.pre ((),o,(a:Int),(b:Int),()) by kernel_rfl).trans (aFZ p),(show DQ.F (some (113,[])) (o,(a:Int),(b:Int),())=Oz.F ((),o,(a:Int),(b:Int),()) by kernel_rfl).trans (aDA p)⟩
theorem aJp {a b:Nat} (ha:Aj 3 a=0) (hb:Aj 3 b=0):Vh 3 (some (114,[])) a b:=by
 intro o
 have p:=aAZ o ha hb
 exact ⟨(show DQ.pre (some (114,[])) (o,(a:Int),(b:Int),())=OA.pre ((),o,(a:Int),(b:Int),()) by kernel_rfl).trans (aF0 p),(show DQ.F (some (114,[])) (o,(a:Int),(b:Int),())=OA.F ((),o,(a:Int),(b:Int),()) by kernel_rfl).trans (aDB p)⟩
theorem T459_true (f m:Int) {a b c:Nat} (ha:a<2^64) (hb:b<2^64) (hc:c<2^64):T459 ((f,m,(a:Int),(b:Int),(c:Int),()),())=some (true,()):=by
 obtain ⟨F,M,A,B,C,hF,cA,cB,p0⟩:=aAT f m ha hb hc
 show YB Mi.pre Mi.F Me.pre Me.F Mp.pre Mp.F Mq.pre Mq.F Mr.pre Mr.F Ms.pre Ms.F Dj.pre Dj.F LX.pre LX.F L7.pre L7.F Md.pre Md.F (f,m,(a:Int),(b:Int),(c:Int),())=_
 have pw:=aAQ
 have s1:=Ri (F:Int) 0 (DJ cA) (DJ cB)
 have s2:=aAE (F:Int) 0 (DJ cA) (DJ cB)
 have s3:=aAL (F:Int) 0 (DJ cA) (DJ cB)
 have s4:=aAP (F:Int) 0 (DJ cA) (DJ cB)
 have z1:=nD cA cB
 have z2:=aI0 cA cB
 have z3:=aEm cA cB
 have z4:=aCw cA cB
 unfold YB
 dsimp only
 rw [aFT p0,aDu p0,aFQ pw,aDr pw]
 dsimp only
 rw [TJ s1,Tf s1,aFE s2,aDf s2,aFL s3,aDm s3,aFP s4,aDq s4,z1,z2,z3,z4]
 have hcase:F=0∨F=1∨F=2∨F=3:=by omega
 rcases hcase with rfl | rfl | rfl | rfl
 ·obtain ⟨q1,q2,q3,q4⟩:=Wa cA cB (xK (f:=((0:Nat):Int)) (.inr (.inl ⟨rfl,rfl⟩)) cA cB)
  rw [WY q1,Wl q1]
  dsimp only
  rw [WZ q2,Wm q2]
  dsimp only
  rw [W0 q3,Wn q3]
  dsimp only
  rw [W1 q4,Wo q4]
  dsimp only
  rw [beq_self_eq_true (C8 _ 0 A B).1,beq_self_eq_true (DM _ 0 A B).1,beq_self_eq_true (Ee _ 0 A B).1,beq_self_eq_true (D9 _ 0 A B).1]
  rfl
 ·obtain ⟨q1,q2,q3,q4⟩:=Wa cA cB (xK (f:=((1:Nat):Int)) (.inr (.inr (.inl ⟨rfl,rfl⟩))) cA cB)
  rw [WY q1,Wl q1]
  dsimp only
  rw [WZ q2,Wm q2]
  dsimp only
  rw [W0 q3,Wn q3]
  dsimp only
  rw [W1 q4,Wo q4]
  dsimp only
  rw [beq_self_eq_true (C8 _ 0 A B).1,beq_self_eq_true (DM _ 0 A B).1,beq_self_eq_true (Ee _ 0 A B).1,beq_self_eq_true (D9 _ 0 A B).1]
  rfl
 ·obtain ⟨q1,q2,q3,q4⟩:=Wa cA cB (aJq cA cB)
  rw [WY q1,Wl q1]
  dsimp only
  rw [WZ q2,Wm q2]
  dsimp only
  rw [W0 q3,Wn q3]
  dsimp only
  rw [W1 q4,Wo q4]
  dsimp only
  rw [beq_self_eq_true (C8 _ 0 A B).1,beq_self_eq_true (DM _ 0 A B).1,beq_self_eq_true (Ee _ 0 A B).1,beq_self_eq_true (D9 _ 0 A B).1]
  rfl
 ·obtain ⟨q1,q2,q3,q4⟩:=Wa cA cB (aJp cA cB)
  rw [WY q1,Wl q1]
  dsimp only
  rw [WZ q2,Wm q2]
  dsimp only
  rw [W0 q3,Wn q3]
  dsimp only
  rw [W1 q4,Wo q4]
  dsimp only
  rw [beq_self_eq_true (C8 _ 0 A B).1,beq_self_eq_true (DM _ 0 A B).1,beq_self_eq_true (Ee _ 0 A B).1,beq_self_eq_true (D9 _ 0 A B).1]
  rfl
end VL
namespace Vx
open Go Go.RowKit Go.ChangeShapes Go.WideShapes
def wfD:(τ:Shape)->Aa τ->Prop
 | .int k,n=>k.min<=n/\n<=k.max
 | .flt _,_=>True
 | .slice e,xs=>xs.length<Br/\∀ x∈xs,wfD e x
 | .pair a b,x=>wfD a x.1/\wfD b x.2
 | .bool,_=>True
 | .str,_=>True
 | .fn,_=>True
 | .unit,_=>True
 | .box a,x=>wfD a x
 | .ifc,_=>True
 | .pfn,_=>True
theorem AI.wfD {w:World} {S:Nat->Prop}:∀ {τ:Shape} {x:Aa τ} {cs:List Value},AI w S τ x cs->wfD τ x
 | .int _,_,_,h=>h.2
 | .flt _,_,_,_=>trivial
 | .bool,_,_,_=>trivial
 | .str,_,_,_=>trivial
 | .fn,_,_,_=>trivial
 | .unit,_,_,_=>trivial
 | .box _,_,_,⟨_,_,_,_,_,_,_,_,_,h,_⟩=>h.wfD
 | .ifc,_,_,_=>trivial
 | .pfn,_,_,_=>trivial
 | .slice _,xs,_,⟨A,c,_,h1,h2,h3⟩=>by
  refine ⟨Nat.lt_of_le_of_lt h1 h2,fun x hx=>?_⟩
  obtain ⟨r,o,vs,T,fz,_,_,_,h⟩:=h3 (List.ne_nil_of_mem hx)
  obtain ⟨i,hi⟩:=List.getElem?_of_mem hx
  obtain ⟨ds,hd,_⟩:=h i x hi
  exact hd.wfD
 | .pair _ _,_,_,⟨c1,c2,_,h1,h2⟩=>⟨h1.wfD,h2.wfD⟩
def wfS:(sg:Ac)->DenS sg->Prop
 | [],_=>True
 | (_,τ)::r,x=>wfD τ x.1/\wfS r x.2
def EG {H:Type}:(τ:Shape)->(DataW H->Option (Aa τ))×(List (DataW H)->Option (Aa τ))
 | .int k=>(fun d=>match d with | .lit (.int k' n)=>if k'=k then some n else none | _=>none,fun _=>none)
 | .bool=>(fun d=>match d with | .lit (.bool b)=>some b | _=>none,fun _=>none)
 | .unit=>(fun d=>match d with | .agg []=>some () | _=>none,fun l=>match l with | []=>some () | _=>none)
 | .pair a b =>
  let f:=fun l=>match l with
   | d::r=>(match (EG a).1 d,(EG b).2 r with | some x,some y=>some (x,y) | _,_=>none)
   | []=>none
  (fun d=>match d with | .agg l=>f l | _=>none,f)
 | .flt _=>(fun _=>none,fun _=>none)
 | .str=>(fun _=>none,fun _=>none)
 | .fn=>(fun _=>none,fun _=>none)
 | .box _=>(fun _=>none,fun _=>none)
 | .ifc=>(fun _=>none,fun _=>none)
 | .pfn=>(fun _=>none,fun _=>none)
 | .slice _=>(fun _=>none,fun _=>none)
def NN (P:Program) (g:TypeId->Shape->Bool):List Field->Nat->Shape->Bool
 | [],_,.unit=>true
 | f::fs,o,.pair a b=>(f.offset==o)&&(P.cellsOf f.type==a.width)&&g f.type a&&NN P g fs (o+a.width) b
 | _,_,_=>false
def Ev (P:Program):Nat->TypeId->Shape->Bool
 | 0,_,_=>false
 | n+1,t,τ=>match P.underlying t with
  | some (.int k)=>(match τ with | .int k'=>decide (k=k') | _=>false)
  | some .bool=>(match τ with | .bool=>true | _=>false)
  | some (.slice e)=>(match τ with | .slice σ=>(P.cellsOf e==σ.width)&&decide (0<σ.width)&&Ev P n e σ | _=>false)
  | some (.struct fs)=>(P.cellsOf t==τ.width)&&NN P (Ev P n) fs.toList 0 τ
  | _=>false
theorem oF {A:Type} {Q:Nat->A->Prop}:∀ (n:Nat),(∀ i,i<n->∃ x,Q i x)->∃ xs:List A,xs.length=n/\∀ i x,xs[i]? = some x->Q i x
 | 0,_=>⟨[],rfl,fun i x h=>by simp at h⟩
 | n+1,h=>by
  obtain ⟨xs,h1,h2⟩:=oF n fun i hi=>h i (by omega)
  obtain ⟨x,hx⟩:=h n (by omega)
  refine ⟨xs++[x],by simp [h1],fun i y hy=>?_⟩
  rcases Nat.lt_or_ge i n with hi | hi
  ·rw [List.getElem?_append_left (by omega)] at hy
   exact h2 i y hy
  ·rw [List.getElem?_append_right (by omega)] at hy
   have:i=n:=by
    have:=(List.getElem?_eq_some_iff.1 hy).1
    simp at this; omega
   subst this
   simp [h1] at hy
   exact hy ▸ hx
theorem aJn {k:IntKind} {n:Int} (h:(Lit.int k n).wf=true):k.min<=n/\n<=k.max:=by
 simpa [Lit.wf] using h
section
variable {H:Type} {enc:TypeId×Value->H} {P:Program} {W:World} {spare:Nat->Bool} {held:Bool}
theorem pV {n:Nat} {m:Nat} {cs:List Value} (ih:∀ (t:TypeId) (τ:Shape) (cs:List Value) (d:DataW H) (p:List MemPlace),Ev P n t τ=true->DataW.trod enc P W 0 spare held m t cs=some (d,p)->∃ x:Aa τ,AI W (fun q=>q<W.heap.size) τ x cs/\∀ y,(EG τ).1 d=some y->x=y) :
  ∀ (l:List Field) (o:Nat) (τ:Shape) (xs:List (DataW H×List MemPlace)),NN P (Ev P n) l o τ=true->xs.length=l.length->cs.length=o+τ.width ->
   (∀ (i:Nat) (f:Field),l[i]? = some f->DataW.trod enc P W 0 spare held m f.type ((cs.drop f.offset).take (P.cellsOf f.type))=xs[i]?) ->
   ∃ x:Aa τ,AI W (fun q=>q<W.heap.size) τ x (cs.drop o)/\∀ y,(EG τ).2 (xs.map (·.1))=some y->x=y
 | [],o,τ,xs,hf,hx,hl,_=>by
  cases τ <;> simp [NN] at hf
  refine ⟨(),?_,fun _ _=>rfl⟩
  show cs.drop o=[]
  apply List.drop_eq_nil_of_le
  simp [Shape.width] at hl
  omega
 | f::fs,o,τ,xs,hf,hx,hl,h=>by
  cases τ with
  | pair a b =>
   simp only [NN,Bool.and_eq_true,beq_iff_eq] at hf
   obtain ⟨⟨⟨ho,hc⟩,hg⟩,hr⟩:=hf
   cases xs with
   | nil=>simp at hx
   | cons x0 xs =>
    have h0:=h 0 f rfl
    rw [ho,hc] at h0
    simp only [List.getElem?_cons_zero] at h0
    obtain ⟨xa,ha,hua⟩:=ih f.type a _ x0.1 x0.2 hg h0
    simp only [Shape.width] at hl
    obtain ⟨xb,hb,hub⟩:=pV ih fs (o+a.width) b xs hr (by simpa using hx) (by rw [hl]; omega) fun i g hi=>by
     have:=h (i+1) g (by simpa using hi)
     simpa using this
    refine ⟨(xa,xb),⟨(cs.drop o).take a.width,cs.drop (o+a.width),?_,ha,hb⟩,fun y hy=>?_⟩
    ·rw [← List.drop_drop,List.take_append_drop]
    ·simp only [EG,List.map_cons] at hy
     split at hy
     ·rename_i e1 e2
      have:=hua _ e1; have:=hub _ e2
      subst_vars
      exact Option.some.inj hy
     ·cases hy
  | _=>simp [NN] at hf
theorem MS:∀ (n:Nat) (m:Nat) (t:TypeId) (τ:Shape) (cs:List Value) (d:DataW H) (p:List MemPlace),Ev P n t τ=true->DataW.trod enc P W 0 spare held m t cs=some (d,p) ->
  ∃ x:Aa τ,AI W (fun q=>q<W.heap.size) τ x cs/\∀ y,(EG τ).1 d=some y->x=y
 | 0,_,_,_,_,_,_,h,_=>by simp [Ev] at h
 | n+1,m,t,τ,cs,d,p,h,ht=>by
  unfold Ev at h
  split at h
  ·rename_i k hk
   cases τ with
   | int k' =>
    simp only [decide_eq_true_eq] at h
    subst h
    obtain ⟨v,hv,hx,hw⟩:=DataW.trod_int hk ht
    simp only [Prod.mk.injEq] at hx
    refine ⟨v,⟨hv,aJn hw⟩,fun y hy=>?_⟩
    rw [hx.1] at hy
    simp only [EG,if_true] at hy
    exact Option.some.inj hy
   | _=>cases h
  ·rename_i hk
   cases τ with
   | bool =>
    obtain ⟨v,hv,hx⟩:=DataW.trod_bool hk ht
    simp only [Prod.mk.injEq] at hx
    refine ⟨v,hv,fun y hy=>?_⟩
    rw [hx.1] at hy
    simp only [EG] at hy
    exact Option.some.inj hy
   | _=>cases h
  ·rename_i e hk
   cases τ with
   | slice σ =>
    simp only [Bool.and_eq_true,beq_iff_eq,decide_eq_true_eq] at h
    obtain ⟨⟨hc,hpos⟩,hf⟩:=h
    rcases DataW.trod_slice hk ht with ⟨hcs,hx⟩ | ⟨a,len,cap,elems,rest,m',rfl,hcs,hx,hb,hlc,hcap,hlen,hel,_⟩
    ·exact ⟨[],⟨none,0,hcs,Nat.le_refl _,by decide,fun h=>absurd rfl h⟩,fun y hy=>by simp [EG] at hy⟩
    ·have each:∀ i,i<len->∃ x:Aa σ,∃ ds,W.cells? 0 (a.add (i*P.cellsOf e)) (P.cellsOf e)=some ds/\AI W (fun q=>q<W.heap.size) σ x ds:=fun i hi=>by
      have:=hel i hi
      rw [List.getElem?_eq_getElem (by omega),Option.bind_eq_some_iff] at this
      obtain ⟨ds,h1,h2⟩:=this
      obtain ⟨x,hx,_⟩:=MS n m' e σ ds (elems[i]'(by omega)).1 (elems[i]'(by omega)).2 hf h2
      exact ⟨x,ds,h1,hx⟩
     obtain ⟨xs,hxl,hxs⟩:=oF len each
     refine ⟨xs,⟨some a,cap,by rw [hxl]; exact hcs,by omega,by unfold Br; unfold maxLen at hcap; omega,fun hne=>?_⟩,fun y hy=>by simp [EG] at hy⟩
     have h0:0<xs.length:=List.length_pos_iff.2 hne
     obtain ⟨ds0,hd0,_⟩:=hxs 0 xs[0] (List.getElem?_eq_getElem h0)
     obtain ⟨_,hl0,hc0⟩:=World.cells?_some hd0
     have hz:a.add (0*P.cellsOf e)=a:=by simp [Addr.add]
     have hz':a.add 0=a:=by simp [Addr.add]
     rw [hz] at hc0
     have hc00:=hc0 0 (by omega)
     rw [hz',List.getElem?_eq_getElem (by omega)] at hc00
     unfold World.cell? at hc00
     split at hc00
     ·rename_i c T fz hheap
      split at hc00
      ·cases hc00
      ·rename_i hspot
       have hs:a.spot=none:=by simpa using hspot
       have hadd:∀ q,a.add q=⟨a.block,a.off+q,none⟩:=fun q=>by
        unfold Addr.add
        split
        ·subst_vars; cases a; simp at hs; simp [hs]
        ·rfl
       have ha:a=⟨a.block,a.off,none⟩:=by cases a; simp at hs; simp [hs]
       refine ⟨a.block,a.off,c,T,fz,by rw [← ha],?_,hheap,fun i x hi=>?_⟩
       ·exact (Array.getElem?_eq_some_iff.1 hheap).1
       ·obtain ⟨ds,hd,hr⟩:=hxs i x hi
        refine ⟨ds,hr,fun j v hj=>?_⟩
        obtain ⟨_,hl,hcj⟩:=World.cells?_some hd
        have hjl:j<P.cellsOf e:=by rw [← hl]; exact (List.getElem?_eq_some_iff.1 hj).1
        have:=hcj j hjl
        rw [hadd,hj] at this
        have hadd2:(⟨a.block,a.off+i*P.cellsOf e,none⟩:Addr).add j=⟨a.block,a.off+i*P.cellsOf e+j,none⟩:=by
         unfold Addr.add
         split
         ·subst_vars; rfl
         ·rfl
        rw [hadd2] at this
        unfold World.cell? at this
        simp only [hheap] at this
        rw [hc] at this
        exact this
     ·cases hc00
   | _=>cases h
  ·rename_i fs hk
   simp only [Bool.and_eq_true,beq_iff_eq] at h
   obtain ⟨hc,hf⟩:=h
   obtain ⟨xs,m',rfl,hx,hl,hxl,hel⟩:=DataW.trod_struct hk ht
   simp only [Prod.mk.injEq] at hx
   obtain ⟨x,h1,h2⟩:=pV (fun t τ cs d p=>MS n m' t τ cs d p) fs.toList 0 τ xs hf (by simpa using hxl) (by rw [hl,hc]; omega) fun i f hi=>hel i f (by simpa using hi)
   refine ⟨x,by simpa using h1,fun y hy=>h2 y ?_⟩
   rw [hx.1] at hy
   cases τ with
   | pair a b=>exact hy
   | unit =>
    simp only [EG] at hy ⊢
    split at hy
    ·rename_i e; simp only [DataW.agg.injEq] at e; rw [e]
    ·cases hy
   | _=>simp [EG] at hy
  ·cases h
end
end Vx
namespace Vx
open Go Go.RowKit Go.ChangeShapes Go.WideShapes
def NU (P:Program) (t:TypeId):Bool:=match P.underlying t with
 | some (.struct _)=>true
 | _=>false
def Pu (P:Program) (n:Nat):List TypeId->Ac->Bool
 | [],[]=>true
 | t::ts,(a,τ)::r=>Ev P n t τ&&(a==NU P t)&&Pu P n ts r
 | _,_=>false
section
variable {H:Type} {enc:TypeId×Value->H} {P:Program} {W:World}
theorem aBZ {n:Nat} {t:TypeId} {τ:Shape} {r:Reach} {b0:Nat} {v:Value} (hf:Ev P n t τ=true) (hs:NU P t=false) (hv:Value.okWide P W r b0 t v):v.cells.toList=[v]:=by
 cases n with
 | zero=>simp [Ev] at hf
 | succ n =>
  unfold Ev at hf
  split at hf
  ·rename_i k hk; obtain ⟨_,rfl⟩:=okWide_int hk hv; rfl
  ·rename_i hk; obtain ⟨_,rfl⟩:=okWide_bool hk hv; rfl
  ·rename_i e hk; obtain ⟨_,_,_,rfl⟩:=okWide_slice hk hv; rfl
  ·rename_i fs hk; simp [NU,hk] at hs
  ·cases hf
theorem aCG {S:Nat->Prop} {a:Bool} {τ:Shape} {x:Aa τ} {y:Value} (ho:HT a τ=false) (h:Dh W S a τ x y):GL W S a τ x y []:=by
 cases τ with
 | slice e =>
  cases a with
  | true=>cases ho
  | false=>exact ⟨rfl,h⟩
 | _=>exact ⟨rfl,h⟩
theorem nM {n:Nat} {sp:Nat->Bool} {held:Bool} {b0:Nat}:∀ (ts:List TypeId) (I:Ac) (vs:List Value) (ds:List (DataW H)) (ps:List MemPlace),Pu P n ts I=true ->
  (∀ (j:Nat) (t:TypeId) (v:Value),ts[j]? = some t->vs[j]? = some v->Value.okWide P W .any b0 t v)->DataW.TrodAll enc P W 0 sp held ts vs ds ps->∃ x:DenS I,Ch W (fun q=>q<W.heap.size) I x vs []/\wfS I x/\ds.length=ts.length
 | [],[],vs,ds,ps,_,_,h=>by
  cases vs <;> cases ds <;> simp [DataW.TrodAll] at h
  exact ⟨(),⟨rfl,rfl⟩,trivial,rfl⟩
 | [],_::_,_,_,_,hf,_,_=>by simp [Pu] at hf
 | _::_,[],_,_,_,hf,_,_=>by simp [Pu] at hf
 | t::ts,(a,τ)::I,vs,ds,ps,hf,hv,h=>by
  cases vs with
  | nil=>simp [DataW.TrodAll] at h
  | cons v vs =>
   cases ds with
   | nil=>simp [DataW.TrodAll] at h
   | cons d ds =>
    obtain ⟨p,q,⟨m,hp⟩,hq,_⟩:=h
    simp only [Pu,Bool.and_eq_true,beq_iff_eq] at hf
    obtain ⟨⟨h1,h2⟩,h3⟩:=hf
    obtain ⟨x,hx,hw,hl⟩:=nM ts I vs ds q h3 (fun j t v ht hv'=>hv (j+1) t v (by simpa using ht) (by simpa using hv')) hq
    obtain ⟨y,hy,_⟩:=MS n m t τ _ d p h1 hp
    have hok:=hv 0 t v rfl rfl
    refine ⟨(y,x),⟨v,vs,[],[],rfl,rfl,aCG ?_ ?_,hx⟩,⟨hy.wfD,hw⟩,by simp [hl]⟩
    ·cases τ with
     | slice σ =>
      show a=false
      rw [h2]
      cases n with
      | zero=>simp [Ev] at h1
      | succ n =>
       unfold Ev at h1
       unfold NU
       split at h1 <;> rename_i hk <;> first | (rw [hk]; done) | (simp only [hk]; done) | (simp [NN] at h1; done) | skip
     | _=>rfl
    cases a with
    | true =>
     have hs:NU P t=true:=h2.symm
     unfold NU at hs
     split at hs
     ·rename_i fs hk
      unfold Value.okWide at hok
      rw [hk] at hok
      obtain ⟨cs,rfl,_⟩:=hok
      exact ⟨cs.toList,by simp,hy⟩
     ·cases hs
    | false =>
     have hs:NU P t=false:=h2.symm
     rw [aBZ h1 hs hok] at hy
     exact hy
theorem xG (hl:laidOutB P=true) {W':World} (hb:Below W.heap.size W W'):∀ (ts:List TypeId) (vs:List Value) (ds:List (DataW H)) (ps:List MemPlace),(ts.all fun t=>P.readableRec t&&decide (t<P.types.size))=true ->
  DataW.TrodAll enc P W 0 (fun _=>true) true ts vs ds ps->(∀ x∈ps,x.block<W.heap.size)->DataW.TrodAll enc P W' 0 (fun b=>decide (b<W.heap.size)) true ts vs ds ps
 | [],vs,ds,ps,_,h,_=>by
  cases vs <;> cases ds <;> simp [DataW.TrodAll] at h ⊢
  exact h
 | t::ts,vs,ds,ps,hr,h,hlt=>by
  cases vs with
  | nil=>simp [DataW.TrodAll] at h
  | cons v vs =>
   cases ds with
   | nil=>simp [DataW.TrodAll] at h
   | cons d ds =>
    obtain ⟨p,q,hp,hq,rfl⟩:=h
    simp only [List.all_cons,Bool.and_eq_true,decide_eq_true_eq] at hr
    exact ⟨p,q,Below.trod hl hr.1.1 hr.1.2 hp hb (fun x hx=>hlt x (List.mem_append.2 (.inl hx))),
     xG hl hb ts vs ds q hr.2 hq (fun x hx=>hlt x (List.mem_append.2 (.inr hx))),rfl⟩
theorem glob_of {n:String} {g:Nat} {t e:TypeId} {m k:Nat} {τ:Shape} {ds:List (DataW Unit)} {xs:List (Aa τ)} {r:List (String×DataW Unit)} {ps:List MemPlace}
  (hL:DataW.LaidVars P W ((n,.agg ds)::r) ps) (hg:P.globalNamed n=some g) (ht:(P.globals[g]?).map (·.type)=some t) (hu:P.underlying t=some (.array m e)) (hc:P.cellsOf e=τ.width) (hf:Ev P k e τ=true)
  (hx:ds.map (EG τ).1=xs.map some) :
  (g<W.heap.size/\∃ vs T fz,W.heap[g]? = some (.cells vs T fz)/\Rows W (fun q=>q<W.heap.size) τ vs 0 xs)/\∃ ps',DataW.LaidVars P W r ps':=by
 obtain ⟨g',t',cs,fuel,p,q,h1,h2,h3,h4,h5,_⟩:=hL
 rw [hg] at h1; cases h1
 rw [ht] at h2; cases h2
 refine ⟨?_,q,h5⟩
 unfold World.var? at h3
 rw [hg] at h3
 simp only [Option.bind_some] at h3
 split at h3
 ·rename_i c T fz hh
  cases h3
  refine ⟨(Array.getElem?_eq_some_iff.1 hh).1,cs,T,fz,hh,?_⟩
  obtain ⟨ys,m',rfl,hy,hl,hyl,hel⟩:=DataW.trod_array hu h4
  simp only [Prod.mk.injEq,DataW.agg.injEq] at hy
  intro i x hi
  have hxl:xs.length=m:=by
   have:=congrArg List.length hx
   simp [hy.1,hyl] at this
   omega
  have him:i<m:=by rw [← hxl]; exact (List.getElem?_eq_some_iff.1 hi).1
  have he:=hel i him
  have hyi:ys[i]? = some (ys[i]'(by omega)):=List.getElem?_eq_getElem (by omega)
  rw [hyi,hc] at he
  obtain ⟨x',h6,h7⟩:=MS k m' e τ _ _ _ hf he
  have hd:(EG τ).1 (ys[i]'(by omega)).1=some x:=by
   have:=congrArg (·[i]?) hx
   simp only [List.getElem?_map,hy.1,hyi,hi,Option.map_some] at this
   exact Option.some.inj this
  have:=h7 x hd
  subst this
  refine ⟨_,h6,fun j v hj=>?_⟩
  rw [List.getElem?_take] at hj
  split at hj
  ·rw [List.getElem?_drop] at hj
   simpa using hj
  ·cases hj
 ·cases h3
theorem aH7 {G : List (Nat × Sigma fun τ => List (Aa τ))} {f : FuncId} {I : Ac} {T : DenS I -> Option (DenS [(false, .bool)])} {d : DenS [(false, .bool)]} (hS : Sound P G f (Al I [(false, .bool)] T d)) {x : DenS I} (hT : T x = some (true, ())) (hcal : ∃ fn, P.funcs[f]? = some fn /\ fn.body.isNone = false /\ (fn.name == "runtime.NumGoroutine") = false) {W : World} {args : Array Value}
  (hG:GlobsOk G W fun q=>q<W.heap.size) (ha:Ch W (fun q=>q<W.heap.size) I x args.toList []):Calls P f args W fun e W'=>e=.returned (.bool true)/\Below W.heap.size W W':=by
 have:=hS.calls x (by show (T x).isSome=true; rw [hT]; rfl) W (fun q=>q<W.heap.size) args.toList [] (fun q h=>h) hG ha List.nodup_nil (fun r h=>by simp at h)
 rw [Array.toArray_toList] at this
 have this:=this.resolve_right (fun ⟨v,hv,_⟩=>by rw [Xg hcal] at hv; cases hv)
 refine this.2.mono fun e W' ⟨zs,rs',he,hb,_,_,hz⟩=>⟨?_,⟨hb.os,hb.tape,hb.output,hb.size,fun k hk=>hb.block k hk (fun h=>by simp at h)⟩⟩
 obtain ⟨y,ys,r1,r2,rfl,_,⟨_,h1⟩,rfl,_⟩:=hz
 have h2:[y]=[Value.bool ((T x).getD d).1]:=h1
 rw [hT] at h2
 cases h2
 exact he
theorem law_post {G:List (Nat×Sigma fun τ=>List (Aa τ))} {f:FuncId} {fn:Func} {I:Ac} {T:DenS I->Option (DenS [(false,.bool)])} {d:DenS [(false,.bool)]} {s:ChangeSpec} {n:Nat} {tb:TypeId}
  (hS : Sound P G f (Al I [(false, .bool)] T d)) (hT : ∀ x, wfS I x -> T x = some (true, ())) (hcal : ∃ fn, P.funcs[f]? = some fn /\ fn.body.isNone = false /\ (fn.name == "runtime.NumGoroutine") = false) (hlay : laidOutB P = true) (hfit : Pu P n fn.params.toList I = true)
  (hread:(fn.params.toList.all fun t=>P.readableRec t&&decide (t<P.types.size))=true) (hres:fn.resultTypes=#[tb]) (hbool:P.underlying tb=some .bool) (hvars:s.vars=[])
  (hspec:∀ ds:List (DataW H),ds.length=fn.params.toList.length->s.fn H ds={ results:=[.lit (.bool true)],args:=ds })
  {W:World} {base:Nat} {args:Array Value} {ds gs:List (DataW H)} {before:List MemPlace}
  (hval:∀ (j:Nat) (t:TypeId) (v:Value),fn.params[j]? = some t->args[j]? = some v->Value.okWide P W .any base t v)
  (hW:DataW.Whole enc P fn.params.toList s.vars false W args.toList ds gs before) (hG:GlobsOk G W fun q=>q<W.heap.size) :
  Calls P f args W fun e W'=>∃ v,e=.returned v/\ChangeSpec.post enc P fn s false true false false W args v W':=by
 have hW':=hW
 obtain ⟨p,q,hA,hV,rfl,_,_⟩:=hW
 rw [hvars] at hV
 obtain ⟨rfl,rfl⟩:=trodVars_none hV
 obtain ⟨x,hx,hw,hlen⟩:=nM (b0:=base) fn.params.toList I args.toList ds p hfit (fun j t v ht hv=>hval j t v (by simpa using ht) (by simpa using hv)) hA
 refine (aH7 hS (hT x hw) hcal hG hx).mono fun e W' ⟨he,hb⟩=>⟨.bool true,he,ds,[],p++[],[],p,[],hW',?_,?_,?_,hb.frame _,fun h=>by cases h⟩
 ·rw [List.append_nil,hspec ds hlen,hres]
  exact trodAll_mk1 (shut_bool hbool true)
 ·rw [List.append_nil,hspec ds hlen]
  exact xG hlay hb _ _ _ _ hread hA fun y hy=>by simpa using hW'.lt y (by simpa using hy)
 ·rw [List.append_nil,hspec ds hlen,hvars]
  rfl
end
theorem globs_nil {W:World} {S:Nat->Prop}:GlobsOk [] W S:=fun _ _ _ h=>by simp [Jy] at h
theorem globs_cons {W:World} {S:Nat->Prop} {g:Nat} {τ:Shape} {xs:List (Aa τ)} {G:List (Nat×Sigma fun τ=>List (Aa τ))} (h:S g/\∃ vs T fz,W.heap[g]? = some (.cells vs T fz)/\Rows W S τ vs 0 xs) (r:GlobsOk G W S) :
  GlobsOk ((g,⟨τ,xs⟩)::G) W S:=fun g' τ' xs' hf=>by
 simp only [Jy] at hf
 cases hb:Nat.beq g g' with
 | true =>
  have:=Nat.eq_of_beq_eq_true hb
  subst this
  rw [hb] at hf
  simp only [cond_true,Option.some.injEq] at hf
  cases hf
  exact h
 | false =>
  rw [hb] at hf
  exact r g' τ' xs' hf
end Vx
end
