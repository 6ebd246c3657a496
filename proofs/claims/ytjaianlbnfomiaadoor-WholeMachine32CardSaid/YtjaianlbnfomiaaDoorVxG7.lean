/- Part 7 of the proof. What is proved: symbolic execution of the functions, proved sound; what each function of the program computes, and that every run ends with it; what these functions compute, in plain numbers. Conditions: each theorem bears its own. -/
import Derived.Test.YtjaianlbnfomiaaDoorVxG6
import Derived.ProofKit
import Derived.LaidMore
import Derived.OpenShut
import Derived.Stop.Joined
import GoSem.ClaimJoined
set_option linter.all false
set_option exponentiation.threshold 1000000
namespace VL
open Go Vx
theorem lfix_ex {D Y:Type} {Φ:{R:Type}→(D→Option R)→(Y→Option R)→D→Option R} (hp:Par Φ) (μ:D→Nat) (I:D→Prop) (Q:Y→Prop)
  (h:∀ (L:D→Option Y) x,I x→(∀ x',I x'→μ x'<μ x→∃ y,L x'=some y∧Q y)→∃ y,Φ L some x=some y∧Q y):∀ x,I x→∃ y,lfix (fun L=>Φ L some) x=some y∧Q y:=by
 have key:∀ m x,I x→μ x<m→∃ y,iter (fun L=>Φ L some) m x=some y∧Q y:=by
  intro m
  induction m with
  | zero=>intro x _ h; omega
  | succ m ih =>
   intro x hx hm
   simp only [iter]
   exact h _ x hx fun x' hx' hlt=>ih x' hx' (by omega)
 intro x hx
 obtain ⟨y,hy,hQ⟩:=key (μ x+1) x hx (by omega)
 exact ⟨y,lfix_of hp hy,hQ⟩
theorem pow_up (i:Nat):(2^64)^(i+1)=(2^64)^i*2^64:=Nat.pow_succ ..
theorem win_get {A us C:List Nat} {i:Nat} (h:i<us.length):(Wd (A++us++C)).getD (A.length+i) 0=((us.getD i 0:Nat):Int):=by
 rw [Wd_getD]
 congr 1
 rw [List.getD_eq_getElem?_getD,List.getD_eq_getElem?_getD,List.append_assoc,List.getElem?_append_right (by omega),Nat.add_sub_cancel_left,List.getElem?_append_left h]
theorem win_set {A us C:List Nat} {i v:Nat} (h:i<us.length):(Wd (A++us++C)).set (A.length+i) (v:Int)=Wd (A++us.set i v++C):=by
 rw [Wd_set]
 congr 1
 rw [List.append_assoc,List.set_append_right _ _ (by omega),Nat.add_sub_cancel_left,List.set_append_left _ _ h,← List.append_assoc]
theorem digits_eq {out us:List Nat} {i:Nat} (hol:out.length=i) (hi:i<us.length):(out++us.drop i).getD i 0=us.getD i 0:=by
 rw [List.getD_eq_getElem?_getD,List.getD_eq_getElem?_getD,List.getElem?_append_right (by omega),hol,Nat.sub_self,List.getElem?_drop,Nat.add_zero]
theorem mul_word {x y c:Nat} (hx:x<2^64) (hy:y<2^64) (hc:c<2^64) :
  x*y+c=2^64*(x*y/2^64+(x*y%2^64+c)/2^64)+(x*y%2^64+c)%2^64∧x*y/2^64+(x*y%2^64+c)/2^64<2^64:=by
 have:x*y≤(2^64-1)*(2^64-1):=Nat.mul_le_mul (by omega) (by omega)
 generalize x*y=z at *
 omega
theorem sub_word {d l b:Nat} (hd:d<2^64) (hl:l<2^64) (hb:b≤1) :
  (d+2^64-l-b)%2^64+l+b=d+2^64*(if d<l+b then 1 else 0)∧(d+2^64-l-b)%2^64<2^64∧(if d<l+b then 1 else 0)≤1:=by
 split <;> omega
theorem take_step {P U V O x y c b d o l c' b':Nat} (h:O+x*V=U+P*(c+b)) (h1:x*y+c=2^64*c'+l) (h2:o+l+b=d+2^64*b') :
  O+P*o+x*(V+P*y)=U+P*d+P*2^64*(c'+b'):=by
 have h3:P*(c+b+o+x*y)=P*(d+2^64*(c'+b')):=by
  congr 1; omega
 rw [Nat.mul_add P,Nat.mul_add P,Nat.mul_add P d,← Nat.mul_assoc P (2^64)] at h3
 rw [Nat.mul_add x,Nat.mul_left_comm x P y]
 omega
theorem T330_eq (A us C v:List Nat) (hlen:us.length=v.length+1) (hu:∀ x∈us,x<2^64) (hv:∀ x∈v,x<2^64) (hn:v.length≤1000000) {x:Nat} (hx:x<2^64) :
  ∃ out:List Nat,out.length=us.length∧(∀ z∈out,z<2^64)∧nv (2^64) out+x*nv (2^64) v=nv (2^64) us+(if nv (2^64) us<x*nv (2^64) v then (2^64)^us.length else 0) ∧
   T330 ((Wd (A++us++C),(A.length,us.length)),(Wd v,((x:Int),())))=some (Wd (A++out++C),decide (nv (2^64) us<x*nv (2^64) v),()):=by
 show ∃ out:List Nat,_∧_∧_∧t330 S315.pre S315.F S155.pre S155.F S157.pre S157.F W330_3 (Wd (A++us++C),(A.length,us.length)) (Wd v) (x:Int)=_
 have key:=lfix_ex (m330_3 S315.pre S315.F S155.pre S155.F S157.pre S157.F) (fun s=>v.length-s.1.2.2.2.1.toNat)
  (fun s=>∃ (i:Nat) (out:List Nat) (c b:Nat),i≤v.length∧out.length=i∧(∀ z∈out,z<2^64)∧c<2^64∧b≤1∧nv (2^64) out+x*nv (2^64) (v.take i)=nv (2^64) (us.take i)+(2^64)^i*(c+b) ∧
   s=(((v.length:Int),(Wd v,((x:Int),((i:Int),(Wd v,((A.length,us.length),((c:Int),((b:Int),())))))))),(Wd (A++(out++us.drop i)++C),())))
  (fun y=>∃ (out:List Nat) (c b:Nat),out.length=v.length∧(∀ z∈out,z<2^64)∧c<2^64∧b≤1∧nv (2^64) out+x*nv (2^64) v=nv (2^64) (us.take v.length)+(2^64)^v.length*(c+b) ∧
   y=.inl ((Wd v,((A.length,us.length),((c:Int),((b:Int),())))),(Wd (A++(out++us.drop v.length)++C),()))) ?_
  (((v.length:Int),(Wd v,((x:Int),((0:Int),(Wd v,((A.length,us.length),((0:Int),((0:Int),())))))))),(Wd (A++us++C),()))
  ⟨0,[],0,0,Nat.zero_le _,rfl,(fun z hz=>by simp at hz),by decide,by decide,by simp [nv],rfl⟩
 ·obtain ⟨y,hy,out,c,b,k1,k2,k3,k4,k5,rfl⟩:=key
  have hy:W330_3 (((v.length:Int),(Wd v,((x:Int),((0:Int),(Wd v,((A.length,us.length),((0:Int),((0:Int),())))))))),(Wd (A++us++C),()))=_:=hy
  have hlt:v.length<us.length:=by omega
  have hwl:(out++us.drop v.length).length=us.length:=by simp [k1]; omega
  have hdg:=digits_eq (us:=us) k1 hlt
  have hg:=win_get (A:=A) (C:=C) (us:=out++us.drop v.length) (i:=v.length) (by omega)
  rw [hdg] at hg
  have hst:=fun z=>win_set (A:=A) (C:=C) (us:=out++us.drop v.length) (i:=v.length) (v:=z) (by omega)
  have hsd:=fun z=>set_drop (a:=us) (v:=z) k1 hlt
  have hd:=getD_lt (by decide) hu v.length
  obtain ⟨w1,w2,w3⟩:=sub_word (d:=us.getD v.length 0) (l:=c) (b:=b) hd k3 k4
  have q1:=subF (us.getD v.length 0) c b k4 hd k3
  have q2:=subP ((us.getD v.length 0:Nat):Int) (c:Int) b k4
  have hnx:=nv_take_next (2^64) us v.length
  rw [List.take_of_length_le (show us.length≤v.length+1 by omega)] at hnx
  have hnil:us.drop (v.length+1)=[]:=List.drop_of_length_le (by omega)
  unfold t330
  dsimp only
  rw [Wd_len,hy]
  have e0:decide ((0:Int)≤(v.length:Int))=true:=decide_eq_true (by omega)
  have e1:decide ((v.length:Int)<(us.length:Int))=true:=decide_eq_true (by omega)
  dsimp only [obind,obind2]
  simp only [e0,e1,Bool.and_self,cond_true,Wd_len,Int.toNat_natCast,hg,q2,q1,hst,hsd,hnil,List.append_nil]
  generalize us.getD v.length 0=d at *
  generalize (d+2^64-c-b)%2^64=o at *
  have hO:nv (2^64) (out++[o])+x*nv (2^64) v=nv (2^64) us+(2^64)^us.length*(if d<c+b then 1 else 0):=by
   rw [nv_snoc,k1,hnx,hlen,pow_up]
   have h3:(2^64)^v.length*(o+c+b)=(2^64)^v.length*(d+2^64*(if d<c+b then 1 else 0)):=by rw [w1]
   rw [Nat.mul_add,Nat.mul_add,Nat.mul_add _ d,← Nat.mul_assoc _ (2^64)] at h3
   rw [Nat.mul_add] at k5
   omega
  have hod:=app_lt k2 w2
  have hOl:=nv_lt (B:=2^64) (by decide) (out++[o]) hod
  have hol:(out++[o]).length=us.length:=by simp [k1]; omega
  rw [hol] at hOl
  by_cases hb:d<c+b
  ·rw [if_pos hb,Nat.mul_one] at hO
   have hlt2:nv (2^64) us<x*nv (2^64) v:=by omega
   refine ⟨out++[o],hol,hod,by rw [if_pos hlt2]; exact hO,?_⟩
   rw [if_pos hb,decide_eq_true hlt2]; rfl
  ·rw [if_neg hb,Nat.mul_zero,Nat.add_zero] at hO
   have hlt2:¬ nv (2^64) us<x*nv (2^64) v:=by omega
   refine ⟨out++[o],hol,hod,by rw [if_neg hlt2,Nat.add_zero]; exact hO,?_⟩
   rw [if_neg hb,decide_eq_false hlt2]; rfl
 intro L s hs hL
 obtain ⟨i,out,c,b,hi,hol,hod,hc,hb,hinv,rfl⟩:=hs
 unfold h330_3
 rcases Nat.lt_or_ge i v.length with hlt | hge
 ·have hy:=getD_lt (by decide) hv i
  have hd:=getD_lt (by decide) hu i
  have hnv:=nv_take_next (2^64) v i
  have hnu:=nv_take_next (2^64) us i
  have hwl:(out++us.drop i).length=us.length:=by simp [hol]; omega
  have hdg:=digits_eq (us:=us) hol (by omega)
  have hg:=win_get (A:=A) (C:=C) (us:=out++us.drop i) (i:=i) (by omega)
  rw [hdg] at hg
  have hst:=fun z=>win_set (A:=A) (C:=C) (us:=out++us.drop i) (i:=i) (v:=z) (by omega)
  have hsd:=fun z=>set_drop (a:=us) (v:=z) hol (by omega)
  have hgv:(Wd v).getD i 0=((v.getD i 0:Nat):Int):=Wd_getD v i
  generalize v.getD i 0=y at *
  generalize us.getD i 0=d at *
  have p0:=T315_eq hx hy
  obtain ⟨m1,m2⟩:=mul_word hx hy hc
  have q1:=addF (x*y%2^64) c 0
  have q2:=addP ((x*y%2^64:Nat):Int) (c:Int) 0 (by decide)
  rw [Nat.add_zero] at q1
  have hl:(x*y%2^64+c)%2^64<2^64:=Nat.mod_lt _ (by decide)
  have e5:=wu_add (x*y/2^64) ((x*y%2^64+c)/2^64) m2
  generalize x*y/2^64+(x*y%2^64+c)/2^64=c' at *
  generalize hlq:(x*y%2^64+c)%2^64=l at *
  obtain ⟨w1,w2,w3⟩:=sub_word (d:=d) (l:=l) (b:=b) hd hl hb
  have r1:=subF d l b hb hd hl
  have r2:=subP (d:Int) (l:Int) b hb
  generalize (d+2^64-l-b)%2^64=o at *
  generalize (if d<l+b then 1 else 0)=b' at *
  have hstep:=take_step (P:=(2^64)^i) hinv m1 w1
  have e0:decide ((i:Int)<(v.length:Int))=true:=decide_eq_true (by omega)
  have e1:decide ((0:Int)≤(i:Int))=true:=decide_eq_true (by omega)
  have e2:decide ((i:Int)<((us.length:Nat):Int))=true:=decide_eq_true (by omega)
  have e3:IntKind.wrap .i64 ((i:Int)+1)=((i+1:Nat):Int):=by rw [wrapI (by omega)]; omega
  have z0:((0:Nat):Int)=0:=rfl
  rw [z0] at q1 q2
  dsimp only
  simp only [e0,e1,e2,e3,cond_true,Bool.and_self,Wd_len,Int.toNat_natCast,hgv,hg,pre315 p0,fun315 p0,q1,q2,r1,r2,e5,hst,hsd]
  refine hL _ ⟨i+1,out++[o],c',b',by omega,by simp [hol],app_lt hod w2,m2,w3,?_,rfl⟩ (by simp only [Int.toNat_natCast]; omega)
  rw [nv_snoc,hol,hnv,hnu,pow_up]
  exact hstep
 ·have e:i=v.length:=by omega
  subst e
  have e0:decide ((v.length:Int)<(v.length:Int))=false:=decide_eq_false (by omega)
  simp only [e0,cond_false]
  rw [List.take_length] at hinv
  exact ⟨_,rfl,out,c,b,hol,hod,hc,hb,hinv,rfl⟩
end VL
namespace VL
open Go Vx
theorem back_step {P U V O y c d:Nat} (h:O+P*c=U+V):O+P*((d+y+c)%2^64)+P*2^64*((d+y+c)/2^64)=U+P*d+(V+P*y):=by
 have h1:P*((d+y+c)%2^64+2^64*((d+y+c)/2^64))=P*(d+y+c):=by rw [Nat.mod_add_div]
 rw [Nat.mul_add,Nat.mul_add P (d+y),Nat.mul_add,← Nat.mul_assoc P (2^64)] at h1
 omega
theorem T331_eq (A us C v:List Nat) (hlen:us.length=v.length+1) (hu:∀ x∈us,x<2^64) (hv:∀ x∈v,x<2^64) (hn:v.length≤1000000) :
  ∃ out:List Nat,out.length=us.length∧(∀ z∈out,z<2^64)∧nv (2^64) out+(if (2^64)^us.length≤nv (2^64) us+nv (2^64) v then (2^64)^us.length else 0)=nv (2^64) us+nv (2^64) v ∧
   T331 ((Wd (A++us++C),(A.length,us.length)),(Wd v,()))=some (Wd (A++out++C),decide ((2^64)^us.length≤nv (2^64) us+nv (2^64) v),()):=by
 show ∃ out:List Nat,_∧_∧_∧t331 S155.pre S155.F W331_3 (Wd (A++us++C),(A.length,us.length)) (Wd v)=_
 have key:=lfix_ex (m331_3 S155.pre S155.F) (fun s=>v.length-s.1.2.2.1.toNat)
  (fun s=>∃ (i:Nat) (out:List Nat) (c:Nat),i≤v.length∧out.length=i∧(∀ z∈out,z<2^64)∧c≤1∧nv (2^64) out+(2^64)^i*c=nv (2^64) (us.take i)+nv (2^64) (v.take i) ∧
   s=(((v.length:Int),(Wd v,((i:Int),(Wd v,((A.length,us.length),((c:Int),())))))),(Wd (A++(out++us.drop i)++C),())))
  (fun y=>∃ (out:List Nat) (c:Nat),out.length=v.length∧(∀ z∈out,z<2^64)∧c≤1∧nv (2^64) out+(2^64)^v.length*c=nv (2^64) (us.take v.length)+nv (2^64) v ∧
   y=.inl ((Wd v,((A.length,us.length),((c:Int),()))),(Wd (A++(out++us.drop v.length)++C),()))) ?_
  (((v.length:Int),(Wd v,((0:Int),(Wd v,((A.length,us.length),((0:Int),())))))),(Wd (A++us++C),()))
  ⟨0,[],0,Nat.zero_le _,rfl,(fun z hz=>by simp at hz),by decide,by simp [nv],rfl⟩
 ·obtain ⟨y,hy,out,c,k1,k2,k3,k5,rfl⟩:=key
  have hy:W331_3 (((v.length:Int),(Wd v,((0:Int),(Wd v,((A.length,us.length),((0:Int),())))))),(Wd (A++us++C),()))=_:=hy
  have hlt:v.length<us.length:=by omega
  have hwl:(out++us.drop v.length).length=us.length:=by simp [k1]; omega
  have hdg:=digits_eq (us:=us) k1 hlt
  have hg:=win_get (A:=A) (C:=C) (us:=out++us.drop v.length) (i:=v.length) (by omega)
  rw [hdg] at hg
  have hst:=fun z=>win_set (A:=A) (C:=C) (us:=out++us.drop v.length) (i:=v.length) (v:=z) (by omega)
  have hsd:=fun z=>set_drop (a:=us) (v:=z) k1 hlt
  have hd:=getD_lt (by decide) hu v.length
  have q1:=addF (us.getD v.length 0) 0 c
  have q2:=addP ((us.getD v.length 0:Nat):Int) ((0:Nat):Int) c k3
  have z0:((0:Nat):Int)=0:=rfl
  rw [z0] at q1 q2
  have hnx:=nv_take_next (2^64) us v.length
  rw [List.take_of_length_le (show us.length≤v.length+1 by omega)] at hnx
  have hnil:us.drop (v.length+1)=[]:=List.drop_of_length_le (by omega)
  unfold t331
  dsimp only
  rw [Wd_len,hy]
  have e0:decide ((0:Int)≤(v.length:Int))=true:=decide_eq_true (by omega)
  have e1:decide ((v.length:Int)<(us.length:Int))=true:=decide_eq_true (by omega)
  dsimp only [obind,obind2]
  simp only [e0,e1,Bool.and_self,cond_true,Wd_len,Int.toNat_natCast,hg,q2,q1,hst,hsd,hnil,List.append_nil]
  have hstep:=back_step (P:=(2^64)^v.length) (y:=0) (d:=us.getD v.length 0) k5
  generalize us.getD v.length 0=d at *
  have ho:(d+0+c)%2^64<2^64:=Nat.mod_lt _ (by decide)
  have hO:nv (2^64) (out++[(d+0+c)%2^64])+(2^64)^us.length*((d+0+c)/2^64)=nv (2^64) us+nv (2^64) v:=by
   rw [nv_snoc,k1,hnx,hlen,pow_up]
   rw [Nat.mul_zero] at hstep
   omega
  have hod:=app_lt k2 ho
  have hOl:=nv_lt (B:=2^64) (by decide) (out++[(d+0+c)%2^64]) hod
  have hol:(out++[(d+0+c)%2^64]).length=us.length:=by simp [k1]; omega
  rw [hol] at hOl
  by_cases hb:(d+0+c)/2^64=1
  ·rw [hb,Nat.mul_one] at hO
   have hlt2:(2^64)^us.length≤nv (2^64) us+nv (2^64) v:=by omega
   refine ⟨out++[(d+0+c)%2^64],hol,hod,by rw [if_pos hlt2]; exact hO,?_⟩
   rw [hb,decide_eq_true hlt2]; rfl
  ·have hb0:(d+0+c)/2^64=0:=by omega
   rw [hb0,Nat.mul_zero,Nat.add_zero] at hO
   have hlt2:¬ (2^64)^us.length≤nv (2^64) us+nv (2^64) v:=by omega
   refine ⟨out++[(d+0+c)%2^64],hol,hod,by rw [if_neg hlt2,Nat.add_zero]; exact hO,?_⟩
   rw [hb0,decide_eq_false hlt2]; rfl
 intro L s hs hL
 obtain ⟨i,out,c,hi,hol,hod,hc,hinv,rfl⟩:=hs
 unfold h331_3
 rcases Nat.lt_or_ge i v.length with hlt | hge
 ·have hy:=getD_lt (by decide) hv i
  have hd:=getD_lt (by decide) hu i
  have hnv:=nv_take_next (2^64) v i
  have hnu:=nv_take_next (2^64) us i
  have hwl:(out++us.drop i).length=us.length:=by simp [hol]; omega
  have hdg:=digits_eq (us:=us) hol (by omega)
  have hg:=win_get (A:=A) (C:=C) (us:=out++us.drop i) (i:=i) (by omega)
  rw [hdg] at hg
  have hst:=fun z=>win_set (A:=A) (C:=C) (us:=out++us.drop i) (i:=i) (v:=z) (by omega)
  have hsd:=fun z=>set_drop (a:=us) (v:=z) hol (by omega)
  have hgv:(Wd v).getD i 0=((v.getD i 0:Nat):Int):=Wd_getD v i
  generalize v.getD i 0=y at *
  generalize us.getD i 0=d at *
  have q1:=addF d y c
  have q2:=addP (d:Int) (y:Int) c hc
  have ho:(d+y+c)%2^64<2^64:=Nat.mod_lt _ (by decide)
  have hc':(d+y+c)/2^64≤1:=by omega
  have hstep:=back_step (P:=(2^64)^i) (y:=y) (d:=d) hinv
  have e0:decide ((i:Int)<(v.length:Int))=true:=decide_eq_true (by omega)
  have e1:decide ((0:Int)≤(i:Int))=true:=decide_eq_true (by omega)
  have e2:decide ((i:Int)<((us.length:Nat):Int))=true:=decide_eq_true (by omega)
  have e3:IntKind.wrap .i64 ((i:Int)+1)=((i+1:Nat):Int):=by rw [wrapI (by omega)]; omega
  dsimp only
  simp only [e0,e1,e2,e3,cond_true,Bool.and_self,Wd_len,Int.toNat_natCast,hgv,hg,q1,q2,hst,hsd]
  refine hL _ ⟨i+1,out++[(d+y+c)%2^64],(d+y+c)/2^64,by omega,by simp [hol],app_lt hod ho,hc',?_,rfl⟩ (by simp only [Int.toNat_natCast]; omega)
  rw [nv_snoc,hol,hnv,hnu,pow_up]
  exact hstep
 ·have e:i=v.length:=by omega
  subst e
  have e0:decide ((v.length:Int)<(v.length:Int))=false:=decide_eq_false (by omega)
  simp only [e0,cond_false]
  rw [List.take_length] at hinv
  exact ⟨_,rfl,out,c,hol,hod,hc,hinv,rfl⟩
theorem W332b_eq (A C v:List Nat) {k U:Nat} (hk:k=v.length+1) (hv:∀ x∈v,x<2^64) (hn:v.length≤1000000) (us:List Nat) (g:Nat) (hlen:us.length=k) (hu:∀ x∈us,x<2^64) (hg:g<2^64)
  (hinv:nv (2^64) us+g*nv (2^64) v=U+(2^64)^k) :
  ∃ out:List Nat,out.length=k∧(∀ z∈out,z<2^64)∧nv (2^64) out=U%nv (2^64) v ∧
   W332_13 ((((g:Int),((A.length,k),(Wd v,()))),(Wd (A++us++C),())):P332_13.D)=some (.inl ((((U/nv (2^64) v:Nat):Int),()),(Wd (A++out++C),()))):=by
 have key:=lfix_ex (m332_13 S328.pre S328.F S315.pre S315.F S155.pre S155.F S330.pre S330.F S331.pre S331.F) (fun s=>s.1.1.toNat)
  (fun s=>∃ (us:List Nat) (g:Nat),us.length=k∧(∀ x∈us,x<2^64)∧g<2^64∧nv (2^64) us+g*nv (2^64) v=U+(2^64)^k ∧
   s=(((g:Int),((A.length,k),(Wd v,()))),(Wd (A++us++C),())))
  (fun y=>∃ out:List Nat,out.length=k∧(∀ z∈out,z<2^64)∧nv (2^64) out=U%nv (2^64) v∧y=.inl ((((U/nv (2^64) v:Nat):Int),()),(Wd (A++out++C),()))) ?_
  (((g:Int),((A.length,k),(Wd v,()))),(Wd (A++us++C),())) ⟨us,g,hlen,hu,hg,hinv,rfl⟩
 ·obtain ⟨y,hy,out,k1,k2,k3,rfl⟩:=key
  exact ⟨out,k1,k2,k3,hy⟩
 clear hinv hg hu hlen us g
 intro L s hs hL
 obtain ⟨us,g,hlen,hu,hg,hinv,rfl⟩:=hs
 unfold h332_13
 obtain ⟨out,o1,o2,o3,o4⟩:=T331_eq A us C v (by omega) hu hv hn
 rw [hlen] at o1 o3 o4
 have hul:=nv_lt (B:=2^64) (by decide) us hu
 rw [hlen] at hul
 have hg1:1≤g:=by
  rcases Nat.eq_zero_or_pos g with h | h
  ·rw [h,Nat.zero_mul] at hinv; omega
  ·exact h
 obtain ⟨p,rfl⟩:∃ p,g=p+1:=⟨g-1,by omega⟩
 rw [Nat.add_mul,Nat.one_mul] at hinv
 have e1:IntKind.wrap .u64 (((p+1:Nat):Int)-1)=(p:Int):=by rw [wrapU (by omega)]; omega
 dsimp only
 rw [pre331 o4,fun331 o4,cond_true,e1]
 dsimp only
 by_cases hc:(2^64)^k≤nv (2^64) us+nv (2^64) v
 ·rw [if_pos hc] at o3
  rw [decide_eq_true hc,cond_true]
  have hV:nv (2^64) out<nv (2^64) v:=by omega
  have hd:U=nv (2^64) v*p+nv (2^64) out:=by rw [Nat.mul_comm]; omega
  have hpos:0<nv (2^64) v:=by omega
  refine ⟨_,rfl,out,o1,o2,?_,?_⟩
  ·rw [hd,Nat.mul_add_mod,Nat.mod_eq_of_lt hV]
  ·rw [hd,Nat.mul_add_div hpos,Nat.div_eq_of_lt hV,Nat.add_zero]
 ·rw [if_neg hc] at o3
  rw [decide_eq_false hc,cond_false]
  exact hL _ ⟨out,p,o1,o2,by omega,by omega,rfl⟩ (by simp only [Int.toNat_natCast]; omega)
theorem lex_le {h l r w:Nat} (hl:l<2^64) (hw:w<2^64):(decide ((h:Int)<(r:Int))||(((h:Int)==(r:Int))&&decide ((l:Int)≤(w:Int))))=decide (h*2^64+l≤r*2^64+w):=by
 rw [Bool.eq_iff_iff,Bool.or_eq_true,Bool.and_eq_true,decide_eq_true_eq,decide_eq_true_eq,decide_eq_true_eq,beq_iff_eq]
 omega
theorem est_down {U V P v1 v2 u2 u0 g rest:Nat} (hP:0<P) (hV:(v1*2^64+v2)*P≤V) (hU:U<(u2*2^64+u0+1)*P) (hg:g*v1+rest=u2) (h:¬ g*v2≤rest*2^64+u0):U/V<g:=by
 rcases Nat.lt_or_ge (U/V) g with h1 | h1
 ·exact h1
 ·exfalso
  have h2:g*V≤U:=Nat.le_trans (Nat.mul_le_mul_right V h1) (Nat.div_mul_le_self U V)
  have h3:g*((v1*2^64+v2)*P)≤g*V:=Nat.mul_le_mul_left g hV
  rw [← Nat.mul_assoc] at h3
  have h4:=Nat.lt_of_mul_lt_mul_right (Nat.lt_of_le_of_lt (Nat.le_trans h3 h2) hU)
  rw [Nat.mul_add,← Nat.mul_assoc] at h4
  rw [← hg,Nat.add_mul] at h4
  omega
theorem est_start {U V P v1 v2 u2 u0:Nat} (hP:0<P) (h1:0<v1) (hV:(v1*2^64+v2)*P≤V) (hU:U<(u2*2^64+u0+1)*P) (hu0:u0<2^64):U/V≤u2/v1:=by
 rw [Nat.le_div_iff_mul_le h1]
 have h2:U/V*V≤U:=Nat.div_mul_le_self U V
 have h3:U/V*((v1*2^64+v2)*P)≤U/V*V:=Nat.mul_le_mul_left _ hV
 rw [← Nat.mul_assoc] at h3
 have h4:=Nat.lt_of_mul_lt_mul_right (Nat.lt_of_le_of_lt (Nat.le_trans h3 h2) hU)
 rw [Nat.mul_add,← Nat.mul_assoc] at h4
 omega
theorem two_top {v:List Nat} {n:Nat} (hn:v.length=n+2):(v.getD (n+1) 0*2^64+v.getD n 0)*(2^64)^n≤nv (2^64) v:=by
 have h1:=nv_take_next (2^64) v n
 have h2:=nv_take_next (2^64) v (n+1)
 rw [List.take_of_length_le (by omega)] at h2
 rw [h2,h1,pow_up,Nat.add_mul,Nat.mul_comm _ ((2^64)^n),Nat.mul_comm (v.getD n 0),Nat.mul_assoc,Nat.mul_comm (2^64) (v.getD (n+1) 0)]
 omega
theorem three_top {u:List Nat} {n:Nat} (hu:∀ x∈u,x<2^64) (hn:u.length=n+3):nv (2^64) u<((u.getD (n+2) 0*2^64+u.getD (n+1) 0)*2^64+u.getD n 0+1)*(2^64)^n:=by
 have h0:=nv_take_lt hu n
 have h1:=nv_take_next (2^64) u n
 have h2:=nv_take_next (2^64) u (n+1)
 have h3:=nv_take_next (2^64) u (n+2)
 rw [List.take_of_length_le (show u.length≤n+2+1 by omega)] at h3
 rw [h3,h2,h1]
 rw [show (2^64)^(n+2)=(2^64)^n*2^64*2^64 by rw [show n+2=n+1+1 by omega,pow_up,pow_up],pow_up]
 generalize (2^64)^n=P at *
 generalize u.getD (n+2) 0=a
 generalize u.getD (n+1) 0=b
 generalize u.getD n 0=c
 rw [Nat.mul_comm (_+1) P,Nat.mul_add,Nat.mul_add,Nat.add_mul,Nat.mul_add,Nat.mul_one]
 have e1:P*(a*2^64*2^64)=P*2^64*2^64*a:=by rw [Nat.mul_assoc P,Nat.mul_assoc P,Nat.mul_assoc a,Nat.mul_comm a]
 have e2:P*(b*2^64)=P*2^64*b:=by rw [Nat.mul_assoc P,Nat.mul_comm b]
 rw [e1,e2]
 omega
end VL
namespace VL
open Go Vx
theorem W332a_eq (A us C v:List Nat) {n:Nat} (hvl:v.length=n+2) (hlen:us.length=n+3) (hu:∀ x∈us,x<2^64) (hv:∀ x∈v,x<2^64) (hn:v.length≤1000000)
  (hV0:0<v.getD (n+1) 0) (g rest:Nat) (hg:g<2^64) (hr:rest<2^64) (hinv:g*v.getD (n+1) 0+rest=us.getD (n+2) 0*2^64+us.getD (n+1) 0) (hq:nv (2^64) us/nv (2^64) v≤g) :
  ∃ g':Nat,g'<2^64∧nv (2^64) us/nv (2^64) v≤g' ∧
   W332_6 ((((g:Int),((rest:Int),((v.length:Int),((A.length,us.length),(Wd v,()))))),(Wd (A++us++C),())):P332_6.D)=some (.inl (((A.length,us.length),(Wd v,((g':Int),()))),(Wd (A++us++C),()))):=by
 have key:=lfix_ex (m332_6 S328.pre S328.F S315.pre S315.F S155.pre S155.F S330.pre S330.F S331.pre S331.F) (fun s=>s.1.1.toNat)
  (fun s=>∃ (g rest:Nat),g<2^64∧rest<2^64∧g*v.getD (n+1) 0+rest=us.getD (n+2) 0*2^64+us.getD (n+1) 0∧nv (2^64) us/nv (2^64) v≤g ∧
   s=(((g:Int),((rest:Int),((v.length:Int),((A.length,us.length),(Wd v,()))))),(Wd (A++us++C),())))
  (fun y=>∃ g':Nat,g'<2^64∧nv (2^64) us/nv (2^64) v≤g'∧y=.inl (((A.length,us.length),(Wd v,((g':Int),()))),(Wd (A++us++C),()))) ?_
  (((g:Int),((rest:Int),((v.length:Int),((A.length,us.length),(Wd v,()))))),(Wd (A++us++C),())) ⟨g,rest,hg,hr,hinv,hq,rfl⟩
 ·obtain ⟨y,hy,g',k1,k2,rfl⟩:=key
  exact ⟨g',k1,k2,hy⟩
 clear hinv hg hr hq g rest
 intro L s hs hL
 obtain ⟨g,rest,hg,hr,hinv,hq,rfl⟩:=hs
 unfold h332_6
 have hv1:=getD_lt (by decide) hv (n+1)
 have hv2:=getD_lt (by decide) hv n
 have hu0:=getD_lt (by decide) hu n
 have g1:(Wd v).getD (n+1) 0=((v.getD (n+1) 0:Nat):Int):=Wd_getD v _
 have g2:(Wd v).getD n 0=((v.getD n 0:Nat):Int):=Wd_getD v _
 have g3:=win_get (A:=A) (C:=C) (us:=us) (i:=n) (by omega)
 have e11:IntKind.wrap .i64 ((v.length:Int)-2)=(n:Int):=by rw [wrapI (by omega)]; omega
 have e12:IntKind.wrap .i64 ((v.length:Int)-1)=((n+1:Nat):Int):=by rw [wrapI (by omega)]; omega
 have p0:=T315_eq hg hv2
 have e0:decide ((0:Int)≤(n:Int))=true:=decide_eq_true (by omega)
 have e1:decide ((n:Int)<(v.length:Int))=true:=decide_eq_true (by omega)
 have e2:decide ((n:Int)<(us.length:Int))=true:=decide_eq_true (by omega)
 have e3:decide ((0:Int)≤((n+1:Nat):Int))=true:=decide_eq_true (by omega)
 have e4:decide (((n+1:Nat):Int)<(v.length:Int))=true:=decide_eq_true (by omega)
 have hlo:g*v.getD n 0%2^64<2^64:=Nat.mod_lt _ (by decide)
 have hlex:=lex_le (h:=g*v.getD n 0/2^64) (r:=rest) hlo hu0
 rw [show g*v.getD n 0/2^64*2^64+g*v.getD n 0%2^64=g*v.getD n 0 by omega] at hlex
 dsimp only
 simp only [e11,e12,e0,e1,e2,e3,e4,Bool.and_self,Bool.true_or,cond_true,Wd_len,Int.toNat_natCast,g1,g2,g3,pre315 p0,fun315 p0,hlex]
 by_cases hc:g*v.getD n 0≤rest*2^64+us.getD n 0
 ·rw [decide_eq_true hc,cond_true]
  exact ⟨_,rfl,g,hg,hq,rfl⟩
 ·rw [decide_eq_false hc,cond_false]
  have hdn:=est_down (Nat.pow_pos (by decide)) (two_top hvl) (three_top hu hlen) hinv hc
  have hg1:1≤g:=Nat.lt_of_le_of_lt (Nat.zero_le _) hdn
  obtain ⟨p,rfl⟩:∃ p,g=p+1:=⟨g-1,by omega⟩
  have e5:IntKind.wrap .u64 (((p+1:Nat):Int)-1)=(p:Int):=by rw [wrapU (by omega)]; omega
  have q1:=addF rest (v.getD (n+1) 0) 0
  have q2:=addP (rest:Int) ((v.getD (n+1) 0:Nat):Int) 0 (by decide)
  have z0:((0:Nat):Int)=0:=rfl
  rw [z0] at q1 q2
  simp only [q1,q2,cond_true,e5]
  by_cases hb:(rest+v.getD (n+1) 0+0)/2^64=0
  ·have e6:((((rest+v.getD (n+1) 0+0)/2^64:Nat):Int) != 0)=false:=by rw [hb]; rfl
   rw [e6,cond_false]
   have hs:(rest+v.getD (n+1) 0+0)%2^64=rest+v.getD (n+1) 0:=by omega
   rw [hs]
   refine hL _ ⟨p,rest+v.getD (n+1) 0,by omega,by omega,?_,Nat.le_of_lt_succ hdn,rfl⟩ (by simp only [Int.toNat_natCast]; omega)
   rw [Nat.add_mul,Nat.one_mul] at hinv
   omega
  ·have e6:((((rest+v.getD (n+1) 0+0)/2^64:Nat):Int) != 0)=true:=bne0_t _ hb
   rw [e6,cond_true]
   exact ⟨_,rfl,p,by omega,Nat.le_of_lt_succ hdn,rfl⟩
theorem T332_eq (A us C v:List Nat) {n:Nat} (hvl:v.length=n+2) (hlen:us.length=n+3) (hu:∀ x∈us,x<2^64) (hv:∀ x∈v,x<2^64) (hn:v.length≤1000000)
  (hlt:nv (2^64) us<nv (2^64) v*2^64) :
  ∃ out:List Nat,out.length=us.length∧(∀ z∈out,z<2^64)∧nv (2^64) out=nv (2^64) us%nv (2^64) v ∧
   T332 ((Wd (A++us++C),(A.length,us.length)),(Wd v,()))=some (Wd (A++out++C),((nv (2^64) us/nv (2^64) v:Nat):Int),()):=by
 show ∃ out:List Nat,_∧_∧_∧t332 S328.pre S328.F S315.pre S315.F S155.pre S155.F S330.pre S330.F S331.pre S331.F W332_6 W332_13 (Wd (A++us++C),(A.length,us.length)) (Wd v)=_
 have hVp:0<nv (2^64) v:=by omega
 have hq64:nv (2^64) us/nv (2^64) v<2^64:=by rw [Nat.div_lt_iff_lt_mul hVp,Nat.mul_comm]; exact hlt
 have hv1:=getD_lt (by decide) hv (n+1)
 have hu2:=getD_lt (by decide) hu (n+2)
 have hu1:=getD_lt (by decide) hu (n+1)
 have hu0:=getD_lt (by decide) hu n
 have fin:∀ g:Nat,g<2^64→nv (2^64) us/nv (2^64) v≤g →
   ∃ out:List Nat,out.length=us.length∧(∀ z∈out,z<2^64)∧nv (2^64) out=nv (2^64) us%nv (2^64) v ∧
    (bif S330.pre ((Wd (A++us++C),(A.length,us.length)),(Wd v,((g:Int),()))) then
     (bif (S330.F ((Wd (A++us++C),(A.length,us.length)),(Wd v,((g:Int),())))).2.1 then
      (Vx.obind (W332_13 (((g:Int),((A.length,us.length),(Wd v,()))),((S330.F ((Wd (A++us++C),(A.length,us.length)),(Wd v,((g:Int),())))).1,()))) fun y5 =>
      Vx.obind2 y5 (fun y6=>some (y6.2.1,y6.1)) (fun _=>none))
     else some ((S330.F ((Wd (A++us++C),(A.length,us.length)),(Wd v,((g:Int),())))).1,((g:Int),())))
    else none)=(some (Wd (A++out++C),(((nv (2^64) us/nv (2^64) v:Nat):Int),())):Option (LK.B K332×DenS O332)):=by
  intro g hg hq
  obtain ⟨out,o1,o2,o3,o4⟩:=T330_eq A us C v (by omega) hu hv hn hg
  have hpr:S330.pre ((Wd (A++us++C),(A.length,us.length)),(Wd v,((g:Int),())))=true:=pre330 o4
  have hfr:S330.F ((Wd (A++us++C),(A.length,us.length)),(Wd v,((g:Int),())))=(Wd (A++out++C),decide (nv (2^64) us<g*nv (2^64) v),()):=fun330 o4
  rw [hpr,hfr]
  rw [cond_true]
  by_cases hb:nv (2^64) us<g*nv (2^64) v
  ·rw [if_pos hb] at o3
   obtain ⟨out2,u1,u2,u3,u4⟩:=W332b_eq A C v (k:=us.length) (U:=nv (2^64) us) (by omega) hv hn out g o1 o2 hg o3
   refine ⟨out2,u1,u2,u3,?_⟩
   dsimp only
   rw [decide_eq_true hb,cond_true,u4]
  ·rw [if_neg hb,Nat.add_zero] at o3
   have h1:nv (2^64) us/nv (2^64) v=g:=by
    have:g≤nv (2^64) us/nv (2^64) v:=by rw [Nat.le_div_iff_mul_le hVp]; omega
    exact Nat.le_antisymm hq this
   have h2:nv (2^64) out=nv (2^64) us%nv (2^64) v:=by
    have:=Nat.div_add_mod (nv (2^64) us) (nv (2^64) v)
    rw [h1,Nat.mul_comm] at this
    omega
   refine ⟨out,o1,o2,h2,?_⟩
   dsimp only
   rw [decide_eq_false hb,cond_false,h1]
 have g1:(Wd v).getD (n+1) 0=((v.getD (n+1) 0:Nat):Int):=Wd_getD v _
 have g2:=win_get (A:=A) (C:=C) (us:=us) (i:=n+2) (by omega)
 have g3:=win_get (A:=A) (C:=C) (us:=us) (i:=n+1) (by omega)
 have e10:IntKind.wrap .i64 ((v.length:Int)-1)=((n+1:Nat):Int):=by rw [wrapI (by omega)]; omega
 have e0:decide ((0:Int)≤(v.length:Int))=true:=decide_eq_true (by omega)
 have e1:decide ((v.length:Int)<(us.length:Int))=true:=decide_eq_true (by omega)
 have e2:decide ((0:Int)≤((n+1:Nat):Int))=true:=decide_eq_true (by omega)
 have e3:decide (((n+1:Nat):Int)<(v.length:Int))=true:=decide_eq_true (by omega)
 have e4:decide (((n+1:Nat):Int)<(us.length:Int))=true:=decide_eq_true (by omega)
 have evl:v.length=n+2:=hvl
 have g2':(Wd (A++us++C)).getD (A.length+v.length) 0=((us.getD (n+2) 0:Nat):Int):=by rw [evl]; exact g2
 unfold t332
 dsimp only
 simp only [Wd_len,Int.toNat_natCast,e10,g1,g2',g3,e0,e1,e2,e3,e4,Bool.and_self,cond_true]
 by_cases hc:us.getD (n+2) 0<v.getD (n+1) 0
 ·have e5:decide (((us.getD (n+2) 0:Nat):Int)<((v.getD (n+1) 0:Nat):Int))=true:=decide_eq_true (by omega)
  have p0:=T328_eq hu1 hv1 hc
  simp only [e5,cond_true,pre328 p0,fun328 p0]
  have hgl:(us.getD (n+2) 0*2^64+us.getD (n+1) 0)/v.getD (n+1) 0<2^64:=by
   rw [Nat.div_lt_iff_lt_mul (by omega)]
   have:(us.getD (n+2) 0+1)*2^64≤v.getD (n+1) 0*2^64:=Nat.mul_le_mul_right _ hc
   rw [Nat.add_mul,Nat.one_mul] at this
   rw [Nat.mul_comm (2^64)]
   omega
  have hrl:(us.getD (n+2) 0*2^64+us.getD (n+1) 0)%v.getD (n+1) 0<2^64:=Nat.lt_trans (Nat.mod_lt _ (by omega)) hv1
  have hst:=est_start (Nat.pow_pos (n:=n) (show 0<2^64 by decide)) (show 0<v.getD (n+1) 0 by omega) (two_top hvl) (three_top hu hlen) hu0
  obtain ⟨g',k1,k2,k3⟩:=W332a_eq A us C v hvl hlen hu hv hn (by omega) _ _ hgl hrl (by rw [Nat.mul_comm]; exact Nat.div_add_mod _ _) hst
  rw [k3]
  obtain ⟨out,o1,o2,o3,o4⟩:=fin g' k1 k2
  exact ⟨out,o1,o2,o3,o4⟩
 ·have e5:decide (((us.getD (n+2) 0:Nat):Int)<((v.getD (n+1) 0:Nat):Int))=false:=decide_eq_false (by omega)
  simp only [e5,cond_false]
  obtain ⟨out,o1,o2,o3,o4⟩:=fin (2^64-1) (by decide) (Nat.le_pred_of_lt hq64)
  exact ⟨out,o1,o2,o3,o4⟩
end VL
namespace VL
open Go Vx
theorem byword_step {X Q d r a B:Nat} (hX:X=Q*d+r):X*B+a=(Q*B+(r*B+a)/d)*d+(r*B+a)%d:=by
 have h1:=Nat.div_add_mod (r*B+a) d
 rw [hX,Nat.add_mul,Nat.add_mul,Nat.mul_right_comm,Nat.mul_comm ((r*B+a)/d) d]
 omega
theorem W1329_eq (l:List Nat) (hl:∀ x∈l,x<2^64) (hn:l.length≤1000000) {d:Nat} (hd:0<d) (hd2:d<2^64) :
  ∃ qs:List Nat,qs.length=l.length∧(∀ x∈qs,x<2^64)∧nv (2^64) qs=nv (2^64) l/d ∧
   W1329_3 ((((d:Int),(((l.length:Int)-1),((),((0:Int),())))),(Wd l,())):P1329_3.D)=some (.inl (((),(((nv (2^64) l%d:Nat):Int),())),(Wd qs,()))):=by
 have key:=lfix_ex (m1329_3 S328.pre S328.F S173.pre S173.F) (fun s=>(s.1.2.1+1).toNat)
  (fun s=>∃ (k:Nat) (qs:List Nat) (r:Nat),k≤l.length∧qs.length+k=l.length∧(∀ x∈qs,x<2^64)∧r<d∧nv (2^64) (l.drop k)=nv (2^64) qs*d+r ∧
   s=(((d:Int),(((k:Int)-1),((),((r:Int),())))),(Wd (l.take k++qs),())))
  (fun y=>∃ qs:List Nat,qs.length=l.length∧(∀ x∈qs,x<2^64)∧nv (2^64) qs=nv (2^64) l/d∧y=.inl (((),(((nv (2^64) l%d:Nat):Int),())),(Wd qs,()))) ?_
  (((d:Int),(((l.length:Int)-1),((),((0:Int),())))),(Wd l,()))
  ⟨l.length,[],0,Nat.le_refl _,by simp,(fun z hz=>by simp at hz),hd,by simp [nv],by simp⟩
 ·obtain ⟨y,hy,qs,k1,k2,k3,rfl⟩:=key
  exact ⟨qs,k1,k2,k3,hy⟩
 intro L s hs hL
 obtain ⟨k,qs,r,hk,hql,hqd,hr,hinv,rfl⟩:=hs
 unfold h1329_3
 rcases k with _ | i
 ·have e0:decide ((((0:Nat):Int)-1)≥0)=false:=rfl
  dsimp only
  rw [e0,cond_false]
  rw [List.drop_zero] at hinv
  have hdv:nv (2^64) l/d=nv (2^64) qs:=by rw [hinv,Nat.mul_comm,Nat.mul_add_div hd,Nat.div_eq_of_lt hr,Nat.add_zero]
  have hmd:nv (2^64) l%d=r:=by rw [hinv,Nat.mul_comm,Nat.mul_add_mod,Nat.mod_eq_of_lt hr]
  exact ⟨_,rfl,qs,by omega,hqd,hdv.symm,by rw [hmd,List.take_zero,List.nil_append]⟩
 ·have ei:(((i+1:Nat):Int)-1)=(i:Int):=by omega
  have ha:=getD_lt (by decide) hl i
  have hg:(Wd (l.take (i+1)++qs)).getD i 0=((l.getD i 0:Nat):Int):=by
   rw [Wd_getD]
   congr 1
   rw [List.getD_eq_getElem?_getD,List.getD_eq_getElem?_getD,List.getElem?_append_left (by simp; omega),List.getElem?_take_of_lt (by omega)]
  have hdn:=nv_drop_next (2^64) l i (by omega)
  have hset:∀ z:Nat,(Wd (l.take (i+1)++qs)).set i (z:Int)=Wd (l.take i++(z::qs)):=fun z=>by
   rw [Wd_set,List.set_append_left _ _ (by simp; omega),List.take_succ_eq_append_getElem (show i<l.length by omega),List.set_append_right _ _ (by simp; omega)]
   have:i-(l.take i).length=0:=by simp; omega
   rw [this]
   simp
  have hlen:(Wd (l.take (i+1)++qs)).length=l.length:=by rw [Wd_len]; simp; omega
  generalize l.getD i 0=a at *
  have p0:=T328_eq (hi:=r) ha hd2 hr
  have e0:decide ((i:Int)≥0)=true:=decide_eq_true (by omega)
  have e1:decide ((0:Int)≤(i:Int))=true:=decide_eq_true (by omega)
  have e2:decide ((i:Int)<(l.length:Int))=true:=decide_eq_true (by omega)
  have e3:IntKind.wrap .i64 ((i:Int)-1)=(i:Int)-1:=wrapI (by omega)
  dsimp only
  simp only [ei,e0,e1,e2,e3,hlen,Bool.and_self,cond_true,Int.toNat_natCast,hg,pre328 p0,fun328 p0,hset]
  have hq:(r*2^64+a)/d<2^64:=by
   rw [Nat.div_lt_iff_lt_mul hd]
   have:(r+1)*2^64≤d*2^64:=Nat.mul_le_mul_right _ hr
   rw [Nat.mul_comm (2^64)]
   omega
  refine hL _ ⟨i,(r*2^64+a)/d::qs,(r*2^64+a)%d,by omega,by simp; omega,?_,Nat.mod_lt _ hd,?_,rfl⟩ (by dsimp only; omega)
  ·intro x hx
   rcases List.mem_cons.1 hx with rfl | hx
   ·exact hq
   ·exact hqd x hx
  ·have:=byword_step (B:=2^64) (a:=a) hinv
   rw [hdn]
   show a+2^64*_=((r*2^64+a)/d+2^64*nv (2^64) qs)*d+_
   rw [Nat.mul_comm (2^64) (nv (2^64) qs),Nat.add_comm ((r*2^64+a)/d),← this]
   omega
theorem trim_Dw {l:List Nat} (h:∀ x∈l,x<2^64):Wd (trimL l)=Dw (nv (2^64) l):=by
 unfold Dw
 rw [trim_dg (by decide) l h]
theorem T1329_eq {a:Nat} (ha:a<(2^64)^5000) {d:Nat} (hd:0<d) (hd2:d<2^64):T1329 (Dw a,(d:Int),())=some (Dw (a/d),((a%d:Nat):Int),()):=by
 show t1329 S328.pre S328.F S173.pre S173.F W1329_3 (Dw a) (d:Int)=_
 unfold t1329
 have hw:=Dw_ws ha
 obtain ⟨qs,k1,k2,k3,k4⟩:=W1329_eq (dg (2^64) a) hw.1 hw.2 hd hd2
 rw [nv_Dw] at k3 k4
 have hl:(dg (2^64) a).length≤1000000:=hw.2
 have e0:IntKind.wrap .i64 (((Dw a).length:Int)-1)=(((dg (2^64) a).length:Int)-1):=by
  unfold Dw
  rw [Wd_len,wrapI (by omega)]
 have p0:=T173_eq qs (by omega)
 rw [e0]
 have k4:W1329_3 ((((d:Int),((((dg (2^64) a).length:Int)-1),((),((0:Int),())))),(Dw a,())):P1329_3.D)=_:=k4
 rw [k4]
 show (bif S173.pre (Wd qs,()) then some ((S173.F (Wd qs,())).1,(((a%d:Nat):Int),())) else none)=_
 simp only [pre173 p0,fun173 p0,cond_true,trim_Dw k2,k3]
theorem W333_eq (v:List Nat) {n:Nat} (hvl:v.length=n+2) (hv:∀ x∈v,x<2^64) (hn:v.length≤900000) {X:Nat} (Q:Nat) (hQ:Q≤50000) (s:Int) (us:List Nat) (hus:us.length=Q+n+2)
  (hud:∀ x∈us,x<2^64) (hX:nv (2^64) us=X) (hlt:X<nv (2^64) v*(2^64)^Q) :
  ∃ qs us':List Nat,qs.length=Q∧(∀ x∈qs,x<2^64)∧nv (2^64) qs=X/nv (2^64) v∧us'.length=Q+n+2∧(∀ x∈us',x<2^64)∧nv (2^64) us'=X%nv (2^64) v ∧
   W333_14 (((Wd v,(((Q:Int)-1),((),((),((v.length:Int),(s,())))))),(Wd us,(Wd (List.replicate Q 0),()))):P333_14.D)=some (.inl (((),((),((v.length:Int),(s,())))),(Wd us',(Wd qs,())))):=by
 have hV0:0<nv (2^64) v:=by
  rcases Nat.eq_zero_or_pos (nv (2^64) v) with h | h
  ·rw [h,Nat.zero_mul] at hlt; omega
  ·exact h
 have hVl:=nv_lt (B:=2^64) (by decide) v hv
 have key:=lfix_ex (m333_14 S1146.pre S1146.F S1329.pre S1329.F S144.pre S144.F S146.pre S146.F S329.pre S329.F S327.pre S327.F S186.pre S186.F S332.pre S332.F S173.pre S173.F S171.pre S171.F) (fun s=>(s.1.2.1+1).toNat)
  (fun x=>∃ (k:Nat) (qs us:List Nat),k≤Q∧qs.length+k=Q∧(∀ x∈qs,x<2^64)∧us.length=Q+n+2∧(∀ x∈us,x<2^64)∧nv (2^64) us<nv (2^64) v*(2^64)^k ∧
   X=nv (2^64) qs*(2^64)^k*nv (2^64) v+nv (2^64) us ∧
   x=((Wd v,(((k:Int)-1),((),((),((v.length:Int),(s,())))))),(Wd us,(Wd (List.replicate k 0++qs),()))))
  (fun y=>∃ qs us':List Nat,qs.length=Q∧(∀ x∈qs,x<2^64)∧nv (2^64) qs=X/nv (2^64) v∧us'.length=Q+n+2∧(∀ x∈us',x<2^64)∧nv (2^64) us'=X%nv (2^64) v ∧
   y=.inl (((),((),((v.length:Int),(s,())))),(Wd us',(Wd qs,())))) ?_
  ((Wd v,(((Q:Int)-1),((),((),((v.length:Int),(s,())))))),(Wd us,(Wd (List.replicate Q 0),())))
  ⟨Q,[],us,Nat.le_refl _,by simp,(fun z hz=>by simp at hz),hus,hud,by rw [hX]; exact hlt,by simp [nv,hX],by simp⟩
 ·obtain ⟨y,hy,qs,us',k1,k2,k3,k4,k5,k6,rfl⟩:=key
  exact ⟨qs,us',k1,k2,k3,k4,k5,k6,hy⟩
 clear hlt hX hud hus us
 intro L x hx hL
 obtain ⟨k,qs,us,hk,hql,hqd,hus,hud,hlt,hinv,rfl⟩:=hx
 unfold h333_14
 rcases k with _ | j
 ·have e0:decide ((((0:Nat):Int)-1)≥0)=false:=rfl
  dsimp only
  rw [e0,cond_false]
  rw [Nat.pow_zero,Nat.mul_one] at hlt hinv
  have hdv:X/nv (2^64) v=nv (2^64) qs:=by rw [hinv,Nat.mul_comm,Nat.mul_add_div hV0,Nat.div_eq_of_lt hlt,Nat.add_zero]
  have hmd:X%nv (2^64) v=nv (2^64) us:=by rw [hinv,Nat.mul_comm,Nat.mul_add_mod,Nat.mod_eq_of_lt hlt]
  exact ⟨_,rfl,qs,us,by omega,hqd,hdv.symm,hus,hud,hmd.symm,by simp⟩
 ·have ei:(((j+1:Nat):Int)-1)=(j:Int):=by omega
  have hjl:j+(n+3)≤us.length:=by omega
  have hsplit:us=us.take j++(us.drop j).take (n+3)++us.drop (j+(n+3)):=by
   rw [List.append_assoc,← List.drop_drop,List.take_append_drop,List.take_append_drop]
  have hAl:(us.take j).length=j:=by simp; omega
  have hwl:((us.drop j).take (n+3)).length=n+3:=by simp; omega
  have hAd:∀ x∈us.take j,x<2^64:=fun x hx=>hud x (List.mem_of_mem_take hx)
  have hwd:∀ x∈(us.drop j).take (n+3),x<2^64:=fun x hx=>hud x (List.mem_of_mem_drop (List.mem_of_mem_take hx))
  have hCd:∀ x∈us.drop (j+(n+3)),x<2^64:=fun x hx=>hud x (List.mem_of_mem_drop hx)
  have hCl:(us.drop (j+(n+3))).length+j+(n+3)=us.length:=by simp; omega
  generalize us.take j=A at *
  generalize (us.drop j).take (n+3)=w at *
  generalize us.drop (j+(n+3))=C at *
  subst hsplit
  have hAlt:=nv_lt (B:=2^64) (by decide) A hAd
  have hval:∀ w:List Nat,w.length=n+3→nv (2^64) (A++w++C)=nv (2^64) A+(2^64)^j*nv (2^64) w+(2^64)^(j+(n+3))*nv (2^64) C:=fun w hw=>by
   rw [nv_append,nv_append,hAl,show (A++w).length=j+(n+3) by simp [hAl,hw]]
  have hPj:=Nat.pow_pos (n:=j) (show 0<2^64 by decide)
  have hv1:=hval w hwl
  rw [hAl] at hAlt
  have hC0:nv (2^64) C=0:=by
   rcases Nat.eq_zero_or_pos (nv (2^64) C) with h | h
   ·exact h
   ·exfalso
    have h1:(2^64)^(j+(n+3))*1≤(2^64)^(j+(n+3))*nv (2^64) C:=Nat.mul_le_mul_left _ h
    have h2:nv (2^64) v*(2^64)^(j+1)≤(2^64)^(n+2)*(2^64)^(j+1):=Nat.mul_le_mul_right _ (by rw [hvl] at hVl; omega)
    rw [← Nat.pow_add,show n+2+(j+1)=j+(n+3) by omega] at h2
    omega
  rw [hC0,Nat.mul_zero,Nat.add_zero] at hv1
  have hwlt:nv (2^64) w<nv (2^64) v*2^64:=by
   have h1:(2^64)^j*nv (2^64) w<(2^64)^j*(nv (2^64) v*2^64):=by
    rw [pow_up,← Nat.mul_assoc] at hlt
    rw [Nat.mul_left_comm,← Nat.mul_assoc]
    omega
   exact Nat.lt_of_mul_lt_mul_left h1
  obtain ⟨out,o1,o2,o3,o4⟩:=T332_eq A w C v hvl hwl hwd hv (by omega) hwlt
  rw [hAl,hwl] at o4
  have hout:out.length=n+3:=by omega
  have hv2:=hval out hout
  rw [hC0,Nat.mul_zero,Nat.add_zero,o3] at hv2
  have hdm:=Nat.div_add_mod (nv (2^64) w) (nv (2^64) v)
  have hml:=Nat.mod_lt (nv (2^64) w) hV0
  have hq64:nv (2^64) w/nv (2^64) v<2^64:=by rw [Nat.div_lt_iff_lt_mul hV0,Nat.mul_comm]; exact hwlt
  have e0:decide ((j:Int)≥0)=true:=decide_eq_true (by omega)
  have e1:decide ((0:Int)≤(j:Int))=true:=decide_eq_true (by omega)
  have e3:IntKind.wrap .i64 (IntKind.wrap .i64 ((j:Int)+(v.length:Int))+1)=((j+(n+3):Nat):Int):=by
   rw [wrapI (n:=(j:Int)+_) (by omega),wrapI (by omega)]; omega
  have e4:decide ((j:Int)≤((j+(n+3):Nat):Int))=true:=decide_eq_true (by omega)
  have e5:decide ((((j+(n+3):Nat):Int))≤((Wd (A++w++C)).length:Int))=true:=decide_eq_true (by rw [Wd_len]; simp; omega)
  have e6:decide ((j:Int)<((Wd (List.replicate (j+1) 0++qs)).length:Int))=true:=decide_eq_true (by rw [Wd_len]; simp; omega)
  have e7:IntKind.wrap .i64 ((j:Int)-1)=(j:Int)-1:=wrapI (by omega)
  have hset:∀ z:Nat,(Wd (List.replicate (j+1) 0++qs)).set j (z:Int)=Wd (List.replicate j 0++(z::qs)):=fun z=>by
   rw [Wd_set,List.set_append_left _ _ (by simp),List.replicate_succ',List.set_append_right _ _ (by simp)]
   simp
  have e8:j+(n+3)-j=n+3:=by omega
  dsimp only
  simp only [ei,e0,e1,e3,e4,e5,e6,e7,Bool.and_self,cond_true,Int.toNat_natCast,e8]
  rw [pre332 o4,fun332 o4,cond_true]
  dsimp only
  rw [hset]
  refine hL _ ⟨j,nv (2^64) w/nv (2^64) v::qs,A++out++C,by omega,by simp; omega,?_,by simp; omega,?_,?_,?_,rfl⟩ (by dsimp only; omega)
  ·intro x hx
   rcases List.mem_cons.1 hx with rfl | hx
   ·exact hq64
   ·exact hqd x hx
  ·intro x hx
   rcases List.mem_append.1 hx with hx | hx
   ·rcases List.mem_append.1 hx with hx | hx
    ·exact hAd x hx
    ·exact o2 x hx
   ·exact hCd x hx
  ·rw [hv2]
   have:(2^64)^j*(nv (2^64) w%nv (2^64) v+1)≤(2^64)^j*nv (2^64) v:=Nat.mul_le_mul_left _ hml
   rw [Nat.mul_add,Nat.mul_one] at this
   rw [Nat.mul_comm (nv (2^64) v)]
   omega
  ·rw [hv2,hinv,hv1]
   show _=(nv (2^64) w/nv (2^64) v+2^64*nv (2^64) qs)*(2^64)^j*nv (2^64) v+_
   have h1:(2^64)^j*nv (2^64) w=(2^64)^j*(nv (2^64) v*(nv (2^64) w/nv (2^64) v))+(2^64)^j*(nv (2^64) w%nv (2^64) v):=by rw [← Nat.mul_add,hdm]
   rw [h1,pow_up,Nat.add_mul,Nat.add_mul]
   generalize nv (2^64) w/nv (2^64) v=q
   generalize nv (2^64) v=V
   generalize (2^64)^j=P
   have h2:nv (2^64) qs*(P*2^64)*V=2^64*nv (2^64) qs*P*V:=by rw [Nat.mul_comm P,← Nat.mul_assoc,Nat.mul_comm (nv (2^64) qs)]
   have h3:P*(V*q)=q*P*V:=by rw [Nat.mul_comm V,← Nat.mul_assoc,Nat.mul_comm P]
   rw [h2,h3]
   omega
end VL
namespace VL
open Go Vx
theorem dg_len_ge {x k:Nat} (h:(2^64)^k≤x):k<(dg (2^64) x).length:=by
 have:=dg_len_gt (B:=2^64) (by decide) x
 exact (Nat.pow_lt_pow_iff_right (a:=2^64) (by decide)).1 (Nat.lt_of_le_of_lt h this)
theorem dg_top {x:Nat} (h0:x≠0):∃ t,(dg (2^64) x).getD ((dg (2^64) x).length-1) 0=t∧t≠0∧t<2^64∧blen x=64*((dg (2^64) x).length-1)+blen t∧0<(dg (2^64) x).length:=by
 have hl:0<(dg (2^64) x).length:=by rw [dg_pos (by decide) (by omega)]; simp
 have ht:=dg_trim (B:=2^64) (by decide) x
 have h1:=trim_last (dg (2^64) x) (by rw [ht]; exact hl)
 have h2:=blen_row (dg_lt (B:=2^64) (by decide) x) (by rw [ht]; exact hl)
 rw [ht] at h1 h2
 rw [nv_Dw] at h2
 exact ⟨_,rfl,h1,getD_lt (by decide) (dg_lt (by decide) x) _,h2,hl⟩
theorem pow64_2 (k:Nat):(2^64)^k=2^(64*k):=(Nat.pow_mul ..).symm
theorem T333_eq {a b:Nat} (ha:a<(2^64)^4000) (hb:b<(2^64)^4000) (h0:b≠0):T333 (Dw a,Dw b,())=some (Dw (a/b),Dw (a%b),()):=by
 have up:∀ {x:Nat},x<(2^64)^4000→x<(2^64)^5000:=fun h=>Nat.lt_of_lt_of_le h (Nat.pow_le_pow_right (by decide) (by decide))
 show t333 S1146.pre S1146.F S1329.pre S1329.F S144.pre S144.F S146.pre S146.F S329.pre S329.F S327.pre S327.F S186.pre S186.F S332.pre S332.F S173.pre S173.F S171.pre S171.F W333_14 (Dw a) (Dw b)=_
 unfold t333
 have pa:=T173_dw (up ha)
 have pb:=T173_dw (up hb)
 have pc:=T144_eq (up ha) (up hb)
 have wa:=Dw_ws (up ha)
 have wb:=Dw_ws (up hb)
 have hla:(dg (2^64) a).length≤4000:=dg_len_le (by decide) _ _ ha
 have hlb:(dg (2^64) b).length≤4000:=dg_len_le (by decide) _ _ hb
 have pcopy:=T1146_eq (dg (2^64) a) wa
 rw [nv_Dw] at pcopy
 have pcopy:T1146 (Dw a,())=some (Dw a,()):=pcopy
 obtain ⟨t,ht,ht0,ht64,hbt,hlp⟩:=dg_top h0
 have hLen:∀ x:Nat,(Dw x).length=(dg (2^64) x).length:=fun x=>Wd_len _
 have hGet:∀ (x i:Nat),(Dw x).getD i 0=(((dg (2^64) x).getD i 0:Nat):Int):=fun x i=>Wd_getD _ _
 dsimp only
 simp only [pre173 pa,fun173 pa,pre173 pb,fun173 pb,pre144 pc,fun144 pc,cond_true]
 by_cases hlt:a<b
 ·have e0:decide ((if a=b then (0:Int) else if a<b then -1 else 1)<0)=true:=by rw [if_neg (by omega),if_pos hlt]; rfl
  simp only [e0,cond_true,pre1146 pcopy,fun1146 pcopy]
  rw [Nat.div_eq_of_lt hlt,Nat.mod_eq_of_lt hlt,Dw_zero]
 have e0:decide ((if a=b then (0:Int) else if a<b then -1 else 1)<0)=false:=by
  rw [if_neg hlt]
  split <;> rfl
 simp only [e0,cond_false]
 by_cases h1:(dg (2^64) b).length=1
 ·have e1:(((Dw b).length:Int)==1)=true:=by rw [hLen,h1]; rfl
  have hb64:b<2^64:=by
   have:=dg_len_gt (B:=2^64) (by decide) b
   rw [h1,Nat.pow_one] at this
   exact this
  have e2:decide ((0:Int)<((Dw b).length:Int))=true:=by rw [hLen,h1]; rfl
  have e3:(Dw b).getD (Int.toNat 0) 0=(b:Int):=by rw [Int.toNat_zero,Dw_get,Nat.mod_eq_of_lt hb64]
  have p0:=T1329_eq (up ha) (Nat.pos_of_ne_zero h0) hb64
  have hr:a%b<b:=Nat.mod_lt _ (Nat.pos_of_ne_zero h0)
  have p1:=T173_eq [a%b] (by simp)
  rw [trim_Dw (by intro x hx; rw [List.mem_singleton] at hx; omega),show nv (2^64) [a%b]=a%b by simp [nv]] at p1
  have p1:T173 ((((a%b:Nat):Int)::[]),())=_:=p1
  simp only [e1,e2,e3,cond_true,pre1146 pcopy,fun1146 pcopy,pre1329 p0,fun1329 p0,pre173 p1,fun173 p1]
 have e1:(((Dw b).length:Int)==1)=false:=by
  rw [hLen]
  exact ibeq_f _ _ (by omega)
 simp only [e1,cond_false]
 obtain ⟨n,hn⟩:∃ n,(dg (2^64) b).length=n+2:=⟨(dg (2^64) b).length-2,by omega⟩
 have hab:(dg (2^64) b).length≤(dg (2^64) a).length:=dg_len_mono (by decide) (by omega)
 obtain ⟨Q,hQ⟩:∃ Q,(dg (2^64) a).length+1=Q+n+2:=⟨(dg (2^64) a).length+1-(n+2),by omega⟩
 rw [show (dg (2^64) b).length-1=n+1 by omega] at ht hbt
 have hbl:=blen_bound ht64
 have hbl1:=blen_pos ht0
 generalize hs:64-blen t=s at *
 have p327:=T327_eq ht64
 rw [hs] at p327
 have hub:=blen_lt b
 have hlob:=blen_le h0
 have hp:=Nat.two_pow_pos s
 have hV1:b*2^s<2^(64*(n+2)):=by
  have h2:b*2^s<2^blen b*2^s:=Nat.mul_lt_mul_of_pos_right hub hp
  rw [← Nat.pow_add,show blen b+s=64*(n+2) by omega] at h2
  exact h2
 have hV2:2^(64*(n+2)-1)≤b*2^s:=by
  have h2:2^(blen b-1)*2^s≤b*2^s:=Nat.mul_le_mul_right _ hlob
  rw [← Nat.pow_add,show blen b-1+s=64*(n+2)-1 by omega] at h2
  exact h2
 have hvlen:(dg (2^64) (b*2^s)).length=n+2:=by
  have h2:(dg (2^64) (b*2^s)).length≤n+2:=dg_len_le (by decide) _ _ (by rw [pow64_2]; exact hV1)
  have h3:=dg_len_ge (x:=b*2^s) (k:=n+1) (by
   rw [pow64_2]
   exact Nat.le_trans (Nat.pow_le_pow_right (by decide) (by omega)) hV2)
  omega
 have hA:a*2^s<2^(64*(dg (2^64) a).length+s):=by
  have h2:=dg_len_gt (B:=2^64) (by decide) a
  rw [pow64_2] at h2
  rw [Nat.pow_add]
  exact Nat.mul_lt_mul_of_pos_right h2 hp
 have hulen:(dg (2^64) (a*2^s)).length≤Q+n+2:=dg_len_le (by decide) _ _ (by
  rw [pow64_2]
  exact Nat.lt_of_lt_of_le hA (Nat.pow_le_pow_right (by decide) (by omega)))
 have hstart:a*2^s<b*2^s*(2^64)^Q:=by
  have h2:2^(64*(n+2)-1)*2^(64*Q)≤b*2^s*2^(64*Q):=Nat.mul_le_mul_right _ hV2
  rw [← Nat.pow_add] at h2
  rw [pow64_2]
  exact Nat.lt_of_lt_of_le (Nat.lt_of_lt_of_le hA (Nat.pow_le_pow_right (by decide) (by omega))) h2
 have pv:=T186_eq (dg (2^64) b) wb s (by rw [dg_trim (by decide)]; omega)
 have pu:=T186_eq (dg (2^64) a) wa s (by rw [dg_trim (by decide)]; omega)
 rw [nv_Dw] at pv pu
 have pv:T186 (Dw b,(s:Int),())=some (Dw (b*2^s),()):=pv
 have pu:T186 (Dw a,(s:Int),())=some (Dw (a*2^s),()):=pu
 have e17:IntKind.wrap .i64 (((Dw b).length:Int)-1)=((n+1:Nat):Int):=by rw [hLen,wrapI (by omega)]; omega
 have e18:IntKind.wrap .i64 (((Dw a).length:Int)+1)=((Q+n+2:Nat):Int):=by rw [hLen,wrapI (by omega)]; omega
 have eg:(Dw b).getD (Int.toNat ((n+1:Nat):Int)) 0=(t:Int):=by rw [Int.toNat_natCast,hGet,ht]
 have e2:(decide ((0:Int)≤((n+1:Nat):Int))&&decide (((n+1:Nat):Int)<((Dw b).length:Int)))=true:=by
  rw [hLen,decide_eq_true (by omega),decide_eq_true (by omega)]; rfl
 have e3:(decide ((0:Int)≤((Q+n+2:Nat):Int))&&decide (((Q+n+2:Nat):Int)*8≤140737488355328))=true:=by
  rw [decide_eq_true (by omega),decide_eq_true (by omega)]; rfl
 generalize hud:dg (2^64) (a*2^s)++List.replicate (Q+n+2-(dg (2^64) (a*2^s)).length) 0=us
 have husl:us.length=Q+n+2:=by rw [← hud,List.length_append,List.length_replicate]; omega
 have hus:∀ x∈us,x<2^64:=by
  rw [← hud]
  intro x hx
  rcases List.mem_append.1 hx with hx | hx
  ·exact dg_lt (by decide) _ x hx
  ·have:=(List.mem_replicate.1 hx).2
   omega
 have husv:nv (2^64) us=a*2^s:=by rw [← hud,nv_append,nv_rep,Nat.mul_zero,Nat.add_zero,nv_Dw]
 have hrow:(Dw (a*2^s)).take (List.replicate (Int.toNat ((Q+n+2:Nat):Int)) (0:Int)).length++(List.replicate (Int.toNat ((Q+n+2:Nat):Int)) (0:Int)).drop (Dw (a*2^s)).length=Wd us:=by
  rw [Int.toNat_natCast,List.length_replicate,Wd_rep,hLen,Wd_drop,List.drop_replicate]
  unfold Dw
  rw [Wd_take,List.take_of_length_le hulen,← hud]
  unfold Wd
  rw [List.map_append]
 have e11:IntKind.wrap .i64 (((Wd us).length:Int)-((Dw (b*2^s)).length:Int))=(Q:Int):=by
  rw [Wd_len,husl,hLen,hvlen,wrapI (by omega)]; omega
 have e4:(decide ((0:Int)≤(Q:Int))&&decide ((Q:Int)*8≤140737488355328))=true:=by
  rw [decide_eq_true (by omega),decide_eq_true (by omega)]; rfl
 have e5:IntKind.wrap .i64 (((List.replicate (Int.toNat (Q:Int)) (0:Int)).length:Int)-1)=(Q:Int)-1:=by
  rw [Int.toNat_natCast,List.length_replicate,wrapI (by omega)]
 obtain ⟨qs,us',k1,k2,k3,k4,k5,k6,k7⟩:=W333_eq (dg (2^64) (b*2^s)) hvlen (dg_lt (by decide) _) (by omega) (X:=a*2^s) Q (by omega) (s:Int) us husl hus husv (by rw [nv_Dw]; exact hstart)
 rw [nv_Dw] at k3 k6
 rw [Nat.mul_div_mul_right _ _ hp] at k3
 rw [Nat.mul_mod_mul_right] at k6
 have k7:W333_14 (((Dw (b*2^s),(((Q:Int)-1),((),((),(((Dw (b*2^s)).length:Int),((s:Int),())))))),(Wd us,((List.replicate (Int.toNat (Q:Int)) (0:Int)),()))):P333_14.D)=some (.inl (((),((),(((n+2:Nat):Int),((s:Int),())))),(Wd us',(Wd qs,())))):=by
  rw [Int.toNat_natCast,Wd_rep,hLen]
  rw [hvlen] at k7 ⊢
  exact k7
 simp only [e17,eg,pre327 p327,fun327 p327,pre186 pv,fun186 pv,pre186 pu,fun186 pu,e18,e2,e3,cond_true,hrow,e11,e4,e5]
 rw [k7]
 dsimp only [obind,obind2]
 have pq:=T173_eq qs (by omega)
 rw [trim_Dw k2,k3] at pq
 have hnl:nv (2^64) (us'.take (n+2))=a%b*2^s:=by
  have h2:=nv_split (2^64) us' (n+2) (by omega)
  have h3:nv (2^64) (us'.drop (n+2))=0:=by
   rcases Nat.eq_zero_or_pos (nv (2^64) (us'.drop (n+2))) with h | h
   ·exact h
   ·exfalso
    have h4:(2^64)^(n+2)*1≤(2^64)^(n+2)*nv (2^64) (us'.drop (n+2)):=Nat.mul_le_mul_left _ h
    have h5:a%b*2^s<b*2^s:=Nat.mul_lt_mul_of_pos_right (Nat.mod_lt _ (Nat.pos_of_ne_zero h0)) hp
    rw [pow64_2] at h4 h2
    omega
  rw [h3,Nat.mul_zero,Nat.add_zero] at h2
  rw [← h2,k6]
 have pr:=T171_eq (us'.take (n+2)) ⟨fun x hx=>k5 x (List.mem_of_mem_take hx),by simp; omega⟩ s (by omega)
 rw [hnl,Nat.mul_div_cancel _ hp] at pr
 have pr:T171 (Wd (us'.take (n+2)),(s:Int),())=some (Dw (a%b),()):=pr
 have e6:(decide ((0:Int)≤((n+2:Nat):Int))&&decide (((n+2:Nat):Int)≤((Wd us').length:Int)))=true:=by
  rw [Wd_len,k4,decide_eq_true (by omega),decide_eq_true (by omega)]; rfl
 have e7:((Wd us').take (Int.toNat ((n+2:Nat):Int))).drop (Int.toNat 0)=Wd (us'.take (n+2)):=by
  rw [Int.toNat_natCast,Int.toNat_zero,Wd_take,List.drop_zero]
 simp only [pre173 pq,fun173 pq,e6,e7,pre171 pr,fun171 pr,cond_true]
theorem great_no {l:List (List Nat)} (hl:∀ x∈l,x.length≤1024) (hn:l.length≤1000000):T185 (l.map Wd,())=some (false,()):=by
 have:=T185_eq l (fun x hx=>by have:=hl x hx; omega) hn
 rw [this,decide_eq_true (fun x hx=>Nat.le_trans (trim_len x).1 (hl x hx))]; rfl
theorem T345_eq {a b:Nat} (ha:a<(2^64)^1024) (hb:b<(2^64)^1024) (h0:b≠0):T345 (Dw a,Dw b,())=some (Dw (a/b),Dw (a%b),0,()):=by
 have up:∀ {x:Nat},x<(2^64)^1024→x<(2^64)^4000:=fun h=>Nat.lt_of_lt_of_le h (Nat.pow_le_pow_right (by decide) (by decide))
 have up5:∀ {x:Nat},x<(2^64)^1024→x<(2^64)^5000:=fun h=>Nat.lt_of_lt_of_le h (Nat.pow_le_pow_right (by decide) (by decide))
 show t345 S185.pre S185.F S173.pre S173.F S333.pre S333.F (Dw a) (Dw b)=_
 unfold t345
 have p0:=great_no (l:=[dg (2^64) a,dg (2^64) b]) (by
  intro x hx
  rcases List.mem_cons.1 hx with rfl | hx
  ·exact dg_len_le (by decide) _ _ ha
  ·rw [List.mem_singleton] at hx
   rw [hx]
   exact dg_len_le (by decide) _ _ hb) (by simp)
 have p0:T185 ((Dw a::Dw b::[]),())=some (false,()):=p0
 have p1:=T173_dw (up5 hb)
 have p2:=T333_eq (up ha) (up hb) h0
 have e0:(((Dw b).length:Int)==0)=false:=by rw [Dw_len0,decide_eq_false h0]
 simp only [pre185 p0,fun185 p0,pre173 p1,fun173 p1,pre333 p2,fun333 p2,cond_true,cond_false,e0]
end VL
namespace VL
open Go Vx
theorem zro_mantB (f:Int) (a:Nat):((mant f a:Int)==0)=zro f a:=by
 cases hz:zro f a
 ·exact beq0_f _ (zro_mant hz)
 ·unfold zro at hz
  rw [Bool.and_eq_true,beq_iff_eq,beq_iff_eq] at hz
  unfold mant
  rw [if_pos hz.1,hz.2]; rfl
end VL
namespace VL
open Go Vx
def muE (f m:Int) (neg:Bool) (d n:Nat):Nat:=(blen n-fP f-d)*2^(fP f-1)+cutJ m neg n (blen n-fP f-d+d)
theorem quo_top {f:Int} (hf:Fm f) (d n:Nat):n/2^(blen n-fP f-d+d)<2^fP f:=by
 rw [Nat.div_lt_iff_lt_mul (Nat.two_pow_pos _),← Nat.pow_add]
 exact Nat.lt_of_lt_of_le (blen_lt n) (Nat.pow_le_pow_right (by decide) (by omega))
theorem quo_low {f:Int} (hf:Fm f) {d n:Nat} (h0:n≠0) (hJ:fP f+d≤blen n):2^(fP f-1)≤n/2^(blen n-fP f-d+d):=by
 have hP:=fP_ge hf
 rw [Nat.le_div_iff_mul_le (Nat.two_pow_pos _),← Nat.pow_add]
 exact Nat.le_trans (Nat.pow_le_pow_right (by decide) (by omega)) (blen_le h0)
theorem rndM_muE {f:Int} (hf:Fm f) (m:Int) (neg:Bool) {n:Nat} (h0:n≠0) (d:Nat) :
  rndM f m neg n (qm f-d)=if infF f≤muE f m neg d n then (limM f m neg,20) else (muE f m neg d n,if clsR (n%2^(blen n-fP f-d+d)) (blen n-fP f-d+d)=0 then 0 else if isTiny f m neg n (qm f-d) false then 24 else 16):=by
 have hP:=fP_ge hf
 have hX:=fX_ge hf
 have h2p:=two_P hf
 have hpp:=Nat.two_pow_pos (fP f-1)
 have hinf:=inf_ge hf
 have hb1:=blen_pos h0
 have htop:topE n (qm f-d)=qm f-d+(blen n:Int)-1:=rfl
 have hqm:qm f=1-(fX f:Int)-(fP f:Int)+1:=rfl
 have hqt:=quo_top hf d n
 have hql:=quo_low hf (d:=d) h0
 have hlow:lowE f (topE n (qm f-d))=qm f+((blen n-fP f-d:Nat):Int):=by unfold lowE; split <;> omega
 obtain ⟨hc1,hc2⟩:=cutJ_bound m neg n (blen n-fP f-d+d)
 have hcr:cutR n (qm f-d) (qm f+((blen n-fP f-d:Nat):Int)) false=clsR (n%2^(blen n-fP f-d+d)) (blen n-fP f-d+d):=by
  rw [cutR_f]
  rcases Nat.eq_zero_or_pos (blen n-fP f-d+d) with hz | hz
  ·rw [rstE_lo (by omega),hz,Nat.pow_zero,Nat.mod_one]; rfl
  ·rw [rstE_hi (by omega),show (qm f+((blen n-fP f-d:Nat):Int)-(qm f-d)).toNat=blen n-fP f-d+d by omega]
 have hcn:cutN m neg n (qm f-d) (qm f+((blen n-fP f-d:Nat):Int)) false=cutJ m neg n (blen n-fP f-d+d):=by
  have hqe:quoE n (qm f-d) (qm f+((blen n-fP f-d:Nat):Int))=n/2^(blen n-fP f-d+d):=by
   rcases Nat.eq_zero_or_pos (blen n-fP f-d+d) with hz | hz
   ·rw [quoE_lo (by omega),hz,show (qm f-(d:Int)-(qm f+((blen n-fP f-d:Nat):Int))).toNat=0 by omega,Nat.pow_zero,Nat.mul_one,Nat.div_one]
   ·rw [quoE_hi (by omega),show (qm f+((blen n-fP f-d:Nat):Int)-(qm f-d)).toNat=blen n-fP f-d+d by omega]
  unfold cutN cutJ
  rw [hcr,hqe]
 unfold rndM
 rw [hlow]
 dsimp only
 rw [hcn,hcr,show (qm f+((blen n-fP f-d:Nat):Int)-(1-(fX f:Int)-(fP f:Int)+1)).toNat=blen n-fP f-d by omega]
 have hmu:muE f m neg d n=(blen n-fP f-d)*2^(fP f-1)+cutJ m neg n (blen n-fP f-d+d):=rfl
 rw [hmu]
 have hJd:fP f+d≤blen n∨blen n-fP f-d=0:=by omega
 have hJb:(blen n:Int)-fP f-d≤((blen n-fP f-d:Nat):Int):=by omega
 have hJe:fP f+d≤blen n→(blen n:Int)=fP f+d+((blen n-fP f-d:Nat):Int):=by omega
 generalize cutJ m neg n (blen n-fP f-d+d)=u at *
 generalize n/2^(blen n-fP f-d+d)=Q at *
 generalize clsR (n%2^(blen n-fP f-d+d)) (blen n-fP f-d+d)=c at *
 generalize blen n-fP f-d=j at *
 by_cases ht:topE n (qm f-d)>fX f
 ·have hj2:2*fX f+1≤j+1:=by omega
  have:=Nat.mul_le_mul_right (2^(fP f-1)) hj2
  rw [Nat.add_mul j,Nat.one_mul] at this
  have hql:=hql (by omega)
  rw [if_pos ht,if_pos (show infF f≤j*2^(fP f-1)+u by omega)]
  rfl
 ·rw [if_neg ht]
  have hj0:j+1≤2*fX f:=by
   rcases hJd with h | h
   ·have:=hJe h; omega
   ·omega
  rcases Nat.lt_or_ge u (2^fP f) with hu | hu
  ·have hbu:=blen_bound hu
   have hj2:j+2≤2*fX f+1:=by omega
   have:=Nat.mul_le_mul_right (2^(fP f-1)) hj2
   rw [Nat.add_mul] at this
   rw [if_neg (show ¬ qm f+(j:Int)+(blen u:Int)-1>fX f by omega),if_neg (show ¬ infF f≤j*2^(fP f-1)+u by omega)]
  ·have hbu:=blen_ge hu
   have hbu2:=blen_bound (n:=u) (k:=fP f+1) (by rw [Nat.pow_succ]; omega)
   by_cases hj2:j+3≤2*fX f+1
   ·have:=Nat.mul_le_mul_right (2^(fP f-1)) hj2
    rw [Nat.add_mul] at this
    rw [if_neg (show ¬ qm f+(j:Int)+(blen u:Int)-1>fX f by omega),if_neg (show ¬ infF f≤j*2^(fP f-1)+u by omega)]
   ·have hj3:2*fX f+1≤j+2:=by omega
    have:=Nat.mul_le_mul_right (2^(fP f-1)) hj3
    rw [Nat.add_mul j] at this
    rw [if_pos (show qm f+(j:Int)+(blen u:Int)-1>fX f by omega),if_pos (show infF f≤j*2^(fP f-1)+u by omega)]
    rfl
def pv (f:Int) (x:Nat):Nat:=mant f x*2^(xpn f x-qm f).toNat
end VL
namespace VL
open Go Vx
theorem rnd_trunc1 {f m:Int} {neg:Bool} {N k:Nat} {E:Int} (hf:Fm f) (hn:N/2^k≠0) (hm:N%2^k≠0→fP f+1≤blen (N/2^k)):rndN f m neg (N/2^k) (E+k) (decide (N%2^k≠0))=rndN f m neg N E false:=by
 have ht:=top_trunc (E:=E) hn
 have htd:topE (N/2^k) (E+k)=E+k+(blen (N/2^k):Int)-1:=rfl
 have hq1:N%2^k≠0→E+k<lowE f (topE N E):=fun h=>by
  have:=hm h
  unfold lowE
  split <;> omega
 have hq2:N%2^k≠0→E+k<topE N E-fP f+1:=fun h=>by
  have:=hm h
  omega
 have hti:isTiny f m neg (N/2^k) (E+k) (decide (N%2^k≠0))=isTiny f m neg N E false:=by
  unfold isTiny
  rw [ht,cutN_trunc hq2]
 unfold rndN
 simp only [ht,cutN_trunc hq1,(cut_trunc hq1).2,hti]
theorem rnd_fine1 {f m:Int} {neg:Bool} {N k:Nat} {E:Int} (hf:Fm f) (hb:fP f+1≤blen (N/2^k)):rndN f m neg (N/2^k) E true=rndN f m neg (2*N+1) (E-k-1) false:=by
 have hP:=fP_ge hf
 have e1:(2*N+1)/2^(k+1)=N/2^k:=by
  rw [Nat.pow_succ,Nat.mul_comm (2^k),← Nat.div_div_eq_div_mul,show (2*N+1)/2=N by omega]
 have e2:(2*N+1)%2^(k+1)≠0:=by
  rw [Nat.pow_succ,Nat.mul_comm (2^k),Nat.mod_mul]; omega
 have h0:N/2^k≠0:=fun h=>by
  rw [h] at hb
  have:blen 0=0:=rfl
  omega
 have:=rnd_trunc1 (f:=f) (m:=m) (neg:=neg) (N:=2*N+1) (k:=k+1) (E:=E-k-1) hf (by rw [e1]; exact h0) (fun _=>by rw [e1]; exact hb)
 rw [e1,decide_eq_true e2,show E-k-1+((k+1:Nat):Int)=E by omega] at this
 exact this
noncomputable def rndS (f m:Int) (neg:Bool) (R:Nat) (E:Int) (more:Bool):Nat×Nat:=if more=true then rndN f m neg (2*R+1) (E-1) false else rndN f m neg R E false
theorem rndS_mark {f m:Int} {neg:Bool} (hf:Fm f) {R:Nat} {E:Int} {more:Bool} (hb:more=true→fP f+1≤blen R):rndN f m neg R E more=rndS f m neg R E more:=by
 unfold rndS
 cases more
 ·rw [if_neg (by decide)]
 ·have:=rnd_fine1 (f:=f) (m:=m) (neg:=neg) (N:=R) (k:=0) (E:=E) hf (by rw [Nat.pow_zero,Nat.div_one]; exact hb rfl)
  rw [Nat.pow_zero,Nat.div_one] at this
  rw [if_pos rfl,this]
  congr 1
  omega
theorem rndS_cut {f m:Int} {neg:Bool} (hf:Fm f) {R k:Nat} {E:Int} {more:Bool} (hb:fP f+1≤blen (R/2^k)):rndS f m neg (R/2^k) (E+k) (more||decide (R%2^k≠0))=rndS f m neg R E more:=by
 have h0:R/2^k≠0:=fun h=>by
  rw [h] at hb
  have:blen 0=0:=rfl
  omega
 rw [← rndS_mark hf (fun _=>hb)]
 unfold rndS
 cases more
 ·rw [if_neg (by decide),Bool.false_or]
  exact rnd_trunc1 hf h0 fun _=>hb
 ·rw [if_pos rfl,Bool.true_or]
  have:=rnd_fine1 (f:=f) (m:=m) (neg:=neg) (N:=R) (k:=k) (E:=E+k) hf hb
  rw [this,show E+(k:Int)-(k:Int)-1=E-1 by omega]
noncomputable def divB (f m:Int) (neg:Bool) (n k:Nat) (e:Int):Nat×Nat:=rndS f m neg (n*2^300/k) (e-300) (decide (n*2^300%k≠0))
theorem quot_fine {n k:Nat} (hk:0<k) (t:Nat):(n*2^t/k)/2^t=n/k∧(n%k≠0↔(n*2^t%k≠0∨(n*2^t/k)%2^t≠0)):=by
 have hpp:=Nat.two_pow_pos t
 have h1:(n*2^t/k)/2^t=n/k:=by
  rw [Nat.div_div_eq_div_mul,Nat.mul_comm k,← Nat.div_div_eq_div_mul,Nat.mul_div_cancel _ hpp]
 refine ⟨h1,?_⟩
 have a1:=Nat.div_add_mod (n*2^t) k
 have a2:=Nat.div_add_mod (n*2^t/k) (2^t)
 have a3:=Nat.div_add_mod n k
 rw [h1] at a2
 generalize n*2^t%k=r at *
 generalize hQ:n*2^t/k=Q at *
 generalize Q%2^t=u at *
 generalize n%k=w at *
 generalize n/k=q at *
 have e:k*u+r=w*2^t:=by
  have h2:(k*q+w)*2^t=k*(2^t*q+u)+r:=by rw [a3,a2,a1]
  rw [Nat.add_mul,Nat.mul_add,Nat.mul_right_comm,Nat.mul_assoc k,← Nat.mul_assoc k] at h2
  omega
 constructor
 ·intro hw
  rcases Nat.eq_zero_or_pos r with hr | hr
  ·right
   intro hu
   rw [hu,hr,Nat.mul_zero] at e
   have:=Nat.mul_pos (show 0<w by omega) hpp
   omega
  ·left; omega
 ·intro h hw
  rw [hw,Nat.zero_mul] at e
  rcases h with h | h
  ·omega
  ·have:=Nat.mul_pos hk (show 0<u by omega)
   omega
theorem div_at {f m:Int} {neg:Bool} (hf:Fm f) {n k:Nat} (hn:n≠0) (hk:0<k) (e:Int) {s:Nat} (hs:s≤300) (h:n*2^s%k≠0→fP f+1≤blen (n*2^s/k)) :
  rndS f m neg (n*2^s/k) (e-s) (decide (n*2^s%k≠0))=divB f m neg n k e:=by
 obtain ⟨t,ht⟩:∃ t,s+t=300:=⟨300-s,by omega⟩
 have e300:n*2^300=n*2^s*2^t:=by rw [Nat.mul_assoc,← Nat.pow_add,ht]
 obtain ⟨q1,q2⟩:=quot_fine (n:=n*2^s) hk t
 unfold divB
 rw [e300]
 by_cases hex:n*2^s%k=0
 ·-- exact
  have hq:n*2^s=k*(n*2^s/k):=by have:=Nat.div_add_mod (n*2^s) k; omega
  have hq0:n*2^s/k≠0:=fun h0=>by
   rw [h0,Nat.mul_zero] at hq
   exact Nat.mul_ne_zero hn (Nat.ne_of_gt (Nat.two_pow_pos s)) hq
  have h1:n*2^s*2^t/k=(n*2^s/k)*2^t:=by
   rw [hq,Nat.mul_assoc k,Nat.mul_div_cancel_left _ hk,Nat.mul_div_cancel_left _ hk]
  have h2:n*2^s*2^t%k=0:=by
   rw [hq,Nat.mul_assoc k,Nat.mul_mod_right]
  rw [h1,h2,hex]
  unfold rndS
  rw [if_neg (by decide),if_neg (by decide),rnd_scale hf hq0]
  congr 1
  omega
 ·have hb:=h hex
  have:=rndS_cut (f:=f) (m:=m) (neg:=neg) hf (R:=n*2^s*2^t/k) (k:=t) (E:=e-300) (more:=decide (n*2^s*2^t%k≠0)) (by rw [q1]; exact hb)
  rw [← this,q1,show e-300+(t:Int)=e-s by omega]
  congr 1
  rw [Bool.eq_iff_iff,Bool.or_eq_true,decide_eq_true_eq,decide_eq_true_eq,decide_eq_true_eq]
  exact q2
noncomputable def divR (f m:Int) (a b:Nat):Int×Int×Int×Unit :=
 bif nan f a||nan f b then ((nanF f:Int),(bif snan f a||snan f b then 1 else 0),0,())
 else bif (isInf f a&&isInf f b)||(zro f a&&zro f b) then ((nanF f:Int),1,0,())
 else bif isInf f a then ((infB f (!(sF f a==sF f b)):Int),0,0,())
 else bif zro f b then ((infB f (!(sF f a==sF f b)):Int),2,0,())
 else bif isInf f b||zro f a then ((sgnF f (!(sF f a==sF f b)):Int),0,0,())
 else (((divB f m (!(sF f a==sF f b)) (mant f a) (mant f b) (xpn f a-xpn f b)).1:Int),((divB f m (!(sF f a==sF f b)) (mant f a) (mant f b) (xpn f a-xpn f b)).2:Int),0,())
noncomputable def divA (f m:Int) (a b:Nat):Int×Int×Int×Unit :=
 if ¬ Fm f then (0,0,2,())
 else if m<0∨m>5 then (0,0,3,())
 else if chk f a≠0 then (0,0,chk f a,())
 else if chk f b≠0 then (0,0,chk f b,())
 else divR f m a b
end VL
namespace VL
open Go Vx
theorem nearest_low (k:FloatKind) (neg:Bool) {mag:Nat} (h0:mag≠0) (d:Nat):k.format.nearest neg mag (qm (fk k)-d)=mkF (fk k) neg (rndM (fk k) 0 neg mag (qm (fk k)-d)).1:=by
 have hf:=fk_ok k
 have hP:=fP_ge hf
 have hbl:blen mag=mag.log2+1:=by unfold blen; rw [if_neg h0]
 rw [rndM_muE hf 0 neg h0 d]
 have hup:limM (fk k) 0 neg=infF (fk k):=rfl
 unfold Ieee.Format.nearest
 rw [if_neg h0,word_mk,fk_low,fk_frac,fk_bin,fk_inf]
 congr 1
 have hl:max (qm (fk k)-(d:Int)+(mag.log2:Int)-((fP (fk k)-1:Nat):Int)) (qm (fk k))=qm (fk k)+((blen mag-fP (fk k)-d:Nat):Int):=by omega
 have key:(max (qm (fk k)-(d:Int)+(mag.log2:Int)-((fP (fk k)-1:Nat):Int)) (qm (fk k))-qm (fk k)).toNat*2^(fP (fk k)-1) +
   Ieee.Toward.even.cut neg (mag <<< (qm (fk k)-(d:Int)-max (qm (fk k)-(d:Int)+(mag.log2:Int)-((fP (fk k)-1:Nat):Int)) (qm (fk k))).toNat) (max (qm (fk k)-(d:Int)+(mag.log2:Int)-((fP (fk k)-1:Nat):Int)) (qm (fk k))-(qm (fk k)-(d:Int))).toNat=muE (fk k) 0 neg d mag:=by
  rw [cut_even,Nat.shiftLeft_eq,hl]
  unfold muE
  generalize blen mag-fP (fk k)-d=J
  rw [show (qm (fk k)+(J:Int)-qm (fk k)).toNat=J by omega,show (qm (fk k)-(d:Int)-(qm (fk k)+(J:Int))).toNat=0 by omega,Nat.pow_zero,Nat.mul_one,show (qm (fk k)+(J:Int)-(qm (fk k)-(d:Int))).toNat=J+d by omega]
 rw [key,hup]
 by_cases h:infF (fk k)≤muE (fk k) 0 neg d mag
 ·rw [if_pos h,Nat.min_eq_right h]
 ·rw [if_neg h,Nat.min_eq_left (by omega)]
theorem nearest_rnd (k:FloatKind) (neg:Bool) {mag:Nat} (h0:mag≠0) (place:Int):k.format.nearest neg mag place=(rndN (fk k) 0 neg mag place false).1:=by
 rcases Int.le_total (qm (fk k)) place with h | h
 ·exact rnd_nearest k neg h0 h
 ·obtain ⟨d,hd⟩:=Int.eq_ofNat_of_zero_le (show 0≤qm (fk k)-place by omega)
  have:=nearest_low k neg h0 d
  rw [show qm (fk k)-(d:Int)=place by omega] at this
  rw [this,rnd_M (fk_ok k)]
theorem xor_ne (s t:Bool):(s ^^ t)=!(s==t):=by cases s <;> cases t <;> rfl
theorem nan_read (k:FloatKind) {a:Nat} (ha:chk (fk k) a=0) (h:nan (fk k) a=true):k.format.read a=.nan (sF (fk k) a) (mF (fk k) a):=by
 have h1:eF (fk k) a=fullF (fk k)∧mF (fk k) a≠0:=by unfold nan at h; simpa using h
 rw [read_eq k ha,if_pos h1.1,if_neg h1.2]
theorem inf_read (k:FloatKind) {a:Nat} (ha:chk (fk k) a=0) (h:isInf (fk k) a=true):k.format.read a=.infinity (sF (fk k) a):=by
 have h1:eF (fk k) a=fullF (fk k)∧mF (fk k) a=0:=by unfold isInf at h; simpa using h
 rw [read_eq k ha,if_pos h1.1,if_pos h1.2]
theorem num_read (k:FloatKind) {a:Nat} (ha:chk (fk k) a=0) (h:nan (fk k) a=false) (h2:isInf (fk k) a=false):k.format.read a=.number (sF (fk k) a) (mant (fk k) a) (xpn (fk k) a):=by
 have h1:eF (fk k) a≠fullF (fk k):=fun he=>by
  unfold nan at h
  unfold isInf at h2
  rw [he] at h h2
  simp at h h2
  exact h2 h
 rw [read_eq k ha,if_neg h1]
theorem word_inf (k:FloatKind) (s:Bool):k.format.word s k.format.infRung=infB (fk k) s:=by
 rw [word_mk,fk_inf,infB_eq,add_sgn]
theorem mul_eq (k:FloatKind) {a b:Nat} (ha:chk (fk k) a=0) (hb:chk (fk k) b=0):(mulA (fk k) 0 a b).1=(canB (fk k) (fop .mul k a b):Nat)∧(mulA (fk k) 0 a b).2.2.1=0:=by
 have hf:=fk_ok k
 unfold mulA
 rw [if_neg (show ¬ ¬ Fm (fk k) from fun h=>h hf),if_neg (by decide),if_neg (fun h=>h ha),if_neg (fun h=>h hb)]
 show (mulR (fk k) 0 a b).1=(canB (fk k) (((k.format.read a).product (k.format.read b)).map k.format.write):Nat)∧_
 unfold mulR
 have za:=zro_mantB (fk k) a
 have zb:=zro_mantB (fk k) b
 cases na:nan (fk k) a
 ·cases nb:nan (fk k) b
  ·rw [snan_nan na,snan_nan nb]
   simp only [Bool.or_self,cond_false]
   cases ia:isInf (fk k) a
   ·rw [num_read k ha na ia]
    cases ib:isInf (fk k) b
    ·rw [num_read k hb nb ib]
     simp only [Bool.and_false,Bool.false_and,Bool.or_self,cond_false]
     show _=((k.format.nearest (sF (fk k) a ^^ sF (fk k) b) (mant (fk k) a*mant (fk k) b) (xpn (fk k) a+xpn (fk k) b):Nat):Int)∧_
     rw [xor_ne]
     cases hz:zro (fk k) a||zro (fk k) b
     ·rw [Bool.or_eq_false_iff] at hz
      rw [nearest_rnd k _ (Nat.mul_ne_zero (zro_mant hz.1) (zro_mant hz.2))]
      exact ⟨rfl,by first | rfl | trivial⟩
     ·have h0:mant (fk k) a*mant (fk k) b=0:=by
       rw [Bool.or_eq_true] at hz
       rcases hz with hz | hz
       ·rw [hz,beq_iff_eq] at za
        rw [show mant (fk k) a=0 by omega,Nat.zero_mul]
       ·rw [hz,beq_iff_eq] at zb
        rw [show mant (fk k) b=0 by omega,Nat.mul_zero]
      rw [h0,nearest_zero]
      exact ⟨rfl,by first | rfl | trivial⟩
    ·rw [inf_read k hb ib]
     simp only [Bool.and_true,Bool.false_and,Bool.false_or,cond_true]
     show _=(canB (fk k) ((if mant (fk k) a=0 then none else some (Ieee.Datum.infinity (sF (fk k) b ^^ sF (fk k) a))).map k.format.write):Int)∧_
     cases hz:zro (fk k) a
     ·rw [if_neg (zro_mant hz),cond_false]
      refine ⟨?_,by first | rfl | trivial⟩
      show _=((k.format.word _ k.format.infRung:Nat):Int)
      rw [word_inf,xor_ne]
      cases sF (fk k) a <;> cases sF (fk k) b <;> rfl
     ·rw [hz,beq_iff_eq] at za
      rw [if_pos (by omega),cond_true]
      exact ⟨rfl,by first | rfl | trivial⟩
   ·rw [inf_read k ha ia]
    cases ib:isInf (fk k) b
    ·rw [num_read k hb nb ib]
     simp only [Bool.true_and,Bool.and_false,Bool.or_false,cond_true]
     show _=(canB (fk k) ((if mant (fk k) b=0 then none else some (Ieee.Datum.infinity (sF (fk k) a ^^ sF (fk k) b))).map k.format.write):Int)∧_
     cases hz:zro (fk k) b
     ·rw [if_neg (zro_mant hz),cond_false]
      refine ⟨?_,by first | rfl | trivial⟩
      show _=((k.format.word _ k.format.infRung:Nat):Int)
      rw [word_inf,xor_ne]
     ·rw [hz,beq_iff_eq] at zb
      rw [if_pos (by omega),cond_true]
      exact ⟨rfl,by first | rfl | trivial⟩
    ·rw [inf_read k hb ib]
     have z1:zro (fk k) b=false:=by
      cases hz:zro (fk k) b
      ·rfl
      ·exfalso
       have h1:eF (fk k) b=fullF (fk k)∧mF (fk k) b=0:=by unfold isInf at ib; simpa using ib
       have h2:eF (fk k) b=0∧mF (fk k) b=0:=by unfold zro at hz; simpa using hz
       have:=full_pos hf
       omega
     have z2:zro (fk k) a=false:=by
      cases hz:zro (fk k) a
      ·rfl
      ·exfalso
       have h1:eF (fk k) a=fullF (fk k)∧mF (fk k) a=0:=by unfold isInf at ia; simpa using ia
       have h2:eF (fk k) a=0∧mF (fk k) a=0:=by unfold zro at hz; simpa using hz
       have:=full_pos hf
       omega
     rw [z1,z2]
     simp only [Bool.and_false,Bool.false_and,Bool.or_self,cond_false,cond_true]
     refine ⟨?_,by first | rfl | trivial⟩
     show _=((k.format.word (sF (fk k) a ^^ sF (fk k) b) k.format.infRung:Nat):Int)
     rw [word_inf,xor_ne]
  ·rw [nan_read k hb nb]
   have this:∀ d:Ieee.Datum,(d.product (Ieee.Datum.nan (sF (fk k) b) (mF (fk k) b))).map k.format.write=none:=fun d=>by cases d <;> rfl
   rw [this]
   exact ⟨rfl,by first | rfl | trivial⟩
 ·rw [nan_read k ha na]
  exact ⟨rfl,by first | rfl | trivial⟩
theorem inf_zro (k:FloatKind) {a:Nat} (h:isInf (fk k) a=true):zro (fk k) a=false:=by
 cases hz:zro (fk k) a
 ·rfl
 ·exfalso
  have h1:eF (fk k) a=fullF (fk k)∧mF (fk k) a=0:=by unfold isInf at h; simpa using h
  have h2:eF (fk k) a=0∧mF (fk k) a=0:=by unfold zro at hz; simpa using hz
  have:=full_pos (fk_ok k)
  omega
theorem quo_write (k:FloatKind) (neg:Bool) {m n:Nat} (hm0:m≠0) (hn0:n≠0) (hm:m<2^53) (hn:n<2^53) (e:Int) :
  k.format.nearest neg (2*(m <<< (k.format.fractionBits+2+n.log2-m.log2)/n)+(m <<< (k.format.fractionBits+2+n.log2-m.log2)%n != 0).toNat) (e-((k.format.fractionBits+2+n.log2-m.log2:Nat):Int)-1)=(divB (fk k) 0 neg m n e).1:=by
 have hf:=fk_ok k
 have hP:=fP_ge hf
 have hPl:=fP_le hf
 have l1:=Nat.log2_self_le hm0
 have l2:=log2_zero_lt n
 have l3:n.log2<53:=(Nat.log2_lt hn0).2 hn
 rw [fk_frac,Nat.shiftLeft_eq]
 obtain ⟨s,hs⟩:∃ s,fP (fk k)-1+2+n.log2-m.log2=s:=⟨_,rfl⟩
 rw [hs]
 have hlow:2^fP (fk k)≤m*2^s/n:=by
  rw [Nat.le_div_iff_mul_le (by omega)]
  have h1:2^fP (fk k)*n≤2^fP (fk k)*2^(n.log2+1):=Nat.mul_le_mul_left _ (Nat.le_of_lt l2)
  have h2:2^m.log2*2^s≤m*2^s:=Nat.mul_le_mul_right _ l1
  rw [← Nat.pow_add] at h1 h2
  have h3:2^(fP (fk k)+(n.log2+1))≤2^(m.log2+s):=Nat.pow_le_pow_right (by decide) (by omega)
  omega
 have hb:=blen_ge hlow
 have hq0:m*2^s/n≠0:=by
  have:=Nat.two_pow_pos (fP (fk k))
  omega
 rw [← div_at (m:=0) (neg:=neg) hf hm0 (show 0<n by omega) e (s:=s) (by omega) (fun _=>hb)]
 unfold rndS
 by_cases hr:m*2^s%n=0
 ·rw [hr]
  rw [if_neg (by decide),show ((0:Nat) != 0).toNat=0 from rfl,Nat.add_zero,nearest_rnd k neg (by omega)]
  have:=rnd_scale (f:=fk k) (m:=0) (neg:=neg) hf hq0 1 (e-(s:Int)-1)
  rw [Nat.pow_one,Nat.mul_comm,show e-(s:Int)-1+((1:Nat):Int)=e-s by omega] at this
  rw [this]
 ·rw [decide_eq_true hr,if_pos rfl,bne_iff_ne.2 hr,show true.toNat=1 from rfl,nearest_rnd k neg (by omega)]
theorem div_eq (k:FloatKind) {a b:Nat} (ha:chk (fk k) a=0) (hb:chk (fk k) b=0):(divA (fk k) 0 a b).1=(canB (fk k) (fop .quo k a b):Nat)∧(divA (fk k) 0 a b).2.2.1=0:=by
 have hf:=fk_ok k
 unfold divA
 rw [if_neg (show ¬ ¬ Fm (fk k) from fun h=>h hf),if_neg (by decide),if_neg (fun h=>h ha),if_neg (fun h=>h hb)]
 show (divR (fk k) 0 a b).1=(canB (fk k) (((k.format.read a).quotient (k.format.fractionBits+2) (k.format.read b)).map k.format.write):Nat)∧_
 unfold divR
 have za:=zro_mantB (fk k) a
 have zb:=zro_mantB (fk k) b
 cases na:nan (fk k) a
 ·cases nb:nan (fk k) b
  ·rw [snan_nan na,snan_nan nb]
   simp only [Bool.or_self,cond_false]
   cases ia:isInf (fk k) a
   ·rw [num_read k ha na ia]
    cases ib:isInf (fk k) b
    ·rw [num_read k hb nb ib]
     simp only [Bool.false_and,Bool.false_or,cond_false]
     show _=(canB (fk k) ((if mant (fk k) b=0 then (if mant (fk k) a=0 then none else some (Ieee.Datum.infinity (sF (fk k) a ^^ sF (fk k) b))) else
      some (Ieee.Datum.number (sF (fk k) a ^^ sF (fk k) b) (2*(mant (fk k) a <<< (k.format.fractionBits+2+(mant (fk k) b).log2-(mant (fk k) a).log2)/mant (fk k) b)+(mant (fk k) a <<< (k.format.fractionBits+2+(mant (fk k) b).log2-(mant (fk k) a).log2)%mant (fk k) b != 0).toNat) (xpn (fk k) a-xpn (fk k) b-((k.format.fractionBits+2+(mant (fk k) b).log2-(mant (fk k) a).log2:Nat):Int)-1))).map k.format.write):Int)∧_
     rw [xor_ne]
     cases hzb:zro (fk k) b
     ·rw [if_neg (zro_mant hzb)]
      simp only [Bool.and_false,cond_false]
      show _=((k.format.nearest _ _ _:Nat):Int)∧_
      cases hza:zro (fk k) a
      ·rw [quo_write k _ (zro_mant hza) (zro_mant hzb) (mant_lt hf a) (mant_lt hf b)]
       exact ⟨rfl,by first | rfl | trivial⟩
      ·rw [hza,beq_iff_eq] at za
       rw [show mant (fk k) a=0 by omega,Nat.zero_shiftLeft,Nat.zero_div,Nat.zero_mod,Nat.mul_zero,show ((0:Nat) != 0).toNat=0 from rfl,Nat.add_zero,nearest_zero]
       exact ⟨rfl,by first | rfl | trivial⟩
     ·rw [hzb,beq_iff_eq] at zb
      rw [if_pos (by omega)]
      cases hza:zro (fk k) a
      ·rw [if_neg (zro_mant hza)]
       simp only [Bool.false_and,cond_false,cond_true]
       refine ⟨?_,by first | rfl | trivial⟩
       show _=((k.format.word _ k.format.infRung:Nat):Int)
       rw [word_inf]
      ·rw [hza,beq_iff_eq] at za
       rw [if_pos (by omega)]
       exact ⟨rfl,by first | rfl | trivial⟩
    ·rw [inf_read k hb ib,inf_zro k ib]
     simp only [Bool.and_true,Bool.and_false,Bool.false_and,Bool.or_false,Bool.or_self,cond_false,Bool.true_or,cond_true]
     refine ⟨?_,by first | rfl | trivial⟩
     show _=((k.format.nearest (sF (fk k) a ^^ sF (fk k) b) 0 0:Nat):Int)
     rw [nearest_zero,xor_ne]
   ·rw [inf_read k ha ia]
    cases ib:isInf (fk k) b
    ·rw [num_read k hb nb ib,inf_zro k ia]
     simp only [Bool.and_false,Bool.false_and,Bool.or_self,cond_false,cond_true]
     refine ⟨?_,by first | rfl | trivial⟩
     show _=((k.format.word (sF (fk k) a ^^ sF (fk k) b) k.format.infRung:Nat):Int)
     rw [word_inf,xor_ne]
    ·rw [inf_read k hb ib]
     simp only [Bool.and_self,Bool.true_or,cond_true]
     exact ⟨rfl,by first | rfl | trivial⟩
  ·rw [nan_read k hb nb]
   have this:∀ d:Ieee.Datum,(d.quotient (k.format.fractionBits+2) (Ieee.Datum.nan (sF (fk k) b) (mF (fk k) b))).map k.format.write=none:=fun d=>by cases d <;> rfl
   rw [this]
   exact ⟨rfl,by first | rfl | trivial⟩
 ·rw [nan_read k ha na]
  exact ⟨rfl,by first | rfl | trivial⟩
end VL
namespace VL
open Go Vx
theorem W376_list {f:Int} (hf:Fm f) (l:List Nat) (hl:∀ a∈l,a<2^64) (hlen:l.length<1000) :
  W376_7 (((l.length:Int),(Wd l,(f,((0:Int),())))),())=some (bif okL f l then .inl ((),()) else .inr (((4:Int),()),())):=by
 have key:=lfix_ind (m376_7 S69.pre S69.F S66.pre S66.F) (fun x=>l.length-x.1.2.2.2.1.toNat)
  (fun x=>∃ i:Nat,i≤l.length∧okL f (l.take i)=true∧x=(((l.length:Int),(Wd l,(f,((i:Int),())))),()))
  (fun _=>bif okL f l then .inl ((),()) else .inr (((4:Int),()),())) ?_ _ ⟨0,Nat.zero_le _,rfl,rfl⟩
 ·exact key
 intro L x hx hL
 obtain ⟨i,hi,hok,rfl⟩:=hx
 unfold h376_7
 rcases Nat.lt_or_ge i l.length with hlt | hge
 ·have hg:l.getD i 0=l[i]:=by simp [List.getD_eq_getElem?_getD,hlt]
  have hmem:l[i]∈l:=List.getElem_mem hlt
  have ha:=hl _ hmem
  have p0:=T66_eq f l[i] ha
  have e0:decide ((i:Int)<(l.length:Int))=true:=decide_eq_true (by omega)
  have e1:(decide ((0:Int)≤(i:Int))&&decide ((i:Int)<((Wd l).length:Int)))=true:=by rw [Wd_len,decide_eq_true (by omega),decide_eq_true (by omega)]; rfl
  have e2:(Wd l).getD (Int.toNat (i:Int)) 0=((l[i]:Nat):Int):=by rw [Int.toNat_natCast,Wd_getD,hg]
  have e3:IntKind.wrap .i64 ((i:Int)+1)=((i+1:Nat):Int):=by rw [wrapI (by omega)]; omega
  have htk:l.take (i+1)=l.take i++[l[i]]:=by rw [List.take_succ_eq_append_getElem hlt]
  dsimp only
  simp only [e0,e1,e2,e3,cond_true,pre66 p0,fun66 p0]
  by_cases hc:chk f l[i]=0
  ·rw [hc,bne_self_eq_false,cond_false]
   refine hL _ ⟨i+1,by omega,?_,rfl⟩ (by simp only [Int.toNat_natCast]; omega)
   unfold okL at hok ⊢
   rw [htk,List.all_append,hok,List.all_cons,hc]; rfl
  ·have h4:chk f l[i]=4:=(chk_cases hf _).resolve_left hc
   have hno:okL f l=false:=by
    unfold okL
    rw [List.all_eq_false]
    exact ⟨l[i],hmem,by rw [h4]; decide⟩
   rw [h4,hno]; rfl
 ·have e:i=l.length:=by omega
  subst e
  rw [List.take_length] at hok
  have e0:decide ((l.length:Int)<(l.length:Int))=false:=decide_eq_false (by omega)
  simp only [e0,cond_false]
  rw [hok]; rfl
theorem T376_list (f m:Int) (l:List Nat) (hl:∀ a∈l,a<2^64) (hlen:l.length<1000):T376 (f,m,Wd l,())=some (chkL f m l,()):=by
 show t376 S69.pre S69.F S66.pre S66.F W376_7 f m (Wd l)=_
 unfold t376 chkL
 by_cases hf:Fm f
 ·have p0:=T69_ok hf
  rw [if_neg (show ¬ ¬ Fm f from fun h=>h hf)]
  simp only [pre69 p0,fun69 p0,cond_true,bne_self_eq_false,cond_false]
  by_cases hm:m<0∨m>5
  ·rw [if_pos hm]
   have:(decide (m<0)||decide (m>5))=true:=by rcases hm with h | h <;> simp [h]
   rw [this,cond_true]
  ·rw [if_neg hm]
   have:(decide (m<0)||decide (m>5))=false:=by
    rw [decide_eq_false (by omega),decide_eq_false (by omega)]; rfl
   rw [this,cond_false,Wd_len,W376_list hf l hl hlen]
   cases okL f l <;> rfl
 ·have p0:=T69_bad hf
  rw [if_pos hf]
  simp only [pre69 p0,fun69 p0,cond_true]
  rfl
theorem T377_ok {f:Int} {a:Nat} (h:chk f a=0):T377 (f,(a:Int),())=some ((nan f a,snan f a,isInf f a,zro f a,sF f a,()),()):=by
 show t377 S65.pre S65.F S98.pre S98.F f a=_
 unfold t377
 obtain ⟨hf,_⟩:=chk_zero h
 have p0:=T65_ok (pat_lt h) h
 have p1:=T98_ok h
 simp only [pre65 p0,fun65 p0,pre98 p1,fun98 p1,cond_true]
 rw [cls_nan,cls_snan,Bool.or_comm (cls f a==9),cls_isInf,Bool.or_comm (cls f a==6),cls_zro hf]
theorem T378_ok {f:Int} (hf:Fm f) (x:Int):T378 (f,x,())=some ((nanF f:Int),x,0,()):=by
 show t378 S70.pre S70.F f x=_
 unfold t378
 have p0:=T70_ok hf
 simp only [pre70 p0,fun70 p0,cond_true]
theorem dbl_div (N:Nat) {k:Nat} (hk:0<k):(k≤2*(N%k)→2*N/k=2*(N/k)+1∧2*N%k=2*(N%k)-k)∧(2*(N%k)<k→2*N/k=2*(N/k)∧2*N%k=2*(N%k)):=by
 have h1:=Nat.div_add_mod N k
 have h2:=Nat.mod_lt N hk
 generalize N/k=q at *
 generalize N%k=r at *
 constructor
 ·intro h
  have e:2*N=k*(2*q+1)+(2*r-k):=by
   rw [Nat.mul_add,Nat.mul_one,Nat.mul_left_comm k 2 q]; omega
  rw [e,Nat.mul_add_div hk,Nat.mul_add_mod,Nat.div_eq_of_lt (by omega),Nat.mod_eq_of_lt (by omega)]
  exact ⟨rfl,rfl⟩
 ·intro h
  have e:2*N=k*(2*q)+2*r:=by
   rw [Nat.mul_left_comm k 2 q]; omega
  rw [e,Nat.mul_add_div hk,Nat.mul_add_mod,Nat.div_eq_of_lt (by omega),Nat.mod_eq_of_lt (by omega)]
  exact ⟨rfl,rfl⟩
theorem quo_bit {n k D s:Nat} (hk0:0<k) (hk:k<2^64) (hn0:n≠0) (h:blen (n*2^s/k)<D):s<64+D∧n*2^s<2^(64+D):=by
 have h1:n*2^s/k<2^D:=Nat.lt_of_lt_of_le (blen_lt _) (Nat.pow_le_pow_right (by decide) (by omega))
 have h2:n*2^s<2^D*k:=(Nat.div_lt_iff_lt_mul hk0).1 h1
 have h3:2^D*k≤2^D*2^64:=Nat.mul_le_mul_left _ (by omega)
 rw [← Nat.pow_add] at h3
 have h4:1*2^s≤n*2^s:=Nat.mul_le_mul_right _ (by omega)
 rw [Nat.one_mul] at h4
 have h5:2^s<2^(D+64):=by omega
 have h6:=(Nat.pow_lt_pow_iff_right (a:=2) (by decide)).1 h5
 rw [Nat.add_comm 64 D]
 exact ⟨h6,by omega⟩
theorem W379_eq {n k D s0:Nat} (hk0:0<k) (hk:k<2^64) (hn0:n≠0) (hn:n<2^64) (hD:D≤100) (hs0:s0≤64) :
  ∃ s:Nat,s≤64+D∧(n*2^s%k≠0→D≤blen (n*2^s/k)) ∧
   W379_5 (((D:Int),(Dw k,(Dw (n*2^s0%k),((),((),()))))),((false,([],((0:Int),(false,())))),((false,(Dw (n*2^s0/k),(-(s0:Int),(false,())))),()))) =
    some (.inl ((Dw (n*2^s%k),((),((),()))),((false,([],((0:Int),(false,())))),((false,(Dw (n*2^s/k),(-(s:Int),(false,())))),())))):=by
 have key:=lfix_ex (m379_5 S176.pre S176.F S345.pre S345.F S151.pre S151.F S144.pre S144.F S145.pre S145.F S143.pre S143.F) (fun x=>(300+x.2.2.1.2.2.1).toNat)
  (fun x=>∃ s:Nat,s≤64+D∧x=(((D:Int),(Dw k,(Dw (n*2^s%k),((),((),()))))),((false,([],((0:Int),(false,())))),((false,(Dw (n*2^s/k),(-(s:Int),(false,())))),()))))
  (fun y=>∃ s:Nat,s≤64+D∧(n*2^s%k≠0→D≤blen (n*2^s/k))∧y=.inl ((Dw (n*2^s%k),((),((),()))),((false,([],((0:Int),(false,())))),((false,(Dw (n*2^s/k),(-(s:Int),(false,())))),())))) ?_
  _ ⟨s0,by omega,rfl⟩
 ·obtain ⟨y,hy,s,k1,k2,rfl⟩:=key
  exact ⟨s,k1,k2,hy⟩
 intro L x hx hL
 obtain ⟨s,hs,rfl⟩:=hx
 unfold h379_5
 have hr:=Nat.mod_lt (n*2^s) hk0
 have hN:n*2^s<2^(64+(64+D)):=by
  rw [Nat.pow_add]
  exact Nat.lt_of_lt_of_le (Nat.mul_lt_mul_of_pos_right hn (Nat.two_pow_pos s)) (Nat.mul_le_mul_left _ (Nat.pow_le_pow_right (by decide) hs))
 have hq:n*2^s/k<2^(64+(64+D)):=Nat.lt_of_le_of_lt (Nat.div_le_self _ _) hN
 have hqb:=b5000 hq (by omega)
 have hrb:=b5000 (Nat.lt_trans hr hk) (by decide)
 have hkb:=b5000 hk (by decide)
 have p0:=T151_Dw hqb
 have e2s:2*(n*2^s)=n*2^(s+1):=by rw [Nat.pow_succ]; ac_rfl
 obtain ⟨d1,d2⟩:=dbl_div (n*2^s) hk0
 rw [e2s] at d1 d2
 have hstop:=quo_bit (n:=n) (k:=k) (D:=D) (s:=s) hk0 hk hn0
 have gen:=hL
 dsimp only at gen ⊢
 generalize hQ:n*2^s/k=q at *
 generalize hR:n*2^s%k=r at *
 simp only [pre151 p0,fun151 p0,cond_true]
 by_cases hgo:blen q<D∧r≠0
 ·obtain ⟨g1,g2⟩:=hgo
  have hs1:=(hstop g1).1
  rw [decide_eq_true (show (blen q:Int)<(D:Int) by omega),Dw_len_gt g2]
  have p1:=T143_dw hqb hqb
  have p2:=T143_dw hrb hrb
  have h65:r+r<2^65:=by
   have:(2:Nat)^65=2*2^64:=by decide
   omega
  have hrr:=b5000 h65 (by decide)
  have hqq:q+q<2^(65+(64+D)):=by
   have:(2:Nat)^(65+(64+D))=2*2^(64+(64+D)):=by rw [show 65+(64+D)=(64+(64+D))+1 by omega,Nat.pow_succ,Nat.mul_comm]
   omega
  have p3:=T144_eq hrr hkb
  have ew:IntKind.wrap .i64 (-(s:Int)-1)=-((s+1:Nat):Int):=by rw [wrapI (by omega)]; omega
  simp only [Bool.and_self,cond_true,pre143 p1,fun143 p1,pre143 p2,fun143 p2,pre144 p3,fun144 p3,ew]
  have hμ:(300 + -((s+1:Nat):Int)).toNat<(300 + -(s:Int)).toNat:=by omega
  by_cases hge:k≤2*r
  ·obtain ⟨f1,f2⟩:=d1 hge
   have p4:=T145_eq hrr (show k≤r+r by omega)
   have p5:=T143_dw (b5000 hqq (by omega)) (show 1<(2^64)^5000 from b5000 (k:=1) (by decide) (by decide))
   rw [Dw_one] at p5
   have eg:decide ((if r+r=k then (0:Int) else if r+r<k then -1 else 1)≥0)=true:=by
    by_cases h:r+r=k
    ·rw [if_pos h]; rfl
    ·rw [if_neg h,if_neg (by omega)]; rfl
   rw [eg]
   simp only [cond_true,pre145 p4,fun145 p4,pre143 p5,fun143 p5]
   refine gen _ ⟨s+1,by omega,?_⟩ hμ
   rw [f1,f2,show 2*q+1=q+q+1 by omega,show 2*r-k=r+r-k by omega]
  ·obtain ⟨f1,f2⟩:=d2 (by omega)
   have eg:decide ((if r+r=k then (0:Int) else if r+r<k then -1 else 1)≥0)=false:=by
    rw [if_neg (by omega),if_pos (by omega)]; rfl
   rw [eg]
   simp only [cond_false]
   refine gen _ ⟨s+1,by omega,?_⟩ hμ
   rw [f1,f2,show 2*q=q+q by omega,show 2*r=r+r by omega]
 ·have e:(decide ((blen q:Int)<(D:Int))&&decide (((Dw r).length:Int)>0))=false:=by
   by_cases g1:blen q<D
   ·have g2:r=0:=Classical.not_not.1 fun h=>hgo ⟨g1,h⟩
    rw [g2,Dw_zero]
    exact Bool.and_false _
   ·rw [decide_eq_false (show ¬ (blen q:Int)<(D:Int) by omega),Bool.false_and]
  rw [e,cond_false]
  refine ⟨_,rfl,s,hs,?_,?_⟩
  ·intro h
   rw [hR] at h
   rw [hQ]
   by_cases g1:blen q<D
   ·exact absurd ⟨g1,h⟩ hgo
   ·omega
  ·rw [hQ,hR]
theorem T379_eq {n k D:Nat} (hk0:k≠0) (hk:k<2^64) (hn0:n≠0) (hn:n<2^64) (hD:D≤100) :
  ∃ s:Nat,s≤64+D∧(n*2^s%k≠0→D≤blen (n*2^s/k)) ∧
   T379 (Dw n,Dw k,(D:Int),())=some ((false,Dw (n*2^s/k),(-(s:Int)),decide (n*2^s%k≠0),()),()):=by
 have bk:=blen_bound hk
 have bn:=blen_bound hn
 have p0:=T151_Dw (b5000 hk (by decide))
 have p1:=T151_Dw (b5000 hn (by decide))
 obtain ⟨s0,hs0,hsl⟩:∃ s0:Nat,(if (blen k:Int)-(blen n:Int)-1>0 then (blen k:Int)-(blen n:Int)-1 else 0)=(s0:Int)∧s0≤64:=by
  by_cases h:(blen k:Int)-(blen n:Int)-1>0
  ·exact ⟨blen k-blen n-1,by rw [if_pos h]; omega,by omega⟩
  ·exact ⟨0,by rw [if_neg h]; rfl,by omega⟩
 obtain ⟨s,k1,k2,k3⟩:=W379_eq (D:=D) (s0:=s0) (by omega) hk hn0 hn hD hsl
 refine ⟨s,k1,k2,?_⟩
 show t379 S176.pre S176.F S345.pre S345.F S151.pre S151.F S144.pre S144.F S145.pre S145.F S143.pre S143.F W379_5 (Dw n) (Dw k) D=_
 unfold t379
 have hN:n*2^s0<2^128:=by
  rw [show (128:Nat)=64+64 from rfl,Nat.pow_add]
  exact Nat.lt_of_lt_of_le (Nat.mul_lt_mul_of_pos_right hn (Nat.two_pow_pos s0)) (Nat.mul_le_mul_left _ (Nat.pow_le_pow_right (by decide) hsl))
 have hN':n*2^s0<(2^64)^1024:=Nat.lt_of_lt_of_le hN (by rw [← Nat.pow_mul]; exact Nat.pow_le_pow_right (by decide) (by decide))
 have hk':k<(2^64)^1024:=Nat.lt_of_lt_of_le hk (by rw [← Nat.pow_mul]; exact Nat.pow_le_pow_right (by decide) (by decide))
 have p2:=T176_eq (dg (2^64) n) (Dw_ws (b5000 hn (by decide))) s0 (by omega) (by rw [nv_Dw]; exact hN')
 rw [nv_Dw] at p2
 have p2:T176 (Dw n,(s0:Int),())=_:=p2
 have p3:=T345_eq hN' hk' hk0
 have w1:IntKind.wrap .i64 ((blen k:Int)-(blen n:Int))=(blen k:Int)-(blen n:Int):=wrapI (by omega)
 have w2:IntKind.wrap .i64 ((blen k:Int)-(blen n:Int)-1)=(blen k:Int)-(blen n:Int)-1:=wrapI (by omega)
 have w3:IntKind.wrap .i64 (0-(s0:Int))=-(s0:Int):=by rw [wrapI (by omega)]; omega
 simp only [pre151 p0,fun151 p0,pre151 p1,fun151 p1,cond_true,w1,w2,hs0,pre176 p2,fun176 p2,pre345 p3,fun345 p3,w3,k3]
 show some _=_
 congr 4
 by_cases h:n*2^s%k=0
 ·rw [h,Dw_zero]; rfl
 ·rw [Dw_len_gt h,decide_eq_true h]
theorem T102_dw {n:Nat} (hn:n<(2^64)^5000):T102 (Dw n,())=some (Dw n,()):=by
 have p0:=T102_eq (dg (2^64) n) (Dw_ws hn)
 rw [nv_Dw] at p0
 exact p0
theorem T380_eq {f m:Int} (hf:Fm f) (hm:0≤m∧m≤5) (neg:Bool) {n k:Nat} (hk0:k≠0) (hk:k<2^64) (hn0:n≠0) (hn:n<2^64) {e:Int} (he:-40000≤e∧e≤40000) :
  T380 (f,m,neg,Dw n,Dw k,e,())=some (((divB f m neg n k e).1:Int),((divB f m neg n k e).2:Int),0,()):=by
 show t380 S105.pre S105.F S102.pre S102.F S156.pre S156.F S379.pre S379.F S107.pre S107.F f m neg (Dw n) (Dw k) e=_
 unfold t380
 have hP:=fP_lt hf
 have hP2:=fP_le hf
 have p0:=T105_ok hf hm
 have p1:=T102_dw (b5000 hk (by decide))
 have p2:=T102_dw (b5000 hn (by decide))
 obtain ⟨s,k1,k2,p3⟩:=T379_eq (D:=fP f+3) hk0 hk hn0 hn (by omega)
 have hN:n*2^s<2^(64+s):=by
  rw [Nat.pow_add]
  exact Nat.mul_lt_mul_of_pos_right hn (Nat.two_pow_pos s)
 have hq:n*2^s/k<2^(64+s):=Nat.lt_of_le_of_lt (Nat.div_le_self _ _) hN
 have p4:=T107_eq neg (n*2^s/k) (e-s) (decide (n*2^s%k≠0)) f m hf (big_lt hq (by omega)) (by omega)
 rw [rndS_mark hf (fun h=>by have:=k2 (of_decide_eq_true h); omega),div_at hf hn0 (by omega) e (by omega) (fun h=>by have:=k2 h; omega)] at p4
 have r1:(rowOf f).2.1=(fP f:Int):=rfl
 have w1:IntKind.wrap .i64 ((fP f:Int)+3)=((fP f+3:Nat):Int):=by rw [wrapI (by omega)]; omega
 have w2:IntKind.wrap .i64 (-(s:Int)+e)=e-s:=by rw [wrapI (by omega)]; omega
 have l1:(Dw n).length=1:=by rw [Dw_small hn0 hn]; rfl
 have l2:(Dw k).length=1:=by rw [Dw_small hk0 hk]; rfl
 have w3:decide (IntKind.wrap .i64 (((1:Nat):Int)+((1:Nat):Int))>1024)=false:=by decide
 have w4:(decide (e<(-(40000:Int)))||decide (e>(40000:Int)))=false:=by rw [decide_eq_false (by omega),decide_eq_false (by omega)]; rfl
 have w5:((((1:Nat):Int))==(0:Int))=false:=by decide
 simp only [pre105 p0,fun105 p0,bne_self_eq_false,cond_true,cond_false,pre102 p1,fun102 p1,pre102 p2,fun102 p2,l1,l2,w3,w4,w5,r1,w1,pre379 p3,fun379 p3,w2,pre107 p4,fun107 p4]
theorem divB_pow {f m:Int} {neg:Bool} (hf:Fm f) {n k t u:Nat} (hn0:n≠0) (hk0:k≠0) (hn:n*2^t<2^53) (hk:k*2^u<2^53) (e:Int) :
  divB f m neg (n*2^t) (k*2^u) e=divB f m neg n k (e+t-u):=by
 have hP:=fP_le hf
 have ht:t<53:=by
  have:1*2^t≤n*2^t:=Nat.mul_le_mul_right _ (by omega)
  exact (Nat.pow_lt_pow_iff_right (a:=2) (by decide)).1 (by omega)
 have hu:u<53:=by
  have:1*2^u≤k*2^u:=Nat.mul_le_mul_right _ (by omega)
  exact (Nat.pow_lt_pow_iff_right (a:=2) (by decide)).1 (by omega)
 obtain ⟨s,hs⟩:∃ s,s+u=120+t:=⟨120+t-u,by omega⟩
 have hk1:0<k:=by omega
 have hup:=Nat.two_pow_pos u
 have e1:n*2^t*2^120=n*2^s*2^u:=by
  rw [Nat.mul_assoc,Nat.mul_assoc,← Nat.pow_add,← Nat.pow_add,hs,Nat.add_comm]
 have hbig:fP f+1≤blen (n*2^s/k):=by
  apply blen_ge
  rw [Nat.le_div_iff_mul_le hk1]
  have h1:2^fP f*(k*2^u)≤2^53*2^53:=Nat.mul_le_mul (Nat.pow_le_pow_right (by decide) hP) (by omega)
  have h2:1*2^(120+t)≤n*2^(120+t):=Nat.mul_le_mul_right _ (by omega)
  have h3:(2:Nat)^53*2^53≤2^(120+t):=by rw [← Nat.pow_add]; exact Nat.pow_le_pow_right (by decide) (by omega)
  have h4:2^fP f*k*2^u≤n*2^s*2^u:=by
   rw [Nat.mul_assoc,Nat.mul_assoc n,← Nat.pow_add,hs]
   omega
  exact Nat.le_of_mul_le_mul_right h4 hup
 have a1:=div_at (f:=f) (m:=m) (neg:=neg) hf (n:=n*2^t) (k:=k*2^u) (Nat.mul_ne_zero hn0 (Nat.ne_of_gt (Nat.two_pow_pos t))) (Nat.mul_pos hk1 hup) e (s:=120) (by decide)
  (by rw [e1,Nat.mul_div_mul_right _ _ hup]; exact fun _=>hbig)
 have a2:=div_at (f:=f) (m:=m) (neg:=neg) hf hn0 hk1 (e+t-u) (s:=s) (by omega) (fun _=>hbig)
 rw [← a1,← a2,e1,Nat.mul_div_mul_right _ _ hup,Nat.mul_mod_mul_right,show e-((120:Nat):Int)=e+(t:Int)-(u:Int)-(s:Int) by omega]
 congr 1
 rw [Bool.eq_iff_iff,decide_eq_true_eq,decide_eq_true_eq]
 constructor
 ·intro h hc
  rw [hc,Nat.zero_mul] at h
  exact h rfl
 ·intro h
  exact Nat.mul_ne_zero h (by omega)
theorem divB_od {f m:Int} {neg:Bool} (hf:Fm f) (s s':Bool) {n k:Nat} (hn0:n≠0) (hk0:k≠0) (hn:n<2^53) (hk:k<2^53) (x y:Int) :
  divB f m neg (od s n x).2.1 (od s' k y).2.1 ((od s n x).2.2-(od s' k y).2.2)=divB f m neg n k (x-y):=by
 rcases od_cases s n x with ⟨_,h⟩ | ⟨_,h2,_,h4,h5⟩
 ·exact absurd h hn0
 rcases od_cases s' k y with ⟨_,h⟩ | ⟨_,g2,_,g4,g5⟩
 ·exact absurd h hk0
 generalize (od s n x).2.1=n1 at *
 generalize (od s' k y).2.1=k1 at *
 rw [h5,g5]
 rw [Nat.mul_comm] at h4 g4
 have:=divB_pow (f:=f) (m:=m) (neg:=neg) hf (n:=n1) (k:=k1) (t:=tz n) (u:=tz k) (by omega) (by omega) (by rw [← h4]; exact hn) (by rw [← g4]; exact hk) (x-y)
 rw [← h4,← g4] at this
 rw [this]
 congr 1
 omega
theorem snan_nan' {f:Int} {a:Nat} (h:snan f a=true):nan f a=true:=by
 cases hn:nan f a
 ·rw [snan_nan hn] at h; exact absurd h (by decide)
 ·rfl
theorem fin_of {f:Int} {a:Nat} (h1:nan f a=false) (h2:isInf f a=false):eF f a≠fullF f:=fun he=>by
 unfold nan at h1
 unfold isInf at h2
 rw [he] at h1 h2
 simp at h1 h2
 exact h2 h1
theorem T381_eq (f m:Int) {a b:Nat} (ha:a<2^64) (hb:b<2^64):T381 (f,m,(a:Int),(b:Int),())=some (divA f m a b):=by
 show t381 S376.pre S376.F S377.pre S377.F S378.pre S378.F S97.pre S97.F S118.pre S118.F S40.pre S40.F S380.pre S380.F f m a b=_
 unfold t381 divA
 have p0:=T376_list f m [a,b] (fun c hc=>by
  rcases List.mem_cons.1 hc with rfl | hc
  ·exact ha
  ·rw [List.mem_singleton] at hc; omega) (show (2:Nat)<1000 by decide)
 have p0:T376 (f,m,((a:Int)::((b:Int)::[])),())=_:=p0
 simp only [pre376 p0,fun376 p0,cond_true]
 clear p0
 unfold chkL
 by_cases hf:¬ Fm f
 ·rw [if_pos hf,if_pos hf]; rfl
 have hf:=Classical.not_not.1 hf
 rw [if_neg (show ¬ ¬ Fm f from fun h=>h hf),if_neg (show ¬ ¬ Fm f from fun h=>h hf)]
 by_cases hm:m<0∨m>5
 ·rw [if_pos hm,if_pos hm]; rfl
 rw [if_neg hm,if_neg hm]
 have hm':0≤m∧m≤5:=by omega
 have ho:okL f [a,b]=(chk f a==0&&(chk f b==0&&true)):=rfl
 rw [ho]
 by_cases hca:chk f a≠0
 ·have h4:=(chk_cases hf a).resolve_left hca
  rw [if_pos hca,h4]; rfl
 have hca:=Classical.not_not.1 hca
 rw [if_neg (fun h=>h hca),hca]
 by_cases hcb:chk f b≠0
 ·have h4:=(chk_cases hf b).resolve_left hcb
  rw [if_pos hcb,h4]; rfl
 have hcb:=Classical.not_not.1 hcb
 rw [if_neg (fun h=>h hcb),hcb]
 have e0:((bif ((0:Int)==0&&((0:Int)==0&&true)) then (0:Int) else 4) != 0)=false:=rfl
 rw [e0,cond_false]
 have p1:=T377_ok hca
 have p2:=T377_ok hcb
 have p3:=T378_ok hf 0
 have p4:=T378_ok hf 1
 have p5:=T97_ok hf (!(sF f a==sF f b))
 have p6:=T118_ok hf (!(sF f a==sF f b))
 have ma:=mant_lt hf a
 have mb:=mant_lt hf b
 have xa:=xpn_bound hf a
 have xb:=xpn_bound hf b
 simp only [pre377 p1,fun377 p1,pre377 p2,fun377 p2,cond_true,pre378 p3,fun378 p3,pre378 p4,fun378 p4,pre97 p5,fun97 p5,pre118 p6,fun118 p6]
 unfold divR
 cases sa:snan f a
 ·cases sb:snan f b
  ·simp only [Bool.or_self,cond_false]
   cases na:nan f a
   ·cases nb:nan f b
    ·simp only [Bool.or_self,cond_false]
     cases hi:isInf f a&&isInf f b||zro f a&&zro f b
     ·simp only [cond_false]
      cases ia:isInf f a
      ·simp only [cond_false]
       cases zb:zro f b
       ·simp only [cond_false]
        cases iz:isInf f b||zro f a
        ·simp only [cond_false]
         rw [Bool.or_eq_false_iff] at iz
         have q1:=T40_fin hca (fin_of na ia)
         have q2:=T40_fin hcb (fin_of nb iz.1)
         have mza:=zro_mant iz.2
         have mzb:=zro_mant zb
         obtain ⟨o1,o2,o3⟩:=od_bound2 (sF f a) (n:=mant f a) (xpn f a) ma xa
         obtain ⟨o4,o5,o6⟩:=od_bound2 (sF f b) (n:=mant f b) (xpn f b) mb xb
         have n1:(od (sF f a) (mant f a) (xpn f a)).2.1≠0:=by
          rcases od_cases (sF f a) (mant f a) (xpn f a) with ⟨_,h⟩ | ⟨_,h2,_,_,_⟩
          ·exact absurd h mza
          ·omega
         have n2:(od (sF f b) (mant f b) (xpn f b)).2.1≠0:=by
          rcases od_cases (sF f b) (mant f b) (xpn f b) with ⟨_,h⟩ | ⟨_,h2,_,_,_⟩
          ·exact absurd h mzb
          ·omega
         have q3:=T380_eq hf hm' (!(sF f a==sF f b)) (n:=(od (sF f a) (mant f a) (xpn f a)).2.1) (k:=(od (sF f b) (mant f b) (xpn f b)).2.1) n2 (by omega) n1 (by omega) (e:=(od (sF f a) (mant f a) (xpn f a)).2.2-(od (sF f b) (mant f b) (xpn f b)).2.2) (by omega)
         rw [divB_od hf _ _ mza mzb ma mb] at q3
         have w1:IntKind.wrap .i64 ((od (sF f a) (mant f a) (xpn f a)).2.2-(od (sF f b) (mant f b) (xpn f b)).2.2)=(od (sF f a) (mant f a) (xpn f a)).2.2-(od (sF f b) (mant f b) (xpn f b)).2.2:=wrapI (by omega)
         have d1:∀ t:Bool×Nat×Int,(dyO t).2.1=Dw t.2.1:=fun _=>rfl
         have d2:∀ t:Bool×Nat×Int,(dyO t).2.2.1=t.2.2:=fun _=>rfl
         simp only [pre40 q1,fun40 q1,pre40 q2,fun40 q2,cond_true,d1,d2,w1,pre380 q3,fun380 q3]
        ·rfl
       ·rfl
      ·rfl
     ·rfl
    ·rfl
   ·cases nb:nan f b <;> rfl
  ·have nb:=snan_nan' sb
   rw [nb,Bool.or_true,Bool.or_true]; rfl
 ·have na:=snan_nan' sa
  rw [na]; rfl
end VL
namespace VL
open Go Vx
theorem product_num {d e r:Ieee.Datum} (h:d.product e=some r):r.isNaN=false:=by
 unfold Ieee.Datum.product at h
 split at h
 all_goals first | (cases h; done) | (cases h; rfl) | (split at h <;> first | (cases h; done) | (cases h; rfl))
theorem quotient_num {g:Nat} {d e r:Ieee.Datum} (h:d.quotient g e=some r):r.isNaN=false:=by
 unfold Ieee.Datum.quotient at h
 split at h
 all_goals first | (cases h; done) | (cases h; rfl) | skip
 split at h
 ·split at h
  ·cases h
  ·cases h; rfl
 ·cases h; rfl
theorem told_any (k:FloatKind) {op:BinOp} (hop:op=.add∨op=.sub∨op=.mul∨op=.quo) (a b:Nat) :
  (bif flord k (flop op k (some a) (some b)) (flop op k (some a) (some b)) != some .eq then nanF (fk k) else (flop op k (some a) (some b)).getD 0)=canB (fk k) (fop op k a b) ∧
  ((flord k (flop op k (some a) (some b)) (flop op k (some a) (some b)) != some .eq)=false→(flop op k (some a) (some b)).isSome=true):=by
 have e:flop op k (some a) (some b)=fop op k a b:=rfl
 rw [e]
 have hnum:∀ r,fop op k a b=some r→chk (fk k) r=0∧nan (fk k) r=false:=fun r h=>by
  have key:∀ {o:Option Ieee.Datum},(∀ d,o=some d→d.isNaN=false)→o.map k.format.write=some r→chk (fk k) r=0∧nan (fk k) r=false:=fun {o} ho h=>by
   cases o with
   | none=>cases h
   | some d=>cases h; exact write_num k (ho d rfl)
  rcases hop with rfl | rfl | rfl | rfl
  ·exact key (fun d hd=>sum_num hd) h
  ·exact key (fun d hd=>sum_num hd) h
  ·exact key (fun d hd=>product_num hd) h
  ·exact key (fun d hd=>quotient_num hd) h
 cases h:fop op k a b with
 | none =>
  exact ⟨rfl,fun h=>by cases h⟩
 | some r =>
  obtain ⟨h1,h2⟩:=hnum r h
  have ho:flord k (some r) (some r)=some .eq:=by
   show k.format.order r r=_
   rw [order_eq k h1 h1,h2,Bool.or_self,if_neg (by decide)]
   congr 1
   show compareOfLessAndEq _ _=_
   unfold compareOfLessAndEq
   rw [if_neg (by omega),if_pos rfl]
  rw [ho]
  exact ⟨rfl,fun _=>rfl⟩
theorem canS_lt {op:BinOp} (a b:Nat):canB 2 (fop op .f32 a b)<2^32:=by
 unfold canB
 cases h:fop op .f32 a b with
 | none=>decide
 | some r=>exact fop_lt h
theorem T383_told {op:BinOp} (hop:op=.add∨op=.sub∨op=.mul∨op=.quo) (a b:Nat):T383 (flop op .f32 (some a) (some b),())=some (((canB 2 (fop op .f32 a b):Nat):Int),()):=by
 obtain ⟨h1,h2⟩:=told_any .f32 hop a b
 have h1:_=canB 2 (fop op .f32 a b):=h1
 have hlt:canB 2 (fop op .f32 a b)<2^32:=canS_lt a b
 show t383 (fun x=>x.1.isSome) (fun x=>(((x.1.getD 0:Nat):Int),())) (flop op .f32 (some a) (some b))=_
 unfold t383
 rw [← h1] at hlt ⊢
 cases h:flord .f32 (flop op .f32 (some a) (some b)) (flop op .f32 (some a) (some b)) != some .eq
 ·rw [h,cond_false] at hlt
  rw [cond_false,cond_false]
  dsimp only
  rw [h2 h,cond_true,wu_id _ (by omega)]
 ·rw [cond_true,cond_true]
  show some ((2143289344:Int),())=_
  rw [show (2143289344:Int)=((nanF 2:Nat):Int) by decide]; rfl
theorem awake_add (m:Int) (hm:m=0∨m=3):addA 0 m 15360 4096=(if m=0 then 15360 else 15361,16,0,()):=by
 rcases hm with rfl | rfl
 ·decide +kernel
 ·decide +kernel
theorem T382_true:T382 ()=some (true,()):=by
 show t382 S27.pre S27.F=_
 unfold t382
 have p1:=T27_eq 0 0 (a:=15360) (b:=4096) (by decide) (by decide)
 have p2:=T27_eq 0 3 (a:=15360) (b:=4096) (by decide) (by decide)
 rw [awake_add 0 (.inl rfl)] at p1
 rw [awake_add 3 (.inr rfl)] at p2
 have p1:T27 ((0:Int),((0:Int),((15360:Int),((4096:Int),()))))=_:=p1
 have p2:T27 ((0:Int),((3:Int),((15360:Int),((4096:Int),()))))=_:=p2
 dsimp only
 simp only [pre27 p1,fun27 p1,pre27 p2,fun27 p2,cond_true]
 rfl
theorem T384_true {a b:Nat} (ha:a<2^32) (hb:b<2^32):T384 ((a:Int),(b:Int),())=some (true,()):=by
 show t384 (fun _=>true) (fun x=>(some x.1.toNat,())) S27.pre S27.F S25.pre S25.F S354.pre S354.F S381.pre S381.F S382.pre S382.F S383.pre S383.F a b=_
 unfold t384
 have ca:chk 2 a=0:=chk_ok (show Fm 2 from ⟨by decide,by decide⟩) ha
 have cb:chk 2 b=0:=chk_ok (show Fm 2 from ⟨by decide,by decide⟩) hb
 have s1:=T27_eq 2 0 (a:=a) (b:=b) (by omega) (by omega)
 have s2:=T25_eq 2 0 (a:=a) (b:=b) (by omega) (by omega)
 have s3:=T354_eq 2 0 (a:=a) (b:=b) (by omega) (by omega)
 have s4:=T381_eq 2 0 (a:=a) (b:=b) (by omega) (by omega)
 obtain ⟨v1,k1⟩:=add_eq .f32 (a:=a) (b:=b) ca cb
 obtain ⟨v2,k2⟩:=sub_eq .f32 (a:=a) (b:=b) ca cb
 obtain ⟨v3,k3⟩:=mul_eq .f32 (a:=a) (b:=b) ca cb
 obtain ⟨v4,k4⟩:=div_eq .f32 (a:=a) (b:=b) ca cb
 have v1:(addA 2 0 a b).1=_:=v1
 have k1:(addA 2 0 a b).2.2.1=0:=k1
 have v2:(subA 2 0 a b).1=_:=v2
 have k2:(subA 2 0 a b).2.2.1=0:=k2
 have v3:(mulA 2 0 a b).1=_:=v3
 have k3:(mulA 2 0 a b).2.2.1=0:=k3
 have v4:(divA 2 0 a b).1=_:=v4
 have k4:(divA 2 0 a b).2.2.1=0:=k4
 have t1:=T383_told (.inl rfl) a b
 have t2:=T383_told (.inr (.inl rfl)) a b
 have t3:=T383_told (.inr (.inr (.inl rfl))) a b
 have t4:=T383_told (.inr (.inr (.inr rfl))) a b
 have w1:IntKind.wrap .u64 (a:Int)=(a:Int):=wu_id _ (by omega)
 have w2:IntKind.wrap .u64 (b:Int)=(b:Int):=wu_id _ (by omega)
 have e2:fk .f32=2:=rfl
 rw [e2] at v1 v2 v3 v4
 have p0:=T382_true
 simp only [w1,w2,cond_true,Bool.not_true,cond_false,Int.toNat_natCast,pre27 s1,fun27 s1,pre25 s2,fun25 s2,pre354 s3,fun354 s3,pre381 s4,fun381 s4,v1,v2,v3,v4,k1,k2,k3,k4,pre382 p0,fun382 p0,pre383 t1,fun383 t1,pre383 t2,fun383 t2,pre383 t3,fun383 t3,pre383 t4,fun383 t4,bne_self_eq_false,Bool.or_self,Bool.true_or,beq_self_eq_true,Bool.and_self]
end VL
namespace Vx
open Go Go.RowKit Go.ChangeShapes Go.WideShapes
def wfD:(τ:Shape)→Den τ→Prop
 | .int k,n=>k.min≤n∧n≤k.max
 | .flt _,_=>True
 | .slice e,xs=>xs.length<lim∧∀ x∈xs,wfD e x
 | .pair a b,x=>wfD a x.1∧wfD b x.2
 | .bool,_=>True
 | .str,_=>True
 | .fn,_=>True
 | .unit,_=>True
theorem DRep.wfD {w:World} {S:Nat→Prop}:∀ {τ:Shape} {x:Den τ} {cs:List Value},DRep w S τ x cs→wfD τ x
 | .int _,_,_,h=>h.2
 | .flt _,_,_,_=>trivial
 | .bool,_,_,_=>trivial
 | .str,_,_,_=>trivial
 | .fn,_,_,_=>trivial
 | .unit,_,_,_=>trivial
 | .slice _,xs,_,⟨A,c,_,h1,h2,h3⟩=>by
  refine ⟨Nat.lt_of_le_of_lt h1 h2,fun x hx=>?_⟩
  obtain ⟨r,o,vs,T,fz,_,_,_,h⟩:=h3 (List.ne_nil_of_mem hx)
  obtain ⟨i,hi⟩:=List.getElem?_of_mem hx
  obtain ⟨ds,hd,_⟩:=h i x hi
  exact hd.wfD
 | .pair _ _,_,_,⟨c1,c2,_,h1,h2⟩=>⟨h1.wfD,h2.wfD⟩
def wfS:(sg:Sig)→DenS sg→Prop
 | [],_=>True
 | (_,τ)::r,x=>wfD τ x.1∧wfS r x.2
def undat {H:Type}:(τ:Shape)→(DataW H→Option (Den τ))×(List (DataW H)→Option (Den τ))
 | .int k=>(fun d=>match d with | .lit (.int k' n)=>if k'=k then some n else none | _=>none,fun _=>none)
 | .bool=>(fun d=>match d with | .lit (.bool b)=>some b | _=>none,fun _=>none)
 | .unit=>(fun d=>match d with | .agg []=>some () | _=>none,fun l=>match l with | []=>some () | _=>none)
 | .pair a b =>
  let f:=fun l=>match l with
   | d::r=>(match (undat a).1 d,(undat b).2 r with | some x,some y=>some (x,y) | _,_=>none)
   | []=>none
  (fun d=>match d with | .agg l=>f l | _=>none,f)
 | .flt _=>(fun _=>none,fun _=>none)
 | .str=>(fun _=>none,fun _=>none)
 | .fn=>(fun _=>none,fun _=>none)
 | .slice _=>(fun _=>none,fun _=>none)
def fitF (P:Program) (g:TypeId→Shape→Bool):List Field→Nat→Shape→Bool
 | [],_,.unit=>true
 | f::fs,o,.pair a b=>(f.offset==o)&&(P.cellsOf f.type==a.width)&&g f.type a&&fitF P g fs (o+a.width) b
 | _,_,_=>false
def fitB (P:Program):Nat→TypeId→Shape→Bool
 | 0,_,_=>false
 | n+1,t,τ=>match P.underlying t with
  | some (.int k)=>(match τ with | .int k'=>decide (k=k') | _=>false)
  | some .bool=>(match τ with | .bool=>true | _=>false)
  | some (.slice e)=>(match τ with | .slice σ=>(P.cellsOf e==σ.width)&&decide (0<σ.width)&&fitB P n e σ | _=>false)
  | some (.struct fs)=>(P.cellsOf t==τ.width)&&fitF P (fitB P n) fs.toList 0 τ
  | _=>false
theorem choose_list {A:Type} {Q:Nat→A→Prop}:∀ (n:Nat),(∀ i,i<n→∃ x,Q i x)→∃ xs:List A,xs.length=n∧∀ i x,xs[i]? = some x→Q i x
 | 0,_=>⟨[],rfl,fun i x h=>by simp at h⟩
 | n+1,h=>by
  obtain ⟨xs,h1,h2⟩:=choose_list n fun i hi=>h i (by omega)
  obtain ⟨x,hx⟩:=h n (by omega)
  refine ⟨xs++[x],by simp [h1],fun i y hy=>?_⟩
  rcases Nat.lt_or_ge i n with hi | hi
  ·rw [List.getElem?_append_left (by omega)] at hy
   exact h2 i y hy
  ·rw [List.getElem?_append_right (by omega)] at hy
   have:i=n:=by
    have:=(List.getElem?_eq_some_iff.1 hy).1
    simp at this; omega
   subst this
   simp [h1] at hy
   exact hy ▸ hx
theorem wf_int {k:IntKind} {n:Int} (h:(Lit.int k n).wf=true):k.min≤n∧n≤k.max:=by
 simpa [Lit.wf] using h
section
variable {H:Type} {enc:TypeId×Value→H} {P:Program} {W:World} {spare:Nat→Bool} {held:Bool}
theorem fitF_ok {n:Nat} {m:Nat} {cs:List Value} (ih:∀ (t:TypeId) (τ:Shape) (cs:List Value) (d:DataW H) (p:List MemPlace),fitB P n t τ=true→DataW.trod enc P W 0 spare held m t cs=some (d,p)→∃ x:Den τ,DRep W (fun q=>q<W.heap.size) τ x cs∧∀ y,(undat τ).1 d=some y→x=y) :
  ∀ (l:List Field) (o:Nat) (τ:Shape) (xs:List (DataW H×List MemPlace)),fitF P (fitB P n) l o τ=true→xs.length=l.length→cs.length=o+τ.width →
   (∀ (i:Nat) (f:Field),l[i]? = some f→DataW.trod enc P W 0 spare held m f.type ((cs.drop f.offset).take (P.cellsOf f.type))=xs[i]?) →
   ∃ x:Den τ,DRep W (fun q=>q<W.heap.size) τ x (cs.drop o)∧∀ y,(undat τ).2 (xs.map (·.1))=some y→x=y
 | [],o,τ,xs,hf,hx,hl,_=>by
  cases τ <;> simp [fitF] at hf
  refine ⟨(),?_,fun _ _=>rfl⟩
  show cs.drop o=[]
  apply List.drop_eq_nil_of_le
  simp [Shape.width] at hl
  omega
 | f::fs,o,τ,xs,hf,hx,hl,h=>by
  cases τ with
  | pair a b =>
   simp only [fitF,Bool.and_eq_true,beq_iff_eq] at hf
   obtain ⟨⟨⟨ho,hc⟩,hg⟩,hr⟩:=hf
   cases xs with
   | nil=>simp at hx
   | cons x0 xs =>
    have h0:=h 0 f rfl
    rw [ho,hc] at h0
    simp only [List.getElem?_cons_zero] at h0
    obtain ⟨xa,ha,hua⟩:=ih f.type a _ x0.1 x0.2 hg h0
    simp only [Shape.width] at hl
    obtain ⟨xb,hb,hub⟩:=fitF_ok ih fs (o+a.width) b xs hr (by simpa using hx) (by rw [hl]; omega) fun i g hi=>by
     have:=h (i+1) g (by simpa using hi)
     simpa using this
    refine ⟨(xa,xb),⟨(cs.drop o).take a.width,cs.drop (o+a.width),?_,ha,hb⟩,fun y hy=>?_⟩
    ·rw [← List.drop_drop,List.take_append_drop]
    ·simp only [undat,List.map_cons] at hy
     split at hy
     ·rename_i e1 e2
      have:=hua _ e1; have:=hub _ e2
      subst_vars
      exact Option.some.inj hy
     ·cases hy
  | _=>simp [fitF] at hf
theorem fit_ok:∀ (n:Nat) (m:Nat) (t:TypeId) (τ:Shape) (cs:List Value) (d:DataW H) (p:List MemPlace),fitB P n t τ=true→DataW.trod enc P W 0 spare held m t cs=some (d,p) →
  ∃ x:Den τ,DRep W (fun q=>q<W.heap.size) τ x cs∧∀ y,(undat τ).1 d=some y→x=y
 | 0,_,_,_,_,_,_,h,_=>by simp [fitB] at h
 | n+1,m,t,τ,cs,d,p,h,ht=>by
  unfold fitB at h
  split at h
  ·rename_i k hk
   cases τ with
   | int k' =>
    simp only [decide_eq_true_eq] at h
    subst h
    obtain ⟨v,hv,hx,hw⟩:=DataW.trod_int hk ht
    simp only [Prod.mk.injEq] at hx
    refine ⟨v,⟨hv,wf_int hw⟩,fun y hy=>?_⟩
    rw [hx.1] at hy
    simp only [undat,if_true] at hy
    exact Option.some.inj hy
   | _=>cases h
  ·rename_i hk
   cases τ with
   | bool =>
    obtain ⟨v,hv,hx⟩:=DataW.trod_bool hk ht
    simp only [Prod.mk.injEq] at hx
    refine ⟨v,hv,fun y hy=>?_⟩
    rw [hx.1] at hy
    simp only [undat] at hy
    exact Option.some.inj hy
   | _=>cases h
  ·rename_i e hk
   cases τ with
   | slice σ =>
    simp only [Bool.and_eq_true,beq_iff_eq,decide_eq_true_eq] at h
    obtain ⟨⟨hc,hpos⟩,hf⟩:=h
    rcases DataW.trod_slice hk ht with ⟨hcs,hx⟩ | ⟨a,len,cap,elems,rest,m',rfl,hcs,hx,hb,hlc,hcap,hlen,hel,_⟩
    ·exact ⟨[],⟨none,0,hcs,Nat.le_refl _,by decide,fun h=>absurd rfl h⟩,fun y hy=>by simp [undat] at hy⟩
    ·have each:∀ i,i<len→∃ x:Den σ,∃ ds,W.cells? 0 (a.add (i*P.cellsOf e)) (P.cellsOf e)=some ds∧DRep W (fun q=>q<W.heap.size) σ x ds:=fun i hi=>by
      have:=hel i hi
      rw [List.getElem?_eq_getElem (by omega),Option.bind_eq_some_iff] at this
      obtain ⟨ds,h1,h2⟩:=this
      obtain ⟨x,hx,_⟩:=fit_ok n m' e σ ds (elems[i]'(by omega)).1 (elems[i]'(by omega)).2 hf h2
      exact ⟨x,ds,h1,hx⟩
     obtain ⟨xs,hxl,hxs⟩:=choose_list len each
     refine ⟨xs,⟨some a,cap,by rw [hxl]; exact hcs,by omega,by unfold lim; unfold maxLen at hcap; omega,fun hne=>?_⟩,fun y hy=>by simp [undat] at hy⟩
     have h0:0<xs.length:=List.length_pos_iff.2 hne
     obtain ⟨ds0,hd0,_⟩:=hxs 0 xs[0] (List.getElem?_eq_getElem h0)
     obtain ⟨_,hl0,hc0⟩:=World.cells?_some hd0
     have hz:a.add (0*P.cellsOf e)=a:=by simp [Addr.add]
     have hz':a.add 0=a:=by simp [Addr.add]
     rw [hz] at hc0
     have hc00:=hc0 0 (by omega)
     rw [hz',List.getElem?_eq_getElem (by omega)] at hc00
     unfold World.cell? at hc00
     split at hc00
     ·rename_i c T fz hheap
      split at hc00
      ·cases hc00
      ·rename_i hspot
       have hs:a.spot=none:=by simpa using hspot
       have hadd:∀ q,a.add q=⟨a.block,a.off+q,none⟩:=fun q=>by
        unfold Addr.add
        split
        ·subst_vars; cases a; simp at hs; simp [hs]
        ·rfl
       have ha:a=⟨a.block,a.off,none⟩:=by cases a; simp at hs; simp [hs]
       refine ⟨a.block,a.off,c,T,fz,by rw [← ha],?_,hheap,fun i x hi=>?_⟩
       ·exact (Array.getElem?_eq_some_iff.1 hheap).1
       ·obtain ⟨ds,hd,hr⟩:=hxs i x hi
        refine ⟨ds,hr,fun j v hj=>?_⟩
        obtain ⟨_,hl,hcj⟩:=World.cells?_some hd
        have hjl:j<P.cellsOf e:=by rw [← hl]; exact (List.getElem?_eq_some_iff.1 hj).1
        have:=hcj j hjl
        rw [hadd,hj] at this
        have hadd2:(⟨a.block,a.off+i*P.cellsOf e,none⟩:Addr).add j=⟨a.block,a.off+i*P.cellsOf e+j,none⟩:=by
         unfold Addr.add
         split
         ·subst_vars; rfl
         ·rfl
        rw [hadd2] at this
        unfold World.cell? at this
        simp only [hheap] at this
        rw [hc] at this
        exact this
     ·cases hc00
   | _=>cases h
  ·rename_i fs hk
   simp only [Bool.and_eq_true,beq_iff_eq] at h
   obtain ⟨hc,hf⟩:=h
   obtain ⟨xs,m',rfl,hx,hl,hxl,hel⟩:=DataW.trod_struct hk ht
   simp only [Prod.mk.injEq] at hx
   obtain ⟨x,h1,h2⟩:=fitF_ok (fun t τ cs d p=>fit_ok n m' t τ cs d p) fs.toList 0 τ xs hf (by simpa using hxl) (by rw [hl,hc]; omega) fun i f hi=>hel i f (by simpa using hi)
   refine ⟨x,by simpa using h1,fun y hy=>h2 y ?_⟩
   rw [hx.1] at hy
   cases τ with
   | pair a b=>exact hy
   | unit =>
    simp only [undat] at hy ⊢
    split at hy
    ·rename_i e; simp only [DataW.agg.injEq] at e; rw [e]
    ·cases hy
   | _=>simp [undat] at hy
  ·cases h
end
end Vx
namespace Vx
open Go Go.RowKit Go.ChangeShapes Go.WideShapes
def isStruct (P:Program) (t:TypeId):Bool:=match P.underlying t with
 | some (.struct _)=>true
 | _=>false
def fitS (P:Program) (n:Nat):List TypeId→Sig→Bool
 | [],[]=>true
 | t::ts,(a,τ)::r=>fitB P n t τ&&(a==isStruct P t)&&fitS P n ts r
 | _,_=>false
section
variable {H:Type} {enc:TypeId×Value→H} {P:Program} {W:World}
theorem cells_one {n:Nat} {t:TypeId} {τ:Shape} {r:Reach} {b0:Nat} {v:Value} (hf:fitB P n t τ=true) (hs:isStruct P t=false) (hv:Value.okWide P W r b0 t v):v.cells.toList=[v]:=by
 cases n with
 | zero=>simp [fitB] at hf
 | succ n =>
  unfold fitB at hf
  split at hf
  ·rename_i k hk; obtain ⟨_,rfl⟩:=okWide_int hk hv; rfl
  ·rename_i hk; obtain ⟨_,rfl⟩:=okWide_bool hk hv; rfl
  ·rename_i e hk; obtain ⟨_,_,_,rfl⟩:=okWide_slice hk hv; rfl
  ·rename_i fs hk; simp [isStruct,hk] at hs
  ·cases hf
theorem erep_plain {S:Nat→Prop} {a:Bool} {τ:Shape} {x:Den τ} {y:Value} (ho:ownE a τ=false) (h:PRep W S a τ x y):ERep W S a τ x y []:=by
 cases τ with
 | slice e =>
  cases a with
  | true=>cases ho
  | false=>exact ⟨rfl,h⟩
 | _=>exact ⟨rfl,h⟩
theorem args_ok {n:Nat} {sp:Nat→Bool} {held:Bool} {b0:Nat}:∀ (ts:List TypeId) (I:Sig) (vs:List Value) (ds:List (DataW H)) (ps:List MemPlace),fitS P n ts I=true →
  (∀ (j:Nat) (t:TypeId) (v:Value),ts[j]? = some t→vs[j]? = some v→Value.okWide P W .any b0 t v)→DataW.TrodAll enc P W 0 sp held ts vs ds ps→∃ x:DenS I,SRep W (fun q=>q<W.heap.size) I x vs []∧wfS I x∧ds.length=ts.length
 | [],[],vs,ds,ps,_,_,h=>by
  cases vs <;> cases ds <;> simp [DataW.TrodAll] at h
  exact ⟨(),⟨rfl,rfl⟩,trivial,rfl⟩
 | [],_::_,_,_,_,hf,_,_=>by simp [fitS] at hf
 | _::_,[],_,_,_,hf,_,_=>by simp [fitS] at hf
 | t::ts,(a,τ)::I,vs,ds,ps,hf,hv,h=>by
  cases vs with
  | nil=>simp [DataW.TrodAll] at h
  | cons v vs =>
   cases ds with
   | nil=>simp [DataW.TrodAll] at h
   | cons d ds =>
    obtain ⟨p,q,⟨m,hp⟩,hq,_⟩:=h
    simp only [fitS,Bool.and_eq_true,beq_iff_eq] at hf
    obtain ⟨⟨h1,h2⟩,h3⟩:=hf
    obtain ⟨x,hx,hw,hl⟩:=args_ok ts I vs ds q h3 (fun j t v ht hv'=>hv (j+1) t v (by simpa using ht) (by simpa using hv')) hq
    obtain ⟨y,hy,_⟩:=fit_ok n m t τ _ d p h1 hp
    have hok:=hv 0 t v rfl rfl
    refine ⟨(y,x),⟨v,vs,[],[],rfl,rfl,erep_plain ?_ ?_,hx⟩,⟨hy.wfD,hw⟩,by simp [hl]⟩
    ·cases τ with
     | slice σ =>
      show a=false
      rw [h2]
      cases n with
      | zero=>simp [fitB] at h1
      | succ n =>
       unfold fitB at h1
       unfold isStruct
       split at h1 <;> rename_i hk <;> first | (rw [hk]; done) | (simp only [hk]; done) | (simp [fitF] at h1; done) | skip
     | _=>rfl
    cases a with
    | true =>
     have hs:isStruct P t=true:=h2.symm
     unfold isStruct at hs
     split at hs
     ·rename_i fs hk
      unfold Value.okWide at hok
      rw [hk] at hok
      obtain ⟨cs,rfl,_⟩:=hok
      exact ⟨cs.toList,by simp,hy⟩
     ·cases hs
    | false =>
     have hs:isStruct P t=false:=h2.symm
     rw [cells_one h1 hs hok] at hy
     exact hy
theorem trodAll_below (hl:laidOutB P=true) {W':World} (hb:Below W.heap.size W W'):∀ (ts:List TypeId) (vs:List Value) (ds:List (DataW H)) (ps:List MemPlace),(ts.all fun t=>P.readableRec t&&decide (t<P.types.size))=true →
  DataW.TrodAll enc P W 0 (fun _=>true) true ts vs ds ps→(∀ x∈ps,x.block<W.heap.size)→DataW.TrodAll enc P W' 0 (fun b=>decide (b<W.heap.size)) true ts vs ds ps
 | [],vs,ds,ps,_,h,_=>by
  cases vs <;> cases ds <;> simp [DataW.TrodAll] at h ⊢
  exact h
 | t::ts,vs,ds,ps,hr,h,hlt=>by
  cases vs with
  | nil=>simp [DataW.TrodAll] at h
  | cons v vs =>
   cases ds with
   | nil=>simp [DataW.TrodAll] at h
   | cons d ds =>
    obtain ⟨p,q,hp,hq,rfl⟩:=h
    simp only [List.all_cons,Bool.and_eq_true,decide_eq_true_eq] at hr
    exact ⟨p,q,Below.trod hl hr.1.1 hr.1.2 hp hb (fun x hx=>hlt x (List.mem_append.2 (.inl hx))),
     trodAll_below hl hb ts vs ds q hr.2 hq (fun x hx=>hlt x (List.mem_append.2 (.inr hx))),rfl⟩
theorem glob_of {n:String} {g:Nat} {t e:TypeId} {m k:Nat} {τ:Shape} {ds:List (DataW Unit)} {xs:List (Den τ)} {r:List (String×DataW Unit)} {ps:List MemPlace}
  (hL:DataW.LaidVars P W ((n,.agg ds)::r) ps) (hg:P.globalNamed n=some g) (ht:(P.globals[g]?).map (·.type)=some t) (hu:P.underlying t=some (.array m e)) (hc:P.cellsOf e=τ.width) (hf:fitB P k e τ=true)
  (hx:ds.map (undat τ).1=xs.map some) :
  (g<W.heap.size∧∃ vs T fz,W.heap[g]? = some (.cells vs T fz)∧Rows W (fun q=>q<W.heap.size) τ vs 0 xs)∧∃ ps',DataW.LaidVars P W r ps':=by
 obtain ⟨g',t',cs,fuel,p,q,h1,h2,h3,h4,h5,_⟩:=hL
 rw [hg] at h1; cases h1
 rw [ht] at h2; cases h2
 refine ⟨?_,q,h5⟩
 unfold World.var? at h3
 rw [hg] at h3
 simp only [Option.bind_some] at h3
 split at h3
 ·rename_i c T fz hh
  cases h3
  refine ⟨(Array.getElem?_eq_some_iff.1 hh).1,cs,T,fz,hh,?_⟩
  obtain ⟨ys,m',rfl,hy,hl,hyl,hel⟩:=DataW.trod_array hu h4
  simp only [Prod.mk.injEq,DataW.agg.injEq] at hy
  intro i x hi
  have hxl:xs.length=m:=by
   have:=congrArg List.length hx
   simp [hy.1,hyl] at this
   omega
  have him:i<m:=by rw [← hxl]; exact (List.getElem?_eq_some_iff.1 hi).1
  have he:=hel i him
  have hyi:ys[i]? = some (ys[i]'(by omega)):=List.getElem?_eq_getElem (by omega)
  rw [hyi,hc] at he
  obtain ⟨x',h6,h7⟩:=fit_ok k m' e τ _ _ _ hf he
  have hd:(undat τ).1 (ys[i]'(by omega)).1=some x:=by
   have:=congrArg (·[i]?) hx
   simp only [List.getElem?_map,hy.1,hyi,hi,Option.map_some] at this
   exact Option.some.inj this
  have:=h7 x hd
  subst this
  refine ⟨_,h6,fun j v hj=>?_⟩
  rw [List.getElem?_take] at hj
  split at hj
  ·rw [List.getElem?_drop] at hj
   simpa using hj
  ·cases hj
 ·cases h3
theorem returns_true {G : List (Nat × Sigma fun τ => List (Den τ))} {f : FuncId} {I : Sig} {T : DenS I → Option (DenS [(false, .bool)])} {d : DenS [(false, .bool)]} (hS : Sound P G f (sumOf I [(false, .bool)] T d)) {x : DenS I} (hT : T x = some (true, ())) (hcal : ∃ fn, P.funcs[f]? = some fn ∧ fn.body.isNone = false ∧ (fn.name == "runtime.NumGoroutine") = false) {W : World} {args : Array Value}
  (hG:GlobsOk G W fun q=>q<W.heap.size) (ha:SRep W (fun q=>q<W.heap.size) I x args.toList []):Calls P f args W fun e W'=>e=.returned (.bool true)∧Below W.heap.size W W':=by
 have:=hS.calls x (by show (T x).isSome=true; rw [hT]; rfl) W (fun q=>q<W.heap.size) args.toList [] (fun q h=>h) hG ha List.nodup_nil (fun r h=>by simp at h)
 rw [Array.toArray_toList] at this
 have this:=this.resolve_right (fun ⟨v,hv,_⟩=>by rw [run_callFunc hcal] at hv; cases hv)
 refine this.2.mono fun e W' ⟨zs,rs',he,hb,_,_,hz⟩=>⟨?_,⟨hb.os,hb.tape,hb.output,hb.size,fun k hk=>hb.block k hk (fun h=>by simp at h)⟩⟩
 obtain ⟨y,ys,r1,r2,rfl,_,⟨_,h1⟩,rfl,_⟩:=hz
 have h2:[y]=[Value.bool ((T x).getD d).1]:=h1
 rw [hT] at h2
 cases h2
 exact he
theorem law_post {G:List (Nat×Sigma fun τ=>List (Den τ))} {f:FuncId} {fn:Func} {I:Sig} {T:DenS I→Option (DenS [(false,.bool)])} {d:DenS [(false,.bool)]} {s:ChangeSpec} {n:Nat} {tb:TypeId}
  (hS : Sound P G f (sumOf I [(false, .bool)] T d)) (hT : ∀ x, wfS I x → T x = some (true, ())) (hcal : ∃ fn, P.funcs[f]? = some fn ∧ fn.body.isNone = false ∧ (fn.name == "runtime.NumGoroutine") = false) (hlay : laidOutB P = true) (hfit : fitS P n fn.params.toList I = true)
  (hread:(fn.params.toList.all fun t=>P.readableRec t&&decide (t<P.types.size))=true) (hres:fn.resultTypes=#[tb]) (hbool:P.underlying tb=some .bool) (hvars:s.vars=[])
  (hspec:∀ ds:List (DataW H),ds.length=fn.params.toList.length→s.fn H ds={ results:=[.lit (.bool true)],args:=ds })
  {W:World} {base:Nat} {args:Array Value} {ds gs:List (DataW H)} {before:List MemPlace}
  (hval:∀ (j:Nat) (t:TypeId) (v:Value),fn.params[j]? = some t→args[j]? = some v→Value.okWide P W .any base t v)
  (hW:DataW.Whole enc P fn.params.toList s.vars false W args.toList ds gs before) (hG:GlobsOk G W fun q=>q<W.heap.size) :
  Calls P f args W fun e W'=>∃ v,e=.returned v∧ChangeSpec.post enc P fn s false true false false W args v W':=by
 have hW':=hW
 obtain ⟨p,q,hA,hV,rfl,_,_⟩:=hW
 rw [hvars] at hV
 obtain ⟨rfl,rfl⟩:=trodVars_none hV
 obtain ⟨x,hx,hw,hlen⟩:=args_ok (b0:=base) fn.params.toList I args.toList ds p hfit (fun j t v ht hv=>hval j t v (by simpa using ht) (by simpa using hv)) hA
 refine (returns_true hS (hT x hw) hcal hG hx).mono fun e W' ⟨he,hb⟩=>⟨.bool true,he,ds,[],p++[],[],p,[],hW',?_,?_,?_,hb.frame _,fun h=>by cases h⟩
 ·rw [List.append_nil,hspec ds hlen,hres]
  exact trodAll_mk1 (shut_bool hbool true)
 ·rw [List.append_nil,hspec ds hlen]
  exact trodAll_below hlay hb _ _ _ _ hread hA fun y hy=>by simpa using hW'.lt y (by simpa using hy)
 ·rw [List.append_nil,hspec ds hlen,hvars]
  rfl
end
theorem globs_nil {W:World} {S:Nat→Prop}:GlobsOk [] W S:=fun _ _ _ h=>by simp [findGlob] at h
theorem globs_cons {W:World} {S:Nat→Prop} {g:Nat} {τ:Shape} {xs:List (Den τ)} {G:List (Nat×Sigma fun τ=>List (Den τ))} (h:S g∧∃ vs T fz,W.heap[g]? = some (.cells vs T fz)∧Rows W S τ vs 0 xs) (r:GlobsOk G W S) :
  GlobsOk ((g,⟨τ,xs⟩)::G) W S:=fun g' τ' xs' hf=>by
 simp only [findGlob] at hf
 cases hb:Nat.beq g g' with
 | true =>
  have:=Nat.eq_of_beq_eq_true hb
  subst this
  rw [hb] at hf
  simp only [cond_true,Option.some.injEq] at hf
  cases hf
  exact h
 | false =>
  rw [hb] at hf
  exact r g' τ' xs' hf
end Vx
