/- Part 6 of the proof. What is proved: symbolic execution of the functions, proved sound; what each function of the program computes, and that every run ends with it; what these functions compute, in plain numbers. Conditions: each theorem bears its own. -/
import Derived.Test.YtkkidampbmfagaaGreatDoorVxG5
set_option linter.all false
set_option exponentiation.threshold 1000000
noncomputable section
namespace VL
open Go Vx
theorem aC3 {O:List Nat} {i v:Nat} (hi:i<O.length) (hv:O[i]? = some v):(O.take i++List.replicate (O.length-i) 0).set i v=O.take (i+1)++List.replicate (O.length-(i+1)) 0:=by
 have e:O.length-i=(O.length-(i+1))+1:=by omega
 have hl:(O.take i).length=i:=by simp; omega
 rw [e,List.replicate_succ,List.set_append_right _ _ (by omega),hl,Nat.sub_self,List.set_cons_zero]
 rw [List.take_succ,hv]
 simp
theorem aH5 {l:List Nat} {i v:Nat} (hi:i<l.length):(l.set i v).getD i 0=v:=by
 rw [List.getD_eq_getElem?_getD,List.getElem?_set_self hi]; rfl
theorem lU (l:List Nat) (w i:Nat):(l.drop w).getD i 0=l.getD (w+i) 0:=by
 rw [List.getD_eq_getElem?_getD,List.getD_eq_getElem?_getD,List.getElem?_drop]
theorem VR (n:Nat) (hn:n≤1000000000):BB .i64 (n:Int) 64=((n/64:Nat):Int):=by
 unfold BB
 have e:(n:Int).tdiv 64=((n/64:Nat):Int):=rfl
 rw [e,As (by omega)]
theorem aTY (l:List Nat) (hl:l.length≤1000000) (n:Nat) (hn:n≤l.length) (ht:(Ai l).length≤n) :
  lH (((),((n:Int),())),(Wd l,()))=some (.inl (((),(((Ai l).length:Int),())),(Wd l,()))):=by
 have key:=Df aAc (fun x=>x.1.2.1.toNat)
  (fun x=>∃ n:Nat,n≤l.length∧(Ai l).length≤n∧x=(((),((n:Int),())),(Wd l,())))
  (fun _=>.inl (((),(((Ai l).length:Int),())),(Wd l,()))) ?_ (((),((n:Int),())),(Wd l,())) ⟨n,hn,ht,rfl⟩
 ·exact key
 intro L x hx hL
 obtain ⟨n,hn,ht,rfl⟩:=hx
 unfold Tq
 rcases Nat.eq_zero_or_pos n with rfl | hpos
 ·have e1:decide (((0:Nat):Int)>0)=false:=rfl
  simp only [e1,Bool.not_false,Bool.or_true,cond_true,Bool.false_and,cond_false]
  have:(Ai l).length=0:=by omega
  rw [this]
 ·have e0:IntKind.wrap .i64 ((n:Int)-1)=((n-1:Nat):Int):=Eo n 1 (by omega) (by omega)
  have e1:decide ((n:Int)>0)=true:=by simp; omega
  have e2:(decide ((0:Int)≤((n-1:Nat):Int))&&decide (((n-1:Nat):Int)<((Wd l).length:Int)))=true:=by
   rw [Az]; simp; omega
  simp only [e0,e1,e2,Bool.true_or,cond_true,Bool.true_and,Int.toNat_natCast,Ca,Fo]
  cases hz:(l.getD (n-1) 0==0) with
  | true =>
   simp only [cond_true]
   refine hL _ ⟨n-1,by omega,?_,rfl⟩ (by simp only [Int.toNat_natCast]; omega)
   rcases Nat.lt_or_ge (n-1) (Ai l).length with h | h
   ·exfalso
    have e:n=(Ai l).length:=by omega
    have:=XC l (by omega)
    rw [← e] at this
    exact this (by simpa using hz)
   ·exact h
  | false =>
   simp only [cond_false]
   have:(Ai l).length=n:=by
    rcases Nat.lt_or_ge (n-1) (Ai l).length with h | h
    ·omega
    ·exfalso
     have:=uE l (n-1) h
     rw [this] at hz
     simp at hz
   rw [this]
theorem x7 (l:List Nat) (hl:l.length≤1000000):Xj (Wd l,())=some (Wd (Ai l),()):=by
 show kA lH (Wd l)=_
 unfold kA
 have h:=aTY l hl l.length (Nat.le_refl _) (DX l).1
 rw [Az]
 rw [h]
 have e:(decide ((0:Int)≤((Ai l).length:Int))&&decide (((Ai l).length:Int)≤((Wd l).length:Int)))=true:=by
  rw [Az]; have:=(DX l).1; simp; omega
 show (bif (decide ((0:Int)≤((Ai l).length:Int))&&decide (((Ai l).length:Int)≤((Wd l).length:Int))) then some (List.take (Int.toNat ((Ai l).length:Int)) (Wd l),()) else none)=_
 rw [e,cond_true,Int.toNat_natCast,aU]
 have:=(DX l).2
 rw [← this]
theorem aK9 (a:List Nat) (ha:∀ x∈a,x<2^64) (hlen:a.length≤1000000) (w s:Nat) (hs:s<64) (hw:w≤a.length) (i:Nat) (hi:i≤(a.drop w).length) :
  eN ((((a.drop w).length:Int),(Wd a,((w:Int),((s:Int),((i:Int),((),())))))),(Wd ((Bb s (a.drop w)).take i++List.replicate ((Bb s (a.drop w)).length-i) 0),()))=some (.inl (((),()),(Wd (Bb s (a.drop w)),()))):=by
 have key:=Df (yM Af.pre Af.F) (fun x=>(a.drop w).length-x.1.2.2.2.2.1.toNat)
  (fun x=>∃ i:Nat,i≤(a.drop w).length∧x=((((a.drop w).length:Int),(Wd a,((w:Int),((s:Int),((i:Int),((),())))))),(Wd ((Bb s (a.drop w)).take i++List.replicate ((Bb s (a.drop w)).length-i) 0),())))
  (fun _=>.inl (((),()),(Wd (Bb s (a.drop w)),()))) ?_ _ ⟨i,hi,rfl⟩
 ·exact key
 intro L x hx hL
 obtain ⟨i,hi,rfl⟩:=hx
 unfold Ui
 have hdl:(a.drop w).length=a.length-w:=by simp
 have hol:=Li s (a.drop w)
 rcases Nat.lt_or_ge i (a.drop w).length with hlt | hge
 ·have e1:decide ((i:Int)<((a.drop w).length:Int))=true:=by simp; omega
  have e2:IntKind.wrap .i64 ((w:Int)+(i:Int))=((w+i:Nat):Int):=by rw [As (by omega)]; omega
  have e3:(decide ((0:Int)≤((w+i:Nat):Int))&&decide (((w+i:Nat):Int)<((Wd a).length:Int)))=true:=by
   rw [Az]; simp only [Bool.and_eq_true,decide_eq_true_eq]; omega
  have e4:decide ((0:Int)≤(s:Int))=true:=by simp
  have houtl:((Bb s (a.drop w)).take i++List.replicate ((Bb s (a.drop w)).length-i) 0).length=(a.drop w).length:=by simp; omega
  generalize hout:(Bb s (a.drop w)).take i++List.replicate ((Bb s (a.drop w)).length-i) 0=out at houtl ⊢
  have e5:(decide ((0:Int)≤(i:Int))&&decide ((i:Int)<((Wd out).length:Int)))=true:=by
   rw [Az]; simp only [Bool.and_eq_true,decide_eq_true_eq]; omega
  have e6:IntKind.wrap .i64 (((w+i:Nat):Int)+1)=((w+i+1:Nat):Int):=by rw [As (by omega)]; omega
  have e7:IntKind.wrap .i64 ((i:Int)+1)=((i+1:Nat):Int):=by rw [As (by omega)]; omega
  have e8:IntKind.wrap .i64 (64-(s:Int))=((64-s:Nat):Int):=Eo 64 s (by omega) (by omega)
  have hx:=Cm (by decide) ha (w+i)
  have hget:=Zh s (a.drop w) i hlt
  rw [lU,lU,← Nat.add_assoc] at hget
  have hnext:=fun v (hv:(Bb s (a.drop w))[i]? = some v)=>aC3 (by omega) hv
  rw [hout] at hnext
  have e9:∀ v:Nat,(decide ((0:Int)≤(i:Int))&&decide ((i:Int)<((Wd (out.set i v)).length:Int)))=true:=fun v=>by
   rw [Az,List.length_set]; simp only [Bool.and_eq_true,decide_eq_true_eq]; omega
  simp only [e1,e2,e3,e4,e5,e6,e7,e8,cond_true,Int.toNat_natCast,Ca,Dq _ s (by omega),Ef,e9]
  rcases Nat.lt_or_ge (w+i+1) a.length with h1 | h1
  ·have f1:decide (((w+i+1:Nat):Int)<((Wd a).length:Int))=true:=by rw [Az]; exact decide_eq_true (by omega)
   have f2:decide ((0:Int)≤((w+i+1:Nat):Int))=true:=decide_eq_true (by omega)
   have f3:decide ((0:Int)≤((64-s:Nat):Int))=true:=decide_eq_true (by omega)
   simp only [f1,f2,f3,Bool.and_self,cond_true]
   have hw2:=gI (s:=s) (y:=a.getD (w+i+1) 0) (by omega) hx
   have g1:a.getD (w+i+1) 0*2^(64-s)%2^64=(a.getD (w+i+1) 0%2^s)*2^(64-s):=by
    rw [T3 (s:=s) (by omega),Nat.mul_mod_mul_right]
   rw [aH5 (by omega),Eg _ _ (by omega),g1,Fk hw2.1 hw2.2,Ef,List.set_set,hnext _ hget]
   exact hL _ ⟨i+1,by omega,rfl⟩ (by simp only [Int.toNat_natCast]; omega)
  ·have f1:decide (((w+i+1:Nat):Int)<((Wd a).length:Int))=false:=by rw [Az]; exact decide_eq_false (by omega)
   have hz:a.getD (w+i+1) 0=0:=by rw [List.getD_eq_getElem?_getD,List.getElem?_eq_none h1]; rfl
   rw [hz,Nat.zero_mod,Nat.zero_mul,Nat.add_zero] at hget
   simp only [f1,cond_false]
   rw [hnext _ hget]
   exact hL _ ⟨i+1,by omega,rfl⟩ (by simp only [Int.toNat_natCast]; omega)
 ·have hie:i=(a.drop w).length:=by omega
  subst hie
  have e1:decide (((a.drop w).length:Int)<((a.drop w).length:Int))=false:=by simp
  simp only [e1,cond_false]
  have:(Bb s (a.drop w)).take (a.drop w).length++List.replicate ((Bb s (a.drop w)).length-(a.drop w).length) 0=Bb s (a.drop w):=by
   rw [← hol,List.take_length,Nat.sub_self,List.replicate_zero,List.append_nil]
  rw [this]
theorem aEz (l:List Nat) (hl:Ws l) (n:Nat) (hn:n≤100000000):TW (Wd l,(n:Int),())=some (Wd (dg (2^64) (nv (2^64) l/2^n)),()):=by
 obtain ⟨h,hlen⟩:=hl
 show jG Af.pre Af.F eN (Wd l) n=_
 unfold jG
 have p0:=DU l hlen
 have hB:2≤2^64:=by decide
 have hle:=(DX l).1
 have hm:∀ x∈Ai l,x<2^64:=fun x hx=>h x (Sm hx)
 have hv:=Jn hB h
 have hsplit:2^n=(2^64)^(n/64)*2^(n%64):=by rw [Cr,← Nat.pow_add]; congr 1; omega
 simp only [CV p0,CT p0,cond_true,Az,VR n (by omega)]
 rcases Nat.lt_or_ge (n/64) (Ai l).length with h1 | h1
 ·have e1:decide (((n/64:Nat):Int)≥((Ai l).length:Int))=false:=by simp; omega
  have e2:IntKind.wrap .i64 (((Ai l).length:Int)-((n/64:Nat):Int))=(((Ai l).drop (n/64)).length:Int):=by
   rw [Eo _ _ (by omega) (by omega)]; simp
  have hdl:((Ai l).drop (n/64)).length≤1000000:=by simp; omega
  have e3:(decide ((0:Int)≤(((Ai l).drop (n/64)).length:Int))&&decide ((((Ai l).drop (n/64)).length:Int)*8≤140737488355328))=true:=by
   simp only [Bool.and_eq_true,decide_eq_true_eq]; omega
  have e4:Int.tmod (n:Int) 64=((n%64:Nat):Int):=rfl
  have hw:=aK9 (Ai l) hm (by omega) (n/64) (n%64) (Nat.mod_lt _ (by decide)) (by omega) 0 (Nat.zero_le _)
  rw [List.take_zero,List.nil_append,Nat.sub_zero,Li] at hw
  rw [e1,e2,e3,cond_false,cond_true,Int.toNat_natCast,e4,SE,Az,List.length_replicate]
  rw [show ((0:Nat):Int)=0 from rfl] at hw
  rw [hw]
  have hos:∀ x∈Bb (n%64) ((Ai l).drop (n/64)),x<2^64:=fun x hx=>by
   obtain ⟨i,hi⟩:=List.getElem?_of_mem hx
   have hil:i<((Ai l).drop (n/64)).length:=by rw [← Li (n%64)]; exact (List.getElem?_eq_some_iff.1 hi).1
   rw [Zh _ _ i hil] at hi
   cases hi
   exact (gI (s:=n%64) (by omega) (Cm (by decide) (fun y hy=>hm y (List.mem_of_mem_drop hy)) i)).2
  have p1:=DU (Bb (n%64) ((Ai l).drop (n/64))) (by rw [Li]; exact hdl)
  show (bif Af.pre (Wd (Bb (n%64) ((Ai l).drop (n/64))),()) then some (Af.F (Wd (Bb (n%64) ((Ai l).drop (n/64))),())) else none)=_
  rw [CV p1,CT p1,cond_true,Hj hB _ hos,wR (by omega)]
  have hd:nv (2^64) ((Ai l).drop (n/64))=nv (2^64) l/(2^64)^(n/64):=by
   rw [← hv,Lb _ (Ai l) (n/64) (by omega)]
   have hlow:=DM hB ((Ai l).take (n/64)) fun x hx=>hm x (List.mem_of_mem_take hx)
   rw [List.length_take,Nat.min_eq_left (by omega)] at hlow
   rw [Nat.add_mul_div_left _ _ (Nat.pow_pos (by decide)),Nat.div_eq_of_lt hlow,Nat.zero_add]
  rw [hd,Nat.div_div_eq_div_mul,← hsplit]
  rfl
 ·have e1:decide (((n/64:Nat):Int)≥((Ai l).length:Int))=true:=by simp; omega
  rw [e1,cond_true]
  have hz:nv (2^64) l/2^n=0:=by
   rw [← hv]
   have:=DM hB (Ai l) hm
   apply Nat.div_eq_of_lt
   refine Nat.lt_of_lt_of_le this ?_
   rw [Cr]
   exact Nat.pow_le_pow_right (by decide) (by omega)
  rw [hz,Eq]; rfl
theorem aQ9 (a:List Nat) (ha:∀ x∈a,x<2^64) (hlen:a.length≤1000000) (w s:Nat) (hs:s<64) (hw:w≤a.length) (i:Nat) (hi:i≤(a.drop w).length) :
  lI ((((a.drop w).length:Int),(Wd a,((w:Int),((s:Int),((i:Int),((),())))))),(Wd ((Bb s (a.drop w)).take i++List.replicate ((Bb s (a.drop w)).length-i) 0),()))=some (.inl (((),()),(Wd (Bb s (a.drop w)),()))):=by
 have key:=Df (xL Cc.pre Cc.F Af.pre Af.F) (fun x=>(a.drop w).length-x.1.2.2.2.2.1.toNat)
  (fun x=>∃ i:Nat,i≤(a.drop w).length∧x=((((a.drop w).length:Int),(Wd a,((w:Int),((s:Int),((i:Int),((),())))))),(Wd ((Bb s (a.drop w)).take i++List.replicate ((Bb s (a.drop w)).length-i) 0),())))
  (fun _=>.inl (((),()),(Wd (Bb s (a.drop w)),()))) ?_ _ ⟨i,hi,rfl⟩
 ·exact key
 intro L x hx hL
 obtain ⟨i,hi,rfl⟩:=hx
 unfold TS
 have hdl:(a.drop w).length=a.length-w:=by simp
 have hol:=Li s (a.drop w)
 rcases Nat.lt_or_ge i (a.drop w).length with hlt | hge
 ·have e1:decide ((i:Int)<((a.drop w).length:Int))=true:=by simp; omega
  have e2:IntKind.wrap .i64 ((w:Int)+(i:Int))=((w+i:Nat):Int):=by rw [As (by omega)]; omega
  have e3:(decide ((0:Int)≤((w+i:Nat):Int))&&decide (((w+i:Nat):Int)<((Wd a).length:Int)))=true:=by
   rw [Az]; simp only [Bool.and_eq_true,decide_eq_true_eq]; omega
  have e4:decide ((0:Int)≤(s:Int))=true:=by simp
  have houtl:((Bb s (a.drop w)).take i++List.replicate ((Bb s (a.drop w)).length-i) 0).length=(a.drop w).length:=by simp; omega
  generalize hout:(Bb s (a.drop w)).take i++List.replicate ((Bb s (a.drop w)).length-i) 0=out at houtl ⊢
  have e5:(decide ((0:Int)≤(i:Int))&&decide ((i:Int)<((Wd out).length:Int)))=true:=by
   rw [Az]; simp only [Bool.and_eq_true,decide_eq_true_eq]; omega
  have e6:IntKind.wrap .i64 (((w+i:Nat):Int)+1)=((w+i+1:Nat):Int):=by rw [As (by omega)]; omega
  have e7:IntKind.wrap .i64 ((i:Int)+1)=((i+1:Nat):Int):=by rw [As (by omega)]; omega
  have e8:IntKind.wrap .i64 (64-(s:Int))=((64-s:Nat):Int):=Eo 64 s (by omega) (by omega)
  have hx:=Cm (by decide) ha (w+i)
  have hget:=Zh s (a.drop w) i hlt
  rw [lU,lU,← Nat.add_assoc] at hget
  have hnext:=fun v (hv:(Bb s (a.drop w))[i]? = some v)=>aC3 (by omega) hv
  rw [hout] at hnext
  have e9:∀ v:Nat,(decide ((0:Int)≤(i:Int))&&decide ((i:Int)<((Wd (out.set i v)).length:Int)))=true:=fun v=>by
   rw [Az,List.length_set]; simp only [Bool.and_eq_true,decide_eq_true_eq]; omega
  simp only [e1,e2,e3,e4,e5,e6,e7,e8,cond_true,Int.toNat_natCast,Ca,Dq _ s (by omega),Ef,e9]
  rcases Nat.lt_or_ge (w+i+1) a.length with h1 | h1
  ·have f1:decide (((w+i+1:Nat):Int)<((Wd a).length:Int))=true:=by rw [Az]; exact decide_eq_true (by omega)
   have f2:decide ((0:Int)≤((w+i+1:Nat):Int))=true:=decide_eq_true (by omega)
   have f3:decide ((0:Int)≤((64-s:Nat):Int))=true:=decide_eq_true (by omega)
   simp only [f1,f2,f3,Bool.and_self,cond_true]
   have hw2:=gI (s:=s) (y:=a.getD (w+i+1) 0) (by omega) hx
   have g1:a.getD (w+i+1) 0*2^(64-s)%2^64=(a.getD (w+i+1) 0%2^s)*2^(64-s):=by
    rw [T3 (s:=s) (by omega),Nat.mul_mod_mul_right]
   rw [aH5 (by omega),Eg _ _ (by omega),g1,Fk hw2.1 hw2.2,Ef,List.set_set,hnext _ hget]
   exact hL _ ⟨i+1,by omega,rfl⟩ (by simp only [Int.toNat_natCast]; omega)
  ·have f1:decide (((w+i+1:Nat):Int)<((Wd a).length:Int))=false:=by rw [Az]; exact decide_eq_false (by omega)
   have hz:a.getD (w+i+1) 0=0:=by rw [List.getD_eq_getElem?_getD,List.getElem?_eq_none h1]; rfl
   rw [hz,Nat.zero_mod,Nat.zero_mul,Nat.add_zero] at hget
   simp only [f1,cond_false]
   rw [hnext _ hget]
   exact hL _ ⟨i+1,by omega,rfl⟩ (by simp only [Int.toNat_natCast]; omega)
 ·have hie:i=(a.drop w).length:=by omega
  subst hie
  have e1:decide (((a.drop w).length:Int)<((a.drop w).length:Int))=false:=by simp
  simp only [e1,cond_false]
  have:(Bb s (a.drop w)).take (a.drop w).length++List.replicate ((Bb s (a.drop w)).length-(a.drop w).length) 0=Bb s (a.drop w):=by
   rw [← hol,List.take_length,Nat.sub_self,List.replicate_zero,List.append_nil]
  rw [this]
theorem aSg (l:List Nat) (hl:Ws l) (n:Nat) (hn:n≤100000000):WO (Wd l,(n:Int),())=some (Wd (dg (2^64) (nv (2^64) l/2^n)),()):=by
 obtain ⟨h,hlen⟩:=hl
 show fH Cc.pre Cc.F Af.pre Af.F lI (Wd l) n=_
 unfold fH
 have p0:=DU l hlen
 have hB:2≤2^64:=by decide
 have hle:=(DX l).1
 have hm:∀ x∈Ai l,x<2^64:=fun x hx=>h x (Sm hx)
 have hv:=Jn hB h
 have hsplit:2^n=(2^64)^(n/64)*2^(n%64):=by rw [Cr,← Nat.pow_add]; congr 1; omega
 simp only [CV p0,CT p0,cond_true,Az,VR n (by omega)]
 rcases Nat.lt_or_ge (n/64) (Ai l).length with h1 | h1
 ·have e1:decide (((n/64:Nat):Int)≥((Ai l).length:Int))=false:=by simp; omega
  have e2:IntKind.wrap .i64 (((Ai l).length:Int)-((n/64:Nat):Int))=(((Ai l).drop (n/64)).length:Int):=by
   rw [Eo _ _ (by omega) (by omega)]; simp
  have hdl:((Ai l).drop (n/64)).length≤1000000:=by simp; omega
  have e3:(decide ((0:Int)≤(((Ai l).drop (n/64)).length:Int))&&decide ((((Ai l).drop (n/64)).length:Int)*8≤140737488355328))=true:=by
   simp only [Bool.and_eq_true,decide_eq_true_eq]; omega
  have e4:Int.tmod (n:Int) 64=((n%64:Nat):Int):=rfl
  have hw:=aQ9 (Ai l) hm (by omega) (n/64) (n%64) (Nat.mod_lt _ (by decide)) (by omega) 0 (Nat.zero_le _)
  rw [List.take_zero,List.nil_append,Nat.sub_zero,Li] at hw
  rw [e1,e2,e3,cond_false,cond_true,Int.toNat_natCast,e4,SE,Az,List.length_replicate]
  rw [show ((0:Nat):Int)=0 from rfl] at hw
  rw [hw]
  have hos:∀ x∈Bb (n%64) ((Ai l).drop (n/64)),x<2^64:=fun x hx=>by
   obtain ⟨i,hi⟩:=List.getElem?_of_mem hx
   have hil:i<((Ai l).drop (n/64)).length:=by rw [← Li (n%64)]; exact (List.getElem?_eq_some_iff.1 hi).1
   rw [Zh _ _ i hil] at hi
   cases hi
   exact (gI (s:=n%64) (by omega) (Cm (by decide) (fun y hy=>hm y (List.mem_of_mem_drop hy)) i)).2
  have p1:=x7 (Bb (n%64) ((Ai l).drop (n/64))) (by rw [Li]; exact hdl)
  show (bif Cc.pre (Wd (Bb (n%64) ((Ai l).drop (n/64))),()) then some (Cc.F (Wd (Bb (n%64) ((Ai l).drop (n/64))),())) else none)=_
  rw [aGi p1,aFK p1,cond_true,Hj hB _ hos,wR (by omega)]
  have hd:nv (2^64) ((Ai l).drop (n/64))=nv (2^64) l/(2^64)^(n/64):=by
   rw [← hv,Lb _ (Ai l) (n/64) (by omega)]
   have hlow:=DM hB ((Ai l).take (n/64)) fun x hx=>hm x (List.mem_of_mem_take hx)
   rw [List.length_take,Nat.min_eq_left (by omega)] at hlow
   rw [Nat.add_mul_div_left _ _ (Nat.pow_pos (by decide)),Nat.div_eq_of_lt hlow,Nat.zero_add]
  rw [hd,Nat.div_div_eq_div_mul,← hsplit]
  rfl
 ·have e1:decide (((n/64:Nat):Int)≥((Ai l).length:Int))=true:=by simp; omega
  rw [e1,cond_true]
  have hz:nv (2^64) l/2^n=0:=by
   rw [← hv]
   have:=DM hB (Ai l) hm
   apply Nat.div_eq_of_lt
   refine Nat.lt_of_lt_of_le this ?_
   rw [Cr]
   exact Nat.pow_le_pow_right (by decide) (by omega)
  rw [hz,Eq]; rfl
end VL
namespace VL
open Go Vx
theorem BU (a b:Nat) (h:a+b<2^62):IntKind.wrap .i64 ((a:Int)+(b:Int))=((a+b:Nat):Int):=by rw [As (by omega)]; omega
theorem BL (a:Nat) (h:a<2^62):IntKind.wrap .i64 ((a:Int)+1)=((a+1:Nat):Int):=by rw [As (by omega)]; omega
theorem BS (a:Nat) (h:a<2^56):IntKind.wrap .i64 (64*(a:Int))=((64*a:Nat):Int):=by rw [As (by omega)]; omega
theorem B0 (a:Nat) (h:a<2^56):IntKind.wrap .i64 ((a:Int)*64)=((64*a:Nat):Int):=by rw [As (by omega)]; omega
theorem Bz (m n:Nat) (h:n≤m∧m<2^62):IntKind.wrap .i64 ((m:Int)-(n:Int))=((m-n:Nat):Int):=by rw [As (by omega)]; omega
theorem Bn (m:Nat) (h:1≤m∧m<2^62):IntKind.wrap .i64 ((m:Int)-1)=((m-1:Nat):Int):=by rw [As (by omega)]; omega
theorem BJ (a b:Nat) (h:a<b):decide ((a:Int)<(b:Int))=true:=decide_eq_true (by omega)
theorem BO (a b:Nat) (h:b≤a):decide ((a:Int)<(b:Int))=false:=decide_eq_false (by omega)
theorem B5 (a b:Nat) (h:a≤b):decide ((a:Int)≤(b:Int))=true:=decide_eq_true (by omega)
theorem BT (a b:Nat) (h:b<a):decide ((a:Int)≤(b:Int))=false:=decide_eq_false (by omega)
theorem BX (a b:Nat) (h:b<a):decide ((a:Int)>(b:Int))=true:=decide_eq_true (by omega)
theorem B8 (a b:Nat) (h:a≤b):decide ((a:Int)>(b:Int))=false:=decide_eq_false (by omega)
theorem B4 (a b:Nat) (h:b≤a):decide ((a:Int)≥(b:Int))=true:=decide_eq_true (by omega)
theorem B6 (a b:Nat) (h:a<b):decide ((a:Int)≥(b:Int))=false:=decide_eq_false (by omega)
theorem BY (a:Nat) (h:0<a):decide ((0:Int)<(a:Int))=true:=decide_eq_true (by omega)
theorem BZ (a:Nat) (h:a=0):decide ((0:Int)<(a:Int))=false:=decide_eq_false (by omega)
theorem BV (a:Nat) (h:0<a):decide ((a:Int)>0)=true:=decide_eq_true (by omega)
theorem BF (a:Nat) (h:a=0):decide ((a:Int)>0)=false:=decide_eq_false (by omega)
theorem sS (a:Nat):decide ((a:Int)<0)=false:=decide_eq_false (by omega)
theorem Bx (a:Nat) (h:a=0):((a:Int)==0)=true:=by rw [Fo]; simp [h]
theorem AS (a:Nat) (h:a≠0):((a:Int)==0)=false:=by rw [Fo]; simp [h]
theorem Bg (a:Nat) (h:a≠0):((a:Int) != 0)=true:=by rw [Uk]; simp [h]
theorem BH (a:Nat) (h:a=0):((a:Int) != 0)=false:=by rw [Uk]; simp [h]
def pd (B:Nat):Nat→Nat→List Nat
 | 0,_=>[]
 | k+1,v=>v%B::pd B k (v/B)
theorem EU (B:Nat):∀ k v,(pd B k v).length=k
 | 0,_=>rfl
 | k+1,v=>by simp [pd,EU B k]
theorem RB {B:Nat} (hB:0<B):∀ k v,∀ x∈pd B k v,x<B
 | 0,_,x,hx=>by simp [pd] at hx
 | k+1,v,x,hx=>by
  simp only [pd,List.mem_cons] at hx
  rcases hx with rfl | hx
  ·exact Nat.mod_lt _ hB
  ·exact RB hB k _ x hx
theorem aB2 {B:Nat} (hB:0<B):∀ (l:List Nat),(∀ x∈l,x<B)→l=pd B l.length (nv B l)
 | [],_=>rfl
 | x::r,h=>by
  have hx:=h x (by simp)
  simp only [List.length_cons,pd,nv]
  rw [Nat.add_mul_mod_self_left,Nat.mod_eq_of_lt hx,Nat.add_mul_div_left _ _ hB,Nat.div_eq_of_lt hx,Nat.zero_add,← aB2 hB r fun y hy=>h y (by simp [hy])]
theorem fJ {B:Nat} (hB:0<B) {l:List Nat} {k v:Nat} (h:∀ x∈l,x<B) (hl:l.length=k) (hv:nv B l=v):l=pd B k v:=by
 have:=aB2 hB l h
 rw [hl,hv] at this
 exact this
theorem RS {B:Nat} (hB:0<B):∀ k v,v<B^k→nv B (pd B k v)=v
 | 0,v,h=>by simp at h; subst h; rfl
 | k+1,v,h=>by
  simp only [pd,nv]
  rw [RS hB k (v/B) (by rw [Nat.div_lt_iff_lt_mul hB,← Nat.pow_succ]; exact h)]
  exact Nat.mod_add_div v B
theorem Xo (B:Nat):∀ k v i,i<k→(pd B k v).getD i 0=v/B^i%B
 | 0,_,_,h=>by omega
 | k+1,v,0,_=>by simp [pd]
 | k+1,v,i+1,h=>by
  simp only [pd,List.getD_cons_succ]
  rw [Xo B k (v/B) i (by omega),Nat.div_div_eq_div_mul,← Nat.pow_succ']
theorem pX (B:Nat):∀ k,pd B k 0=List.replicate k 0
 | 0=>rfl
 | k+1=>by simp [pd,pX B k,List.replicate_succ]
theorem WG (B:Nat):∀ (l:List Nat) (i x:Nat),i<l.length→nv B (l.set i x)+B^i*l.getD i 0=nv B l+B^i*x
 | [],_,_,h=>by simp at h
 | y::r,0,x,_=>by simp [nv]; omega
 | y::r,i+1,x,h=>by
  have:=WG B r i x (by simpa using h)
  simp only [List.set_cons_succ,nv,List.getD_cons_succ,Nat.pow_succ']
  rw [Nat.mul_assoc,Nat.mul_assoc,Nat.add_assoc,Nat.add_assoc,← Nat.mul_add,← Nat.mul_add,this]
theorem aGj {B:Nat} {l:List Nat} (h:∀ x∈l,x<B) {i v:Nat} (hv:v<B):∀ x∈l.set i v,x<B:=fun x hx=>by
 rcases List.mem_or_eq_of_mem_set hx with h1 | h1
 ·exact h x h1
 ·rw [h1]; exact hv
theorem Ox {B:Nat} (hB:2≤B) (n:Nat):Ai (dg B n)=dg B n:=by
 rw [Hj hB _ (FT hB n),lD hB]
theorem Xy (B:Nat) (l:List Nat) (i:Nat) (h:i<l.length):nv B (l.take (i+1))=nv B (l.take i)+B^i*l.getD i 0:=by
 have hs:=Lb B (l.take (i+1)) i (by simp; omega)
 rw [hs,List.take_take,Nat.min_eq_left (by omega)]
 congr 2
 rw [List.drop_take,Nat.add_sub_cancel_left,List.getD_eq_getElem?_getD]
 rw [List.drop_eq_getElem_cons h,List.getElem?_eq_getElem h]
 show l[i]+B*0=l[i]
 rw [Nat.mul_zero,Nat.add_zero]
theorem oV {x:Nat} (h:0<x):∃ t k,x=2^t*(2*k+1):=by
 induction x using Nat.strongRecOn with
 | ind x ih =>
  rcases Nat.mod_two_eq_zero_or_one x with h0 | h1
  ·obtain ⟨t,k,e⟩:=ih (x/2) (by omega) (by omega)
   refine ⟨t+1,k,?_⟩
   rw [Nat.pow_succ,Nat.mul_comm (2^t) 2,Nat.mul_assoc,← e]
   omega
  ·exact ⟨0,x/2,by simp; omega⟩
theorem aSI {t k n:Nat}:(2^t*(2*k+1))%2^n=0↔n≤t:=by
 constructor
 ·intro h
  rcases Nat.lt_or_ge t n with hlt | hge
  ·exfalso
   have e:n=t+(n-t-1)+1:=by omega
   rw [e,Nat.add_assoc,Nat.pow_add,Nat.mul_mod_mul_left,Nat.pow_succ] at h
   have hp:=Nat.two_pow_pos t
   have h2:(2*k+1)%(2^(n-t-1)*2)=0:=by
    rcases Nat.mul_eq_zero.1 h with h | h
    ·omega
    ·exact h
   have:(2*k+1)%2=0:=by
    have:=Nat.mod_mod_of_dvd (2*k+1) (show 2 ∣ 2^(n-t-1)*2 from ⟨_,Nat.mul_comm _ _⟩)
    rw [h2] at this
    omega
   omega
  ·exact hge
 ·intro h
  have e:t=n+(t-n):=by omega
  rw [e,Nat.pow_add,Nat.mul_assoc]
  exact Nat.mul_mod_right _ _
theorem aM4 {t k:Nat} (h:2^t*(2*k+1)<2^64):2^t*(2*k+1) &&& (2^64-2^t*(2*k+1))=2^t:=by
 have hp:=Nat.two_pow_pos t
 have ht:t<64:=by
  have:2^t*1≤2^t*(2*k+1):=Nat.mul_le_mul_left _ (by omega)
  exact (Nat.pow_lt_pow_iff_right (a:=2) (by decide)).1 (by omega)
 have hz:2^t*(2*k)+(2^t-1)+1=2^t*(2*k+1):=by rw [Nat.mul_add,Nat.mul_one]; omega
 have hb:∀ i,(2^64-2^t*(2*k+1)).testBit i=(decide (i<64)&&!(2^t*(2*k)+(2^t-1)).testBit i):=fun i=>by
  rw [← hz,Nat.testBit_two_pow_sub_succ (by omega)]
 apply Nat.eq_of_testBit_eq
 intro i
 rw [Nat.testBit_and,hb,Nat.testBit_two_pow]
 have h1:(2^t*(2*k+1)).testBit i=(decide (t≤i)&&(2*k+1).testBit (i-t)):=by
  have:=Nat.testBit_two_pow_mul_add (2*k+1) hp i
  rw [Nat.add_zero] at this
  rw [this]
  by_cases hi:i<t
  ·simp [hi]; omega
  ·simp [hi]; omega
 rw [h1,Nat.testBit_two_pow_mul_add (2*k) (show 2^t-1<2^t by omega) i]
 rcases Nat.lt_trichotomy i t with hi | hi | hi
 ·simp [show ¬ t≤i by omega,show ¬ t=i by omega]
 ·subst hi
  simp [ht]
 ·have e:i-t=(i-t-1)+1:=by omega
  simp only [show ¬ i<t by omega,if_false,show ¬ t=i by omega,decide_false]
  rw [e,Nat.testBit_succ,Nat.testBit_succ,show (2*k+1)/2=k by omega,show 2*k/2=k by omega]
  cases k.testBit (i-t-1) <;> simp
theorem aCA {a b:Nat} (ha:a<2^64) (hb:b<2^64):A8 .u64 (a:Int) (b:Int)=((a &&& b:Nat):Int):=by
 have key:(BitVec.ofInt 64 (a:Int) &&& BitVec.ofInt 64 (b:Int)).toNat=a &&& b:=by
  rw [BitVec.toNat_and,GD ha,GD hb]
 show IntKind.u64.wrap (((BitVec.ofInt 64 (a:Int) &&& BitVec.ofInt 64 (b:Int)).toNat:Nat):Int)=_
 rw [key]
 have:=Nat.and_le_left (n:=a) (m:=b)
 exact Ee (by omega)
theorem SU {a b:Nat} (ha:a<2^64) (hb:b<2^64):A9 .u64 (a:Int) (b:Int)=((a ||| b:Nat):Int):=by
 have key:(BitVec.ofInt 64 (a:Int) ||| BitVec.ofInt 64 (b:Int)).toNat=a ||| b:=by
  rw [BitVec.toNat_or,GD ha,GD hb]
 show IntKind.u64.wrap (((BitVec.ofInt 64 (a:Int) ||| BitVec.ofInt 64 (b:Int)).toNat:Nat):Int)=_
 rw [key]
 have:=Nat.or_lt_two_pow ha hb
 exact Ee (by omega)
theorem deb:∀ t:Nat,t<64→IntKind.wrap .i64 (k_deb.getD (2^t*285870213051353865%2^64/2^58) 0)=(t:Int):=by
 have h:((List.range 64).all fun t=>decide (IntKind.wrap .i64 (k_deb.getD (2^t*285870213051353865%2^64/2^58) (0:Int))=(t:Int)))=true:=by decide +kernel
 intro t ht
 have:=List.all_eq_true.1 h t (List.mem_range.2 ht)
 simpa using this
theorem lA {t k:Nat} (h:2^t*(2*k+1)<2^64):Wp (((2^t*(2*k+1):Nat):Int),())=some ((t:Int),()):=by
 have hp:=Nat.two_pow_pos t
 have h1:2^t*1≤2^t*(2*k+1):=Nat.mul_le_mul_left _ (by omega)
 have ht:t<64:=(Nat.pow_lt_pow_iff_right (a:=2) (by decide)).1 (by omega)
 have han:=aM4 h
 show bW ((2^t*(2*k+1):Nat):Int)=_
 generalize hx:2^t*(2*k+1)=x at *
 unfold bW
 try dsimp only
 have e1:IntKind.wrap .u64 ((0:Int)-(x:Int))=((2^64-x:Nat):Int):=by
  have:∀ y:Int,IntKind.wrap .u64 y=y%18446744073709551616:=fun y=>by
   simp [IntKind.wrap,IntKind.bits,IntKind.signed]
  rw [this]; omega
 have e2:IntKind.wrap .u64 (((2^t:Nat):Int)*285870213051353865)=((2^t*285870213051353865%2^64:Nat):Int):=JV (2^t*285870213051353865)
 have e3:AH .u64 ((2^t*285870213051353865%2^64:Nat):Int) 58=((2^t*285870213051353865%2^64/2^58:Nat):Int):=Dq _ 58 (by decide)
 have e4:2^t*285870213051353865%2^64/2^58<64:=by omega
 have e5:(decide ((0:Int)≤((2^t*285870213051353865%2^64/2^58:Nat):Int))&&decide (((2^t*285870213051353865%2^64/2^58:Nat):Int)<(64:Nat)))=true:=by
  rw [decide_eq_true (by omega),decide_eq_true (by omega)]; rfl
 rw [e1,aCA h (by omega),han,e2,e3,e5,aAF,cond_true,AS x (by omega),cond_false,Int.toNat_natCast,deb t ht]
end VL
namespace VL
open Go Vx
def Dw (n:Nat):List Int:=Wd (dg (2^64) n)
theorem aHB (n:Nat) (h:(dg (2^64) n).length≤1000000):Ws (dg (2^64) n):=⟨FT (by decide) n,h⟩
theorem CR {B:Nat} (hB:2≤B):∀ (k n:Nat),n<B^k→(dg B n).length≤k
 | 0,n,h=>by simp at h; subst h; rw [Eq]; simp
 | k+1,n,h=>by
  rcases Nat.eq_zero_or_pos n with rfl | hn
  ·rw [Eq]; simp
  ·rw [F9 hB hn]
   have:=CR hB k (n/B) (by rw [Nat.div_lt_iff_lt_mul (by omega),← Nat.pow_succ]; exact h)
   simp; omega
theorem Sf {B:Nat} (hB:2≤B) (n:Nat):n<B^(dg B n).length:=by
 have:=DM hB _ (FT hB n)
 rwa [lD hB] at this
theorem aLP {x i t k r n:Nat} (hx:x=2^t*(2*k+1)) (ht:t<64):((2^64)^i*(x+2^64*r))%2^n=0↔n≤64*i+t:=by
 have e:(2^64)^i*(x+2^64*r)=2^(64*i+t)*(2*(k+2^(64-t-1)*r)+1):=by
  have h1:2^64=2^t*(2^(64-t-1)*2):=by rw [← Nat.pow_succ,← Nat.pow_add]; congr 1; omega
  rw [Cr,hx,Nat.pow_add,Nat.mul_assoc]
  congr 1
  rw [h1,Nat.mul_assoc,← Nat.mul_add]
  congr 1
  rw [Nat.mul_assoc,Nat.mul_left_comm]
  omega
 rw [e]
 exact aSI
theorem aUW (a:List Nat) (ha:∀ x∈a,x<2^64) (hlen:a.length≤1000000) (n:Nat) (hn:n≤1000000000) (i:Nat) (hi:i≤a.length) (hz:nv (2^64) (a.take i)=0) :
  cX (((a.length:Int),(Wd a,((n:Int),((i:Int),())))),())=some (if nv (2^64) a=0 then .inl ((),()) else .inr ((decide (nv (2^64) a%2^n=0),()),())):=by
 have key:=Df (yU Af.pre Af.F BI.pre BI.F) (fun x=>a.length-x.1.2.2.2.1.toNat)
  (fun x=>∃ i:Nat,i≤a.length∧nv (2^64) (a.take i)=0∧x=(((a.length:Int),(Wd a,((n:Int),((i:Int),())))),()))
  (fun _=>if nv (2^64) a=0 then .inl ((),()) else .inr ((decide (nv (2^64) a%2^n=0),()),())) ?_ _ ⟨i,hi,hz,rfl⟩
 ·exact key
 intro L x hx hL
 obtain ⟨i,hi,hz,rfl⟩:=hx
 unfold Tl
 rcases Nat.lt_or_ge i a.length with hlt | hge
 ·simp (disch:=omega) only [BU,BL,BS,Bz,Bn,B0,BJ,BO,B5,BT,BX,B8,B4,B6,BY,BZ,BV,BF,AU,Bx,AS,Bg,BH,Int.toNat_natCast,Int.toNat_zero,cond_true,cond_false,Bool.and_self,Bool.true_and,Bool.and_true,Bool.false_and,Bool.and_false,Bool.not_true,Bool.not_false,Bool.or_self,Bool.true_or,Bool.or_true,Bool.false_or,Bool.or_false,Az,Ca]
  have hxl:=Cm (by decide) ha i
  rcases Nat.eq_zero_or_pos (a.getD i 0) with h0 | h0
  ·simp (disch:=omega) only [BU,BL,BS,Bz,Bn,B0,BJ,BO,B5,BT,BX,B8,B4,B6,BY,BZ,BV,BF,AU,Bx,AS,Bg,BH,Int.toNat_natCast,Int.toNat_zero,cond_true,cond_false,Bool.and_self,Bool.true_and,Bool.and_true,Bool.false_and,Bool.and_false,Bool.not_true,Bool.not_false,Bool.or_self,Bool.true_or,Bool.or_true,Bool.false_or,Bool.or_false]
   refine hL _ ⟨i+1,by omega,?_,rfl⟩ (by simp only [Int.toNat_natCast]; omega)
   rw [Xy _ _ _ hlt,hz,h0,Nat.mul_zero]
  ·obtain ⟨t,k,e⟩:=oV h0
   have ht:t<64:=by
    have hp:=Nat.two_pow_pos t
    have h1:2^t*1≤2^t*(2*k+1):=Nat.mul_le_mul_left _ (by omega)
    exact (Nat.pow_lt_pow_iff_right (a:=2) (by decide)).1 (by omega)
   have p0:=lA (t:=t) (k:=k) (by omega)
   rw [← e] at p0
   have hv:nv (2^64) a=(2^64)^i*(a.getD i 0+2^64*nv (2^64) (a.drop (i+1))):=by
    rw [Lb _ a i hi,hz,Nat.zero_add,List.drop_eq_getElem_cons hlt]
    simp only [nv]
    rw [List.getD_eq_getElem?_getD,List.getElem?_eq_getElem hlt]
    rfl
   have hne:nv (2^64) a≠0:=by
    rw [hv]
    have:0<(2^64)^i:=Nat.pow_pos (by decide)
    exact Nat.ne_of_gt (Nat.mul_pos this (by omega))
   have hd:=aLP (i:=i) (r:=nv (2^64) (a.drop (i+1))) (n:=n) e ht
   rw [← hv] at hd
   simp (disch:=omega) only [BU,BL,BS,Bz,Bn,B0,BJ,BO,B5,BT,BX,B8,B4,B6,BY,BZ,BV,BF,AU,Bx,AS,Bg,BH,Int.toNat_natCast,Int.toNat_zero,cond_true,cond_false,Bool.and_self,Bool.true_and,Bool.and_true,Bool.false_and,Bool.and_false,Bool.not_true,Bool.not_false,Bool.or_self,Bool.true_or,Bool.or_true,Bool.false_or,Bool.or_false,gH p0,kG p0,if_neg hne]
   have:decide (((64*i+t:Nat):Int)≥(n:Int))=decide (nv (2^64) a%2^n=0):=by
    rw [Bool.eq_iff_iff,decide_eq_true_eq,decide_eq_true_eq,hd]; omega
   rw [this]
 ·have e:i=a.length:=by omega
  subst e
  rw [List.take_length] at hz
  simp (disch:=omega) only [BU,BL,BS,Bz,Bn,B0,BJ,BO,B5,BT,BX,B8,B4,B6,BY,BZ,BV,BF,AU,Bx,AS,Bg,BH,Int.toNat_natCast,Int.toNat_zero,cond_true,cond_false,Bool.and_self,Bool.true_and,Bool.and_true,Bool.false_and,Bool.and_false,Bool.not_true,Bool.not_false,Bool.or_self,Bool.true_or,Bool.or_true,Bool.false_or,Bool.or_false,if_pos hz]
theorem aJb (l:List Nat) (hl:Ws l) (n:Nat) (hn:n≤1000000000):YV (Wd l,(n:Int),())=some (decide (nv (2^64) l%2^n=0),()):=by
 obtain ⟨h,hlen⟩:=hl
 show dQ Af.pre Af.F BI.pre BI.F cX (Wd l) n=_
 unfold dQ
 have p0:=DU l hlen
 have hm:∀ x∈Ai l,x<2^64:=fun x hx=>h x (Sm hx)
 have hle:=(DX l).1
 have hw:=aUW (Ai l) hm (by omega) n hn 0 (Nat.zero_le _) rfl
 rw [Jn (by decide) h] at hw
 simp only [CV p0,CT p0,cond_true,Az]
 rw [show ((0:Nat):Int)=0 from rfl] at hw
 rw [hw]
 by_cases h0:nv (2^64) l=0
 ·rw [if_pos h0,h0,Nat.zero_mod]; rfl
 ·rw [if_neg h0]
def KN (v n:Nat):Nat:=if v%2^n=0 then v/2^n else v/2^n/2*2+1
theorem aIv (w:Nat):w ||| 1=w/2*2+1:=by
 apply Nat.eq_of_testBit_eq
 intro i
 rw [Nat.testBit_or]
 cases i with
 | zero=>simp [Nat.testBit_zero]
 | succ i =>
  rw [Nat.testBit_succ,Nat.testBit_succ,Nat.testBit_succ,show (w/2*2+1)/2=w/2 by omega,show 1/2=0 by rfl]
  simp
theorem aMO (l:List Nat) (hl:Ws l) (n:Nat) (hn:n≤100000000):T8 (Wd l,(n:Int),())=some (Dw (KN (nv (2^64) l) n),0,()):=by
 show cT Na.pre Na.F CP.pre CP.F Ow.pre Ow.F (Wd l) n=_
 unfold cT
 have p0:=aSg l hl n hn
 have p1:=aJb l hl n (by omega)
 simp only [sS,cond_false,aM3 p0,aIS p0,aOu p1,aUv p1,cond_true,Az]
 unfold KN
 by_cases h0:nv (2^64) l%2^n=0
 ·rw [if_pos h0,decide_eq_true h0]; rfl
 ·rw [if_neg h0,decide_eq_false h0]
  generalize nv (2^64) l/2^n=q
  rcases Nat.eq_zero_or_pos q with rfl | hq
  ·have e:Dw (0/2*2+1)=[1]:=by
    show Wd (dg (2^64) 1)=[1]
    rw [F9 (by decide) (by decide),Eq]; rfl
   rw [e,Eq]; rfl
  ·have hB:2≤2^64:=by decide
   have e:Dw (q/2*2+1)=Wd ((q%2^64/2*2+1)::dg (2^64) (q/2^64)):=by
    show Wd (dg (2^64) (q/2*2+1))=_
    rw [F9 hB (by omega)]
    have e1:(q/2*2+1)%2^64=q%2^64/2*2+1:=by omega
    have e2:(q/2*2+1)/2^64=q/2^64:=by omega
    rw [e1,e2]
   have e2:A9 .u64 ((q%2^64:Nat):Int) 1=((q%2^64/2*2+1:Nat):Int):=by
    have:=SU (a:=q%2^64) (b:=1) (by omega) (by decide)
    rw [aIv] at this
    exact this
   rw [e,F9 hB hq]
   simp (disch:=omega) only [BU,BL,BS,Bz,Bn,B0,BJ,BO,B5,BT,BX,B8,B4,B6,BY,BZ,BV,BF,AU,Bx,AS,Bg,BH,Int.toNat_natCast,Int.toNat_zero,cond_true,cond_false,Bool.and_self,Bool.true_and,Bool.and_true,Bool.false_and,Bool.and_false,Bool.not_true,Bool.not_false,Bool.or_self,Bool.true_or,Bool.or_true,Bool.false_or,Bool.or_false,List.length_cons,Ca,List.getD_cons_zero,e2,Ef,List.set_cons_zero]
theorem aHs (l:List Nat) (hl:Ws l) (n:Nat) (hn:n≤100000000):Rk (Wd l,(n:Int),())=some (Dw (nv (2^64) l/2^n),0,()):=by
 show gJ CP.pre CP.F (Wd l) n=_
 unfold gJ
 have p0:=aEz l hl n hn
 simp only [sS,cond_false,aA4 p0,aCv p0,cond_true]
 rfl
end VL
namespace VL
open Go Vx
theorem aDN {l:List Nat} {i j v:Nat} (h:i≠j):(l.set i v).getD j 0=l.getD j 0:=by
 rw [List.getD_eq_getElem?_getD,List.getD_eq_getElem?_getD,List.getElem?_set_ne h]
theorem aH6 {out:List Nat} {K V k s x:Nat} (hs:s<64) (ho:out=pd (2^64) K V) (hk:k+1<K) (hV:V<2^(64*k+s)) (hx:x<2^64) :
  (out.getD k 0<2^s)∧(out.getD k 0+x%2^(64-s)*2^s<2^64)∧((out.set k (out.getD k 0+x%2^(64-s)*2^s)).set (k+1) (x/2^(64-s))=pd (2^64) K (V+2^(64*k+s)*x)):=by
 have hB:0<2^64:=by decide
 have hps:=Nat.two_pow_pos s
 have hpk:=Nat.two_pow_pos (64*k)
 have hlen:out.length=K:=by rw [ho,EU]
 have hc:out.getD k 0=V/(2^64)^k%2^64:=by rw [ho,Xo _ _ _ _ (by omega)]
 have hc2:V/(2^64)^k<2^s:=by
  rw [Cr,Nat.div_lt_iff_lt_mul hpk,Nat.mul_comm,← Nat.pow_add]; exact hV
 have hc1:out.getD (k+1) 0=0:=by
  rw [ho,Xo _ _ _ _ hk,Cr]
  have:V<2^(64*(k+1)):=Nat.lt_of_lt_of_le hV (Nat.pow_le_pow_right (by decide) (by omega))
  rw [Nat.div_eq_of_lt this]
 have h64:2^64=2^(64-s)*2^s:=by rw [← Nat.pow_add]; congr 1; omega
 have hs64:2^s≤2^64:=Nat.pow_le_pow_right (by decide) (by omega)
 have hce:V/(2^64)^k%2^64=V/(2^64)^k:=Nat.mod_eq_of_lt (by omega)
 have hcl:out.getD k 0<2^s:=by rw [hc,hce]; exact hc2
 have hp1:=Nat.two_pow_pos (64-s)
 have hm:x%2^(64-s)+1≤2^(64-s):=Nat.mod_lt _ hp1
 have hm2:=Nat.mul_le_mul_right (2^s) hm
 rw [← h64,Nat.add_mul,Nat.one_mul] at hm2
 have hsum:out.getD k 0+x%2^(64-s)*2^s<2^64:=by omega
 refine ⟨hcl,hsum,?_⟩
 have hall:∀ y∈out,y<2^64:=by rw [ho]; exact RB hB _ _
 have hxd:x/2^(64-s)<2^64:=Nat.lt_of_le_of_lt (Nat.div_le_self _ _) hx
 refine fJ hB (aGj (aGj hall hsum) hxd) (by simp [hlen]) ?_
 have g1:=WG (2^64) out k (out.getD k 0+x%2^(64-s)*2^s) (by omega)
 have g2:=WG (2^64) (out.set k (out.getD k 0+x%2^(64-s)*2^s)) (k+1) (x/2^(64-s)) (by rw [List.length_set]; omega)
 rw [aDN (by omega),hc1,Nat.mul_zero,Nat.add_zero] at g2
 have hVK:V<(2^64)^K:=by
  rw [Cr]; exact Nat.lt_of_lt_of_le hV (Nat.pow_le_pow_right (by decide) (by omega))
 have hnv:nv (2^64) out=V:=by rw [ho,RS hB _ _ hVK]
 rw [hnv,Nat.mul_add] at g1
 rw [g2]
 have hx2:2^(64*k+s)*x=(2^64)^k*(x%2^(64-s)*2^s)+(2^64)^(k+1)*(x/2^(64-s)):=by
  have hdm:=Nat.div_add_mod x (2^(64-s))
  generalize x/2^(64-s)=q at *
  generalize x%2^(64-s)=r at *
  rw [Nat.pow_add 2 (64*k) s,← Cr,show (2^64)^(k+1)=(2^64)^k*2^64 from Nat.pow_succ _ _,Nat.mul_assoc ((2^64)^k),Nat.mul_assoc ((2^64)^k),← Nat.mul_add,← hdm]
  congr 1
  rw [Nat.mul_add,Nat.mul_comm r,Nat.add_comm]
  congr 1
  rw [← Nat.mul_assoc,Nat.mul_comm (2^s),← h64]
 omega
theorem aOF (a:List Nat) (ha:∀ x∈a,x<2^64) (hlen:a.length≤1000000) (w s:Nat) (hs:s<64) (hw:w≤10000000) (i:Nat) (hi:i≤a.length) :
  eH (((a.length:Int),(Wd a,((w:Int),((s:Int),((i:Int),((),())))))),(Wd (pd (2^64) (w+a.length+1) (2^(64*w+s)*nv (2^64) (a.take i))),()))=some (.inl (((),()),(Wd (pd (2^64) (w+a.length+1) (2^(64*w+s)*nv (2^64) a)),()))):=by
 have key:=Df (zW Af.pre Af.F) (fun x=>a.length-x.1.2.2.2.2.1.toNat)
  (fun x=>∃ i:Nat,i≤a.length∧x=(((a.length:Int),(Wd a,((w:Int),((s:Int),((i:Int),((),())))))),(Wd (pd (2^64) (w+a.length+1) (2^(64*w+s)*nv (2^64) (a.take i))),())))
  (fun _=>.inl (((),()),(Wd (pd (2^64) (w+a.length+1) (2^(64*w+s)*nv (2^64) a)),()))) ?_ _ ⟨i,hi,rfl⟩
 ·exact key
 intro L x hx hL
 obtain ⟨i,hi,rfl⟩:=hx
 unfold Ua
 rcases Nat.lt_or_ge i a.length with hlt | hge
 ·have hxl:=Cm (by decide) ha i
  have ht:=DM (B:=2^64) (by decide) (a.take i) fun x hx=>ha x (List.mem_of_mem_take hx)
  rw [List.length_take,Nat.min_eq_left (by omega),Cr] at ht
  have hV:2^(64*w+s)*nv (2^64) (a.take i)<2^(64*(w+i)+s):=by
   have e:64*(w+i)+s=(64*w+s)+64*i:=by omega
   rw [e,Nat.pow_add _ (64*w+s)]
   exact Nat.mul_lt_mul_of_pos_left ht (Nat.two_pow_pos _)
  have hnext:=Xy (2^64) a i hlt
  have hgo:=hL (((a.length:Int),(Wd a,((w:Int),((s:Int),(((i+1:Nat):Int),((),())))))),(Wd (pd (2^64) (w+a.length+1) (2^(64*w+s)*nv (2^64) (a.take (i+1)))),())) ⟨i+1,by omega,rfl⟩ (by simp only [Int.toNat_natCast]; omega)
  rw [hnext,Nat.mul_add,← Nat.mul_assoc,show 2^(64*w+s)*(2^64)^i=2^(64*(w+i)+s) by rw [Cr,← Nat.pow_add]; congr 1; omega] at hgo
  generalize hout:pd (2^64) (w+a.length+1) (2^(64*w+s)*nv (2^64) (a.take i))=out at *
  obtain ⟨q1,q2,q3⟩:=aH6 (k:=w+i) hs hout.symm (by omega) hV hxl
  have hol:out.length=w+a.length+1:=by rw [← hout,EU]
  have g1:a.getD i 0*2^s%2^64=(a.getD i 0%2^(64-s))*2^s:=by
   have:2^64=2^(64-s)*2^s:=by rw [← Nat.pow_add]; congr 1; omega
   rw [this,Nat.mul_mod_mul_right]
  have e8:IntKind.wrap .i64 (64-(s:Int))=((64-s:Nat):Int):=Eo 64 s (by omega) (by omega)
  simp (disch:=omega) only [BU,BL,BS,Bz,Bn,B0,BJ,BO,B5,BT,BX,B8,B4,B6,BY,BZ,BV,BF,AU,Bx,AS,Bg,BH,Int.toNat_natCast,Int.toNat_zero,cond_true,cond_false,Bool.and_self,Bool.true_and,Bool.and_true,Bool.false_and,Bool.and_false,Bool.not_true,Bool.not_false,Bool.or_self,Bool.true_or,Bool.or_true,Bool.false_or,Bool.or_false,Az,Ca,e8,Eg _ s (by omega),Dq _ (64-s) (by omega),g1,Fk q1 q2,Ef,List.length_set,q3]
  exact hgo
 ·have e:i=a.length:=by omega
  subst e
  rw [List.take_length]
  simp (disch:=omega) only [BU,BL,BS,Bz,Bn,B0,BJ,BO,B5,BT,BX,B8,B4,B6,BY,BZ,BV,BF,AU,Bx,AS,Bg,BH,Int.toNat_natCast,Int.toNat_zero,cond_true,cond_false,Bool.and_self,Bool.true_and,Bool.and_true,Bool.false_and,Bool.and_false,Bool.not_true,Bool.not_false,Bool.or_self,Bool.true_or,Bool.or_true,Bool.false_or,Bool.or_false]
theorem oN (l:List Nat) (hl:Ws l) (n:Nat) (hn:n/64+(Ai l).length+1≤1000000):RI (Wd l,(n:Int),())=some (Dw (nv (2^64) l*2^n),()):=by
 obtain ⟨h,hlen⟩:=hl
 show iO Af.pre Af.F eH (Wd l) n=_
 unfold iO
 have hB:2≤2^64:=by decide
 have p0:=DU l hlen
 have hm:∀ x∈Ai l,x<2^64:=fun x hx=>h x (Sm hx)
 have hle:=(DX l).1
 have hv:=Jn hB h
 simp only [CV p0,CT p0,cond_true,Az]
 rcases Nat.eq_zero_or_pos (Ai l).length with h0 | h0
 ·rw [h0,aAH h h0,Nat.zero_mul]
  unfold Dw
  rw [Eq]; rfl
 ·have e4:Int.tmod (n:Int) 64=((n%64:Nat):Int):=rfl
  have e3:decide (((n/64+(Ai l).length+1:Nat):Int)*8≤140737488355328)=true:=decide_eq_true (by omega)
  have hw:=aOF (Ai l) hm (by omega) (n/64) (n%64) (Nat.mod_lt _ (by decide)) (by omega) 0 (Nat.zero_le _)
  rw [show nv (2^64) ((Ai l).take 0)=0 by rfl,Nat.mul_zero,pX,show 64*(n/64)+n%64=n by omega,show ((0:Nat):Int)=0 from rfl] at hw
  simp (disch:=omega) only [BU,BL,BS,Bz,Bn,B0,BJ,BO,B5,BT,BX,B8,B4,B6,BY,BZ,BV,BF,AU,Bx,AS,Bg,BH,Int.toNat_natCast,Int.toNat_zero,cond_true,cond_false,Bool.and_self,Bool.true_and,Bool.and_true,Bool.false_and,Bool.and_false,Bool.not_true,Bool.not_false,Bool.or_self,Bool.true_or,Bool.or_true,Bool.false_or,Bool.or_false,VR n (by omega),e4,e3,SE,hw]
  have hV:2^n*nv (2^64) (Ai l)<(2^64)^(n/64+(Ai l).length+1):=by
   have:=DM hB (Ai l) hm
   rw [Cr] at this ⊢
   have h1:2^n*nv (2^64) (Ai l)<2^n*2^(64*(Ai l).length):=Nat.mul_lt_mul_of_pos_left this (Nat.two_pow_pos _)
   rw [← Nat.pow_add] at h1
   exact Nat.lt_of_lt_of_le h1 (Nat.pow_le_pow_right (by decide) (by omega))
  have p1:=DU (pd (2^64) (n/64+(Ai l).length+1) (2^n*nv (2^64) (Ai l))) (by rw [EU]; omega)
  rw [Hj hB _ (RB (by decide) _ _),RS (by decide) _ _ hV,hv,Nat.mul_comm (2^n)] at p1
  rw [hv,Nat.mul_comm (2^n)]
  generalize pd (2^64) (n/64+(Ai l).length+1) (nv (2^64) l*2^n)=out at *
  show (bif Af.pre (Wd out,()) then some (Af.F (Wd out,())) else none)=_
  rw [CV p1,CT p1]
  rfl
theorem aOo (ls:List (List Nat)) (hls:∀ l∈ls,l.length≤1000000) (hn:ls.length≤1000000) (i:Nat) (hi:i≤ls.length) (hz:∀ l∈ls.take i,(Ai l).length≤1024) :
  nD (((ls.length:Int),(ls.map Wd,((i:Int),()))),())=some (if (∀ l∈ls,(Ai l).length≤1024) then .inl ((),()) else .inr ((true,()),())):=by
 have key:=Df (aC0 Af.pre Af.F) (fun x=>ls.length-x.1.2.2.1.toNat)
  (fun x=>∃ i:Nat,i≤ls.length∧(∀ l∈ls.take i,(Ai l).length≤1024)∧x=(((ls.length:Int),(ls.map Wd,((i:Int),()))),()))
  (fun _=>if (∀ l∈ls,(Ai l).length≤1024) then .inl ((),()) else .inr ((true,()),())) ?_ _ ⟨i,hi,hz,rfl⟩
 ·exact key
 intro L x hx hL
 obtain ⟨i,hi,hz,rfl⟩:=hx
 unfold Tg
 rcases Nat.lt_or_ge i ls.length with hlt | hge
 ·have eg:(ls.map Wd).getD i []=Wd (ls[i]):=by
   rw [List.getD_eq_getElem?_getD,List.getElem?_map,List.getElem?_eq_getElem hlt]; rfl
  have hil:ls[i]∈ls:=List.getElem_mem hlt
  have p0:=DU ls[i] (hls _ hil)
  simp (disch:=omega) only [BU,BL,BS,Bz,Bn,B0,BJ,BO,B5,BT,BX,B8,B4,B6,BY,BZ,BV,BF,AU,Bx,AS,Bg,BH,Int.toNat_natCast,Int.toNat_zero,cond_true,cond_false,Bool.and_self,Bool.true_and,Bool.and_true,Bool.false_and,Bool.and_false,Bool.not_true,Bool.not_false,Bool.or_self,Bool.true_or,Bool.or_true,Bool.false_or,Bool.or_false,List.length_map,eg,CV p0,CT p0,Az]
  rcases Nat.lt_or_ge 1024 (Ai ls[i]).length with hg | hg
  ·have e:decide (((Ai ls[i]).length:Int)>1024)=true:=decide_eq_true (by omega)
   have hnot:¬ ∀ l∈ls,(Ai l).length≤1024:=fun hh=>by have:=hh _ hil; omega
   rw [e,cond_true,if_neg hnot]
  ·have e:decide (((Ai ls[i]).length:Int)>1024)=false:=decide_eq_false (by omega)
   rw [e,cond_false]
   refine hL _ ⟨i+1,by omega,?_,rfl⟩ (by simp only [Int.toNat_natCast]; omega)
   intro l hl
   rw [List.take_succ,List.getElem?_eq_getElem hlt] at hl
   rcases List.mem_append.1 hl with hl | hl
   ·exact hz l hl
   ·have:l=ls[i]:=by simpa using hl
    rw [this]; exact hg
 ·have e:i=ls.length:=by omega
  subst e
  rw [List.take_length] at hz
  simp (disch:=omega) only [BU,BL,BS,Bz,Bn,B0,BJ,BO,B5,BT,BX,B8,B4,B6,BY,BZ,BV,BF,AU,Bx,AS,Bg,BH,Int.toNat_natCast,Int.toNat_zero,cond_true,cond_false,Bool.and_self,Bool.true_and,Bool.and_true,Bool.false_and,Bool.and_false,Bool.not_true,Bool.not_false,Bool.or_self,Bool.true_or,Bool.or_true,Bool.false_or,Bool.or_false,if_pos hz]
theorem xF (ls:List (List Nat)) (hls:∀ l∈ls,l.length≤1000000) (hn:ls.length≤1000000) :
  JM (ls.map Wd,())=some (!decide (∀ l∈ls,(Ai l).length≤1024),()):=by
 show bH Af.pre Af.F nD (ls.map Wd)=_
 unfold bH
 have hw:=aOo ls hls hn 0 (Nat.zero_le _) (fun l hl=>by simp at hl)
 rw [show ((0:Nat):Int)=0 from rfl] at hw
 rw [List.length_map,hw]
 by_cases h:∀ l∈ls,(Ai l).length≤1024
 ·rw [if_pos h,decide_eq_true h]; rfl
 ·rw [if_neg h,decide_eq_false h]; rfl
theorem aEj (l:List Nat) (hl:l.length≤1000000):JM ((Wd l::[]),())=some (!decide ((Ai l).length≤1024),()):=by
 have:=xF [l] (by simp; exact hl) (by simp)
 rw [show [l].map Wd=Wd l::[] from rfl] at this
 rw [this]
 simp
theorem aEh (l:List Nat) (hl:Ws l) (n:Nat) (hn:n≤65536) (hv:nv (2^64) l*2^n<(2^64)^1024):RH (Wd l,(n:Int),())=some (Dw (nv (2^64) l*2^n),0,()):=by
 show Z4 Dv.pre Dv.F Ea.pre Ea.F (Wd l) n=_
 unfold Z4
 have p0:=aEj l hl.2
 have hB:2≤2^64:=by decide
 have h1:=CR hB 1024 _ hv
 have h0:(Ai l).length≤1024:=by
  rw [Hj hB _ hl.1]
  apply CR hB
  exact Nat.lt_of_le_of_lt (Nat.le_mul_of_pos_right _ (Nat.two_pow_pos _)) hv
 have p1:=oN l hl n (by omega)
 have p2:=aEj (dg (2^64) (nv (2^64) l*2^n)) (by omega)
 rw [Ox hB] at p2
 rw [decide_eq_true h0] at p0
 rw [decide_eq_true h1] at p2
 have e2:decide ((n:Int)>65536)=false:=decide_eq_false (by omega)
 simp only [sS,e2,Bool.or_self,cond_false,VS p0,XY p0,cond_true,Bool.not_true,rX p1,uR p1]
 unfold Dw
 simp only [VS p2,XY p2,cond_true,Bool.not_true,cond_false]
end VL
namespace VL
open Go Vx
theorem Ep (B:Nat) (l:List Nat) (i:Nat):nv B (l.take (i+1))=nv B (l.take i)+B^i*l.getD i 0:=by
 rcases Nat.lt_or_ge i l.length with h | h
 ·exact Xy B l i h
 ·rw [List.take_of_length_le (by omega),List.take_of_length_le h,List.getD_eq_getElem?_getD,List.getElem?_eq_none h]
  simp
def Ck (a b:List Nat) (i:Nat):Nat:=nv (2^64) (a.take i)+nv (2^64) (b.take i)
def DR (a b:List Nat) (i:Nat):List Nat:=pd (2^64) i (Ck a b i%(2^64)^i)++(a++[0]).drop i
theorem Ya {l:List Nat} (h:∀ x∈l,x<2^64) (i:Nat):nv (2^64) (l.take i)<(2^64)^i:=by
 have:=DM (B:=2^64) (by decide) (l.take i) fun x hx=>h x (List.mem_of_mem_take hx)
 refine Nat.lt_of_lt_of_le this (Nat.pow_le_pow_right (by decide) ?_)
 rw [List.length_take]
 exact Nat.min_le_left _ _
theorem aCc {a b:List Nat} (ha:∀ x∈a,x<2^64) (hb:∀ x∈b,x<2^64) (i:Nat):Ck a b i/(2^64)^i≤1:=by
 have h1:=Ya ha i
 have h2:=Ya hb i
 have hp:0<(2^64)^i:=Nat.pow_pos (by decide)
 unfold Ck
 have:(nv (2^64) (a.take i)+nv (2^64) (b.take i))/(2^64)^i<2:=by
  rw [Nat.div_lt_iff_lt_mul hp]; omega
 omega
theorem aGJ (a b:List Nat) (i:Nat):Ck a b (i+1)=Ck a b i%(2^64)^i+(2^64)^i*(a.getD i 0+b.getD i 0+Ck a b i/(2^64)^i):=by
 have hdm:=Nat.div_add_mod (Ck a b i) ((2^64)^i)
 have h1:Ck a b (i+1)=Ck a b i+(2^64)^i*(a.getD i 0+b.getD i 0):=by
  unfold Ck
  rw [Ep,Ep,Nat.mul_add]
  omega
 rw [h1,Nat.mul_add ((2^64)^i) (a.getD i 0+b.getD i 0)]
 omega
theorem aRn (a b:List Nat) (i:Nat):Ck a b (i+1)/(2^64)^(i+1)=(a.getD i 0+b.getD i 0+Ck a b i/(2^64)^i)/2^64:=by
 have hp:0<(2^64)^i:=Nat.pow_pos (by decide)
 rw [aGJ,Nat.pow_succ (2^64) i,← Nat.div_div_eq_div_mul,Nat.add_mul_div_left _ _ hp,Nat.div_eq_of_lt (Nat.mod_lt _ hp),Nat.zero_add]
theorem aQM (a b:List Nat) (i:Nat):Ck a b (i+1)%(2^64)^(i+1)=Ck a b i%(2^64)^i+(2^64)^i*((a.getD i 0+b.getD i 0+Ck a b i/(2^64)^i)%2^64):=by
 have hp:0<(2^64)^i:=Nat.pow_pos (by decide)
 rw [aGJ a b i,Nat.pow_succ (2^64) i,Nat.mod_mul,Nat.add_mul_mod_self_left,Nat.mod_mod,Nat.add_mul_div_left _ _ hp,Nat.div_eq_of_lt (Nat.mod_lt _ hp),Nat.zero_add]
theorem aEK {k r v:Nat} (hr:r<(2^64)^k) (hv:v<2^64):pd (2^64) k r++[v]=pd (2^64) (k+1) (r+(2^64)^k*v):=by
 refine fJ (by decide) ?_ (by simp [EU]) ?_
 ·intro x hx
  rcases List.mem_append.1 hx with hx | hx
  ·exact RB (by decide) _ _ x hx
  ·have:x=v:=by simpa using hx
   rw [this]; exact hv
 ·rw [RK,EU,RS (by decide) _ _ hr]
  simp [nv]
theorem aRf (a b:List Nat) (i:Nat) (hi:i<a.length):(DR a b i).set i ((a.getD i 0+b.getD i 0+Ck a b i/(2^64)^i)%2^64)=DR a b (i+1):=by
 have hp:0<(2^64)^i:=Nat.pow_pos (by decide)
 unfold DR
 rw [aQM,← aEK (Nat.mod_lt _ hp) (Nat.mod_lt _ (by decide)),List.set_append_right _ _ (by rw [EU]; exact Nat.le_refl _),EU,Nat.sub_self,
  List.drop_eq_getElem_cons (l:=a++[0]) (i:=i) (by simp; omega),List.set_cons_zero,List.append_assoc]
 rfl
theorem aAM (a b:List Nat) (i:Nat) (hi:i≤a.length):(DR a b i).length=a.length+1:=by
 unfold DR; rw [List.length_append,EU]; simp; omega
theorem aIV (a b:List Nat) (ha:∀ x∈a,x<2^64) (hb:∀ x∈b,x<2^64) (hlen:a.length≤1000000) (i:Nat) (hi:i≤a.length) :
  Y6 (((a.length:Int),(Wd b,((i:Int),(Wd a,(((Ck a b i/(2^64)^i:Nat):Int),((),())))))),(Wd (DR a b i),()))=some (.inl ((Wd a,(((Ck a b a.length/(2^64)^a.length:Nat):Int),((),()))),(Wd (DR a b a.length),()))):=by
 have key:=Df (aDd Ay.pre Ay.F Af.pre Af.F) (fun x=>a.length-x.1.2.2.1.toNat)
  (fun x=>∃ i:Nat,i≤a.length∧x=(((a.length:Int),(Wd b,((i:Int),(Wd a,(((Ck a b i/(2^64)^i:Nat):Int),((),())))))),(Wd (DR a b i),())))
  (fun _=>.inl ((Wd a,(((Ck a b a.length/(2^64)^a.length:Nat):Int),((),()))),(Wd (DR a b a.length),()))) ?_ _ ⟨i,hi,rfl⟩
 ·exact key
 intro L x hx hL
 obtain ⟨i,hi,rfl⟩:=hx
 unfold Tf
 rcases Nat.lt_or_ge i a.length with hlt | hge
 ·have hc:=aCc ha hb i
  have hol:=aAM a b i hi
  have hset:=aRf a b i hlt
  have hgo:=hL (((a.length:Int),(Wd b,(((i+1:Nat):Int),(Wd a,(((Ck a b (i+1)/(2^64)^(i+1):Nat):Int),((),())))))),(Wd (DR a b (i+1)),())) ⟨i+1,by omega,rfl⟩ (by simp only [Int.toNat_natCast]; omega)
  rw [aRn,← hset] at hgo
  have hF:∀ x y c:Nat,Ay.F ((x:Int),((y:Int),((c:Int),())))=(((((x+y+c)%2^64:Nat):Int)),((((x+y+c)/2^64:Nat):Int)),()):=fun x y c=>rfl
  have hP:∀ (x y:Int) (c:Nat),c≤1→Ay.pre (x,(y,((c:Int),())))=true:=fun x y c h=>by
   show (decide ((0:Int)≤(c:Int))&&decide ((c:Int)≤1))=true
   rw [decide_eq_true (by omega),decide_eq_true (by omega)]; rfl
  generalize Ck a b i/(2^64)^i=c at *
  generalize DR a b i=out at *
  rcases Nat.lt_or_ge i b.length with hbl | hbl
  ·simp (disch:=omega) only [BU,BL,BS,Bz,Bn,B0,BJ,BO,B5,BT,BX,B8,B4,B6,BY,BZ,BV,BF,AU,Bx,AS,Bg,BH,Int.toNat_natCast,Int.toNat_zero,cond_true,cond_false,Bool.and_self,Bool.true_and,Bool.and_true,Bool.false_and,Bool.and_false,Bool.not_true,Bool.not_false,Bool.or_self,Bool.true_or,Bool.or_true,Bool.false_or,Bool.or_false,Az,Ca,hP _ _ c hc,hF,Ef]
   exact hgo
  ·have hbz:b.getD i 0=0:=by rw [List.getD_eq_getElem?_getD,List.getElem?_eq_none hbl]; rfl
   have hF0:Ay.F (((a.getD i 0:Nat):Int),((0:Int),((c:Int),())))=((((a.getD i 0+b.getD i 0+c)%2^64:Nat):Int),(((a.getD i 0+b.getD i 0+c)/2^64:Nat):Int),()):=by rw [hbz]; rfl
   simp (disch:=omega) only [BU,BL,BS,Bz,Bn,B0,BJ,BO,B5,BT,BX,B8,B4,B6,BY,BZ,BV,BF,AU,Bx,AS,Bg,BH,Int.toNat_natCast,Int.toNat_zero,cond_true,cond_false,Bool.and_self,Bool.true_and,Bool.and_true,Bool.false_and,Bool.and_false,Bool.not_true,Bool.not_false,Bool.or_self,Bool.true_or,Bool.or_true,Bool.false_or,Bool.or_false,Az,Ca,hP _ _ c hc,hF0,Ef]
   exact hgo
 ·have e:i=a.length:=by omega
  subst e
  simp (disch:=omega) only [BU,BL,BS,Bz,Bn,B0,BJ,BO,B5,BT,BX,B8,B4,B6,BY,BZ,BV,BF,AU,Bx,AS,Bg,BH,Int.toNat_natCast,Int.toNat_zero,cond_true,cond_false,Bool.and_self,Bool.true_and,Bool.and_true,Bool.false_and,Bool.and_false,Bool.not_true,Bool.not_false,Bool.or_self,Bool.true_or,Bool.or_true,Bool.false_or,Bool.or_false]
theorem aOB (a b:List Nat) (ha:∀ x∈a,x<2^64) (hb:∀ x∈b,x<2^64) (hab:b.length≤a.length) :
  (DR a b a.length).set a.length (Ck a b a.length/(2^64)^a.length)=pd (2^64) (a.length+1) (nv (2^64) a+nv (2^64) b)∧nv (2^64) a+nv (2^64) b<(2^64)^(a.length+1):=by
 have hp:0<(2^64)^a.length:=Nat.pow_pos (by decide)
 have hc:=aCc ha hb a.length
 have hs:Ck a b a.length=nv (2^64) a+nv (2^64) b:=by
  unfold Ck; rw [List.take_length,List.take_of_length_le hab]
 have hdm:=Nat.div_add_mod (Ck a b a.length) ((2^64)^a.length)
 refine ⟨?_,?_⟩
 ·have hd:(a++[0]).drop a.length=[0]:=by simp
  unfold DR
  rw [hd,List.set_append_right _ _ (by rw [EU]; exact Nat.le_refl _),EU,Nat.sub_self,List.set_cons_zero,aEK (Nat.mod_lt _ hp) (by omega),Nat.add_comm (Ck a b a.length%(2^64)^a.length),hdm,hs]
 ·rw [← hs]
  have h1:=Ya ha a.length
  have h2:=Ya hb a.length
  unfold Ck
  rw [Nat.pow_succ (2^64) a.length]
  omega
theorem aRI {a:List Nat}:List.take (List.replicate (a.length+1) (0:Int)).length (Wd a)++List.drop a.length (List.replicate (a.length+1) (0:Int))=Wd (DR a ([]:List Nat) 0):=by
 rw [List.length_replicate,List.drop_replicate,Nat.add_sub_cancel_left,List.take_of_length_le (by rw [Az]; omega)]
 unfold DR
 simp [Wd,pd]
theorem aJk (a b c:List Nat):DR a b 0=DR a c 0:=by unfold DR; simp [pd]
theorem aB5 (a b:List Nat) (ha:∀ x∈a,x<2^64) (hb:∀ x∈b,x<2^64) (hlen:a.length+1≤1000000) (hab:b.length≤a.length) :
  (bif decide (0≤IntKind.wrap .i64 ((a.length:Int)+1))&&decide (IntKind.wrap .i64 ((a.length:Int)+1)*8≤140737488355328) then
   AZ (Y6 (((a.length:Int),(Wd b,((0:Int),(Wd a,((0:Int),((),())))))),(List.take (List.replicate (Int.toNat (IntKind.wrap .i64 ((a.length:Int)+1))) (0:Int)).length (Wd a)++List.drop a.length (List.replicate (Int.toNat (IntKind.wrap .i64 ((a.length:Int)+1))) (0:Int)),()))) fun y4 =>
    A2 y4 (fun y5=>bif decide (0≤((y5.1.1.length:Nat):Int))&&decide (((y5.1.1.length:Nat):Int)<((y5.2.1.length:Nat):Int)) then
     (bif Af.pre ((y5.2.1.set (Int.toNat ((y5.1.1.length:Nat):Int)) y5.1.2.1),()) then some (Af.F ((y5.2.1.set (Int.toNat ((y5.1.1.length:Nat):Int)) y5.1.2.1),())) else none) else none) fun _=>none
  else none:Option (DenS G8))=some (Dw (nv (2^64) a+nv (2^64) b),()):=by
 have hw:=aIV a b ha hb (by omega) 0 (Nat.zero_le _)
 have h0:Ck a b 0/(2^64)^0=0:=by unfold Ck; simp [nv]
 rw [h0,show ((0:Nat):Int)=0 from rfl,aJk a b [],← aRI] at hw
 have e3:decide (((a.length+1:Nat):Int)*8≤140737488355328)=true:=decide_eq_true (by omega)
 rw [BL _ (by omega),e3,AU,Int.toNat_natCast,hw]
 obtain ⟨g1,g2⟩:=aOB a b ha hb hab
 have hol:=aAM a b a.length (Nat.le_refl _)
 have p1:=DU (pd (2^64) (a.length+1) (nv (2^64) a+nv (2^64) b)) (by rw [EU]; exact hlen)
 rw [Hj (by decide) _ (RB (by decide) _ _),RS (by decide) _ _ g2,← g1,← Ef] at p1
 generalize Ck a b a.length/(2^64)^a.length=c at *
 generalize DR a b a.length=out at *
 show (bif decide (0≤(((Wd a).length:Nat):Int))&&decide ((((Wd a).length:Nat):Int)<(((Wd out).length:Nat):Int)) then
     (bif Af.pre ((Wd out).set (Wd a).length (c:Int),()) then some (Af.F ((Wd out).set (Wd a).length (c:Int),())) else none) else none)=_
 simp (disch:=omega) only [BU,BL,BS,Bz,Bn,B0,BJ,BO,B5,BT,BX,B8,B4,B6,BY,BZ,BV,BF,AU,Bx,AS,Bg,BH,Int.toNat_natCast,Int.toNat_zero,cond_true,cond_false,Bool.and_self,Bool.true_and,Bool.and_true,Bool.false_and,Bool.and_false,Bool.not_true,Bool.not_false,Bool.or_self,Bool.true_or,Bool.or_true,Bool.false_or,Bool.or_false,Az,CV p1,CT p1]
 rfl
theorem zE (l m:List Nat) (hl:Ws l) (hm:Ws m) (hl2:(Ai l).length<1000000) (hm2:(Ai m).length<1000000):Rx (Wd l,Wd m,())=some (Dw (nv (2^64) l+nv (2^64) m),()):=by
 show jC Ay.pre Ay.F Af.pre Af.F Y6 (Wd l) (Wd m)=_
 unfold jC
 have p0:=DU l hl.2
 have p1:=DU m hm.2
 have h1:∀ x∈Ai l,x<2^64:=fun x hx=>hl.1 x (Sm hx)
 have h2:∀ x∈Ai m,x<2^64:=fun x hx=>hm.1 x (Sm hx)
 simp only [CV p0,CT p0,CV p1,CT p1,cond_true]
 rcases Nat.lt_or_ge (Ai l).length (Ai m).length with h | h
 ·rw [Az,Az,BJ _ _ h,cond_true]
  have:=aB5 (Ai m) (Ai l) h2 h1 hm2 (by omega)
  rw [Jn (by decide) hl.1,Jn (by decide) hm.1,Nat.add_comm] at this
  exact this
 ·rw [Az,Az,BO _ _ h,cond_false]
  have:=aB5 (Ai l) (Ai m) h1 h2 hl2 (by omega)
  rw [Jn (by decide) hl.1,Jn (by decide) hm.1] at this
  exact this
theorem aK2 (l:List Nat) (hl:Ws l):ZI (Wd l,())=some (Dw (nv (2^64) l),()):=by
 show bL Af.pre Af.F (Wd l)=_
 unfold bL
 have p0:=DU l hl.2
 have hle:=(DX l).1
 have h2:=hl.2
 have e3:decide ((((Ai l).length:Nat):Int)*8≤140737488355328)=true:=decide_eq_true (by omega)
 simp (disch:=omega) only [BU,BL,BS,Bz,Bn,B0,BJ,BO,B5,BT,BX,B8,B4,B6,BY,BZ,BV,BF,AU,Bx,AS,Bg,BH,Int.toNat_natCast,Int.toNat_zero,cond_true,cond_false,Bool.and_self,Bool.true_and,Bool.and_true,Bool.false_and,Bool.and_false,Bool.not_true,Bool.not_false,Bool.or_self,Bool.true_or,Bool.or_true,Bool.false_or,Bool.or_false,CV p0,CT p0,Az,e3,List.length_replicate,List.drop_replicate,Nat.sub_self]
 rw [List.take_of_length_le (by rw [Az]; exact Nat.le_refl _),List.replicate_zero,List.append_nil,Hj (by decide) l hl.1]
 rfl
theorem ZC (l:List Nat) (hl:Ws l):RD (Wd l,())=some (Dw (nv (2^64) l),()):=by
 show mQ CQ.pre CQ.F (Wd l)=_
 unfold mQ
 have p0:=aK2 l hl
 simp only [aMt p0,aMx p0,cond_true]
end VL
namespace VL
open Go Vx
def Wi (n:Nat):Aa (.pair (.int .u64) (.pair (.int .u64) .unit)):=(((n/2^64:Nat):Int),(((n%2^64:Nat):Int),()))
theorem zU (k:Nat) (h:0<k):decide ((k:Int)≤0)=false:=decide_eq_false (by omega)
theorem aTZ {A q R P:Nat} (g1:A%2^64=R) (g2:q<P) (g4:R+P≤2^64):(A+q)%2^64=q+R:=by omega
theorem aLr {X Y r:Nat} (h:X%2^64=Y) (hr:r<2^64):(2^64*X+r)%2^128=2^64*Y+r:=by omega
theorem aMY {X h q R P:Nat} (e:X=2^64*h+R+q) (g2:q<P) (g4:R+P≤2^64):X/2^64=h∧X%2^64=q+R:=by omega
theorem tC (n k:Nat) (hn:n<2^128):M9 (Wi n,(k:Int),())=some (Wi (n*2^k%2^128),()):=by
 show gG (Wi n) k=_
 unfold gG
 rcases Nat.eq_zero_or_pos k with rfl | hk
 ·have e:n*2^0%2^128=n:=by rw [Nat.pow_zero,Nat.mul_one,Nat.mod_eq_of_lt hn]
  rw [e]; rfl
 rw [zU k hk,cond_false]
 rcases Nat.lt_or_ge k 128 with h128 | h128
 ·rw [show decide ((k:Int)≥128)=false from decide_eq_false (by omega),cond_false]
  have hlo:(n%2^64)<2^64:=Nat.mod_lt _ (by decide)
  have hhi:n/2^64<2^64:=by omega
  have hsplit:n=2^64*(n/2^64)+n%2^64:=(Nat.div_add_mod n (2^64)).symm
  rcases Nat.lt_or_ge k 64 with h64 | h64
  ·have e8:IntKind.wrap .i64 (64-(k:Int))=((64-k:Nat):Int):=Eo 64 k (by omega) (by omega)
   rw [show decide ((k:Int)≥64)=false from decide_eq_false (by omega),cond_false,AU,cond_true,e8,AU,cond_true,cond_true]
   show some ((A9 .u64 (AQ .u64 ((n/2^64:Nat):Int) k) (AH .u64 ((n%2^64:Nat):Int) ((64-k:Nat):Int)),(AQ .u64 ((n%2^64:Nat):Int) k,())),())=_
   rw [Eg _ k (by omega),Eg _ k (by omega),Dq _ (64-k) (by omega)]
   have hp:=Nat.two_pow_pos k
   have hp2:=Nat.two_pow_pos (64-k)
   have h2:2^64=2^(64-k)*2^k:=by rw [← Nat.pow_add]; congr 1; omega
   generalize n/2^64=hi at *
   generalize n%2^64=lo at *
   have g1:hi*2^k%2^64=(hi%2^(64-k))*2^k:=by rw [h2,Nat.mul_mod_mul_right]
   have g2:lo/2^(64-k)<2^k:=by rw [Nat.div_lt_iff_lt_mul hp2,Nat.mul_comm,← h2]; exact hlo
   have g3:hi%2^(64-k)+1≤2^(64-k):=Nat.mod_lt _ hp2
   have g4:=Nat.mul_le_mul_right (2^k) g3
   rw [← h2,Nat.add_mul,Nat.one_mul] at g4
   have hor:A9 .u64 ((hi*2^k%2^64:Nat):Int) ((lo/2^(64-k):Nat):Int)=((lo/2^(64-k)+(hi%2^(64-k))*2^k:Nat):Int):=by
    have:=Fk g2 (b:=hi%2^(64-k)) (by omega)
    rw [g1]
    have hc:∀ a b:Nat,a<2^64→b<2^64→A9 .u64 (a:Int) (b:Int)=A9 .u64 (b:Int) (a:Int):=fun a b ha hb=>by
     rw [SU ha hb,SU hb ha,Nat.or_comm]
    rw [hc _ _ (by omega) (by omega)]
    exact this
   rw [hor]
   have hdm:=Nat.div_add_mod lo (2^(64-k))
   have v1:n*2^k=2^64*(hi*2^k+lo/2^(64-k))+lo*2^k%2^64:=by
    have g5:lo*2^k%2^64=(lo%2^(64-k))*2^k:=by rw [h2,Nat.mul_mod_mul_right]
    have g6:2^64*(lo/2^(64-k))=2^(64-k)*(lo/2^(64-k))*2^k:=by
     rw [Nat.mul_right_comm,← h2]
    rw [hsplit,Nat.add_mul,Nat.mul_add,Nat.mul_assoc,Nat.add_assoc,g6,g5,← Nat.add_mul,hdm]
   have v2:n*2^k%2^128=2^64*(lo/2^(64-k)+(hi%2^(64-k))*2^k)+lo*2^k%2^64:=by
    rw [v1]
    have hlo2:lo*2^k%2^64<2^64:=Nat.mod_lt _ (by decide)
    exact aLr (aTZ g1 g2 g4) hlo2
   have hlo2:lo*2^k%2^64<2^64:=Nat.mod_lt _ (by decide)
   have e1:n*2^k%2^128/2^64=lo/2^(64-k)+(hi%2^(64-k))*2^k:=by rw [v2]; omega
   have e2:n*2^k%2^128%2^64=lo*2^k%2^64:=by rw [v2]; omega
   unfold Wi
   rw [e1,e2]
  ·have e8:IntKind.wrap .i64 ((k:Int)-64)=((k-64:Nat):Int):=Eo k 64 (by omega) (by omega)
   rw [show decide ((k:Int)≥64)=true from decide_eq_true (by omega),cond_true,e8,AU,cond_true]
   show some ((AQ .u64 ((n%2^64:Nat):Int) ((k-64:Nat):Int),((0:Int),())),())=_
   rw [Eg _ (k-64) (by omega)]
   have v1:n*2^k%2^128=2^64*(n%2^64*2^(k-64)%2^64):=by
    have h2:2^k=2^(k-64)*2^64:=by rw [← Nat.pow_add]; congr 1; omega
    rw [h2,← Nat.mul_assoc,show 2^128=2^64*2^64 by decide,Nat.mul_mod_mul_right,Nat.mul_comm _ (2^64),Nat.mul_mod n (2^(k-64)),Nat.mul_mod (n%2^64) (2^(k-64)),Nat.mod_mod]
   have e1:n*2^k%2^128/2^64=n%2^64*2^(k-64)%2^64:=by rw [v1]; omega
   have e2:n*2^k%2^128%2^64=0:=by rw [v1]; omega
   unfold Wi
   rw [e1,e2]
   rfl
 ·rw [show decide ((k:Int)≥128)=true from decide_eq_true (by omega),cond_true]
  have e:n*2^k%2^128=0:=by
   rw [show k=(k-128)+128 by omega,Nat.pow_add,← Nat.mul_assoc]
   exact Nat.mul_mod_left _ _
  rw [e]
  rfl
theorem aPl (n k:Nat) (hn:n<2^128):Um (Wi n,(k:Int),())=some (Wi (n/2^k),()):=by
 show k8 (Wi n) k=_
 unfold k8
 rcases Nat.eq_zero_or_pos k with rfl | hk
 ·have e:n/2^0=n:=by rw [Nat.pow_zero,Nat.div_one]
  rw [e]; rfl
 rw [zU k hk,cond_false]
 rcases Nat.lt_or_ge k 128 with h128 | h128
 ·rw [show decide ((k:Int)≥128)=false from decide_eq_false (by omega),cond_false]
  have hlo:(n%2^64)<2^64:=Nat.mod_lt _ (by decide)
  have hhi:n/2^64<2^64:=by omega
  rcases Nat.lt_or_ge k 64 with h64 | h64
  ·have e8:IntKind.wrap .i64 (64-(k:Int))=((64-k:Nat):Int):=Eo 64 k (by omega) (by omega)
   rw [show decide ((k:Int)≥64)=false from decide_eq_false (by omega),cond_false,AU,cond_true,e8,AU,cond_true,cond_true]
   show some ((AH .u64 ((n/2^64:Nat):Int) k,(A9 .u64 (AH .u64 ((n%2^64:Nat):Int) k) (AQ .u64 ((n/2^64:Nat):Int) ((64-k:Nat):Int)),())),())=_
   rw [Eg _ (64-k) (by omega),Dq _ k (by omega),Dq _ k (by omega)]
   have hp:=Nat.two_pow_pos k
   have hp2:=Nat.two_pow_pos (64-k)
   have h2:2^64=2^k*2^(64-k):=by rw [← Nat.pow_add]; congr 1; omega
   have hsplit:n=2^64*(n/2^64)+n%2^64:=(Nat.div_add_mod n (2^64)).symm
   generalize n/2^64=hi at *
   generalize n%2^64=lo at *
   have g1:hi*2^(64-k)%2^64=(hi%2^k)*2^(64-k):=by rw [h2,Nat.mul_mod_mul_right]
   have g2:lo/2^k<2^(64-k):=by rw [Nat.div_lt_iff_lt_mul hp,Nat.mul_comm,← h2]; exact hlo
   have g3:hi%2^k+1≤2^k:=Nat.mod_lt _ hp
   have g4:=Nat.mul_le_mul_right (2^(64-k)) g3
   rw [← h2,Nat.add_mul,Nat.one_mul] at g4
   rw [g1,Fk g2 (by omega)]
   have v1:n/2^k=hi*2^(64-k)+lo/2^k:=by
    have:n=lo+2^k*(hi*2^(64-k)):=by rw [hsplit,h2,Nat.mul_assoc,Nat.mul_comm hi]; omega
    rw [this,Nat.add_mul_div_left _ _ hp,Nat.add_comm]
   have hdm:=Nat.div_add_mod hi (2^k)
   have v2:hi*2^(64-k)=2^64*(hi/2^k)+(hi%2^k)*2^(64-k):=by
    rw [h2,Nat.mul_right_comm,← Nat.add_mul,hdm]
   rw [v2] at v1
   obtain ⟨e1,e2⟩:=aMY v1 g2 g4
   unfold Wi
   rw [e1,e2]
  ·have e8:IntKind.wrap .i64 ((k:Int)-64)=((k-64:Nat):Int):=Eo k 64 (by omega) (by omega)
   rw [show decide ((k:Int)≥64)=true from decide_eq_true (by omega),cond_true,e8,AU,cond_true]
   show some (((0:Int),(AH .u64 ((n/2^64:Nat):Int) ((k-64:Nat):Int),())),())=_
   rw [Dq _ (k-64) (by omega)]
   have v1:n/2^k=n/2^64/2^(k-64):=by
    rw [Nat.div_div_eq_div_mul,← Nat.pow_add]; congr 2; omega
   have hs:n/2^k<2^64:=by
    rw [v1]; exact Nat.lt_of_le_of_lt (Nat.div_le_self _ _) hhi
   have e1:n/2^k/2^64=0:=Nat.div_eq_of_lt hs
   have e2:n/2^k%2^64=n/2^64/2^(k-64):=by rw [← v1]; exact Nat.mod_eq_of_lt hs
   unfold Wi
   rw [e1,e2]
   rfl
 ·rw [show decide ((k:Int)≥128)=true from decide_eq_true (by omega),cond_true]
  have e:n/2^k=0:=Nat.div_eq_of_lt (Nat.lt_of_lt_of_le hn (Nat.pow_le_pow_right (by decide) h128))
  rw [e]
  rfl
theorem Pe (x y c:Nat):Ay.F ((x:Int),((y:Int),((c:Int),())))=(((((x+y+c)%2^64:Nat):Int)),((((x+y+c)/2^64:Nat):Int)),()):=rfl
theorem Ro (x y:Int) (c:Nat) (h:c≤1):Ay.pre (x,(y,((c:Int),())))=true:=by
 show (decide ((0:Int)≤(c:Int))&&decide ((c:Int)≤1))=true
 rw [decide_eq_true (by omega),decide_eq_true (by omega)]; rfl
theorem VZ (x y c:Nat) (h:c≤1) (hx:x<2^64) (hy:y<2^64):A5.F ((x:Int),((y:Int),((c:Int),())))=(((((x+2^64-y-c)%2^64:Nat):Int)),((if x<y+c then 1 else 0:Nat):Int),()):=by
 show ((((x:Int)-y-c)%18446744073709551616:Int),((if (x:Int)<y+c then 1 else 0:Int)),())=_
 have e1:((x:Int)-y-c)%18446744073709551616=((x+2^64-y-c)%2^64:Nat):=by omega
 rw [e1]
 by_cases h:x<y+c
 ·rw [if_pos h,if_pos (by omega)]; rfl
 ·rw [if_neg h,if_neg (by omega)]; rfl
theorem Zw (x y:Int) (c:Nat) (h:c≤1):A5.pre (x,(y,((c:Int),())))=true:=by
 show (decide ((0:Int)≤(c:Int))&&decide ((c:Int)≤1))=true
 rw [decide_eq_true (by omega),decide_eq_true (by omega)]; rfl
theorem aKm (n m:Nat) (h:n+m<2^128):WJ (Wi n,Wi m,())=some (Wi (n+m),0,()):=by
 show dX Ay.pre Ay.F (Wi n) (Wi m)=_
 unfold dX
 have c1:(n%2^64+m%2^64+0)/2^64≤1:=by omega
 have p1:Ay.pre ((Wi n).2.1,((Wi m).2.1,((0:Int),())))=true:=Ro _ _ 0 (by decide)
 have q1:Ay.F ((Wi n).2.1,((Wi m).2.1,((0:Int),())))=_:=Pe (n%2^64) (m%2^64) 0
 rw [p1,q1,cond_true]
 have p2:Ay.pre ((Wi n).1,((Wi m).1,((((n%2^64+m%2^64+0)/2^64:Nat):Int),())))=true:=Ro _ _ _ c1
 have q2:Ay.F ((Wi n).1,((Wi m).1,((((n%2^64+m%2^64+0)/2^64:Nat):Int),())))=_:=Pe (n/2^64) (m/2^64) ((n%2^64+m%2^64+0)/2^64)
 dsimp only
 rw [p2,q2,cond_true]
 have e1:(n/2^64+m/2^64+(n%2^64+m%2^64+0)/2^64)%2^64=(n+m)/2^64:=by omega
 have e2:(n%2^64+m%2^64+0)%2^64=(n+m)%2^64:=by omega
 have e3:(n/2^64+m/2^64+(n%2^64+m%2^64+0)/2^64)/2^64=0:=by omega
 rw [e1,e2,e3]
 rfl
theorem vL (n m:Nat) (hn:n<2^128) (h:m≤n):Xi (Wi n,Wi m,())=some (Wi (n-m),0,()):=by
 show j5 A5.pre A5.F (Wi n) (Wi m)=_
 unfold j5
 have p1:A5.pre ((Wi n).2.1,((Wi m).2.1,((0:Int),())))=true:=Zw _ _ 0 (by decide)
 have q1:A5.F ((Wi n).2.1,((Wi m).2.1,((0:Int),())))=_:=VZ (n%2^64) (m%2^64) 0 (by decide) (by omega) (by omega)
 rw [p1,q1,cond_true]
 have c1:(if n%2^64<m%2^64+0 then 1 else 0)≤1:=by split <;> omega
 have p2:A5.pre ((Wi n).1,((Wi m).1,(((if n%2^64<m%2^64+0 then 1 else 0:Nat):Int),())))=true:=Zw _ _ _ c1
 have q2:A5.F ((Wi n).1,((Wi m).1,(((if n%2^64<m%2^64+0 then 1 else 0:Nat):Int),())))=_:=VZ (n/2^64) (m/2^64) _ c1 (by omega) (by omega)
 dsimp only
 rw [p2,q2,cond_true]
 have e2:(n%2^64+2^64-m%2^64-0)%2^64=(n-m)%2^64:=by omega
 rw [e2]
 by_cases hb:n%2^64<m%2^64+0
 ·rw [if_pos hb,if_neg (by omega)]
  have e1:(n/2^64+2^64-m/2^64-1)%2^64=(n-m)/2^64:=by omega
  rw [e1]
  rfl
 ·rw [if_neg hb,if_neg (by omega)]
  have e1:(n/2^64+2^64-m/2^64-0)%2^64=(n-m)/2^64:=by omega
  rw [e1]
  rfl
theorem aHf (n m:Nat):W5 (Wi n,Wi m,())=some (if n=m then 0 else if n<m then -1 else 1,()):=by
 show iQ (Wi n) (Wi m)=_
 unfold iQ
 show (bif (((n/2^64:Nat):Int)==((m/2^64:Nat):Int)&&((n%2^64:Nat):Int)==((m%2^64:Nat):Int)) then some ((0:Int),())
  else bif (decide (((n/2^64:Nat):Int)<((m/2^64:Nat):Int))||(((n/2^64:Nat):Int)==((m/2^64:Nat):Int)&&decide (((n%2^64:Nat):Int)<((m%2^64:Nat):Int)))) then some ((-1:Int),()) else some ((1:Int),()):Option (Int×Unit))=_
 rw [H8,H8,r5,r5]
 rcases Nat.lt_trichotomy n m with h | h | h
 ·have e1:(n/2^64==m/2^64&&n%2^64==m%2^64)=false:=by
   rw [Bool.and_eq_false_iff,beq_eq_false_iff_ne,beq_eq_false_iff_ne]; omega
  have e2:(decide (n/2^64<m/2^64)||(n/2^64==m/2^64&&decide (n%2^64<m%2^64)))=true:=by
   rw [Bool.or_eq_true,Bool.and_eq_true,decide_eq_true_eq,decide_eq_true_eq,beq_iff_eq]; omega
  rw [e1,e2,if_neg (by omega),if_pos h]; rfl
 ·subst h
  rw [if_pos rfl]
  simp
 ·have e1:(n/2^64==m/2^64&&n%2^64==m%2^64)=false:=by
   rw [Bool.and_eq_false_iff,beq_eq_false_iff_ne,beq_eq_false_iff_ne]; omega
  have e2:(decide (n/2^64<m/2^64)||(n/2^64==m/2^64&&decide (n%2^64<m%2^64)))=false:=by
   rw [Bool.or_eq_false_iff,Bool.and_eq_false_iff,decide_eq_false_iff_not,decide_eq_false_iff_not,beq_eq_false_iff_ne]; omega
  rw [e1,e2,if_neg (by omega),if_neg (by omega)]; rfl
end VL
namespace VL
open Go Vx
def Ct (m:Int) (neg odd:Bool) (rest:Nat):Bool :=
 if m=4 then neg else if m=3 then !neg else if m=0 then (if rest=2 then odd else decide (2≤rest)) else if m=1 then decide (2≤rest) else if m=5 then !odd else false
theorem Il (a b:Int) (h:a≠b):(a==b)=false:=by simp [h]
theorem UW (m:Int) (neg odd:Bool) (rest:Nat):RJ (m,neg,odd,(rest:Int),())=some (Ct m neg odd rest,()):=by
 show g9 m neg odd (rest:Int)=_
 have e2:decide ((rest:Int)≥2)=decide (2≤rest):=by rw [Bool.eq_iff_iff,decide_eq_true_eq,decide_eq_true_eq]; omega
 have e3:((rest:Int)==2)=decide (rest=2):=by rw [Bool.eq_iff_iff,decide_eq_true_eq,beq_iff_eq]; omega
 unfold g9 Ct
 rw [e2,e3]
 by_cases h4:m=4
 ·subst h4; cases neg <;> rfl
 rw [Il m 4 h4,cond_false,if_neg h4]
 by_cases h3:m=3
 ·subst h3; rfl
 rw [Il m 3 h3,cond_false,if_neg h3]
 by_cases h0:m=0
 ·subst h0
  by_cases hr:rest=2
  ·subst hr; rfl
  ·rw [decide_eq_false hr,if_pos rfl,if_neg hr]; rfl
 rw [Il m 0 h0,cond_false,if_neg h0]
 by_cases h1:m=1
 ·subst h1; rfl
 rw [Il m 1 h1,cond_false,if_neg h1]
 by_cases h5:m=5
 ·subst h5; rfl
 rw [Il m 5 h5,cond_false,if_neg h5]
def EI (n:Nat) (e q:Int):Nat:=if q≤e then n*2^(e-q).toNat else n/2^(q-e).toNat
def Cs (r s:Nat):Nat:=if r=0 then 0 else if r<2^(s-1) then 1 else if r=2^(s-1) then 2 else 3
def IT (n:Nat) (e q:Int):Nat:=if q≤e then 0 else Cs (n%2^(q-e).toNat) (q-e).toNat
def j4 (n:Nat) (e q:Int):Nat:=if 2≤q-e then KN n (q-e-2).toNat else n*2^(2-(q-e)).toNat
theorem aI9 (n:Nat) (e q:Int):j4 n e q/4=EI n e q∧j4 n e q%4=IT n e q:=by
 unfold j4 EI IT
 by_cases h2:2≤q-e
 ·rw [if_pos h2,if_neg (by omega),if_neg (by omega)]
  have es:(q-e).toNat=(q-e-2).toNat+2:=by omega
  rw [es]
  generalize (q-e-2).toNat=s
  have hp:=Nat.two_pow_pos s
  have e1:2^(s+2)=2^s*4:=by rw [Nat.pow_add]
  have e2:2^(s+2-1)=2^s*2:=by rw [show s+2-1=s+1 by omega,Nat.pow_succ]
  unfold KN Cs
  rw [e2,e1,← Nat.div_div_eq_div_mul,Nat.mod_mul]
  have hr:=Nat.mod_lt n hp
  generalize n%2^s=r at *
  generalize n/2^s=u at *
  have h4:u%4=0∨u%4=1∨u%4=2∨u%4=3:=by omega
  constructor
  ·split <;> omega
  ·rcases h4 with h | h | h | h <;> rw [h] <;> by_cases hz:r=0
   ·rw [if_pos hz,if_pos (by omega)]; exact h
   ·rw [if_neg hz,if_neg (by omega),if_pos (by omega)]; omega
   ·rw [if_pos hz,if_neg (by omega),if_pos (by omega)]; exact h
   ·rw [if_neg hz,if_neg (by omega),if_pos (by omega)]; omega
   ·rw [if_pos hz,if_neg (by omega),if_neg (by omega),if_pos (by omega)]; exact h
   ·rw [if_neg hz,if_neg (by omega),if_neg (by omega),if_neg (by omega)]; omega
   ·rw [if_pos hz,if_neg (by omega),if_neg (by omega),if_neg (by omega)]; exact h
   ·rw [if_neg hz,if_neg (by omega),if_neg (by omega),if_neg (by omega)]; omega
 ·rw [if_neg h2]
  by_cases h1:q≤e
  ·rw [if_pos h1,if_pos h1,show (2-(q-e)).toNat=(e-q).toNat+2 by omega,Nat.pow_add,← Nat.mul_assoc]
   generalize n*2^(e-q).toNat=x
   omega
  ·rw [if_neg h1,if_neg h1,show (2-(q-e)).toNat=1 by omega,show (q-e).toNat=1 by omega]
   unfold Cs
   rcases Nat.mod_two_eq_zero_or_one n with h | h
   ·rw [show n%2^1=0 from h,if_pos rfl]; omega
   ·rw [show n%2^1=1 from h,if_neg (by omega),if_neg (by decide),if_pos (by decide)]; omega
def DJ (n:Nat) (e q:Int) (more:Bool):Nat:=if more then IT n e q/2*2+1 else IT n e q
def CK (m:Int) (neg:Bool) (n:Nat) (e q:Int) (more:Bool):Nat :=
 if DJ n e q more≠0∧Ct m neg (decide (EI n e q%2=1)) (DJ n e q more)=true then EI n e q+1 else EI n e q
theorem Do:Dw 0=[]:=by unfold Dw; rw [Eq]; rfl
theorem Jm {n:Nat} (h:n≠0):0<(Dw n).length:=by
 unfold Dw; rw [Az,F9 (by decide) (by omega)]; simp
theorem OA {n:Nat} (h:n≠0):decide ((((Dw n).length:Nat):Int)>0)=true:=decide_eq_true (by have:=Jm h; omega)
theorem SR {n:Nat} (h:n≠0):decide ((0:Int)<(((Dw n).length:Nat):Int))=true:=decide_eq_true (by have:=Jm h; omega)
theorem Ku (n:Nat):(Dw n).getD 0 0=((n%2^64:Nat):Int):=by
 unfold Dw; rw [Ca]
 rcases Nat.eq_zero_or_pos n with rfl | h
 ·rw [Eq]; rfl
 ·rw [F9 (by decide) h]; rfl
theorem aOJ:Dw 1=(1:Int)::[]:=by
 unfold Dw; rw [F9 (by decide) (by decide),Eq]; rfl
theorem NP (n:Nat):(decide ((0:Int)<(((Dw n).length:Nat):Int))||!decide ((((Dw n).length:Nat):Int)>0))=true:=by
 by_cases h:0<(Dw n).length
 ·rw [decide_eq_true (by omega)]; rfl
 ·rw [decide_eq_false (p:=(((Dw n).length:Nat):Int)>0) (by omega)]; simp
theorem kR (n:Nat):A8 .u64 ((n%2^64:Nat):Int) 3=((n%4:Nat):Int):=by
 have:=Ss (m:=n%2^64) (n:=2) (Nat.mod_lt _ (by decide)) (by decide)
 rw [show n%2^64%2^2=n%4 by omega] at this
 exact this
theorem aTC (n:Nat):A8 .u64 ((n%2^64:Nat):Int) 1=((n%2:Nat):Int):=by
 have:=Ss (m:=n%2^64) (n:=1) (Nat.mod_lt _ (by decide)) (by decide)
 rw [show n%2^64%2^1=n%2 by omega] at this
 exact this
theorem or1 (n:Nat) (h:n<2^64):A9 .u64 (n:Int) 1=((n/2*2+1:Nat):Int):=by
 have:=SU (a:=n) (b:=1) h (by decide)
 rw [aIv] at this
 exact this
theorem aDl:A9 .u64 0 1=1:=by decide
theorem S9 (u:Nat):(decide ((((Dw u).length:Nat):Int)>0)&&(A8 .u64 ((Dw u).getD 0 0) 1==1))=decide (u%2=1):=by
 rw [Ku,aTC]
 rcases Nat.eq_zero_or_pos u with rfl | h
 ·rw [Do]; rfl
 ·rw [OA (by omega),Bool.true_and,Bool.eq_iff_iff,decide_eq_true_eq,beq_iff_eq]; omega
theorem Dj {n:Nat} (h:n<(2^64)^5000):Ws (dg (2^64) n):=by
 have:=CR (B:=2^64) (by decide) 5000 n h
 exact aHB n (by omega)
theorem Cb (n:Nat):nv (2^64) (dg (2^64) n)=n:=lD (by decide) n
theorem aE4 {j:Nat} (hj:Ws (dg (2^64) j)):Rk (Dw j,(2:Int),())=some (Dw (j/4),0,()):=by
 have:=aHs (dg (2^64) j) hj 2 (by decide)
 rw [Cb] at this
 exact this
theorem aCE {u:Nat} (hu:Ws (dg (2^64) u)) (hl:(dg (2^64) u).length<1000000):Rx (Dw u,((1:Int)::[]),())=some (Dw (u+1),()):=by
 have:=zE (dg (2^64) u) [1] hu ⟨by simp,by simp⟩ (by rw [Ox (by decide)]; exact hl) (by simp [Ai])
 rw [Cb,show nv (2^64) [1]=1 by rfl] at this
 exact this
end VL
namespace VL
open Go Vx
theorem aW:decide ((0:Int)>0)=false:=rfl
theorem aLW (m:Int) (neg:Bool) (n:Nat) (e q:Int) (more:Bool) (hn:n<(2^64)^2000) (hq:q-e≤10000000) (he:-1000000000≤e∧e≤1000000000) (hqb:-1000000000≤q∧q≤1000000000)
  (hs:q-e<2→2-(q-e)≤65536∧n*2^(2-(q-e)).toNat<(2^64)^1024) :
  UX ((neg,Dw n,e,more,()),m,q,())=some (Dw (CK m neg n e q more),decide (DJ n e q more≠0),()):=by
 show jB _ _ _ _ _ _ _ _ _ _ (neg,Dw n,e,more,()) m q=_
 unfold jB
 have hnw:Ws (dg (2^64) n):=Dj (Nat.lt_trans hn (Nat.pow_lt_pow_right (by decide) (by decide)))
 have e0:IntKind.wrap .i64 (q-e)=q-e:=As (by omega)
 have hj4:=aI9 n e q
 dsimp only
 rw [e0]
 by_cases h2:2≤q-e
 ·rw [show decide (q-e≥2)=true from decide_eq_true h2,cond_true]
  obtain ⟨s,hs⟩:=Int.eq_ofNat_of_zero_le (show 0≤q-e-2 by omega)
  have e1:IntKind.wrap .i64 (q-e-2)=(s:Int):=by rw [As (by omega)]; exact hs
  have hj:j4 n e q=KN n s:=by unfold j4; rw [if_pos h2]; congr 1; omega
  rw [hj] at hj4
  have hjn:KN n s≤n+1:=by
   unfold KN
   have:=Nat.div_le_self n (2^s)
   split <;> omega
  have p0:=aMO (dg (2^64) n) hnw s (by omega)
  rw [Cb] at p0
  have hjl:KN n s<(2^64)^5000:=by
   have h1:(2^64)^2000<(2^64)^5000:=Nat.pow_lt_pow_right (by decide) (by decide)
   generalize (2^64)^2000=A at *
   generalize (2^64)^5000=B at *
   omega
  clear hj
  generalize KN n s=j at *
  have hj:Ws (dg (2^64) j):=Dj hjl
  rw [e1]
  have p0:T8 (Dw n,(s:Int),())=some (Dw j,0,()):=p0
  have p1:=aE4 hj
  have hu:Ws (dg (2^64) (j/4)):=Dj (Nat.lt_of_le_of_lt (Nat.div_le_self _ _) hjl)
  have hul:=CR (B:=2^64) (by decide) 5000 (j/4) (Nat.lt_of_le_of_lt (Nat.div_le_self _ _) hjl)
  have p3:=aCE hu (by omega)
  have h4:j%4<4:=Nat.mod_lt _ (by decide)
  unfold CK DJ
  rw [← hj4.1,← hj4.2]
  rcases Nat.eq_zero_or_pos j with hj0 | hj0
  ·subst hj0
   have pz:Rk ([],(2:Int),())=some (Dw (0/4),0,()):=by rw [← Do]; exact p1
   cases more with
   | true =>
    have p2:RJ (m,neg,decide (0/4%2=1),(1:Int),())=some (Ct m neg (decide (0/4%2=1)) 1,()):=UW m neg _ 1
    simp only [bK p0,lC p0,cond_true,Do,List.length_nil,BF,Int.natCast_zero,cond_false,Int.toNat_zero,aW,aDl,Mz pz,LG pz,NP,S9,T5 p2,Tj p2,Bool.true_or,Bool.or_true,Bool.true_and]
    cases hf:Ct m neg (decide (0/4%2=1)) 1 with
    | true=>simp only [cond_true,I1 p3,I5 p3]; have hf:Ct m neg false 1=true:=hf; simp [hf]
    | false=>simp only [cond_false]; have hf:Ct m neg false 1=false:=hf; simp [hf]
   | false =>
    simp only [bK p0,lC p0,cond_true,Do,List.length_nil,Int.natCast_zero,cond_false,Int.toNat_zero,aW,Mz pz,LG pz,NP,Bool.or_true]
    simp
  ·have hjn:j≠0:=by omega
   cases more with
   | true =>
    have p2:=UW m neg (decide (j/4%2=1)) (j%4/2*2+1)
    have hr:j%4/2*2+1≠0:=by omega
    simp only [bK p0,lC p0,cond_true,OA hjn,SR hjn,Int.toNat_zero,Ku j,kR,or1 (j%4) (by omega),Mz p1,LG p1,NP,S9,T5 p2,Tj p2,Bool.true_or,Bool.or_true,Bg _ hr,Bool.true_and]
    cases hf:Ct m neg (decide (j/4%2=1)) (j%4/2*2+1) with
    | true=>simp only [cond_true,I1 p3,I5 p3]; simp [hf]
    | false=>simp only [cond_false]; simp [hf]
   | false =>
    have p2:=UW m neg (decide (j/4%2=1)) (j%4)
    simp only [bK p0,lC p0,cond_true,cond_false,OA hjn,SR hjn,Int.toNat_zero,Ku j,kR,Mz p1,LG p1,NP,S9,T5 p2,Tj p2,Bool.true_or,Bool.or_true]
    rcases Nat.eq_zero_or_pos (j%4) with hz | hz
    ·rw [BH _ hz,Bool.false_and,cond_false]
     simp [hz]
    ·have hr:j%4≠0:=by omega
     rw [Bg _ hr,Bool.true_and]
     cases hf:Ct m neg (decide (j/4%2=1)) (j%4) with
     | true=>simp only [cond_true,I1 p3,I5 p3]; simp [hf,hr]
     | false=>simp only [cond_false]; simp [hf,hr]
 ·rw [show decide (q-e≥2)=false from decide_eq_false h2,cond_false]
  obtain ⟨s,hse⟩:=Int.eq_ofNat_of_zero_le (show 0≤2-(q-e) by omega)
  have e1:IntKind.wrap .i64 (2-(q-e))=(s:Int):=by rw [As (by omega)]; exact hse
  have hj:j4 n e q=n*2^s:=by unfold j4; rw [if_neg h2]; congr 2; omega
  rw [hj] at hj4
  obtain ⟨hs1,hs2⟩:=hs (by omega)
  rw [show (2-(q-e)).toNat=s by omega] at hs2
  have p0:=aEh (dg (2^64) n) hnw s (by omega) (by rw [Cb]; exact hs2)
  rw [Cb] at p0
  have hjl:n*2^s<(2^64)^5000:=Nat.lt_trans hs2 (Nat.pow_lt_pow_right (by decide) (by decide))
  clear hj
  generalize n*2^s=j at *
  have hj:Ws (dg (2^64) j):=Dj hjl
  rw [e1]
  have p0:RH (Dw n,(s:Int),())=some (Dw j,0,()):=p0
  have p1:=aE4 hj
  have hu:Ws (dg (2^64) (j/4)):=Dj (Nat.lt_of_le_of_lt (Nat.div_le_self _ _) hjl)
  have hul:=CR (B:=2^64) (by decide) 5000 (j/4) (Nat.lt_of_le_of_lt (Nat.div_le_self _ _) hjl)
  have p3:=aCE hu (by omega)
  have h4:j%4<4:=Nat.mod_lt _ (by decide)
  unfold CK DJ
  rw [← hj4.1,← hj4.2]
  rcases Nat.eq_zero_or_pos j with hj0 | hj0
  ·subst hj0
   have pz:Rk ([],(2:Int),())=some (Dw (0/4),0,()):=by rw [← Do]; exact p1
   cases more with
   | true =>
    have p2:RJ (m,neg,decide (0/4%2=1),(1:Int),())=some (Ct m neg (decide (0/4%2=1)) 1,()):=UW m neg _ 1
    simp only [WX p0,Xe p0,cond_true,Do,List.length_nil,BF,Int.natCast_zero,cond_false,Int.toNat_zero,aW,aDl,Mz pz,LG pz,NP,S9,T5 p2,Tj p2,Bool.true_or,Bool.or_true,Bool.true_and]
    cases hf:Ct m neg (decide (0/4%2=1)) 1 with
    | true=>simp only [cond_true,I1 p3,I5 p3]; have hf:Ct m neg false 1=true:=hf; simp [hf]
    | false=>simp only [cond_false]; have hf:Ct m neg false 1=false:=hf; simp [hf]
   | false =>
    simp only [WX p0,Xe p0,cond_true,Do,List.length_nil,Int.natCast_zero,cond_false,Int.toNat_zero,aW,Mz pz,LG pz,NP,Bool.or_true]
    simp
  ·have hjn:j≠0:=by omega
   cases more with
   | true =>
    have p2:=UW m neg (decide (j/4%2=1)) (j%4/2*2+1)
    have hr:j%4/2*2+1≠0:=by omega
    simp only [WX p0,Xe p0,cond_true,OA hjn,SR hjn,Int.toNat_zero,Ku j,kR,or1 (j%4) (by omega),Mz p1,LG p1,NP,S9,T5 p2,Tj p2,Bool.true_or,Bool.or_true,Bg _ hr,Bool.true_and]
    cases hf:Ct m neg (decide (j/4%2=1)) (j%4/2*2+1) with
    | true=>simp only [cond_true,I1 p3,I5 p3]; simp [hf]
    | false=>simp only [cond_false]; simp [hf]
   | false =>
    have p2:=UW m neg (decide (j/4%2=1)) (j%4)
    simp only [WX p0,Xe p0,cond_true,cond_false,OA hjn,SR hjn,Int.toNat_zero,Ku j,kR,Mz p1,LG p1,NP,S9,T5 p2,Tj p2,Bool.true_or,Bool.or_true]
    rcases Nat.eq_zero_or_pos (j%4) with hz | hz
    ·rw [BH _ hz,Bool.false_and,cond_false]
     simp [hz]
    ·have hr:j%4≠0:=by omega
     rw [Bg _ hr,Bool.true_and]
     cases hf:Ct m neg (decide (j/4%2=1)) (j%4) with
     | true=>simp only [cond_true,I1 p3,I5 p3]; simp [hf,hr]
     | false=>simp only [cond_false]; simp [hf,hr]
end VL
namespace VL
open Go Vx
def C9 (f:Int) (neg:Bool):Nat:=if neg then 2^(fW f-1) else 0
def Gl (f:Int) (neg:Bool):Nat:=(2^(fW f-fP f)-1)*2^(fP f-1)+C9 f neg
def wQ (m:Int) (neg:Bool):Bool:=((m==0||m==1)||(m==3&&!neg))||(m==4&&neg)
def Yd (f m:Int) (neg:Bool):Nat:=if wQ m neg then Gl f neg else Gl f neg-1
theorem UT {f:Int} (h:Fm f) (neg:Bool):WQ (f,neg,())=some ((Gl f neg:Int),0,()):=by
 rcases Dr h with rfl | rfl | rfl | rfl <;> cases neg <;> kernel_rfl
theorem aSM {f:Int} (h:Fm f) (neg:Bool):WF (f,neg,())=some (((Gl f neg-1:Nat):Int),0,()):=by
 rcases Dr h with rfl | rfl | rfl | rfl <;> cases neg <;> kernel_rfl
theorem Q1 {f:Int} (h:Fm f) (neg:Bool):Wl (f,neg,())=some ((C9 f neg:Int),0,()):=by
 rcases Dr h with rfl | rfl | rfl | rfl <;> cases neg <;> kernel_rfl
theorem aMV {f:Int} (h:Fm f) (m:Int) (neg:Bool):XD (f,m,neg,())=some ((Yd f m neg:Int),()):=by
 show dV B7.pre B7.F IG.pre IG.F f m neg=_
 have p0:=UT h neg
 have p1:=aSM h neg
 unfold dV Yd
 show (bif wQ m neg then (bif B7.pre (f,neg,()) then some ((B7.F (f,neg,())).1,()) else none) else (bif IG.pre (f,neg,()) then some ((IG.F (f,neg,())).1,()) else none))=_
 rw [TM p0,VH p0,aMX p1,aSm p1]
 cases wQ m neg <;> rfl
def AV (n:Nat) (e:Int):Int:=e+(An n:Int)-1
theorem E2 {n k:Nat} (h:n<2^k):An n≤k:=by
 rcases Nat.eq_zero_or_pos n with rfl | hn
 ·exact Nat.zero_le _
 ·have:=I3 (n:=n) (by omega)
  have:An n-1<k:=(Nat.pow_lt_pow_iff_right (a:=2) (by decide)).1 (Nat.lt_of_le_of_lt this h)
  omega
theorem IE {n:Nat} (h:n≠0):1≤An n:=by unfold An; rw [if_neg h]; omega
theorem gO {n:Nat} (h:n<(2^64)^2000):An n≤128000:=by
 apply E2
 rw [Cr] at h
 exact h
theorem SG {n:Nat} (h:n<(2^64)^5000):Vp (Dw n,())=some ((An n:Int),()):=by
 have:=aQU _ (Dj h)
 rw [Cb] at this
 exact this
theorem KD {n:Nat} (h:n<(2^64)^2000):n<(2^64)^5000:=Nat.lt_trans h (Nat.pow_lt_pow_right (by decide) (by decide))
theorem aOt (neg:Bool) (n:Nat) (e:Int) (more:Bool) (hn:n<(2^64)^2000) (he:-1000000≤e∧e≤1000000):WD ((neg,Dw n,e,more,()),())=some (AV n e,()):=by
 show cD Ce.pre Ce.F (neg,Dw n,e,more,())=_
 unfold cD
 have p0:=SG (KD hn)
 have hb:=gO hn
 simp only [Sk p0,RL p0,cond_true]
 rw [As (n:=e+(An n:Int)) (by omega),As (by omega)]
 rfl
theorem aPD {n:Nat} {e q:Int} {p:Nat} (h:AV n e-p+1≤q):EI n e q<2^p:=by
 unfold AV at h
 unfold EI
 have hb:=He n
 by_cases hq:q≤e
 ·rw [if_pos hq]
  have h1:n*2^(e-q).toNat<2^An n*2^(e-q).toNat:=Nat.mul_lt_mul_of_pos_right hb (Nat.two_pow_pos _)
  rw [← Nat.pow_add] at h1
  exact Nat.lt_of_lt_of_le h1 (Nat.pow_le_pow_right (by decide) (by omega))
 ·rw [if_neg hq,Nat.div_lt_iff_lt_mul (Nat.two_pow_pos _),← Nat.pow_add]
  exact Nat.lt_of_lt_of_le hb (Nat.pow_le_pow_right (by decide) (by omega))
theorem sE {m:Int} {neg:Bool} {n:Nat} {e q:Int} {more:Bool} {p:Nat} (h:AV n e-p+1≤q):CK m neg n e q more≤2^p:=by
 have:=aPD h
 unfold CK
 split <;> omega
theorem aHq (m:Int) (neg:Bool) (n:Nat) (e q:Int) (more:Bool) (hn:n<(2^64)^2000) (he:-1000000≤e∧e≤1000000) {p:Nat} (hp:p≤60) (h1:AV n e-p+1≤q) (h2:q≤AV n e∨q≤1000) :
  UX ((neg,Dw n,e,more,()),m,q,())=some (Dw (CK m neg n e q more),decide (DJ n e q more≠0),()):=by
 have hb:=gO hn
 unfold AV at h1 h2
 refine aLW m neg n e q more hn (by omega) (by omega) (by omega) fun hs=>?_
 refine ⟨by omega,?_⟩
 have hl:=He n
 have h3:n*2^(2-(q-e)).toNat<2^An n*2^(2-(q-e)).toNat:=Nat.mul_lt_mul_of_pos_right hl (Nat.two_pow_pos _)
 rw [← Nat.pow_add] at h3
 rw [Cr]
 exact Nat.lt_of_lt_of_le h3 (Nat.pow_le_pow_right (by decide) (by omega))
theorem aSq (neg:Bool) (n:Nat) (e:Int) (more:Bool) (f m:Int) (hf:Fm f) (hn:n<(2^64)^2000) (he:-1000000≤e∧e≤1000000) :
  XA ((neg,Dw n,e,more,()),Bp f,m,AV n e,())=some (decide (AV n e<1-(fX f:Int)∧AV n e-fP f+An (CK m neg n e (AV n e-fP f+1) more)<1-(fX f:Int)),()):=by
 show cN HR.pre HR.F Ce.pre Ce.F (neg,Dw n,e,more,()) ((fW f:Int),((fP f:Int),((1-(fX f:Int)),((fX f:Int),())))) m (AV n e)=_
 unfold cN
 have hb:=gO hn
 have hp:=EP hf
 have hw:=D4 hf
 have hx:=H2 hf
 have hp8:=Dz hf
 have ht:AV n e=e+(An n:Int)-1:=rfl
 have p0:=aHq m neg n e (AV n e-fP f+1) more hn he (p:=fP f) (by omega) (by omega) (by omega)
 have hc:=sE (m:=m) (neg:=neg) (more:=more) (n:=n) (e:=e) (q:=AV n e-fP f+1) (p:=fP f) (by omega)
 generalize CK m neg n e (AV n e-fP f+1) more=u at *
 have hu:u<(2^64)^5000:=by
  rw [Cr]
  exact Nat.lt_of_le_of_lt hc (Nat.pow_lt_pow_right (by decide) (by omega))
 have hub:An u≤fP f+1:=E2 (Nat.lt_of_le_of_lt hc (Nat.pow_lt_pow_right (by decide) (by omega)))
 have p1:=SG hu
 have e1:IntKind.wrap .i64 (AV n e-(fP f:Int))=AV n e-(fP f:Int):=As (by omega)
 have e2:IntKind.wrap .i64 (AV n e-(fP f:Int)+1)=AV n e-(fP f:Int)+1:=As (by omega)
 have e3:IntKind.wrap .i64 (AV n e-(fP f:Int)+(An u:Int))=AV n e-(fP f:Int)+(An u:Int):=As (by omega)
 dsimp only
 rw [e1,e2]
 by_cases h:AV n e≥1-(fX f:Int)
 ·rw [decide_eq_true h,cond_true,decide_eq_false (by omega)]
 ·rw [decide_eq_false h,cond_false]
  simp only [aHa p0,aB8 p0,cond_true,Sk p1,RL p1,e3]
  have:(AV n e<1-(fX f:Int)):=by omega
  simp only [this,true_and]
end VL
namespace VL
open Go Vx
def KH (f:Int) (t:Int):Int:=(if 1-(fX f:Int)>t then 1-(fX f:Int) else t)-fP f+1
def FI (f m:Int) (neg:Bool) (n:Nat) (e:Int) (more:Bool):Prop:=AV n e<1-(fX f:Int)∧AV n e-fP f+An (CK m neg n e (AV n e-fP f+1) more)<1-(fX f:Int)
instance (f m:Int) (neg:Bool) (n:Nat) (e:Int) (more:Bool):Decidable (FI f m neg n e more):=by unfold FI; infer_instance
def AM (f m:Int) (neg:Bool) (n:Nat) (e:Int) (more:Bool):Nat×Nat :=
 if AV n e>fX f then (Yd f m neg,20)
 else
  let q:=KH f (AV n e)
  let u:=CK m neg n e q more
  if q+An u-1>fX f then (Yd f m neg,20)
  else ((q-(1-(fX f:Int)-fP f+1)).toNat*2^(fP f-1)+u+C9 f neg,
   if DJ n e q more=0 then 0 else if FI f m neg n e more then 24 else 16)
theorem aPh {f:Int} (hf:Fm f):(2*fX f-1)*2^(fP f-1)+2^fP f+2^(fP f-1)=2^(fW f-1):=by
 rcases Dr hf with rfl | rfl | rfl | rfl <;> decide
theorem R9 {f:Int} (hf:Fm f):15≤fX f:=by
 rcases Dr hf with rfl | rfl | rfl | rfl <;> decide
theorem wJ (neg:Bool) (n:Nat) (e:Int) (more:Bool) (f m:Int) (hf:Fm f) (hn:n<(2^64)^2000) (he:-1000000≤e∧e≤1000000) :
  Yo ((neg,Dw n,e,more,()),f,Bp f,m,())=some (((AM f m neg n e more).1:Int),((AM f m neg n e more).2:Int),()):=by
 show aL _ _ _ _ _ _ _ _ _ _ (neg,Dw n,e,more,()) f ((fW f:Int),((fP f:Int),((1-(fX f:Int)),((fX f:Int),())))) m=_
 unfold aL AM
 have hb:=gO hn
 have hp:=EP hf
 have hp8:=Dz hf
 have hw:=D4 hf
 have hx:=H2 hf
 have hx15:=R9 hf
 have ht:AV n e=e+(An n:Int)-1:=rfl
 have pt:=aOt neg n e more hn he
 have pb:=aMV hf m neg
 have py:=aSq neg n e more f m hf hn he
 have hrow:Bp f=((fW f:Int),((fP f:Int),((1-(fX f:Int)),((fX f:Int),())))):=rfl
 rw [hrow] at py
 simp only [aNf pt,aNq pt,cond_true]
 by_cases h1:AV n e>(fX f:Int)
 ·rw [if_pos h1,decide_eq_true h1,cond_true]
  simp only [nK pb,v9 pb,cond_true]
  rfl
 rw [if_neg h1,decide_eq_false h1,cond_false]
 have hM:∃ M:Int,(if 1-(fX f:Int)>AV n e then 1-(fX f:Int) else AV n e)=M∧AV n e≤M∧1-(fX f:Int)≤M∧M≤fX f∧(M=AV n e∨M=1-(fX f:Int)):=by
  refine ⟨_,rfl,?_⟩
  split <;> omega
 obtain ⟨M,hMe,m1,m2,m3,m4⟩:=hM
 have hq:KH f (AV n e)=M-fP f+1:=by unfold KH; rw [hMe]
 simp only [hMe,hq]
 have e1:IntKind.wrap .i64 (M-(fP f:Int))=M-(fP f:Int):=As (by omega)
 have e2:IntKind.wrap .i64 (M-(fP f:Int)+1)=M-(fP f:Int)+1:=As (by omega)
 simp only [e1,e2]
 have p0:=aHq m neg n e (M-(fP f:Int)+1) more hn he (p:=fP f) (by omega) (by omega) (by omega)
 have hc:=sE (m:=m) (neg:=neg) (more:=more) (n:=n) (e:=e) (q:=M-(fP f:Int)+1) (p:=fP f) (by omega)
 generalize CK m neg n e (M-(fP f:Int)+1) more=u at *
 generalize DJ n e (M-(fP f:Int)+1) more=r at *
 have hP60:2^fP f≤2^60:=Nat.pow_le_pow_right (by decide) (by omega)
 have hu:u<(2^64)^5000:=by
  rw [Cr]
  exact Nat.lt_of_le_of_lt hc (Nat.pow_lt_pow_right (by decide) (by omega))
 have hub:An u≤fP f+1:=E2 (Nat.lt_of_le_of_lt hc (Nat.pow_lt_pow_right (by decide) (by omega)))
 have p1:=SG hu
 have e3:IntKind.wrap .i64 ((fP f:Int)-1)=((fP f-1:Nat):Int):=Bn _ (by omega)
 have e4:IntKind.wrap .i64 ((fW f:Int)-1)=((fW f-1:Nat):Int):=Bn _ (by omega)
 have e5:IntKind.wrap .i64 (M-(fP f:Int)+1+(An u:Int))=M-(fP f:Int)+1+(An u:Int):=As (by omega)
 have e6:IntKind.wrap .i64 (M-(fP f:Int)+1+(An u:Int)-1)=M-(fP f:Int)+1+(An u:Int)-1:=As (by omega)
 have e7:IntKind.wrap .i64 (1-(fX f:Int)-(fP f:Int))=1-(fX f:Int)-(fP f:Int):=As (by omega)
 have e8:IntKind.wrap .i64 (1-(fX f:Int)-(fP f:Int)+1)=1-(fX f:Int)-(fP f:Int)+1:=As (by omega)
 obtain ⟨k,hk⟩:=Int.eq_ofNat_of_zero_le (show 0≤M-(fP f:Int)+1-(1-(fX f:Int)-(fP f:Int)+1) by omega)
 have e9:IntKind.wrap .i64 (M-(fP f:Int)+1-(1-(fX f:Int)-(fP f:Int)+1))=(k:Int):=by rw [As (by omega)]; exact hk
 have e10:IntKind.wrap .u64 (k:Int)=(k:Int):=Ee (by omega)
 have hkn:(M-(fP f:Int)+1-(1-(fX f:Int)-(fP f:Int)+1)).toNat=k:=by omega
 have hhalf:=aPh hf
 have hk2:k≤2*fX f-1:=by omega
 have hk3:=Nat.mul_le_mul_right (2^(fP f-1)) hk2
 have hW64:2^(fW f-1)≤2^63:=Nat.pow_le_pow_right (by decide) (by omega)
 have hpp:=Nat.two_pow_pos (fP f-1)
 have e11:AQ .u64 (k:Int) ((fP f-1:Nat):Int)=((k*2^(fP f-1):Nat):Int):=by
  rw [Eg _ _ (by omega),Nat.mod_eq_of_lt (by omega)]
 have e12:AQ .u64 1 ((fW f-1:Nat):Int)=((1*2^(fW f-1):Nat):Int):=by rw [L5 (by omega),Nat.one_mul]
 generalize hA:k*2^(fP f-1)=A at *
 have hbits:A+u<2^(fW f-1):=by omega
 have e13:IntKind.wrap .u64 ((A:Int)+((u%2^64:Nat):Int))=((A+u:Nat):Int):=by
  rw [Nat.mod_eq_of_lt (by omega),Ee (by omega)]; omega
 have hor:∀ b:Nat,b<2^(fW f-1)→A9 .u64 (b:Int) ((1*2^(fW f-1):Nat):Int)=((b+2^(fW f-1):Nat):Int):=fun b hb=>by
  have:=Fk (a:=b) (b:=1) (k:=fW f-1) hb (by omega)
  rw [Nat.one_mul] at this ⊢
  exact this
 have hsg:C9 f neg=if neg then 2^(fW f-1) else 0:=rfl
 have htd:decide (AV n e<1-(fX f:Int)∧AV n e-fP f+An (CK m neg n e (AV n e-fP f+1) more)<1-(fX f:Int))=decide (FI f m neg n e more):=by
  unfold FI; rfl
 rw [htd] at py
 simp only [aHa p0,aB8 p0,cond_true,e3,AU,Sk p1,RL p1,e5,e6,e7,e8,e9,e10,e11,e4,e12,hkn,hA]
 rcases Nat.eq_zero_or_pos u with hu0 | hu0
 ·subst hu0
  have hl0:decide ((((Dw 0).length:Nat):Int)>0)=false:=by rw [Do]; rfl
  rw [hl0,cond_false]
  by_cases h2:M-(fP f:Int)+1+(An 0:Int)-1>(fX f:Int)
  ·rw [decide_eq_true h2,cond_true,if_pos h2]
   simp only [nK pb,v9 pb,cond_true]
   rfl
  ·rw [decide_eq_false h2,cond_false,if_neg h2]
   have hbi:=hor (A) (by omega)
   rw [hbi]
   by_cases hr:r=0
   ·rw [if_pos hr,decide_eq_false (p:=r≠0) (by omega)]
    simp only [Bool.not_false,cond_true]
    cases neg <;> rfl
   ·rw [if_neg hr,decide_eq_true (p:=r≠0) hr]
    simp only [Bool.not_true,cond_false,aGb py,aHo py,cond_true]
    by_cases hti:FI f m neg n e more
    ·rw [if_pos hti,decide_eq_true hti]
     cases neg <;> rfl
    ·rw [if_neg hti,decide_eq_false hti]
     cases neg <;> rfl
 ·have hun:u≠0:=by omega
  simp only [OA hun,SR hun,cond_true,Int.toNat_zero,Ku,e13]
  by_cases h2:M-(fP f:Int)+1+(An u:Int)-1>(fX f:Int)
  ·rw [decide_eq_true h2,cond_true,if_pos h2]
   simp only [nK pb,v9 pb,cond_true]
   rfl
  ·rw [decide_eq_false h2,cond_false,if_neg h2]
   have hbi:=hor (A+u) (by omega)
   rw [hbi]
   by_cases hr:r=0
   ·rw [if_pos hr,decide_eq_false (p:=r≠0) (by omega)]
    simp only [Bool.not_false,cond_true]
    cases neg <;> rfl
   ·rw [if_neg hr,decide_eq_true (p:=r≠0) hr]
    simp only [Bool.not_true,cond_false,aGb py,aHo py,cond_true]
    by_cases hti:FI f m neg n e more
    ·rw [if_pos hti,decide_eq_true hti]
     cases neg <;> rfl
    ·rw [if_neg hti,decide_eq_false hti]
     cases neg <;> rfl
theorem wI {f m:Int} (hf:Fm f) (hm:0≤m∧m≤5):Wv (f,m,())=some (Bp f,0,()):=by
 show iA Aq.pre Aq.F Qr.pre Qr.F f m=_
 unfold iA
 have p0:=FQ hf
 have p1:Wz (m,())=some (0,()):=by
  show d0 m=_
  unfold d0
  rw [decide_eq_false (show ¬ m<0 by omega),decide_eq_false (show ¬ m>5 by omega)]; rfl
 simp only [Dd p0,C8 p0,cond_true,aN8 p1,aJ2 p1]
 rfl
theorem aQ6 {f:Int} (h:Fm f) (neg:Bool):Wo (f,neg,())=some ((C9 f neg:Int),0,0,()):=by
 show f9 Be.pre Be.F f neg=_
 unfold f9
 have p0:=Q1 h neg
 simp only [N2 p0,Ph p0,cond_true]
theorem aME (s:Nat) (hs:s<2^128):(Wi s).2.1::(Wi s).1::[]=Wd [s%2^64,s/2^64]∧Ws [s%2^64,s/2^64]∧nv (2^64) [s%2^64,s/2^64]=s:=by
 refine ⟨rfl,⟨?_,by simp⟩,?_⟩
 ·intro x hx
  have:x=s%2^64∨x=s/2^64:=by simpa using hx
  omega
 ·simp only [nv]; omega
theorem K5 {f m:Int} (hf:Fm f) (hm:0≤m∧m≤5) (neg:Bool) (s:Nat) (hs:s<2^128) (e:Int) (he:-40000≤e∧e≤40000) (more:Bool) (hmore:more=true→fP f+2≤An s) :
  RT (f,m,neg,Wi s,e,more,())=some (if s=0 then ((C9 f neg:Int),0,0,()) else (((AM f m neg s e more).1:Int),((AM f m neg s e more).2:Int),0,())):=by
 show gF _ _ _ _ _ _ _ _ _ _ f m neg (Wi s) e more=_
 unfold gF
 obtain ⟨w1,w2,w3⟩:=aME s hs
 have hP:=EP hf
 have hW:=D4 hf
 have p0:=wI hf hm
 have p1:=ZC _ w2
 rw [← w1,w3] at p1
 have hs2:s<(2^64)^2000:=by
  rw [Cr]
  exact Nat.lt_of_lt_of_le hs (Nat.pow_le_pow_right (by decide) (by decide))
 have p2:=SG (KD hs2)
 have p3:=aQ6 hf neg
 have p4:=wJ neg s e more f m hf hs2 (by omega)
 have e1:decide (e < -40000)=false:=decide_eq_false (by omega)
 have e2:decide (e>40000)=false:=decide_eq_false (by omega)
 have e3:IntKind.wrap .i64 ((Bp f).2.1+2)=((fP f+2:Nat):Int):=by
  show IntKind.wrap .i64 ((fP f:Int)+2)=_
  rw [As (by omega)]; rfl
 have e4:(more&&decide ((An s:Int)<((fP f+2:Nat):Int)))=false:=by
  cases more with
  | false=>rfl
  | true=>rw [decide_eq_false (by have:=hmore rfl; omega)]; rfl
 have z0:((0:Int) != 0)=false:=rfl
 simp only [vR p0,nR p0,cond_true,z0,cond_false,VB p1,UV p1,e1,e2,Bool.or_self,Sk p2,RL p2,Bool.true_or,e3,e4]
 by_cases h0:s=0
 ·rw [if_pos h0]
  subst h0
  rw [show ((((Dw 0).length:Nat):Int)==0)=true by rw [Do]; rfl,cond_true]
  simp only [aLT p3,aMp p3,cond_true]
 ·rw [if_neg h0,AS _ (by have:=Jm h0; omega),cond_false]
  simp only [sY p4,wY p4,cond_true]
end VL
namespace VL
open Go Vx
theorem aPk {r k s ρ:Nat} (hρ:0<ρ) (hρ2:ρ<2^k) (hs:1≤s):Cs (ρ+2^k*r) (k+s)=Cs r s/2*2+1:=by
 unfold Cs
 have hp:2^(k+s-1)=2^k*2^(s-1):=by rw [← Nat.pow_add]; congr 1; omega
 rw [hp]
 have hh:=Nat.two_pow_pos (s-1)
 generalize 2^(s-1)=h at *
 generalize 2^k=K at *
 rw [if_neg (by omega)]
 rcases Nat.lt_trichotomy r h with h1 | h1 | h1
 ·have:K*(r+1)≤K*h:=Nat.mul_le_mul_left _ h1
  rw [Nat.mul_add,Nat.mul_one] at this
  rw [if_pos (by omega)]
  by_cases hr:r=0
  ·rw [if_pos hr]
  ·rw [if_neg hr,if_pos h1]
 ·subst h1
  rw [if_neg (by omega),if_neg (by omega),if_neg (by omega),if_neg (by omega),if_pos rfl]
 ·have:K*(h+1)≤K*r:=Nat.mul_le_mul_left _ h1
  rw [Nat.mul_add,Nat.mul_one] at this
  rw [if_neg (by omega),if_neg (by omega),if_neg (by omega),if_neg (by omega),if_neg (by omega)]
theorem aUX {r k s:Nat} (hs:1≤s):Cs (2^k*r) (k+s)=Cs r s:=by
 unfold Cs
 have hp:2^(k+s-1)=2^k*2^(s-1):=by rw [← Nat.pow_add]; congr 1; omega
 rw [hp]
 have hk:=Nat.two_pow_pos k
 generalize 2^(s-1)=h at *
 generalize 2^k=K at *
 have h1:K*r=0↔r=0:=by
  constructor
  ·intro h; rcases Nat.mul_eq_zero.1 h with h | h <;> omega
  ·intro h; rw [h,Nat.mul_zero]
 have h2:K*r<K*h↔r<h:=Nat.mul_lt_mul_left hk
 have h3:K*r=K*h↔r=h:=Nat.mul_right_inj (by omega)
 simp only [h1,h2,h3]
theorem aI2 (N k s:Nat):N%2^(k+s)=N%2^k+2^k*(N/2^k%2^s):=by
 rw [Nat.pow_add,Nat.mod_mul]
theorem aBk {n:Nat} {e q:Int} (h:q≤e):EI n e q=n*2^(e-q).toNat:=if_pos h
theorem fZ {n:Nat} {e q:Int} (h:e<q):EI n e q=n/2^(q-e).toNat:=if_neg (by omega)
theorem aFk {n:Nat} {e q:Int} (h:q≤e):IT n e q=0:=if_pos h
theorem mN {n:Nat} {e q:Int} (h:e<q):IT n e q=Cs (n%2^(q-e).toNat) (q-e).toNat:=if_neg (by omega)
theorem W0 (n:Nat) (e q:Int):DJ n e q false=IT n e q:=rfl
theorem aJn (n:Nat) (e q:Int):DJ n e q true=IT n e q/2*2+1:=rfl
theorem oP {N k:Nat} {E q:Int} (hq:N%2^k≠0→E+k<q) :
  EI (N/2^k) (E+k) q=EI N E q∧DJ (N/2^k) (E+k) q (decide (N%2^k≠0))=DJ N E q false:=by
 have hk:=Nat.two_pow_pos k
 have hdm:=Nat.div_add_mod N (2^k)
 by_cases h1:E+k<q
 ·have es:(q-E).toNat=k+(q-(E+k)).toNat:=by omega
  have hs:1≤(q-(E+k)).toNat:=by omega
  rw [fZ h1,fZ (by omega),W0,mN (e:=E) (by omega),es]
  have hrs:=mN (n:=N/2^k) h1
  generalize (q-(E+k)).toNat=s at *
  refine ⟨by rw [Nat.div_div_eq_div_mul,← Nat.pow_add],?_⟩
  rw [aI2]
  by_cases hr:N%2^k=0
  ·rw [hr,Nat.zero_add,aUX hs,show decide ((0:Nat)≠0)=false by decide,W0,hrs]
  ·have hρ:0<N%2^k:=by omega
   rw [aPk hρ (Nat.mod_lt _ hk) hs,decide_eq_true hr,aJn,hrs]
 ·have hr:N%2^k=0:=by
   by_cases h:N%2^k=0
   ·exact h
   ·exact absurd (hq h) h1
  rw [hr,Nat.add_zero] at hdm
  rw [hr]
  clear hq hr
  generalize N/2^k=n at *
  subst hdm
  have hz:decide ((0:Nat)≠0)=false:=by decide
  rw [hz,aBk (by omega),W0,W0,aFk (by omega)]
  by_cases h2:q≤E
  ·rw [aBk h2,aFk h2,show (E+k-q).toNat=k+(E-q).toNat by omega,Nat.pow_add,Nat.mul_comm (2^k) n,Nat.mul_assoc]
   exact ⟨rfl,rfl⟩
  ·rw [fZ (by omega),mN (by omega)]
   have ek:k=(q-E).toNat+(E+k-q).toNat:=by omega
   generalize (q-E).toNat=s at *
   generalize (E+k-q).toNat=t at *
   have:2^k*n=2^s*(2^t*n):=by rw [ek,Nat.pow_add,Nat.mul_assoc]
   rw [this,Nat.mul_div_cancel_left _ (Nat.two_pow_pos s),Nat.mul_mod_right]
   exact ⟨Nat.mul_comm _ _,rfl⟩
theorem jD {m:Int} {neg:Bool} {N k:Nat} {E q:Int} (hq:N%2^k≠0→E+k<q):CK m neg (N/2^k) (E+k) q (decide (N%2^k≠0))=CK m neg N E q false:=by
 obtain ⟨h1,h2⟩:=oP hq
 unfold CK
 rw [h1,h2]
theorem aCi {N k:Nat} {E:Int} (hn:N/2^k≠0):AV (N/2^k) (E+k)=AV N E:=by
 have hk:=Nat.two_pow_pos k
 have h1:2^k≤N:=by
  rcases Nat.lt_or_ge N (2^k) with h | h
  ·exact absurd (Nat.div_eq_of_lt h) hn
  ·exact h
 have:=rW h1
 unfold AV
 omega
theorem Xb {f m:Int} {neg:Bool} {N k:Nat} {E:Int} (hf:Fm f) (hn:N/2^k≠0) (hm:N%2^k≠0→fP f+2≤An (N/2^k)):AM f m neg (N/2^k) (E+k) (decide (N%2^k≠0))=AM f m neg N E false:=by
 have ht:=aCi (E:=E) hn
 have htd:AV (N/2^k) (E+k)=E+k+(An (N/2^k):Int)-1:=rfl
 have hq1:N%2^k≠0→E+k<KH f (AV N E):=fun h=>by
  have:=hm h
  unfold KH
  split <;> omega
 have hq2:N%2^k≠0→E+k<AV N E-fP f+1:=fun h=>by
  have:=hm h
  omega
 have hti:FI f m neg (N/2^k) (E+k) (decide (N%2^k≠0))=FI f m neg N E false:=by
  unfold FI
  rw [ht,jD hq2]
 unfold AM
 simp only [ht,jD hq1,(oP hq1).2,hti]
theorem Kx {f m:Int} {neg:Bool} (hf:Fm f) {n:Nat} (hn:n≠0) (k:Nat) (e:Int):AM f m neg (n*2^k) e false=AM f m neg n (e+k) false:=by
 have hk:=Nat.two_pow_pos k
 have:=Xb (f:=f) (m:=m) (neg:=neg) (N:=n*2^k) (k:=k) (E:=e) hf (by rw [Nat.mul_div_cancel _ hk]; exact hn) (by rw [Nat.mul_mod_left]; omega)
 rw [Nat.mul_div_cancel _ hk,Nat.mul_mod_left] at this
 exact this.symm
end VL
namespace VL
open Go Vx
def S2 (f m:Int) (nx:Bool) (X ex:Int) (ny:Bool) (Y ey:Int):Option (DenS Jr) :=
 bif (AE.pre (((0:Int),(X,())),((if ((70:Int)<(IntKind.wrap .i64 (ex-ey))) then (70:Int) else (IntKind.wrap .i64 (ex-ey))),()))) then
  (bif (AK.pre (((0:Int),(Y,())),((IntKind.wrap .i64 ((IntKind.wrap .i64 (ex-(if ((70:Int)<(IntKind.wrap .i64 (ex-ey))) then (70:Int) else (IntKind.wrap .i64 (ex-ey)))))-ey)),()))) then
   (bif (AE.pre ((AK.F (((0:Int),(Y,())),((IntKind.wrap .i64 ((IntKind.wrap .i64 (ex-(if ((70:Int)<(IntKind.wrap .i64 (ex-ey))) then (70:Int) else (IntKind.wrap .i64 (ex-ey)))))-ey)),()))).1,((IntKind.wrap .i64 ((IntKind.wrap .i64 (ex-(if ((70:Int)<(IntKind.wrap .i64 (ex-ey))) then (70:Int) else (IntKind.wrap .i64 (ex-ey)))))-ey)),()))) then
    (bif (AK.pre (((0:Int),(Y,())),((IntKind.wrap .i64 ((IntKind.wrap .i64 (ex-(if ((70:Int)<(IntKind.wrap .i64 (ex-ey))) then (70:Int) else (IntKind.wrap .i64 (ex-ey)))))-ey)),()))) then
     (bif (nx==ny) then
      (bif (Ma.pre ((AE.F (((0:Int),(X,())),((if ((70:Int)<(IntKind.wrap .i64 (ex-ey))) then (70:Int) else (IntKind.wrap .i64 (ex-ey))),()))).1,(AK.F (((0:Int),(Y,())),((IntKind.wrap .i64 ((IntKind.wrap .i64 (ex-(if ((70:Int)<(IntKind.wrap .i64 (ex-ey))) then (70:Int) else (IntKind.wrap .i64 (ex-ey)))))-ey)),()))))) then
       (bif (A3.pre (f,(m,(nx,((Ma.F ((AE.F (((0:Int),(X,())),((if ((70:Int)<(IntKind.wrap .i64 (ex-ey))) then (70:Int) else (IntKind.wrap .i64 (ex-ey))),()))).1,(AK.F (((0:Int),(Y,())),((IntKind.wrap .i64 ((IntKind.wrap .i64 (ex-(if ((70:Int)<(IntKind.wrap .i64 (ex-ey))) then (70:Int) else (IntKind.wrap .i64 (ex-ey)))))-ey)),()))))).1,((IntKind.wrap .i64 (ex-(if ((70:Int)<(IntKind.wrap .i64 (ex-ey))) then (70:Int) else (IntKind.wrap .i64 (ex-ey))))),(((!(((AE.F ((AK.F (((0:Int),(Y,())),((IntKind.wrap .i64 ((IntKind.wrap .i64 (ex-(if ((70:Int)<(IntKind.wrap .i64 (ex-ey))) then (70:Int) else (IntKind.wrap .i64 (ex-ey)))))-ey)),()))).1,((IntKind.wrap .i64 ((IntKind.wrap .i64 (ex-(if ((70:Int)<(IntKind.wrap .i64 (ex-ey))) then (70:Int) else (IntKind.wrap .i64 (ex-ey)))))-ey)),()))).1.1==(0:Int))&&((AE.F ((AK.F (((0:Int),(Y,())),((IntKind.wrap .i64 ((IntKind.wrap .i64 (ex-(if ((70:Int)<(IntKind.wrap .i64 (ex-ey))) then (70:Int) else (IntKind.wrap .i64 (ex-ey)))))-ey)),()))).1,((IntKind.wrap .i64 ((IntKind.wrap .i64 (ex-(if ((70:Int)<(IntKind.wrap .i64 (ex-ey))) then (70:Int) else (IntKind.wrap .i64 (ex-ey)))))-ey)),()))).1.2.1==Y)))||((decide ((IntKind.wrap .i64 ((IntKind.wrap .i64 (ex-(if ((70:Int)<(IntKind.wrap .i64 (ex-ey))) then (70:Int) else (IntKind.wrap .i64 (ex-ey)))))-ey))>(63:Int)))&&(Y != (0:Int)))),()))))))) then
        (some (A3.F (f,(m,(nx,((Ma.F ((AE.F (((0:Int),(X,())),((if ((70:Int)<(IntKind.wrap .i64 (ex-ey))) then (70:Int) else (IntKind.wrap .i64 (ex-ey))),()))).1,(AK.F (((0:Int),(Y,())),((IntKind.wrap .i64 ((IntKind.wrap .i64 (ex-(if ((70:Int)<(IntKind.wrap .i64 (ex-ey))) then (70:Int) else (IntKind.wrap .i64 (ex-ey)))))-ey)),()))))).1,((IntKind.wrap .i64 (ex-(if ((70:Int)<(IntKind.wrap .i64 (ex-ey))) then (70:Int) else (IntKind.wrap .i64 (ex-ey))))),(((!(((AE.F ((AK.F (((0:Int),(Y,())),((IntKind.wrap .i64 ((IntKind.wrap .i64 (ex-(if ((70:Int)<(IntKind.wrap .i64 (ex-ey))) then (70:Int) else (IntKind.wrap .i64 (ex-ey)))))-ey)),()))).1,((IntKind.wrap .i64 ((IntKind.wrap .i64 (ex-(if ((70:Int)<(IntKind.wrap .i64 (ex-ey))) then (70:Int) else (IntKind.wrap .i64 (ex-ey)))))-ey)),()))).1.1==(0:Int))&&((AE.F ((AK.F (((0:Int),(Y,())),((IntKind.wrap .i64 ((IntKind.wrap .i64 (ex-(if ((70:Int)<(IntKind.wrap .i64 (ex-ey))) then (70:Int) else (IntKind.wrap .i64 (ex-ey)))))-ey)),()))).1,((IntKind.wrap .i64 ((IntKind.wrap .i64 (ex-(if ((70:Int)<(IntKind.wrap .i64 (ex-ey))) then (70:Int) else (IntKind.wrap .i64 (ex-ey)))))-ey)),()))).1.2.1==Y)))||((decide ((IntKind.wrap .i64 ((IntKind.wrap .i64 (ex-(if ((70:Int)<(IntKind.wrap .i64 (ex-ey))) then (70:Int) else (IntKind.wrap .i64 (ex-ey)))))-ey))>(63:Int)))&&(Y != (0:Int)))),()))))))))
       else none)
      else none)
     else bif (Dx.pre ((AE.F (((0:Int),(X,())),((if ((70:Int)<(IntKind.wrap .i64 (ex-ey))) then (70:Int) else (IntKind.wrap .i64 (ex-ey))),()))).1,(AK.F (((0:Int),(Y,())),((IntKind.wrap .i64 ((IntKind.wrap .i64 (ex-(if ((70:Int)<(IntKind.wrap .i64 (ex-ey))) then (70:Int) else (IntKind.wrap .i64 (ex-ey)))))-ey)),()))))) then
      (bif (decide ((Dx.F ((AE.F (((0:Int),(X,())),((if ((70:Int)<(IntKind.wrap .i64 (ex-ey))) then (70:Int) else (IntKind.wrap .i64 (ex-ey))),()))).1,(AK.F (((0:Int),(Y,())),((IntKind.wrap .i64 ((IntKind.wrap .i64 (ex-(if ((70:Int)<(IntKind.wrap .i64 (ex-ey))) then (70:Int) else (IntKind.wrap .i64 (ex-ey)))))-ey)),()))))).1<(0:Int))) then
       (bif (BG.pre ((AK.F (((0:Int),(Y,())),((IntKind.wrap .i64 ((IntKind.wrap .i64 (ex-(if ((70:Int)<(IntKind.wrap .i64 (ex-ey))) then (70:Int) else (IntKind.wrap .i64 (ex-ey)))))-ey)),()))).1,(AE.F (((0:Int),(X,())),((if ((70:Int)<(IntKind.wrap .i64 (ex-ey))) then (70:Int) else (IntKind.wrap .i64 (ex-ey))),()))))) then
        (bif ((!(((AE.F ((AK.F (((0:Int),(Y,())),((IntKind.wrap .i64 ((IntKind.wrap .i64 (ex-(if ((70:Int)<(IntKind.wrap .i64 (ex-ey))) then (70:Int) else (IntKind.wrap .i64 (ex-ey)))))-ey)),()))).1,((IntKind.wrap .i64 ((IntKind.wrap .i64 (ex-(if ((70:Int)<(IntKind.wrap .i64 (ex-ey))) then (70:Int) else (IntKind.wrap .i64 (ex-ey)))))-ey)),()))).1.1==(0:Int))&&((AE.F ((AK.F (((0:Int),(Y,())),((IntKind.wrap .i64 ((IntKind.wrap .i64 (ex-(if ((70:Int)<(IntKind.wrap .i64 (ex-ey))) then (70:Int) else (IntKind.wrap .i64 (ex-ey)))))-ey)),()))).1,((IntKind.wrap .i64 ((IntKind.wrap .i64 (ex-(if ((70:Int)<(IntKind.wrap .i64 (ex-ey))) then (70:Int) else (IntKind.wrap .i64 (ex-ey)))))-ey)),()))).1.2.1==Y)))||((decide ((IntKind.wrap .i64 ((IntKind.wrap .i64 (ex-(if ((70:Int)<(IntKind.wrap .i64 (ex-ey))) then (70:Int) else (IntKind.wrap .i64 (ex-ey)))))-ey))>(63:Int)))&&(Y != (0:Int)))) then
         (bif (BG.pre ((BG.F ((AK.F (((0:Int),(Y,())),((IntKind.wrap .i64 ((IntKind.wrap .i64 (ex-(if ((70:Int)<(IntKind.wrap .i64 (ex-ey))) then (70:Int) else (IntKind.wrap .i64 (ex-ey)))))-ey)),()))).1,(AE.F (((0:Int),(X,())),((if ((70:Int)<(IntKind.wrap .i64 (ex-ey))) then (70:Int) else (IntKind.wrap .i64 (ex-ey))),()))))).1,(((0:Int),((1:Int),())),()))) then
          (bif ((((BG.F ((BG.F ((AK.F (((0:Int),(Y,())),((IntKind.wrap .i64 ((IntKind.wrap .i64 (ex-(if ((70:Int)<(IntKind.wrap .i64 (ex-ey))) then (70:Int) else (IntKind.wrap .i64 (ex-ey)))))-ey)),()))).1,(AE.F (((0:Int),(X,())),((if ((70:Int)<(IntKind.wrap .i64 (ex-ey))) then (70:Int) else (IntKind.wrap .i64 (ex-ey))),()))))).1,(((0:Int),((1:Int),())),()))).1.1==(0:Int))&&((BG.F ((BG.F ((AK.F (((0:Int),(Y,())),((IntKind.wrap .i64 ((IntKind.wrap .i64 (ex-(if ((70:Int)<(IntKind.wrap .i64 (ex-ey))) then (70:Int) else (IntKind.wrap .i64 (ex-ey)))))-ey)),()))).1,(AE.F (((0:Int),(X,())),((if ((70:Int)<(IntKind.wrap .i64 (ex-ey))) then (70:Int) else (IntKind.wrap .i64 (ex-ey))),()))))).1,(((0:Int),((1:Int),())),()))).1.2.1==(0:Int)))&&(!((!(((AE.F ((AK.F (((0:Int),(Y,())),((IntKind.wrap .i64 ((IntKind.wrap .i64 (ex-(if ((70:Int)<(IntKind.wrap .i64 (ex-ey))) then (70:Int) else (IntKind.wrap .i64 (ex-ey)))))-ey)),()))).1,((IntKind.wrap .i64 ((IntKind.wrap .i64 (ex-(if ((70:Int)<(IntKind.wrap .i64 (ex-ey))) then (70:Int) else (IntKind.wrap .i64 (ex-ey)))))-ey)),()))).1.1==(0:Int))&&((AE.F ((AK.F (((0:Int),(Y,())),((IntKind.wrap .i64 ((IntKind.wrap .i64 (ex-(if ((70:Int)<(IntKind.wrap .i64 (ex-ey))) then (70:Int) else (IntKind.wrap .i64 (ex-ey)))))-ey)),()))).1,((IntKind.wrap .i64 ((IntKind.wrap .i64 (ex-(if ((70:Int)<(IntKind.wrap .i64 (ex-ey))) then (70:Int) else (IntKind.wrap .i64 (ex-ey)))))-ey)),()))).1.2.1==Y)))||((decide ((IntKind.wrap .i64 ((IntKind.wrap .i64 (ex-(if ((70:Int)<(IntKind.wrap .i64 (ex-ey))) then (70:Int) else (IntKind.wrap .i64 (ex-ey)))))-ey))>(63:Int)))&&(Y != (0:Int)))))) then
           (bif (Be.pre (f,((m==(4:Int)),()))) then
            (some ((Be.F (f,((m==(4:Int)),()))).1,((0:Int),((0:Int),()))))
           else none)
          else bif (A3.pre (f,(m,(ny,((BG.F ((BG.F ((AK.F (((0:Int),(Y,())),((IntKind.wrap .i64 ((IntKind.wrap .i64 (ex-(if ((70:Int)<(IntKind.wrap .i64 (ex-ey))) then (70:Int) else (IntKind.wrap .i64 (ex-ey)))))-ey)),()))).1,(AE.F (((0:Int),(X,())),((if ((70:Int)<(IntKind.wrap .i64 (ex-ey))) then (70:Int) else (IntKind.wrap .i64 (ex-ey))),()))))).1,(((0:Int),((1:Int),())),()))).1,((IntKind.wrap .i64 (ex-(if ((70:Int)<(IntKind.wrap .i64 (ex-ey))) then (70:Int) else (IntKind.wrap .i64 (ex-ey))))),(((!(((AE.F ((AK.F (((0:Int),(Y,())),((IntKind.wrap .i64 ((IntKind.wrap .i64 (ex-(if ((70:Int)<(IntKind.wrap .i64 (ex-ey))) then (70:Int) else (IntKind.wrap .i64 (ex-ey)))))-ey)),()))).1,((IntKind.wrap .i64 ((IntKind.wrap .i64 (ex-(if ((70:Int)<(IntKind.wrap .i64 (ex-ey))) then (70:Int) else (IntKind.wrap .i64 (ex-ey)))))-ey)),()))).1.1==(0:Int))&&((AE.F ((AK.F (((0:Int),(Y,())),((IntKind.wrap .i64 ((IntKind.wrap .i64 (ex-(if ((70:Int)<(IntKind.wrap .i64 (ex-ey))) then (70:Int) else (IntKind.wrap .i64 (ex-ey)))))-ey)),()))).1,((IntKind.wrap .i64 ((IntKind.wrap .i64 (ex-(if ((70:Int)<(IntKind.wrap .i64 (ex-ey))) then (70:Int) else (IntKind.wrap .i64 (ex-ey)))))-ey)),()))).1.2.1==Y)))||((decide ((IntKind.wrap .i64 ((IntKind.wrap .i64 (ex-(if ((70:Int)<(IntKind.wrap .i64 (ex-ey))) then (70:Int) else (IntKind.wrap .i64 (ex-ey)))))-ey))>(63:Int)))&&(Y != (0:Int)))),()))))))) then
           (some (A3.F (f,(m,(ny,((BG.F ((BG.F ((AK.F (((0:Int),(Y,())),((IntKind.wrap .i64 ((IntKind.wrap .i64 (ex-(if ((70:Int)<(IntKind.wrap .i64 (ex-ey))) then (70:Int) else (IntKind.wrap .i64 (ex-ey)))))-ey)),()))).1,(AE.F (((0:Int),(X,())),((if ((70:Int)<(IntKind.wrap .i64 (ex-ey))) then (70:Int) else (IntKind.wrap .i64 (ex-ey))),()))))).1,(((0:Int),((1:Int),())),()))).1,((IntKind.wrap .i64 (ex-(if ((70:Int)<(IntKind.wrap .i64 (ex-ey))) then (70:Int) else (IntKind.wrap .i64 (ex-ey))))),(((!(((AE.F ((AK.F (((0:Int),(Y,())),((IntKind.wrap .i64 ((IntKind.wrap .i64 (ex-(if ((70:Int)<(IntKind.wrap .i64 (ex-ey))) then (70:Int) else (IntKind.wrap .i64 (ex-ey)))))-ey)),()))).1,((IntKind.wrap .i64 ((IntKind.wrap .i64 (ex-(if ((70:Int)<(IntKind.wrap .i64 (ex-ey))) then (70:Int) else (IntKind.wrap .i64 (ex-ey)))))-ey)),()))).1.1==(0:Int))&&((AE.F ((AK.F (((0:Int),(Y,())),((IntKind.wrap .i64 ((IntKind.wrap .i64 (ex-(if ((70:Int)<(IntKind.wrap .i64 (ex-ey))) then (70:Int) else (IntKind.wrap .i64 (ex-ey)))))-ey)),()))).1,((IntKind.wrap .i64 ((IntKind.wrap .i64 (ex-(if ((70:Int)<(IntKind.wrap .i64 (ex-ey))) then (70:Int) else (IntKind.wrap .i64 (ex-ey)))))-ey)),()))).1.2.1==Y)))||((decide ((IntKind.wrap .i64 ((IntKind.wrap .i64 (ex-(if ((70:Int)<(IntKind.wrap .i64 (ex-ey))) then (70:Int) else (IntKind.wrap .i64 (ex-ey)))))-ey))>(63:Int)))&&(Y != (0:Int)))),()))))))))
          else none)
         else none)
        else bif ((((BG.F ((AK.F (((0:Int),(Y,())),((IntKind.wrap .i64 ((IntKind.wrap .i64 (ex-(if ((70:Int)<(IntKind.wrap .i64 (ex-ey))) then (70:Int) else (IntKind.wrap .i64 (ex-ey)))))-ey)),()))).1,(AE.F (((0:Int),(X,())),((if ((70:Int)<(IntKind.wrap .i64 (ex-ey))) then (70:Int) else (IntKind.wrap .i64 (ex-ey))),()))))).1.1==(0:Int))&&((BG.F ((AK.F (((0:Int),(Y,())),((IntKind.wrap .i64 ((IntKind.wrap .i64 (ex-(if ((70:Int)<(IntKind.wrap .i64 (ex-ey))) then (70:Int) else (IntKind.wrap .i64 (ex-ey)))))-ey)),()))).1,(AE.F (((0:Int),(X,())),((if ((70:Int)<(IntKind.wrap .i64 (ex-ey))) then (70:Int) else (IntKind.wrap .i64 (ex-ey))),()))))).1.2.1==(0:Int)))&&(!((!(((AE.F ((AK.F (((0:Int),(Y,())),((IntKind.wrap .i64 ((IntKind.wrap .i64 (ex-(if ((70:Int)<(IntKind.wrap .i64 (ex-ey))) then (70:Int) else (IntKind.wrap .i64 (ex-ey)))))-ey)),()))).1,((IntKind.wrap .i64 ((IntKind.wrap .i64 (ex-(if ((70:Int)<(IntKind.wrap .i64 (ex-ey))) then (70:Int) else (IntKind.wrap .i64 (ex-ey)))))-ey)),()))).1.1==(0:Int))&&((AE.F ((AK.F (((0:Int),(Y,())),((IntKind.wrap .i64 ((IntKind.wrap .i64 (ex-(if ((70:Int)<(IntKind.wrap .i64 (ex-ey))) then (70:Int) else (IntKind.wrap .i64 (ex-ey)))))-ey)),()))).1,((IntKind.wrap .i64 ((IntKind.wrap .i64 (ex-(if ((70:Int)<(IntKind.wrap .i64 (ex-ey))) then (70:Int) else (IntKind.wrap .i64 (ex-ey)))))-ey)),()))).1.2.1==Y)))||((decide ((IntKind.wrap .i64 ((IntKind.wrap .i64 (ex-(if ((70:Int)<(IntKind.wrap .i64 (ex-ey))) then (70:Int) else (IntKind.wrap .i64 (ex-ey)))))-ey))>(63:Int)))&&(Y != (0:Int)))))) then
         (bif (Be.pre (f,((m==(4:Int)),()))) then
          (some ((Be.F (f,((m==(4:Int)),()))).1,((0:Int),((0:Int),()))))
         else none)
        else bif (A3.pre (f,(m,(ny,((BG.F ((AK.F (((0:Int),(Y,())),((IntKind.wrap .i64 ((IntKind.wrap .i64 (ex-(if ((70:Int)<(IntKind.wrap .i64 (ex-ey))) then (70:Int) else (IntKind.wrap .i64 (ex-ey)))))-ey)),()))).1,(AE.F (((0:Int),(X,())),((if ((70:Int)<(IntKind.wrap .i64 (ex-ey))) then (70:Int) else (IntKind.wrap .i64 (ex-ey))),()))))).1,((IntKind.wrap .i64 (ex-(if ((70:Int)<(IntKind.wrap .i64 (ex-ey))) then (70:Int) else (IntKind.wrap .i64 (ex-ey))))),(((!(((AE.F ((AK.F (((0:Int),(Y,())),((IntKind.wrap .i64 ((IntKind.wrap .i64 (ex-(if ((70:Int)<(IntKind.wrap .i64 (ex-ey))) then (70:Int) else (IntKind.wrap .i64 (ex-ey)))))-ey)),()))).1,((IntKind.wrap .i64 ((IntKind.wrap .i64 (ex-(if ((70:Int)<(IntKind.wrap .i64 (ex-ey))) then (70:Int) else (IntKind.wrap .i64 (ex-ey)))))-ey)),()))).1.1==(0:Int))&&((AE.F ((AK.F (((0:Int),(Y,())),((IntKind.wrap .i64 ((IntKind.wrap .i64 (ex-(if ((70:Int)<(IntKind.wrap .i64 (ex-ey))) then (70:Int) else (IntKind.wrap .i64 (ex-ey)))))-ey)),()))).1,((IntKind.wrap .i64 ((IntKind.wrap .i64 (ex-(if ((70:Int)<(IntKind.wrap .i64 (ex-ey))) then (70:Int) else (IntKind.wrap .i64 (ex-ey)))))-ey)),()))).1.2.1==Y)))||((decide ((IntKind.wrap .i64 ((IntKind.wrap .i64 (ex-(if ((70:Int)<(IntKind.wrap .i64 (ex-ey))) then (70:Int) else (IntKind.wrap .i64 (ex-ey)))))-ey))>(63:Int)))&&(Y != (0:Int)))),()))))))) then
         (some (A3.F (f,(m,(ny,((BG.F ((AK.F (((0:Int),(Y,())),((IntKind.wrap .i64 ((IntKind.wrap .i64 (ex-(if ((70:Int)<(IntKind.wrap .i64 (ex-ey))) then (70:Int) else (IntKind.wrap .i64 (ex-ey)))))-ey)),()))).1,(AE.F (((0:Int),(X,())),((if ((70:Int)<(IntKind.wrap .i64 (ex-ey))) then (70:Int) else (IntKind.wrap .i64 (ex-ey))),()))))).1,((IntKind.wrap .i64 (ex-(if ((70:Int)<(IntKind.wrap .i64 (ex-ey))) then (70:Int) else (IntKind.wrap .i64 (ex-ey))))),(((!(((AE.F ((AK.F (((0:Int),(Y,())),((IntKind.wrap .i64 ((IntKind.wrap .i64 (ex-(if ((70:Int)<(IntKind.wrap .i64 (ex-ey))) then (70:Int) else (IntKind.wrap .i64 (ex-ey)))))-ey)),()))).1,((IntKind.wrap .i64 ((IntKind.wrap .i64 (ex-(if ((70:Int)<(IntKind.wrap .i64 (ex-ey))) then (70:Int) else (IntKind.wrap .i64 (ex-ey)))))-ey)),()))).1.1==(0:Int))&&((AE.F ((AK.F (((0:Int),(Y,())),((IntKind.wrap .i64 ((IntKind.wrap .i64 (ex-(if ((70:Int)<(IntKind.wrap .i64 (ex-ey))) then (70:Int) else (IntKind.wrap .i64 (ex-ey)))))-ey)),()))).1,((IntKind.wrap .i64 ((IntKind.wrap .i64 (ex-(if ((70:Int)<(IntKind.wrap .i64 (ex-ey))) then (70:Int) else (IntKind.wrap .i64 (ex-ey)))))-ey)),()))).1.2.1==Y)))||((decide ((IntKind.wrap .i64 ((IntKind.wrap .i64 (ex-(if ((70:Int)<(IntKind.wrap .i64 (ex-ey))) then (70:Int) else (IntKind.wrap .i64 (ex-ey)))))-ey))>(63:Int)))&&(Y != (0:Int)))),()))))))))
        else none)
       else none)
      else bif (BG.pre ((AE.F (((0:Int),(X,())),((if ((70:Int)<(IntKind.wrap .i64 (ex-ey))) then (70:Int) else (IntKind.wrap .i64 (ex-ey))),()))).1,(AK.F (((0:Int),(Y,())),((IntKind.wrap .i64 ((IntKind.wrap .i64 (ex-(if ((70:Int)<(IntKind.wrap .i64 (ex-ey))) then (70:Int) else (IntKind.wrap .i64 (ex-ey)))))-ey)),()))))) then
       (bif ((!(((AE.F ((AK.F (((0:Int),(Y,())),((IntKind.wrap .i64 ((IntKind.wrap .i64 (ex-(if ((70:Int)<(IntKind.wrap .i64 (ex-ey))) then (70:Int) else (IntKind.wrap .i64 (ex-ey)))))-ey)),()))).1,((IntKind.wrap .i64 ((IntKind.wrap .i64 (ex-(if ((70:Int)<(IntKind.wrap .i64 (ex-ey))) then (70:Int) else (IntKind.wrap .i64 (ex-ey)))))-ey)),()))).1.1==(0:Int))&&((AE.F ((AK.F (((0:Int),(Y,())),((IntKind.wrap .i64 ((IntKind.wrap .i64 (ex-(if ((70:Int)<(IntKind.wrap .i64 (ex-ey))) then (70:Int) else (IntKind.wrap .i64 (ex-ey)))))-ey)),()))).1,((IntKind.wrap .i64 ((IntKind.wrap .i64 (ex-(if ((70:Int)<(IntKind.wrap .i64 (ex-ey))) then (70:Int) else (IntKind.wrap .i64 (ex-ey)))))-ey)),()))).1.2.1==Y)))||((decide ((IntKind.wrap .i64 ((IntKind.wrap .i64 (ex-(if ((70:Int)<(IntKind.wrap .i64 (ex-ey))) then (70:Int) else (IntKind.wrap .i64 (ex-ey)))))-ey))>(63:Int)))&&(Y != (0:Int)))) then
        (bif (BG.pre ((BG.F ((AE.F (((0:Int),(X,())),((if ((70:Int)<(IntKind.wrap .i64 (ex-ey))) then (70:Int) else (IntKind.wrap .i64 (ex-ey))),()))).1,(AK.F (((0:Int),(Y,())),((IntKind.wrap .i64 ((IntKind.wrap .i64 (ex-(if ((70:Int)<(IntKind.wrap .i64 (ex-ey))) then (70:Int) else (IntKind.wrap .i64 (ex-ey)))))-ey)),()))))).1,(((0:Int),((1:Int),())),()))) then
         (bif ((((BG.F ((BG.F ((AE.F (((0:Int),(X,())),((if ((70:Int)<(IntKind.wrap .i64 (ex-ey))) then (70:Int) else (IntKind.wrap .i64 (ex-ey))),()))).1,(AK.F (((0:Int),(Y,())),((IntKind.wrap .i64 ((IntKind.wrap .i64 (ex-(if ((70:Int)<(IntKind.wrap .i64 (ex-ey))) then (70:Int) else (IntKind.wrap .i64 (ex-ey)))))-ey)),()))))).1,(((0:Int),((1:Int),())),()))).1.1==(0:Int))&&((BG.F ((BG.F ((AE.F (((0:Int),(X,())),((if ((70:Int)<(IntKind.wrap .i64 (ex-ey))) then (70:Int) else (IntKind.wrap .i64 (ex-ey))),()))).1,(AK.F (((0:Int),(Y,())),((IntKind.wrap .i64 ((IntKind.wrap .i64 (ex-(if ((70:Int)<(IntKind.wrap .i64 (ex-ey))) then (70:Int) else (IntKind.wrap .i64 (ex-ey)))))-ey)),()))))).1,(((0:Int),((1:Int),())),()))).1.2.1==(0:Int)))&&(!((!(((AE.F ((AK.F (((0:Int),(Y,())),((IntKind.wrap .i64 ((IntKind.wrap .i64 (ex-(if ((70:Int)<(IntKind.wrap .i64 (ex-ey))) then (70:Int) else (IntKind.wrap .i64 (ex-ey)))))-ey)),()))).1,((IntKind.wrap .i64 ((IntKind.wrap .i64 (ex-(if ((70:Int)<(IntKind.wrap .i64 (ex-ey))) then (70:Int) else (IntKind.wrap .i64 (ex-ey)))))-ey)),()))).1.1==(0:Int))&&((AE.F ((AK.F (((0:Int),(Y,())),((IntKind.wrap .i64 ((IntKind.wrap .i64 (ex-(if ((70:Int)<(IntKind.wrap .i64 (ex-ey))) then (70:Int) else (IntKind.wrap .i64 (ex-ey)))))-ey)),()))).1,((IntKind.wrap .i64 ((IntKind.wrap .i64 (ex-(if ((70:Int)<(IntKind.wrap .i64 (ex-ey))) then (70:Int) else (IntKind.wrap .i64 (ex-ey)))))-ey)),()))).1.2.1==Y)))||((decide ((IntKind.wrap .i64 ((IntKind.wrap .i64 (ex-(if ((70:Int)<(IntKind.wrap .i64 (ex-ey))) then (70:Int) else (IntKind.wrap .i64 (ex-ey)))))-ey))>(63:Int)))&&(Y != (0:Int)))))) then
          (bif (Be.pre (f,((m==(4:Int)),()))) then
           (some ((Be.F (f,((m==(4:Int)),()))).1,((0:Int),((0:Int),()))))
          else none)
         else bif (A3.pre (f,(m,(nx,((BG.F ((BG.F ((AE.F (((0:Int),(X,())),((if ((70:Int)<(IntKind.wrap .i64 (ex-ey))) then (70:Int) else (IntKind.wrap .i64 (ex-ey))),()))).1,(AK.F (((0:Int),(Y,())),((IntKind.wrap .i64 ((IntKind.wrap .i64 (ex-(if ((70:Int)<(IntKind.wrap .i64 (ex-ey))) then (70:Int) else (IntKind.wrap .i64 (ex-ey)))))-ey)),()))))).1,(((0:Int),((1:Int),())),()))).1,((IntKind.wrap .i64 (ex-(if ((70:Int)<(IntKind.wrap .i64 (ex-ey))) then (70:Int) else (IntKind.wrap .i64 (ex-ey))))),(((!(((AE.F ((AK.F (((0:Int),(Y,())),((IntKind.wrap .i64 ((IntKind.wrap .i64 (ex-(if ((70:Int)<(IntKind.wrap .i64 (ex-ey))) then (70:Int) else (IntKind.wrap .i64 (ex-ey)))))-ey)),()))).1,((IntKind.wrap .i64 ((IntKind.wrap .i64 (ex-(if ((70:Int)<(IntKind.wrap .i64 (ex-ey))) then (70:Int) else (IntKind.wrap .i64 (ex-ey)))))-ey)),()))).1.1==(0:Int))&&((AE.F ((AK.F (((0:Int),(Y,())),((IntKind.wrap .i64 ((IntKind.wrap .i64 (ex-(if ((70:Int)<(IntKind.wrap .i64 (ex-ey))) then (70:Int) else (IntKind.wrap .i64 (ex-ey)))))-ey)),()))).1,((IntKind.wrap .i64 ((IntKind.wrap .i64 (ex-(if ((70:Int)<(IntKind.wrap .i64 (ex-ey))) then (70:Int) else (IntKind.wrap .i64 (ex-ey)))))-ey)),()))).1.2.1==Y)))||((decide ((IntKind.wrap .i64 ((IntKind.wrap .i64 (ex-(if ((70:Int)<(IntKind.wrap .i64 (ex-ey))) then (70:Int) else (IntKind.wrap .i64 (ex-ey)))))-ey))>(63:Int)))&&(Y != (0:Int)))),()))))))) then
          (some (A3.F (f,(m,(nx,((BG.F ((BG.F ((AE.F (((0:Int),(X,())),((if ((70:Int)<(IntKind.wrap .i64 (ex-ey))) then (70:Int) else (IntKind.wrap .i64 (ex-ey))),()))).1,(AK.F (((0:Int),(Y,())),((IntKind.wrap .i64 ((IntKind.wrap .i64 (ex-(if ((70:Int)<(IntKind.wrap .i64 (ex-ey))) then (70:Int) else (IntKind.wrap .i64 (ex-ey)))))-ey)),()))))).1,(((0:Int),((1:Int),())),()))).1,((IntKind.wrap .i64 (ex-(if ((70:Int)<(IntKind.wrap .i64 (ex-ey))) then (70:Int) else (IntKind.wrap .i64 (ex-ey))))),(((!(((AE.F ((AK.F (((0:Int),(Y,())),((IntKind.wrap .i64 ((IntKind.wrap .i64 (ex-(if ((70:Int)<(IntKind.wrap .i64 (ex-ey))) then (70:Int) else (IntKind.wrap .i64 (ex-ey)))))-ey)),()))).1,((IntKind.wrap .i64 ((IntKind.wrap .i64 (ex-(if ((70:Int)<(IntKind.wrap .i64 (ex-ey))) then (70:Int) else (IntKind.wrap .i64 (ex-ey)))))-ey)),()))).1.1==(0:Int))&&((AE.F ((AK.F (((0:Int),(Y,())),((IntKind.wrap .i64 ((IntKind.wrap .i64 (ex-(if ((70:Int)<(IntKind.wrap .i64 (ex-ey))) then (70:Int) else (IntKind.wrap .i64 (ex-ey)))))-ey)),()))).1,((IntKind.wrap .i64 ((IntKind.wrap .i64 (ex-(if ((70:Int)<(IntKind.wrap .i64 (ex-ey))) then (70:Int) else (IntKind.wrap .i64 (ex-ey)))))-ey)),()))).1.2.1==Y)))||((decide ((IntKind.wrap .i64 ((IntKind.wrap .i64 (ex-(if ((70:Int)<(IntKind.wrap .i64 (ex-ey))) then (70:Int) else (IntKind.wrap .i64 (ex-ey)))))-ey))>(63:Int)))&&(Y != (0:Int)))),()))))))))
         else none)
        else none)
       else bif ((((BG.F ((AE.F (((0:Int),(X,())),((if ((70:Int)<(IntKind.wrap .i64 (ex-ey))) then (70:Int) else (IntKind.wrap .i64 (ex-ey))),()))).1,(AK.F (((0:Int),(Y,())),((IntKind.wrap .i64 ((IntKind.wrap .i64 (ex-(if ((70:Int)<(IntKind.wrap .i64 (ex-ey))) then (70:Int) else (IntKind.wrap .i64 (ex-ey)))))-ey)),()))))).1.1==(0:Int))&&((BG.F ((AE.F (((0:Int),(X,())),((if ((70:Int)<(IntKind.wrap .i64 (ex-ey))) then (70:Int) else (IntKind.wrap .i64 (ex-ey))),()))).1,(AK.F (((0:Int),(Y,())),((IntKind.wrap .i64 ((IntKind.wrap .i64 (ex-(if ((70:Int)<(IntKind.wrap .i64 (ex-ey))) then (70:Int) else (IntKind.wrap .i64 (ex-ey)))))-ey)),()))))).1.2.1==(0:Int)))&&(!((!(((AE.F ((AK.F (((0:Int),(Y,())),((IntKind.wrap .i64 ((IntKind.wrap .i64 (ex-(if ((70:Int)<(IntKind.wrap .i64 (ex-ey))) then (70:Int) else (IntKind.wrap .i64 (ex-ey)))))-ey)),()))).1,((IntKind.wrap .i64 ((IntKind.wrap .i64 (ex-(if ((70:Int)<(IntKind.wrap .i64 (ex-ey))) then (70:Int) else (IntKind.wrap .i64 (ex-ey)))))-ey)),()))).1.1==(0:Int))&&((AE.F ((AK.F (((0:Int),(Y,())),((IntKind.wrap .i64 ((IntKind.wrap .i64 (ex-(if ((70:Int)<(IntKind.wrap .i64 (ex-ey))) then (70:Int) else (IntKind.wrap .i64 (ex-ey)))))-ey)),()))).1,((IntKind.wrap .i64 ((IntKind.wrap .i64 (ex-(if ((70:Int)<(IntKind.wrap .i64 (ex-ey))) then (70:Int) else (IntKind.wrap .i64 (ex-ey)))))-ey)),()))).1.2.1==Y)))||((decide ((IntKind.wrap .i64 ((IntKind.wrap .i64 (ex-(if ((70:Int)<(IntKind.wrap .i64 (ex-ey))) then (70:Int) else (IntKind.wrap .i64 (ex-ey)))))-ey))>(63:Int)))&&(Y != (0:Int)))))) then
        (bif (Be.pre (f,((m==(4:Int)),()))) then
         (some ((Be.F (f,((m==(4:Int)),()))).1,((0:Int),((0:Int),()))))
        else none)
       else bif (A3.pre (f,(m,(nx,((BG.F ((AE.F (((0:Int),(X,())),((if ((70:Int)<(IntKind.wrap .i64 (ex-ey))) then (70:Int) else (IntKind.wrap .i64 (ex-ey))),()))).1,(AK.F (((0:Int),(Y,())),((IntKind.wrap .i64 ((IntKind.wrap .i64 (ex-(if ((70:Int)<(IntKind.wrap .i64 (ex-ey))) then (70:Int) else (IntKind.wrap .i64 (ex-ey)))))-ey)),()))))).1,((IntKind.wrap .i64 (ex-(if ((70:Int)<(IntKind.wrap .i64 (ex-ey))) then (70:Int) else (IntKind.wrap .i64 (ex-ey))))),(((!(((AE.F ((AK.F (((0:Int),(Y,())),((IntKind.wrap .i64 ((IntKind.wrap .i64 (ex-(if ((70:Int)<(IntKind.wrap .i64 (ex-ey))) then (70:Int) else (IntKind.wrap .i64 (ex-ey)))))-ey)),()))).1,((IntKind.wrap .i64 ((IntKind.wrap .i64 (ex-(if ((70:Int)<(IntKind.wrap .i64 (ex-ey))) then (70:Int) else (IntKind.wrap .i64 (ex-ey)))))-ey)),()))).1.1==(0:Int))&&((AE.F ((AK.F (((0:Int),(Y,())),((IntKind.wrap .i64 ((IntKind.wrap .i64 (ex-(if ((70:Int)<(IntKind.wrap .i64 (ex-ey))) then (70:Int) else (IntKind.wrap .i64 (ex-ey)))))-ey)),()))).1,((IntKind.wrap .i64 ((IntKind.wrap .i64 (ex-(if ((70:Int)<(IntKind.wrap .i64 (ex-ey))) then (70:Int) else (IntKind.wrap .i64 (ex-ey)))))-ey)),()))).1.2.1==Y)))||((decide ((IntKind.wrap .i64 ((IntKind.wrap .i64 (ex-(if ((70:Int)<(IntKind.wrap .i64 (ex-ey))) then (70:Int) else (IntKind.wrap .i64 (ex-ey)))))-ey))>(63:Int)))&&(Y != (0:Int)))),()))))))) then
        (some (A3.F (f,(m,(nx,((BG.F ((AE.F (((0:Int),(X,())),((if ((70:Int)<(IntKind.wrap .i64 (ex-ey))) then (70:Int) else (IntKind.wrap .i64 (ex-ey))),()))).1,(AK.F (((0:Int),(Y,())),((IntKind.wrap .i64 ((IntKind.wrap .i64 (ex-(if ((70:Int)<(IntKind.wrap .i64 (ex-ey))) then (70:Int) else (IntKind.wrap .i64 (ex-ey)))))-ey)),()))))).1,((IntKind.wrap .i64 (ex-(if ((70:Int)<(IntKind.wrap .i64 (ex-ey))) then (70:Int) else (IntKind.wrap .i64 (ex-ey))))),(((!(((AE.F ((AK.F (((0:Int),(Y,())),((IntKind.wrap .i64 ((IntKind.wrap .i64 (ex-(if ((70:Int)<(IntKind.wrap .i64 (ex-ey))) then (70:Int) else (IntKind.wrap .i64 (ex-ey)))))-ey)),()))).1,((IntKind.wrap .i64 ((IntKind.wrap .i64 (ex-(if ((70:Int)<(IntKind.wrap .i64 (ex-ey))) then (70:Int) else (IntKind.wrap .i64 (ex-ey)))))-ey)),()))).1.1==(0:Int))&&((AE.F ((AK.F (((0:Int),(Y,())),((IntKind.wrap .i64 ((IntKind.wrap .i64 (ex-(if ((70:Int)<(IntKind.wrap .i64 (ex-ey))) then (70:Int) else (IntKind.wrap .i64 (ex-ey)))))-ey)),()))).1,((IntKind.wrap .i64 ((IntKind.wrap .i64 (ex-(if ((70:Int)<(IntKind.wrap .i64 (ex-ey))) then (70:Int) else (IntKind.wrap .i64 (ex-ey)))))-ey)),()))).1.2.1==Y)))||((decide ((IntKind.wrap .i64 ((IntKind.wrap .i64 (ex-(if ((70:Int)<(IntKind.wrap .i64 (ex-ey))) then (70:Int) else (IntKind.wrap .i64 (ex-ey)))))-ey))>(63:Int)))&&(Y != (0:Int)))),()))))))))
       else none)
      else none)
     else none)
    else none)
   else none)
  else none)
 else none
theorem aPJ (f m:Int) (nx:Bool) (X ex:Int) (ny:Bool) (Y ey:Int):Uc (f,m,(nx,X,ex,()),(ny,Y,ey,()),()) =
 (bif ((X==0)&&(Y==0))&&(nx==ny) then (bif Be.pre (f,nx,()) then some ((Be.F (f,nx,())).1,0,0,()) else none)
 else bif (X==0)||((Y != 0)&&decide (ex<ey)) then (bif X==0 then S2 f m ny Y ey nx X ey else S2 f m ny Y ey nx X ex)
 else bif Y==0 then S2 f m nx X ex ny Y ex else S2 f m nx X ex ny Y ey):=by kernel_rfl
theorem aGD {n:Nat} (h:n<2^64):((0:Int),((n:Int),()))=Wi n:=by
 unfold Wi
 rw [Nat.div_eq_of_lt h,Nat.mod_eq_of_lt h]; rfl
theorem aUq:((0:Int),((1:Int),()))=Wi 1:=rfl
theorem aGZ {n:Nat} (h:n<2^128):(((Wi n).1==0)&&((Wi n).2.1==0))=decide (n=0):=by
 show (((n/2^64:Nat):Int)==0&&((n%2^64:Nat):Int)==0)=_
 rw [Fo,Fo,Bool.eq_iff_iff,Bool.and_eq_true,beq_iff_eq,beq_iff_eq,decide_eq_true_eq]
 omega
theorem aKO {Y dn:Nat} (hY:Y<2^64):((!(((Wi (Y/2^dn*2^dn)).1==0)&&((Wi (Y/2^dn*2^dn)).2.1==(Y:Int))))||(decide ((dn:Int)>63)&&((Y:Int) != 0)))=decide (Y%2^dn≠0):=by
 have hdm:=Nat.div_add_mod Y (2^dn)
 rw [Nat.mul_comm] at hdm
 generalize hL:Y/2^dn*2^dn=L at *
 show ((!(((L/2^64:Nat):Int)==0&&((L%2^64:Nat):Int)==(Y:Int)))||(decide ((dn:Int)>63)&&((Y:Int) != 0)))=_
 rw [Fo,H8,Uk]
 by_cases h:Y%2^dn=0
 ·rw [decide_eq_false (p:=Y%2^dn≠0) (by omega)]
  rw [show (L/2^64==0)=true by rw [beq_iff_eq]; omega,show (L%2^64==Y)=true by rw [beq_iff_eq]; omega]
  by_cases hy:Y=0
  ·rw [hy]; simp
  ·have:¬ (dn:Int)>63:=fun hd=>by
    have h1:Y<2^dn:=Nat.lt_of_lt_of_le hY (Nat.pow_le_pow_right (by decide) (by omega))
    rw [Nat.mod_eq_of_lt h1] at h
    exact hy h
   rw [decide_eq_false this]; rfl
 ·rw [decide_eq_true (p:=Y%2^dn≠0) h]
  rw [show (L%2^64==Y)=false by rw [beq_eq_false_iff_ne]; omega]
  simp
theorem dP {n k:Nat} (h:2^k≤n):k+1≤An n:=by
 have h1:=He n
 have:k<An n:=(Nat.pow_lt_pow_iff_right (a:=2) (by decide)).1 (Nat.lt_of_le_of_lt h h1)
 omega
def GC (f m:Int) (nx:Bool) (X:Nat) (ex:Int) (ny:Bool) (Y:Nat) (ey:Int):Nat×Nat :=
 let e:=if ex≤ey then ex else ey
 let a:=X*2^(ex-e).toNat
 let b:=Y*2^(ey-e).toNat
 if nx=ny then (if a+b=0 then (C9 f nx,0) else AM f m nx (a+b) e false)
 else if a=b then (C9 f (m==4),0) else if b<a then AM f m nx (a-b) e false else AM f m ny (b-a) e false
theorem vZ {f m:Int} {nx:Bool} {X:Nat} {ey:Int} {ny:Bool} {Y:Nat} (D:Nat) :
  GC f m nx X (ey+D) ny Y ey=if nx=ny then (if X*2^D+Y=0 then (C9 f nx,0) else AM f m nx (X*2^D+Y) ey false)
   else if X*2^D=Y then (C9 f (m==4),0) else if Y<X*2^D then AM f m nx (X*2^D-Y) ey false else AM f m ny (Y-X*2^D) ey false:=by
 unfold GC
 have he:(if ey+(D:Int)≤ey then ey+(D:Int) else ey)=ey:=by split <;> omega
 simp only [he]
 rw [show (ey+(D:Int)-ey).toNat=D by omega,show (ey-ey).toNat=0 by omega,Nat.pow_zero,Nat.mul_one]
theorem pR (f m:Int) (nx:Bool) (X:Nat) (ex:Int) (ny:Bool) (Y:Nat) (ey:Int):GC f m nx X ex ny Y ey=GC f m ny Y ey nx X ex:=by
 unfold GC
 have he:(if ex≤ey then ex else ey)=(if ey≤ex then ey else ex):=by split <;> split <;> omega
 simp only [he]
 generalize (if ey≤ex then ey else ex)=e
 generalize X*2^(ex-e).toNat=a
 generalize Y*2^(ey-e).toNat=b
 by_cases hn:nx=ny
 ·subst hn
  rw [if_pos rfl,if_pos rfl,Nat.add_comm]
 ·rw [if_neg hn,if_neg (Ne.symm hn)]
  rcases Nat.lt_trichotomy a b with h | h | h
  ·rw [if_neg (by omega),if_neg (by omega),if_neg (by omega),if_pos h]
  ·rw [if_pos h,if_pos h.symm]
  ·rw [if_neg (by omega),if_pos h,if_neg (by omega),if_neg (by omega)]
theorem ZO {f m:Int} (hf:Fm f) (nx:Bool) (X:Nat) (ex:Int) (ny:Bool) (ey:Int):GC f m nx X ex ny 0 ey=if X=0 then (if nx=ny then (C9 f nx,0) else (C9 f (m==4),0)) else AM f m nx X ex false:=by
 rcases Int.le_total ex ey with h | h
 ·obtain ⟨D,hD⟩:=Int.eq_ofNat_of_zero_le (show 0≤ey-ex by omega)
  have:ey=ex+D:=by omega
  subst this
  rw [pR,vZ,Nat.zero_mul,Nat.zero_add]
  by_cases hn:nx=ny
  ·subst hn
   simp only [↓reduceIte]
  ·rw [if_neg (Ne.symm hn),if_neg hn]
   by_cases hx:X=0
   ·subst hx
    simp only [↓reduceIte]
   ·rw [if_neg (by omega),if_neg (by omega),if_neg hx,Nat.sub_zero]
 ·obtain ⟨D,hD⟩:=Int.eq_ofNat_of_zero_le (show 0≤ex-ey by omega)
  have:ex=ey+D:=by omega
  subst this
  rw [vZ,Nat.add_zero]
  by_cases hx:X=0
  ·subst hx
   rw [if_pos rfl,Nat.zero_mul,if_pos rfl,if_pos rfl]
  ·have hp:=Nat.two_pow_pos D
   have hpos:0<X*2^D:=Nat.mul_pos (by omega) hp
   rw [if_neg hx]
   by_cases hn:nx=ny
   ·rw [if_pos hn,if_neg (by omega),Kx hf hx]
   ·rw [if_neg hn,if_neg (by omega),if_pos hpos,Nat.sub_zero,Kx hf hx]
theorem fL {f m:Int} (hf:Fm f) (hm:0≤m∧m≤5) (nx:Bool) (X D:Nat) (ny:Bool) (Y:Nat) (ey:Int) (hX:X<2^53) (hY:Y<2^53) (he:-2000≤ey∧ey+D≤2000) (h0:X≠0∨(Y=0∧nx≠ny)) :
  S2 f m nx X (ey+D) ny Y ey=some (((GC f m nx X (ey+D) ny Y ey).1:Int),((GC f m nx X (ey+D) ny Y ey).2:Int),0,()):=by
 rw [vZ]
 have hW:=D4 hf
 have hP:=EP hf
 have hU:∃ U dn:Nat,(if (70:Int)<(D:Int) then (70:Int) else (D:Int))=(U:Int)∧D=U+dn∧U≤70∧(dn≠0→U=70):=by
  by_cases h:70<D
  ·exact ⟨70,D-70,by rw [if_pos (by omega)]; rfl,by omega,by omega,fun _=>rfl⟩
  ·exact ⟨D,0,by rw [if_neg (by omega)],by omega,by omega,fun h=>absurd rfl h⟩
 obtain ⟨U,dn,hU1,hU2,hU3,hU4⟩:=hU
 have e1:IntKind.wrap .i64 (ey+(D:Int)-ey)=(D:Int):=by rw [As (by omega)]; omega
 have e2:IntKind.wrap .i64 (ey+(D:Int)-(U:Int))=ey+(dn:Int):=by rw [As (by omega)]; omega
 have e3:IntKind.wrap .i64 (ey+(dn:Int)-ey)=(dn:Int):=by rw [As (by omega)]; omega
 have hpU:=Nat.two_pow_pos U
 have hpd:=Nat.two_pow_pos dn
 have hU70:2^U≤2^70:=Nat.pow_le_pow_right (by decide) hU3
 have hH:X*2^U<2^123:=by
  have h1:X*2^U≤X*2^70:=Nat.mul_le_mul_left _ hU70
  have h2:X*2^70<2^53*2^70:=Nat.mul_lt_mul_of_pos_right hX (by decide)
  omega
 have hXD:X*2^D=X*2^U*2^dn:=by rw [hU2,Nat.pow_add,Nat.mul_assoc]
 have hbig:Y%2^dn≠0→2^70≤X*2^U∧X≠0:=fun h=>by
  have hd:dn≠0:=fun h1=>by rw [h1,Nat.pow_zero,Nat.mod_one] at h; exact h rfl
  have hy:Y≠0:=fun h1=>by rw [h1,Nat.zero_mod] at h; exact h rfl
  have hx:X≠0:=by
   rcases h0 with h | h
   ·exact h
   ·exact absurd h.1 hy
  refine ⟨?_,hx⟩
  rw [hU4 hd]
  exact Nat.le_mul_of_pos_left _ (by omega)
 have hYL:Y/2^dn≤Y:=Nat.div_le_self _ _
 have hLd:Y/2^dn*2^dn≤Y:=Nat.div_mul_le_self _ _
 have p1:M9 (((0:Int),((X:Int),())),((U:Int),()))=some (Wi (X*2^U),()):=by
  rw [aGD (by omega),tC _ _ (by omega),Nat.mod_eq_of_lt (by omega)]
 have p2:Um (((0:Int),((Y:Int),())),((dn:Int),()))=some (Wi (Y/2^dn),()):=by
  rw [aGD (by omega),aPl _ _ (by omega)]
 have p3:M9 (Wi (Y/2^dn),((dn:Int),()))=some (Wi (Y/2^dn*2^dn),()):=by
  rw [tC _ _ (by omega),Nat.mod_eq_of_lt (by omega)]
 have p4:=aKm (X*2^U) (Y/2^dn) (by omega)
 have p5:=aHf (X*2^U) (Y/2^dn)
 have pz:=Q1 hf (m==4)
 unfold S2
 simp only [e1,hU1,e2,e3,gN p1,i4 p1,aOU p2,aUP p2,gN p3,i4 p3,cond_true,aO6 p4,aPa p4,aEx p5,aFj p5,aKO (show Y<2^64 by omega)]
 have hdm:=Nat.div_add_mod Y (2^dn)
 have hml:=Nat.mod_lt Y hpd
 have hX0H:X=0→X*2^U=0:=fun h=>by rw [h,Nat.zero_mul]
 have hXb:X≠0→dn≠0→2^70≤X*2^U:=fun h1 h2=>by rw [hU4 h2]; exact Nat.le_mul_of_pos_left _ (by omega)
 have hHp:X≠0→0<X*2^U:=fun h=>Nat.mul_pos (by omega) hpU
 clear e1 e2 e3 p1 p2 p3
 rw [Nat.mul_comm] at hdm
 generalize hHe:X*2^U=H at *
 generalize hLe:Y/2^dn=L at *
 generalize hRe:Y%2^dn=R at *
 by_cases hn:nx=ny
 ·subst hn
  rw [if_pos rfl,show (nx==nx)=true by cases nx <;> rfl,cond_true]
  have hX0:X≠0:=by
   rcases h0 with h | h
   ·exact h
   ·exact absurd rfl h.2
  have hHp:=hHp hX0
  have hN:X*2^D+Y=Y+H*2^dn:=by rw [hXD,Nat.add_comm]
  have hNd:(X*2^D+Y)/2^dn=H+L:=by rw [hN,Nat.add_mul_div_right _ _ hpd,hLe,Nat.add_comm]
  have hNm:(X*2^D+Y)%2^dn=R:=by rw [hN,Nat.add_mul_mod_self_right,hRe]
  have hbl:R≠0→fP f+2≤An (H+L):=fun h=>by
   have h1:=(hbig h).1
   have:=dP (n:=H+L) (k:=70) (by omega)
   omega
  have p6:=K5 hf hm nx (H+L) (by omega) (ey+(dn:Int)) (by omega) (decide (R≠0)) (fun h=>hbl (by simpa using h))
  rw [if_neg (by omega)] at p6
  simp only [Ig p6,Hy p6,cond_true]
  have htr:=Xb (f:=f) (m:=m) (neg:=nx) (N:=X*2^D+Y) (k:=dn) (E:=ey) hf (by rw [hNd]; omega) (by rw [hNd,hNm]; exact hbl)
  rw [hNd,hNm] at htr
  have hpp:0<H*2^dn:=Nat.mul_pos hHp hpd
  rw [htr,if_neg (by rw [hXD]; omega)]
 ·rw [if_neg hn,show (nx==ny)=false by cases nx <;> cases ny <;> first | rfl | exact absurd rfl hn,cond_false]
  by_cases hlt:H<L
  ·-- low is the greater: nothing is lost
   have hm0:R=0:=by
    by_cases h:R=0
    ·exact h
    ·have:=(hbig h).1; omega
   have hdn:dn=0:=by
    by_cases h:dn=0
    ·exact h
    ·exfalso
     rcases h0 with h1 | h1
     ·have h2:=hXb h1 h
      omega
     ·have:=h1.1; omega
   subst hdn
   have hY1:Y=L:=by rw [← hLe]; simp
   subst hY1
   have hXD1:X*2^D=H:=by rw [hXD]; simp
   rw [hm0,hXD1]
   have p7:=vL Y H (by omega) (by omega)
   have p6:=K5 hf hm ny (Y-H) (by omega) (ey+((0:Nat):Int)) (by omega) false (fun h=>by cases h)
   rw [if_neg (by omega)] at p6
   have z1:decide ((if H=Y then (0:Int) else if H<Y then -1 else 1)<0)=true:=by
    rw [if_neg (by omega),if_pos hlt]; rfl
   have z2:decide ((0:Nat)≠0)=false:=by decide
   have z3:=aGZ (n:=Y-H) (by omega)
   rw [decide_eq_false (p:=Y-H=0) (by omega)] at z3
   simp only [z1,z2,cond_true,cond_false,uJ p7,nZ p7,z3,Bool.false_and,Ig p6,Hy p6]
   rw [if_neg (by omega),if_neg (by omega),Int.natCast_zero,Int.add_zero]
  ·have hge:L≤H:=by omega
   have p7:=vL H L (by omega) hge
   have z1:decide ((if H=L then (0:Int) else if H<L then -1 else 1)<0)=false:=by
    by_cases h:H=L
    ·rw [if_pos h]; rfl
    ·rw [if_neg h,if_neg hlt]; rfl
   simp only [z1,cond_false,uJ p7,nZ p7,cond_true]
   by_cases hm0:R=0
   ·rw [hm0,show decide ((0:Nat)≠0)=false by decide,cond_false]
    have hYe:Y=L*2^dn:=by omega
    have z3:=aGZ (n:=H-L) (by omega)
    rw [z3]
    by_cases hz:H-L=0
    ·have heq:X*2^D=Y:=by rw [hXD,hYe,show H=L by omega]
     rw [decide_eq_true hz,if_pos heq]
     simp only [Bool.not_false,Bool.and_self,cond_true,N2 pz,Ph pz]
     rfl
    ·rw [decide_eq_false hz]
     have p6:=K5 hf hm nx (H-L) (by omega) (ey+(dn:Int)) (by omega) false (fun h=>by cases h)
     rw [if_neg hz] at p6
     simp only [Bool.false_and,cond_false,Ig p6,Hy p6,cond_true]
     have hN:X*2^D-Y=(H-L)*2^dn:=by rw [hXD,Nat.sub_mul,← hYe]
     have hpp:0<(H-L)*2^dn:=Nat.mul_pos (by omega) hpd
     have hlt2:Y<X*2^D:=by omega
     rw [if_neg (by omega),if_pos hlt2,hN,Kx hf hz]
   ·rw [decide_eq_true (p:=R≠0) hm0,cond_true]
    obtain ⟨hb1,hX0⟩:=hbig hm0
    have p8:=vL (H-L) 1 (by omega) (by omega)
    rw [← aUq] at p8
    have hbl:fP f+2≤An (H-L-1):=by
     have:=dP (n:=H-L-1) (k:=69) (by omega)
     omega
    have p6:=K5 hf hm nx (H-L-1) (by omega) (ey+(dn:Int)) (by omega) true (fun _=>hbl)
    rw [if_neg (by omega)] at p6
    simp only [uJ p8,nZ p8,cond_true,Bool.not_true,Bool.and_false,cond_false,Ig p6,Hy p6]
    have h2:(L+1+(H-L-1))*2^dn=H*2^dn:=by rw [show L+1+(H-L-1)=H by omega]
    rw [Nat.add_mul,Nat.add_mul,Nat.one_mul] at h2
    have hN:X*2^D-Y=(2^dn-R)+(H-L-1)*2^dn:=by rw [hXD]; omega
    have hlt2:Y<X*2^D:=by omega
    have hNd:(X*2^D-Y)/2^dn=H-L-1:=by
     rw [hN,Nat.add_mul_div_right _ _ hpd,Nat.div_eq_of_lt (by omega),Nat.zero_add]
    have hNm:(X*2^D-Y)%2^dn=2^dn-R:=by
     rw [hN,Nat.add_mul_mod_self_right,Nat.mod_eq_of_lt (by omega)]
    have htr:=Xb (f:=f) (m:=m) (neg:=nx) (N:=X*2^D-Y) (k:=dn) (E:=ey) hf (by rw [hNd]; omega) (fun _=>by rw [hNd]; exact hbl)
    rw [hNd,hNm,decide_eq_true (p:=2^dn-R≠0) (by omega)] at htr
    rw [htr,if_neg (by omega),if_pos hlt2]
theorem aKN {f m:Int} (hf:Fm f) (hm:0≤m∧m≤5) (nx:Bool) (X:Nat) (ex:Int) (ny:Bool) (Y:Nat) (ey:Int) (hX:X<2^53) (hY:Y<2^53) (hex:-2000≤ex∧ex≤2000) (hey:-2000≤ey∧ey≤2000) :
  Uc (f,m,(nx,(X:Int),ex,()),(ny,(Y:Int),ey,()),())=some (((GC f m nx X ex ny Y ey).1:Int),((GC f m nx X ex ny Y ey).2:Int),0,()):=by
 rw [aPJ]
 by_cases hX0:X=0
 ·subst hX0
  by_cases hYn:Y=0∧nx=ny
  ·obtain ⟨rfl,rfl⟩:=hYn
   have p0:=Q1 hf nx
   rw [show ((((0:Nat):Int)==0)&&(((0:Nat):Int)==0)&&(nx==nx))=true by cases nx <;> rfl,cond_true]
   simp only [N2 p0,Ph p0,cond_true]
   rw [ZO hf,if_pos rfl,if_pos rfl]
   rfl
  ·have hg:((((0:Nat):Int)==0)&&(((Y:Nat):Int)==0)&&(nx==ny))=false:=by
    by_cases hy:Y=0
    ·have:nx≠ny:=fun h=>hYn ⟨hy,h⟩
     subst hy
     cases nx <;> cases ny <;> first | rfl | exact absurd rfl this
    ·rw [AS Y hy,Bool.and_false,Bool.false_and]
   have h1:(((0:Nat):Int)==0)=true:=rfl
   rw [hg,cond_false,h1,Bool.true_or,cond_true,cond_true]
   have ht:=fL hf hm ny Y 0 nx 0 ey hY hX (by omega) (by
    by_cases hy:Y=0
    ·exact .inr ⟨rfl,fun h=>hYn ⟨hy,h.symm⟩⟩
    ·exact .inl hy)
   rw [Int.natCast_zero,Int.add_zero] at ht
   rw [Int.natCast_zero,ht,pR f m nx 0 ex,ZO hf,ZO hf]
 ·have hx0:((X:Int)==0)=false:=AS _ hX0
  rw [hx0,Bool.false_and,Bool.false_and,cond_false,Bool.false_or,cond_false]
  by_cases hY0:Y=0
  ·subst hY0
   have ht:=fL hf hm nx X 0 ny 0 ex hX hY (by omega) (.inl hX0)
   rw [Int.natCast_zero,Int.add_zero] at ht
   rw [show (((0:Nat):Int) != 0)=false by rfl,Bool.false_and,cond_false,show (((0:Nat):Int)==0)=true by rfl,cond_true,Int.natCast_zero,ht,ZO hf,ZO hf]
  ·rw [Bg _ hY0,Bool.true_and,AS _ hY0,cond_false]
   by_cases hlt:ex<ey
   ·rw [decide_eq_true hlt,cond_true]
    obtain ⟨D,hD⟩:=Int.eq_ofNat_of_zero_le (show 0≤ey-ex by omega)
    have hee:ey=ex+D:=by omega
    subst hee
    rw [fL hf hm ny Y D nx X ex hY hX (by omega) (.inl hY0),pR f m ny Y]
   ·rw [decide_eq_false hlt,cond_false]
    obtain ⟨D,hD⟩:=Int.eq_ofNat_of_zero_le (show 0≤ex-ey by omega)
    have hee:ex=ey+D:=by omega
    subst hee
    rw [fL hf hm nx X D ny Y ey hX hY (by omega) (.inl hX0)]
end VL
namespace VL
open Go Vx
def Hs (l:List Nat):Prop:=(∀ x∈l,x<2^32)∧l.length≤1000000
theorem Hs.dg {n:Nat} (h:n<2^100000):Hs (dg (2^32) n):=by
 refine ⟨FT (by decide) n,?_⟩
 have:n<(2^32)^3125:=by rw [← Nat.pow_mul]; exact h
 have:=CR (B:=2^32) (by decide) 3125 n this
 omega
theorem eD (n:Nat) (h:n<2^64):IntKind.wrap .u64 (n:Int)=(n:Int):=Ee (by omega)
theorem vN (a b:Nat) (h:a*b<2^64):IntKind.wrap .u64 ((a:Int)*(b:Int))=((a*b:Nat):Int):=by
 rw [← Int.natCast_mul,eD _ h]
theorem UF (a b:Nat) (h:a+b<2^64):IntKind.wrap .u64 ((a:Int)+(b:Int))=((a+b:Nat):Int):=by
 rw [← Int.natCast_add,eD _ h]
theorem Yt {B:Nat} {l:List Nat} {v:Nat} (h:∀ x∈l,x<B) (hv:v<B):∀ x∈l++[v],x<B:=fun x hx=>by
 rcases List.mem_append.1 hx with hx | hx
 ·exact h x hx
 ·have:x=v:=by simpa using hx
  rw [this]; exact hv
theorem Y8 (B:Nat) (l:List Nat) (v:Nat):nv B (l++[v])=nv B l+B^l.length*v:=by
 rw [RK]; simp [nv]
theorem aIc (B n:Nat):nv B (List.replicate n 0)=0:=by
 induction n with
 | zero=>rfl
 | succ n ih=>rw [List.replicate_succ]; simp [nv,ih]
end VL
namespace VL
open Go Vx
theorem TR (B:Nat) (l:List Nat) (i:Nat) (h:i<l.length):nv B (l.drop i)=l.getD i 0+B*nv B (l.drop (i+1)):=by
 rw [List.drop_eq_getElem_cons h,List.getD_eq_getElem?_getD,List.getElem?_eq_getElem h]; rfl
theorem aMn {B:Nat} (hB:2≤B) {l:List Nat} (h:∀ x∈l,x<B) (i:Nat):nv B (l.take i)<B^i:=by
 have:=DM hB (l.take i) fun x hx=>h x (List.mem_of_mem_take hx)
 refine Nat.lt_of_lt_of_le this (Nat.pow_le_pow_right (by omega) ?_)
 rw [List.length_take]
 exact Nat.min_le_left _ _
theorem aNr {P A A' X Y:Nat} (h:A<P) (hxy:X<Y):A+P*X<A'+P*Y:=by
 have:P*(X+1)≤P*Y:=Nat.mul_le_mul_left _ hxy
 rw [Nat.mul_add,Nat.mul_one] at this
 omega
theorem Nc {B:Nat} (hB:2≤B) {a b:List Nat} (ha:∀ x∈a,x<B) {i:Nat} (hia:i<a.length) (hib:i<b.length) (hd:nv B (a.drop (i+1))=nv B (b.drop (i+1))) (h:a.getD i 0<b.getD i 0):nv B a<nv B b:=by
 rw [Lb B a i (by omega),Lb B b i (by omega),TR B a i hia,TR B b i hib,hd]
 exact aNr (aMn hB ha i) (by omega)
theorem v0 {B:Nat} (hB:2≤B) {x y:Nat} (h:(dg B x).length<(dg B y).length):x<y:=by
 have h1:=Sf hB x
 rcases Nat.lt_or_ge x y with h2 | h2
 ·exact h2
 ·have:=CR hB (dg B x).length y (by omega)
  omega
theorem aJi {P B A A' O a b c c' v:Nat} (h:A+P*c=A'+O) (h2:a+B*c'=b+c+v):A+P*a+P*B*c'=A'+P*b+(O+P*v):=by
 have h3:P*(a+B*c')=P*(b+c+v):=by rw [h2]
 rw [Nat.mul_add,Nat.mul_add,Nat.mul_add,← Nat.mul_assoc] at h3
 omega
theorem aFg {B:Nat} (hB:2≤B) {x y:Nat} (h:y≤x):(dg B y).length≤(dg B x).length:=by
 rcases Nat.lt_or_ge (dg B x).length (dg B y).length with h1 | h1
 ·have:=v0 hB h1; omega
 ·exact h1
theorem Hs.len {n:Nat} (h:n<2^100000):(VL.dg (2^32) n).length≤3125:=by
 have:n<(2^32)^3125:=by rw [← Nat.pow_mul]; exact h
 exact CR (B:=2^32) (by decide) 3125 n this
theorem aJV (x:Nat):Int.tmod (x:Int) 2=((x%2:Nat):Int):=rfl
theorem Yv (x m:Nat) (h:x<2^64) (hm:0<m):BB .u64 (x:Int) (m:Int)=((x/m:Nat):Int):=by
 unfold BB
 have e:(x:Int).tdiv (m:Int)=((x/m:Nat):Int):=rfl
 have:=Nat.div_le_self x m
 generalize x/m=q at *
 rw [e,Ee (by omega)]
end VL
namespace VL
open Go Vx
theorem EX {f:Int} (hf:Fm f):fP f≤53:=by
 rcases Dr hf with rfl | rfl | rfl | rfl <;> decide
theorem aTL {f m:Int} (hf:Fm f) {neg:Bool} {n:Nat} {e q:Int} (h:AV n e-fP f+1≤q):CK m neg n e q false≤2^fP f:=sE h
end VL
namespace VL
open Go Vx
def CG (nx:Bool) (X:Nat) (ex:Int) (ny:Bool) (Y:Nat) (ey:Int):Bool×Nat×Int :=
 if X=0 then (ny,Y,ey) else if Y=0 then (nx,X,ex) else
 let e:=if ey<ex then ey else ex
 let a:=X*2^(ex-e).toNat
 let b:=Y*2^(ey-e).toNat
 if nx=ny then (nx,a+b,e) else if b≤a then (nx,a-b,e) else (ny,b-a,e)
def Ad (f:Int) (a:Nat):Nat:=if eF f a=0 then mF f a else mF f a+2^(fP f-1)
def Ag (f:Int) (a:Nat):Int:=1-(fX f:Int)-(fP f:Int)+1+(if eF f a=0 then 0 else (eF f a:Int)-1)
theorem SW (f:Int) (a:Nat):mF f a<2^(fP f-1):=Nat.mod_lt _ (Nat.two_pow_pos _)
theorem Fp {f:Int} (hf:Fm f) (a:Nat):Ad f a<2^53:=by
 have h1:=SW f a
 have h2:=Dz hf
 have h3:=EP hf
 have h4:=D4 hf
 have h5:2^(fP f-1)≤2^52:=Nat.pow_le_pow_right (by decide) (by rcases Dr hf with rfl | rfl | rfl | rfl <;> decide)
 unfold Ad
 split <;> omega
theorem Ry {f:Int} (hf:Fm f) (a:Nat):eF f a<2048:=by
 have:2^(fW f-fP f)≤2^11:=Nat.pow_le_pow_right (by decide) (by rcases Dr hf with rfl | rfl | rfl | rfl <;> decide)
 have h:eF f a<2^(fW f-fP f):=Nat.mod_lt _ (Nat.two_pow_pos _)
 omega
theorem Gw {f:Int} (hf:Fm f) (a:Nat):-2000≤Ag f a∧Ag f a≤2000:=by
 have h1:=Ry hf a
 have h2:=H2 hf
 have h3:=EX hf
 have h4:=R9 hf
 have h5:=Dz hf
 have h6:(eF f a:Int)≤2*fX f+1:=by
  have:eF f a<2^(fW f-fP f):=Nat.mod_lt _ (Nat.two_pow_pos _)
  have:=aAT hf
  omega
 unfold Ag
 split <;> omega
def Au (f:Int) (a:Nat):Bool:=eF f a==BE f&&mF f a==0
def aBa (f m:Int) (a b:Nat):Int×Int×Int×Unit :=
 bif AG f a||AG f b then ((Cz f:Int),1,0,())
 else bif nan f a||nan f b then ((Cz f:Int),0,0,())
 else bif (Au f a&&Au f b)&&!(sF f a==sF f b) then ((Cz f:Int),1,0,())
 else bif Au f a then ((a:Int),0,0,())
 else bif Au f b then ((b:Int),0,0,())
 else (((GC f m (sF f a) (Ad f a) (Ag f a) (sF f b) (Ad f b) (Ag f b)).1:Int),((GC f m (sF f a) (Ad f a) (Ag f a) (sF f b) (Ad f b) (Ag f b)).2:Int),0,())
def YB (f m:Int) (a b:Nat):Int×Int×Int×Unit :=
 if Fm f then (if 0≤m∧m≤5 then (if Am f a=0∧Am f b=0 then aBa f m a b else (0,0,4,())) else (0,0,3,())) else (0,0,2,())
def dE (f m:Int) (a b:Nat):Int×Int×Int×Unit:=YB f m a (if Am f b=0 then Hn f b else b)
theorem aUf {f:Int} {b:Nat} (h:Am f b=0):Hn f b<2^64:=MX (aK1 (CO h).1 b)
end VL
namespace VL
open Go Vx
theorem RQ {f:Int} {a:Nat} (h:Am f a=0):VJ (f,(a:Int),())=some (sF f a,(eF f a:Int),(mF f a:Int),0,()):=by
 obtain ⟨hf,h0⟩:=CO h
 have ha:=MX h
 show Z0 Ar.pre Ar.F Di.pre Di.F f a=_
 unfold Z0
 have p0:=En f a ha
 have p2:=jA hf a ha
 have hr1:decide (0≤f)=true:=decide_eq_true hf.1
 have hr2:decide (f<((4:Nat):Int))=true:=decide_eq_true hf.2
 simp only [hJ hf,hr1,hr2,Dp p0,Dt p0,iG p2,Z8 p2,h,cond_true,bne_self_eq_false,cond_false]
theorem aBI {f:Int} {a:Nat} (h:Am f a=0):ZT (f,Bp f,(a:Int),())=some ((sF f a,(Ad f a:Int),Ag f a,()),()):=by
 obtain ⟨hf,h0⟩:=CO h
 show dF Bo.pre Bo.F f (Bp f) a=_
 unfold dF
 have h1:=Dz hf
 have h3:=EX hf
 have h4:=H2 hf
 have hE:=Ry hf a
 have hM:=SW f a
 have hPp:2^(fP f-1)≤2^52:=Nat.pow_le_pow_right (by decide) (by omega)
 have p0:=RQ h
 have r1:(Bp f).2.1=(fP f:Int):=rfl
 have r2:(Bp f).2.2.1=1-(fX f:Int):=rfl
 have e0:IntKind.wrap .i64 ((fP f:Int)-1)=((fP f-1:Nat):Int):=Bn _ (by omega)
 have e1:IntKind.wrap .i64 (IntKind.wrap .i64 ((1-(fX f:Int))-(fP f:Int))+1)=1-(fX f:Int)-(fP f:Int)+1:=by
  rw [As (n:=_-(fP f:Int)) (by omega),As (by omega)]
 have e2:IntKind.wrap .i64 (eF f a:Int)=(eF f a:Int):=As (by omega)
 have e3:AQ .u64 1 ((fP f-1:Nat):Int)=((2^(fP f-1):Nat):Int):=L5 (by omega)
 have e4:A9 .u64 (mF f a:Int) ((2^(fP f-1):Nat):Int)=((mF f a+2^(fP f-1):Nat):Int):=by
  have:=Fk (a:=mF f a) (b:=1) (k:=fP f-1) hM (by omega)
  rwa [Nat.one_mul] at this
 simp only [SI p0,Su p0,cond_true,r1,r2,e0,e1,e2,e3,e4,AU]
 by_cases hz:eF f a=0
 ·have hg:decide ((eF f a:Int)>0)=false:=decide_eq_false (by omega)
  have hm:Ad f a=mF f a:=by unfold Ad; rw [if_pos hz]
  have hx:Ag f a=1-(fX f:Int)-(fP f:Int)+1:=by unfold Ag; rw [if_pos hz,Int.add_zero]
  rw [hg,cond_false,hm,hx]
 ·have hg:decide ((eF f a:Int)>0)=true:=decide_eq_true (by omega)
  have hm:Ad f a=mF f a+2^(fP f-1):=by unfold Ad; rw [if_neg hz]
  have hx:IntKind.wrap .i64 ((1-(fX f:Int)-(fP f:Int)+1)+IntKind.wrap .i64 ((eF f a:Int)-1))=Ag f a:=by
   unfold Ag; rw [if_neg hz,As (n:=(eF f a:Int)-1) (by omega),As (by omega)]
  rw [hg,cond_true,hm,hx]
theorem TD (f:Int) (a:Nat):(Av f a==2||Av f a==9)=Au f a:=by
 unfold Av Au
 cases eF f a==BE f <;> cases eF f a==0 <;> cases mF f a==0 <;> cases sF f a <;> cases mF f a/2^(fP f-2) != 0 <;> rfl
theorem aJG (f:Int) (a b:Nat):((Au f a&&Au f b)&&(Av f a != Av f b))=((Au f a&&Au f b)&&!(sF f a==sF f b)):=by
 unfold Av Au
 cases eF f a==BE f <;> cases mF f a==0 <;> cases eF f b==BE f <;> cases mF f b==0 <;> first | rfl | (cases sF f a <;> cases sF f b <;> rfl)
theorem fE (f m:Int) {a b:Nat} (ha:a<2^64) (hb:b<2^64):Wm (f,m,(a:Int),(b:Int),())=some (YB f m a b):=by
 show gE Aq.pre Aq.F AB.pre AB.F AC.pre AC.F Nl.pre Nl.F Qk.pre Qk.F f m a b=_
 unfold gE YB
 by_cases hf:Fm f
 ·rw [if_pos hf]
  have p0:=FQ hf
  simp only [Dd p0,C8 p0,cond_true,bne_self_eq_false,cond_false]
  by_cases hm:0≤m∧m≤5
  ·have hmm:(decide (m<0)||decide (m>5))=false:=by
    rw [decide_eq_false (p:=m<0) (by omega),decide_eq_false (p:=m>5) (by omega)]; rfl
   rw [if_pos hm,hmm,cond_false]
   have c4:∀ x:Nat,Am f x≠0→Am f x=4:=fun x h=>by
    unfold Am at h ⊢
    rw [if_pos hf] at h ⊢
    split at h
    ·exact absurd rfl h
    ·rename_i h1; rw [if_neg h1]
   by_cases hca:Am f a=0
   ·have p1:=Fr ha hca
    by_cases hcb:Am f b=0
    ·have p2:=Fr hb hcb
     rw [if_pos ⟨hca,hcb⟩]
     have p3:=Es hf
     have p4:=aBI hca
     have p5:=aBI hcb
     have p6:=aKN hf hm (sF f a) (Ad f a) (Ag f a) (sF f b) (Ad f b) (Ag f b) (Fp hf a) (Fp hf b) (Gw hf a) (Gw hf b)
     simp only [Dl p1,Dk p1,Dl p2,Dk p2,cond_true,bne_self_eq_false,cond_false,Fs p3,Fq p3,aD8 p4,aA1 p4,aD8 p5,aA1 p5,aQW p6,aSi p6,TD,aJG]
     unfold aBa
     rw [← E3,← E3,← GR,← GR]
     generalize ((Au f a&&Au f b)&&!(sF f a==sF f b))=w1
     generalize Au f a=w2
     generalize Au f b=w3
     generalize (Av f a==0)=x1
     generalize (Av f b==0)=x2
     generalize (Av f a==1)=x3
     generalize (Av f b==1)=x4
     cases x1 <;> cases x2 <;> cases x3 <;> cases x4 <;> cases w1 <;> cases w2 <;> cases w3 <;> rfl
    ·have p2:=Pc hb hcb
     rw [if_neg (fun h=>hcb h.2)]
     have hne:(Am f b != 0)=true:=by simpa using hcb
     simp only [Dl p1,Dk p1,Dl p2,Dk p2,cond_true,bne_self_eq_false,cond_false,hne]
     rw [c4 b hcb]
   ·have p1:=Pc ha hca
    rw [if_neg (fun h=>hca h.1)]
    have hne:(Am f a != 0)=true:=by simpa using hca
    simp only [Dl p1,Dk p1,cond_true,hne]
    rw [c4 a hca]
  ·rw [if_neg hm]
   have:(decide (m<0)||decide (m>5))=true:=by
    by_cases h:m<0
    ·rw [decide_eq_true h]; rfl
    ·rw [decide_eq_true (p:=m>5) (by omega),Bool.or_true]
   rw [this]; rfl
 ·rw [if_neg hf]
  have p0:=GG hf
  simp only [Dd p0,C8 p0]
  rfl
theorem yS (f m:Int) {a b:Nat} (ha:a<2^64) (hb:b<2^64):Xq (f,m,(a:Int),(b:Int),())=some (dE f m a b):=by
 show mL Ar.pre Ar.F C1.pre C1.F DQ.pre DQ.F f m a b=_
 unfold mL dE
 have p0:=En f b hb
 by_cases h:Am f b=0
 ·have p1:=oM h
  have p2:=fE f m ha (aUf h)
  rw [if_pos h]
  simp only [Dp p0,Dt p0,h,beq_self_eq_true,cond_true,fQ p1,dI p1,lK p2,eO p2]
 ·have p2:=fE f m ha hb
  have hne:(Am f b==0)=false:=by simpa using h
  rw [if_neg h]
  simp only [Dp p0,Dt p0,cond_true,hne,cond_false,lK p2,eO p2]
end VL
namespace VL
open Go Vx
def qm (f:Int):Int:=1-(fX f:Int)-(fP f:Int)+1
end VL
namespace VL
open Go Vx
def vI (f:Int) (neg:Bool) (X:Nat) (e:Int):Int:=bif neg then -((X*2^(e-qm f).toNat:Nat):Int) else ((X*2^(e-qm f).toNat:Nat):Int)
end VL
namespace VL
open Go Vx
theorem aSJ (f:Int) (a:Nat):qm f≤Ag f a:=by
 unfold Ag qm
 split <;> omega
def sl (V:Nat→Int) (i:Nat):List Int:=[if 0<i then V 0 else 0,if 1<i then V 1 else 0,if 2<i then V 2 else 0,if 3<i then V 3 else 0,if 4<i then V 4 else 0,if 5<i then V 5 else 0]
end VL
namespace VL
open Go Vx
def vA (f:Int) (a:Nat):Int:=vI f (sF f a) (Ad f a) (Ag f a)
end VL
namespace VL
open Go Vx
def tz (n:Nat):Nat:=if n=0 then 0 else if n%2=1 then 0 else tz (n/2)+1
termination_by n
decreasing_by omega
theorem We:∀ (t k:Nat),tz (2^t*(2*k+1))=t
 | 0,k=>by
  rw [tz,Nat.pow_zero,Nat.one_mul,if_neg (by omega),if_pos (by omega)]
 | t+1,k=>by
  have e:2^(t+1)*(2*k+1)=2*(2^t*(2*k+1)):=by rw [Nat.pow_succ,Nat.mul_comm (2^t) 2,Nat.mul_assoc]
  have hp:0<2^t*(2*k+1):=Nat.mul_pos (Nat.two_pow_pos t) (by omega)
  have ih:=We t k
  rw [e]
  generalize 2^t*(2*k+1)=n at *
  rw [tz,if_neg (by omega),if_neg (by omega),show 2*n/2=n by omega,ih]
theorem Ug {n:Nat} (h:n≠0):∃ k,n=2^tz n*(2*k+1):=by
 obtain ⟨t,k,e⟩:=oV (x:=n) (by omega)
 refine ⟨k,?_⟩
 have:=We t k
 rw [← e] at this
 rw [this]; exact e
theorem aTa {x i t k r:Nat} (hx:x=2^t*(2*k+1)) (ht:t<64):(2^64)^i*(x+2^64*r)=2^(64*i+t)*(2*(k+2^(64-t-1)*r)+1):=by
 have h1:2^64=2^t*(2^(64-t-1)*2):=by rw [← Nat.pow_succ,← Nat.pow_add]; congr 1; omega
 rw [Cr,hx,Nat.pow_add,Nat.mul_assoc]
 congr 1
 rw [h1,Nat.mul_assoc,← Nat.mul_add]
 congr 1
 rw [Nat.mul_assoc,Nat.mul_left_comm]
 omega
abbrev iS:=Aa (.pair (.bool) (.pair (.slice (.int .u64)) (.pair (.int .i64) (.unit))))
def dy (s:Bool) (n:Nat) (e:Int):iS:=(s,Dw n,e,())
theorem aFV:dy false 0 0=(false,[],0,()):=by unfold dy; rw [Do]
theorem rF (i:Nat) (h:i≤1000000):BB .i64 ((64*i:Nat):Int) 64=(i:Int):=by
 rw [VR _ (by omega),show 64*i/64=i by omega]
theorem aPd (n:Nat) (h0:n≠0) (hl:(dg (2^64) n).length≤1000000) (M:R8 GS.mem) :
  XM (((0:Int),(Dw n,((),((),())))),M)=some (.inl ((((64*(tz n/64):Nat):Int),(Dw n,((),((),())))),M)):=by
 have key:=Df (w9 Bh.pre Bh.F BI.pre BI.F DT.pre DT.F) (fun x=>(dg (2^64) n).length-x.1.1.toNat/64)
  (fun x=>∃ i:Nat,i≤(dg (2^64) n).length∧nv (2^64) ((dg (2^64) n).take i)=0∧x=((((64*i:Nat):Int),(Dw n,((),((),())))),M))
  (fun _=>.inl ((((64*(tz n/64):Nat):Int),(Dw n,((),((),())))),M)) ?_ (((0:Int),(Dw n,((),((),())))),M) ⟨0,Nat.zero_le _,rfl,rfl⟩
 ·exact key
 intro L x hx hL
 obtain ⟨i,hi,hz,rfl⟩:=hx
 have hnv:=Cb n
 have ha:=FT (B:=2^64) (by decide) n
 have hlt:i<(dg (2^64) n).length:=by
  rcases Nat.lt_or_ge i (dg (2^64) n).length with h | h
  ·exact h
  ·rw [List.take_of_length_le h,hnv] at hz; exact absurd hz h0
 unfold Vh
 have e64:IntKind.wrap .i64 (((64*i:Nat):Int)+64)=((64*(i+1):Nat):Int):=by rw [As (by omega)]; omega
 have hxl:=Cm (by decide) ha i
 unfold Dw at hL ⊢
 rcases Nat.eq_zero_or_pos ((dg (2^64) n).getD i 0) with hw | hw
 ·simp (disch:=omega) only [rF,BU,BL,BS,Bz,Bn,B0,BJ,BO,B5,BT,BX,B8,B4,B6,BY,BZ,BV,BF,AU,Bx,AS,Bg,BH,Int.toNat_natCast,Int.toNat_zero,cond_true,cond_false,Bool.and_self,Bool.true_and,Bool.and_true,Bool.false_and,Bool.and_false,Bool.not_true,Bool.not_false,Bool.or_self,Bool.true_or,Bool.or_true,Bool.false_or,Bool.or_false,Az,Ca,e64]
  refine hL _ ⟨i+1,by omega,?_,rfl⟩ (by simp only [Int.toNat_natCast]; omega)
  rw [Xy _ _ _ hlt,hz,hw,Nat.mul_zero]
 ·simp (disch:=omega) only [rF,BU,BL,BS,Bz,Bn,B0,BJ,BO,B5,BT,BX,B8,B4,B6,BY,BZ,BV,BF,AU,Bx,AS,Bg,BH,Int.toNat_natCast,Int.toNat_zero,cond_true,cond_false,Bool.and_self,Bool.true_and,Bool.and_true,Bool.false_and,Bool.and_false,Bool.not_true,Bool.not_false,Bool.or_self,Bool.true_or,Bool.or_true,Bool.false_or,Bool.or_false,Az,Ca]
  obtain ⟨t,k,e⟩:=oV hw
  have ht:t<64:=by
   have h1:2^t*1≤2^t*(2*k+1):=Nat.mul_le_mul_left _ (by omega)
   exact (Nat.pow_lt_pow_iff_right (a:=2) (by decide)).1 (by omega)
  have hv:n=(2^64)^i*((dg (2^64) n).getD i 0+2^64*nv (2^64) ((dg (2^64) n).drop (i+1))):=by
   have h1:=Lb (2^64) (dg (2^64) n) i hi
   rw [hnv,hz,Nat.zero_add,TR _ _ _ hlt] at h1
   exact h1
  rw [aTa e ht] at hv
  have htz:tz n=64*i+t:=by rw [hv]; exact We _ _
  rw [htz,show (64*i+t)/64=i by omega]
theorem aSG (s:Bool) (l:List Nat) (hl:Ws l) (e:Int) (he:-100000000≤e∧e≤100000000) :
  ET ((s,Wd l,e,()),())=some (if nv (2^64) l=0 then dy false 0 0 else dy s (nv (2^64) l/2^tz (nv (2^64) l)) (e+tz (nv (2^64) l)),()):=by
 show iU Bh.pre Bh.F BI.pre BI.F DT.pre DT.F XM (s,Wd l,e,())=_
 unfold iU
 dsimp only
 have p0:=ZC l hl
 simp only [VB p0,UV p0,cond_true]
 have hlt:=DM (B:=2^64) (by decide) l hl.1
 have hll:=hl.2
 generalize hn:nv (2^64) l=n at *
 have hdl:(dg (2^64) n).length≤1000000:=Nat.le_trans (CR (by decide) _ _ hlt) hll
 by_cases h0:n=0
 ·subst h0
  rw [Do,if_pos rfl,aFV]; rfl
 ·have hlen:(((Dw n).length:Int)==0)=false:=AS _ (by have:=Jm h0; omega)
  rw [hlen,cond_false,if_neg h0]
  have hw:=aPd n h0 hdl ((s,Wd l,e,()),(false,[],0,()),())
  rw [show XM (((0:Int),(Dw n,((),((),())))),((s,Wd l,e,()),((false,([],((0:Int),()))),())))=_ from hw]
  dsimp only [AZ,A2]
  obtain ⟨k,hk⟩:=Ug h0
  have htl:tz n/64<(dg (2^64) n).length:=by
   rcases Nat.lt_or_ge (tz n/64) (dg (2^64) n).length with h | h
   ·exact h
   ·exfalso
    have h1:=Sf (B:=2^64) (by decide) n
    rw [Cr] at h1
    have h2:2^(64*(dg (2^64) n).length)≤2^tz n:=Nat.pow_le_pow_right (by decide) (by omega)
    have h3:2^tz n*1≤2^tz n*(2*k+1):=Nat.mul_le_mul_left _ (by omega)
    omega
  have hword:∃ k',(dg (2^64) n).getD (tz n/64) 0=2^(tz n%64)*(2*k'+1):=by
   have h1:(dg (2^64) n).getD (tz n/64) 0=n/(2^64)^(tz n/64)%2^64:=by
    have h2:dg (2^64) n=pd (2^64) (dg (2^64) n).length n:=fJ (by decide) (FT (by decide) n) rfl (Cb n)
    rw [h2,Xo _ _ _ _ htl]
   have h3:n/(2^64)^(tz n/64)=2^(tz n%64)*(2*k+1):=by
    have h4:2^tz n=(2^64)^(tz n/64)*2^(tz n%64):=by rw [Cr,← Nat.pow_add]; congr 1; omega
    have h5:n=(2^64)^(tz n/64)*(2^(tz n%64)*(2*k+1)):=by rw [← Nat.mul_assoc,← h4]; exact hk
    have h6:=Nat.mul_div_cancel_left (2^(tz n%64)*(2*k+1)) (show 0<(2^64)^(tz n/64) from Nat.pow_pos (by decide))
    rw [← h5] at h6
    exact h6
   rw [h1,h3]
   have hr:tz n%64<64:=Nat.mod_lt _ (by decide)
   generalize tz n%64=r at *
   have h6:2^64=2^r*(2^(64-r-1)*2):=by rw [← Nat.pow_succ,← Nat.pow_add]; congr 1; omega
   rw [h6,Nat.mul_mod_mul_left]
   refine ⟨(2*k+1)%(2^(64-r-1)*2)/2,?_⟩
   congr 1
   have h7:(2*k+1)%(2^(64-r-1)*2)%2=(2*k+1)%2:=Nat.mod_mod_of_dvd _ ⟨_,Nat.mul_comm _ _⟩
   omega
  obtain ⟨k',hk'⟩:=hword
  have hwl:=Cm (B:=2^64) (by decide) (FT (by decide) n) (tz n/64)
  have p1:=lA (t:=tz n%64) (k:=k') (by rw [← hk']; exact hwl)
  rw [← hk'] at p1
  have p2:=aHs (dg (2^64) n) (aHB n hdl) (tz n) (by omega)
  rw [Cb] at p2
  have e1:IntKind.wrap .i64 (((64*(tz n/64):Nat):Int)+((tz n%64:Nat):Int))=(tz n:Int):=by rw [As (by omega)]; omega
  have e2:IntKind.wrap .i64 (e+(tz n:Int))=e+(tz n:Int):=As (by omega)
  have hg:decide (((tz n/64:Nat):Int)<((dg (2^64) n).length:Int))=true:=decide_eq_true (by omega)
  unfold Dw at *
  simp (disch:=omega) only [rF,BU,BL,BS,Bz,Bn,B0,BJ,BO,B5,BT,BX,B8,B4,B6,BY,BZ,BV,BF,AU,Bx,AS,Bg,BH,Int.toNat_natCast,Int.toNat_zero,cond_true,cond_false,Bool.and_self,Bool.true_and,Bool.and_true,Bool.false_and,Bool.and_false,Bool.not_true,Bool.not_false,Bool.or_self,Bool.true_or,Bool.or_true,Bool.false_or,Bool.or_false,Az,Ca,gH p1,kG p1,e1,Mz p2,LG p2,e2]
  rfl
theorem YG (s:Bool) {n:Nat} (hn:n<(2^64)^5000) (e:Int) (he:-100000000≤e∧e≤100000000) :
  ET (dy s n e,())=some (if n=0 then dy false 0 0 else dy s (n/2^tz n) (e+tz n),()):=by
 have:=aSG s (dg (2^64) n) (Dj hn) e he
 rw [Cb] at this
 exact this
theorem aG9 (k:Nat):tz (2*k+1)=0:=by have:=We 0 k; rwa [Nat.pow_zero,Nat.one_mul] at this
theorem aUV {l:List Nat} {i:Nat} (h:i<l.length):l.set i (l.getD i 0)=l:=by
 rw [List.getD_eq_getElem?_getD,List.getElem?_eq_getElem h]
 exact List.set_getElem_self h
theorem aQN (a:List Nat) (ha:∀ x∈a,x<2^64) (hlen:a.length≤1000000) (w s:Nat) (hs:s<64) (hw:w≤10000000) (i:Nat) (hi:i≤a.length) :
  iK (((a.length:Int),(Wd a,((w:Int),((s:Int),((i:Int),((),())))))),(Wd (pd (2^64) (w+a.length+1) (2^(64*w+s)*nv (2^64) (a.take i))),()))=some (.inl (((),()),(Wd (pd (2^64) (w+a.length+1) (2^(64*w+s)*nv (2^64) a)),()))):=by
 have key:=Df (aAr Bh.pre Bh.F) (fun x=>a.length-x.1.2.2.2.2.1.toNat)
  (fun x=>∃ i:Nat,i≤a.length∧x=(((a.length:Int),(Wd a,((w:Int),((s:Int),((i:Int),((),())))))),(Wd (pd (2^64) (w+a.length+1) (2^(64*w+s)*nv (2^64) (a.take i))),())))
  (fun _=>.inl (((),()),(Wd (pd (2^64) (w+a.length+1) (2^(64*w+s)*nv (2^64) a)),()))) ?_ _ ⟨i,hi,rfl⟩
 ·exact key
 intro L x hx hL
 obtain ⟨i,hi,rfl⟩:=hx
 unfold Ur
 rcases Nat.lt_or_ge i a.length with hlt | hge
 ·have hxl:=Cm (by decide) ha i
  have ht:=DM (B:=2^64) (by decide) (a.take i) fun x hx=>ha x (List.mem_of_mem_take hx)
  rw [List.length_take,Nat.min_eq_left (by omega),Cr] at ht
  have hV:2^(64*w+s)*nv (2^64) (a.take i)<2^(64*(w+i)+s):=by
   have e:64*(w+i)+s=(64*w+s)+64*i:=by omega
   rw [e,Nat.pow_add _ (64*w+s)]
   exact Nat.mul_lt_mul_of_pos_left ht (Nat.two_pow_pos _)
  have hnext:=Xy (2^64) a i hlt
  have hgo:=hL (((a.length:Int),(Wd a,((w:Int),((s:Int),(((i+1:Nat):Int),((),())))))),(Wd (pd (2^64) (w+a.length+1) (2^(64*w+s)*nv (2^64) (a.take (i+1)))),())) ⟨i+1,by omega,rfl⟩ (by simp only [Int.toNat_natCast]; omega)
  rw [hnext,Nat.mul_add,← Nat.mul_assoc,show 2^(64*w+s)*(2^64)^i=2^(64*(w+i)+s) by rw [Cr,← Nat.pow_add]; congr 1; omega] at hgo
  have hz1:(pd (2^64) (w+a.length+1) (2^(64*w+s)*nv (2^64) (a.take i))).getD (w+i+1) 0=0:=by
   rw [Xo _ _ _ _ (by omega),Cr]
   have h64:2^(64*(w+i)+s)≤2^(64*(w+i+1)):=Nat.pow_le_pow_right (by decide) (by omega)
   rw [Nat.div_eq_of_lt (by omega)]
  generalize hout:pd (2^64) (w+a.length+1) (2^(64*w+s)*nv (2^64) (a.take i))=out at *
  obtain ⟨q1,q2,q3⟩:=aH6 (k:=w+i) hs hout.symm (by omega) hV hxl
  have hol:out.length=w+a.length+1:=by rw [← hout,EU]
  have g1:a.getD i 0*2^s%2^64=(a.getD i 0%2^(64-s))*2^s:=by
   have:2^64=2^(64-s)*2^s:=by rw [← Nat.pow_add]; congr 1; omega
   rw [this,Nat.mul_mod_mul_right]
  have e8:IntKind.wrap .u64 (64-(s:Int))=((64-s:Nat):Int):=by rw [Ee (by omega)]; omega
  rcases Nat.eq_zero_or_pos s with hs0 | hs0
  ·have hq:out.set (w+i) (out.getD (w+i) 0+a.getD i 0%2^(64-s)*2^s)=pd (2^64) (w+a.length+1) (2^(64*w+s)*nv (2^64) (a.take i)+2^(64*(w+i)+s)*a.getD i 0):=by
    rw [← q3]
    have hd:a.getD i 0/2^(64-s)=0:=by rw [hs0]; exact Nat.div_eq_of_lt hxl
    have hg:(out.set (w+i) (out.getD (w+i) 0+a.getD i 0%2^(64-s)*2^s)).getD (w+i+1) 0=0:=by rw [aDN (by omega)]; exact hz1
    rw [hd]
    have:=aUV (l:=out.set (w+i) (out.getD (w+i) 0+a.getD i 0%2^(64-s)*2^s)) (i:=w+i+1) (by rw [List.length_set]; omega)
    rw [hg] at this
    exact this.symm
   simp (disch:=omega) only [BU,BL,BS,Bz,Bn,B0,BJ,BO,B5,BT,BX,B8,B4,B6,BY,BZ,BV,BF,AU,Bx,AS,Bg,BH,Int.toNat_natCast,Int.toNat_zero,cond_true,cond_false,Bool.and_self,Bool.true_and,Bool.and_true,Bool.false_and,Bool.and_false,Bool.not_true,Bool.not_false,Bool.or_self,Bool.true_or,Bool.or_true,Bool.false_or,Bool.or_false,Az,Ca,Eg _ s (by omega),g1,Fk q1 q2,Ef,hq]
   exact hgo
  ·simp (disch:=omega) only [BU,BL,BS,Bz,Bn,B0,BJ,BO,B5,BT,BX,B8,B4,B6,BY,BZ,BV,BF,AU,Bx,AS,Bg,BH,Int.toNat_natCast,Int.toNat_zero,cond_true,cond_false,Bool.and_self,Bool.true_and,Bool.and_true,Bool.false_and,Bool.and_false,Bool.not_true,Bool.not_false,Bool.or_self,Bool.true_or,Bool.or_true,Bool.false_or,Bool.or_false,Az,Ca,e8,Eg _ s (by omega),Dq _ (64-s) (by omega),g1,Fk q1 q2,Ef,List.length_set,q3]
   exact hgo
 ·have e:i=a.length:=by omega
  subst e
  rw [List.take_length]
  simp (disch:=omega) only [BU,BL,BS,Bz,Bn,B0,BJ,BO,B5,BT,BX,B8,B4,B6,BY,BZ,BV,BF,AU,Bx,AS,Bg,BH,Int.toNat_natCast,Int.toNat_zero,cond_true,cond_false,Bool.and_self,Bool.true_and,Bool.and_true,Bool.false_and,Bool.and_false,Bool.not_true,Bool.not_false,Bool.or_self,Bool.true_or,Bool.or_true,Bool.false_or,Bool.or_false]
theorem aAB {x:Nat} (hx:x<(2^64)^5000) (n:Nat) (hn:n≤1000000):XZ (Dw x,(n:Int),())=some (Dw (x*2^n),()):=by
 show mJ Bh.pre Bh.F iK (Dw x) n=_
 unfold mJ
 have hws:=Dj hx
 have hl:(dg (2^64) x).length≤5000:=CR (by decide) _ _ hx
 have hv:=Cb x
 by_cases h0:x=0
 ·subst h0
  rw [Do,Nat.zero_mul,Do]; rfl
 ·have hlen:(((Dw x).length:Int)==0)=false:=AS _ (by have:=Jm h0; omega)
  rw [hlen,cond_false]
  have e4:Int.tmod (n:Int) 64=((n%64:Nat):Int):=rfl
  have e5:IntKind.wrap .u64 ((n%64:Nat):Int)=((n%64:Nat):Int):=eD _ (by omega)
  have hw:=aQN (dg (2^64) x) hws.1 (by omega) (n/64) (n%64) (Nat.mod_lt _ (by decide)) (by omega) 0 (Nat.zero_le _)
  rw [show nv (2^64) ((dg (2^64) x).take 0)=0 by rfl,Nat.mul_zero,pX,show 64*(n/64)+n%64=n by omega,show ((0:Nat):Int)=0 from rfl,hv] at hw
  have e3:decide (((n/64+(dg (2^64) x).length+1:Nat):Int)*8≤140737488355328)=true:=decide_eq_true (by omega)
  have hV:2^n*x<(2^64)^(n/64+(dg (2^64) x).length+1):=by
   have:=Sf (B:=2^64) (by decide) x
   rw [Cr] at this ⊢
   have h1:2^n*x<2^n*2^(64*(dg (2^64) x).length):=Nat.mul_lt_mul_of_pos_left this (Nat.two_pow_pos _)
   rw [← Nat.pow_add] at h1
   exact Nat.lt_of_lt_of_le h1 (Nat.pow_le_pow_right (by decide) (by omega))
  have p1:=ZC (pd (2^64) (n/64+(dg (2^64) x).length+1) (2^n*x)) ⟨RB (by decide) _ _,by rw [EU]; omega⟩
  rw [RS (by decide) _ _ hV,Nat.mul_comm (2^n)] at p1
  rw [Nat.mul_comm (2^n)] at hw
  unfold Dw at *
  simp (disch:=omega) only [BU,BL,BS,Bz,Bn,B0,BJ,BO,B5,BT,BX,B8,B4,B6,BY,BZ,BV,BF,AU,Bx,AS,Bg,BH,Int.toNat_natCast,Int.toNat_zero,cond_true,cond_false,Bool.and_self,Bool.true_and,Bool.and_true,Bool.false_and,Bool.and_false,Bool.not_true,Bool.not_false,Bool.or_self,Bool.true_or,Bool.or_true,Bool.false_or,Bool.or_false,Az,VR n (by omega),e4,e5,e3,SE,hw]
  generalize pd (2^64) (n/64+(dg (2^64) x).length+1) (x*2^n)=out at *
  show (bif Bh.pre (Wd out,()) then some (Bh.F (Wd out,())) else none)=_
  rw [VB p1,UV p1]
  rfl
end VL
namespace VL
open Go Vx
theorem aL0 (a b:List Nat) (ha:∀ x∈a,x<2^64) (hb:∀ x∈b,x<2^64) (hla:a.length≤1000000) (hab:a.length=b.length) :
  fF ((Wd a,(Wd b,((a.length:Int)-1,()))),())=some (if nv (2^64) a=nv (2^64) b then .inl ((),()) else .inr (((if nv (2^64) a<nv (2^64) b then (-1:Int) else 1),()),())):=by
 have key:=Df (aFt Af.pre Af.F) (fun x=>(x.1.2.2.1+1).toNat)
  (fun x=>∃ j:Nat,j≤a.length∧nv (2^64) (a.drop j)=nv (2^64) (b.drop j)∧x=((Wd a,(Wd b,((j:Int)-1,()))),()))
  (fun _=>if nv (2^64) a=nv (2^64) b then .inl ((),()) else .inr (((if nv (2^64) a<nv (2^64) b then (-1:Int) else 1),()),())) ?_ ((Wd a,(Wd b,((a.length:Int)-1,()))),())
  ⟨a.length,Nat.le_refl _,by rw [List.drop_length,hab,List.drop_length],rfl⟩
 ·exact key
 intro L x hx hL
 obtain ⟨j,hj,hd,rfl⟩:=hx
 unfold Ue
 rcases j with _ | i
 ·have e1:decide ((((0:Nat):Int)-1)≥0)=false:=rfl
  rw [List.drop_zero,List.drop_zero] at hd
  simp only [e1,cond_false,if_pos hd]
 ·have e0:(((i+1:Nat):Int)-1)=(i:Int):=by omega
  have e2:IntKind.wrap .i64 ((i:Int)-1)=(i:Int)-1:=As (by omega)
  have e3:decide ((i:Int)≥0)=true:=decide_eq_true (by omega)
  simp (disch:=omega) only [e0,e2,e3,BU,BL,BS,Bz,Bn,B0,BJ,BO,B5,BT,BX,B8,B4,B6,BY,BZ,BV,BF,AU,Bx,AS,Bg,BH,Int.toNat_natCast,Int.toNat_zero,cond_true,cond_false,Bool.and_self,Bool.true_and,Bool.and_true,Bool.false_and,Bool.and_false,Bool.not_true,Bool.not_false,Bool.or_self,Bool.true_or,Bool.or_true,Bool.false_or,Bool.or_false,Az,Ca]
  rcases Nat.lt_trichotomy (a.getD i 0) (b.getD i 0) with h | h | h
  ·have hr:=Nc (by decide) ha (by omega) (by omega) hd h
   simp (disch:=omega) only [BU,BL,BS,Bz,Bn,B0,BJ,BO,B5,BT,BX,B8,B4,B6,BY,BZ,BV,BF,AU,Bx,AS,Bg,BH,Int.toNat_natCast,Int.toNat_zero,cond_true,cond_false,Bool.and_self,Bool.true_and,Bool.and_true,Bool.false_and,Bool.and_false,Bool.not_true,Bool.not_false,Bool.or_self,Bool.true_or,Bool.or_true,Bool.false_or,Bool.or_false]
   rw [if_neg (by omega),if_pos hr]
  ·simp (disch:=omega) only [BU,BL,BS,Bz,Bn,B0,BJ,BO,B5,BT,BX,B8,B4,B6,BY,BZ,BV,BF,AU,Bx,AS,Bg,BH,Int.toNat_natCast,Int.toNat_zero,cond_true,cond_false,Bool.and_self,Bool.true_and,Bool.and_true,Bool.false_and,Bool.and_false,Bool.not_true,Bool.not_false,Bool.or_self,Bool.true_or,Bool.or_true,Bool.false_or,Bool.or_false]
   refine hL _ ⟨i,by omega,?_,rfl⟩ (by simp only [Int.toNat_natCast]; omega)
   rw [TR _ a i (by omega),TR _ b i (by omega),hd,h]
  ·have hr:=Nc (by decide) hb (by omega) (by omega) hd.symm h
   simp (disch:=omega) only [BU,BL,BS,Bz,Bn,B0,BJ,BO,B5,BT,BX,B8,B4,B6,BY,BZ,BV,BF,AU,Bx,AS,Bg,BH,Int.toNat_natCast,Int.toNat_zero,cond_true,cond_false,Bool.and_self,Bool.true_and,Bool.and_true,Bool.false_and,Bool.and_false,Bool.not_true,Bool.not_false,Bool.or_self,Bool.true_or,Bool.or_true,Bool.false_or,Bool.or_false]
   rw [if_neg (by omega),if_neg (by omega)]
theorem Oe {x:Nat} (hx:x<(2^64)^5000):SP (Dw x,())=some (Dw x,()):=by
 have:=DU (dg (2^64) x) (Dj hx).2
 rw [Ox (by decide)] at this
 exact this
theorem eG {x y:Nat} (hx:x<(2^64)^5000) (hy:y<(2^64)^5000):Zx (Dw x,Dw y,())=some (if x=y then 0 else if x<y then -1 else 1,()):=by
 show bE Af.pre Af.F fF (Dw x) (Dw y)=_
 unfold bE
 have p0:=Oe hx
 have p1:=Oe hy
 have hX:=Dj hx
 have hY:=Dj hy
 have hlx:=hX.2
 simp only [CV p0,CT p0,CV p1,CT p1,cond_true]
 clear p0 p1
 rcases Nat.lt_trichotomy (dg (2^64) x).length (dg (2^64) y).length with h | h | h
 ·have hr:=v0 (by decide) h
  unfold Dw
  simp (disch:=omega) only [BU,BL,BS,Bz,Bn,B0,BJ,BO,B5,BT,BX,B8,B4,B6,BY,BZ,BV,BF,AU,Bx,AS,Bg,BH,Int.toNat_natCast,Int.toNat_zero,cond_true,cond_false,Bool.and_self,Bool.true_and,Bool.and_true,Bool.false_and,Bool.and_false,Bool.not_true,Bool.not_false,Bool.or_self,Bool.true_or,Bool.or_true,Bool.false_or,Bool.or_false,Az]
  rw [if_neg (by omega),if_pos hr]
 ·have hw:=aL0 _ _ hX.1 hY.1 hlx h
  rw [Cb,Cb] at hw
  have e2:IntKind.wrap .i64 (((dg (2^64) x).length:Int)-1)=((dg (2^64) x).length:Int)-1:=As (by omega)
  unfold Dw
  simp (disch:=omega) only [BU,BL,BS,Bz,Bn,B0,BJ,BO,B5,BT,BX,B8,B4,B6,BY,BZ,BV,BF,AU,Bx,AS,Bg,BH,Int.toNat_natCast,Int.toNat_zero,cond_true,cond_false,Bool.and_self,Bool.true_and,Bool.and_true,Bool.false_and,Bool.and_false,Bool.not_true,Bool.not_false,Bool.or_self,Bool.true_or,Bool.or_true,Bool.false_or,Bool.or_false,Az,e2,hw]
  by_cases he:x=y
  ·rw [if_pos he,if_pos he]; first | rfl | skip
  ·rw [if_neg he,if_neg he]; first | rfl | skip
 ·have hr:=v0 (by decide) h
  unfold Dw
  simp (disch:=omega) only [BU,BL,BS,Bz,Bn,B0,BJ,BO,B5,BT,BX,B8,B4,B6,BY,BZ,BV,BF,AU,Bx,AS,Bg,BH,Int.toNat_natCast,Int.toNat_zero,cond_true,cond_false,Bool.and_self,Bool.true_and,Bool.and_true,Bool.false_and,Bool.and_false,Bool.not_true,Bool.not_false,Bool.or_self,Bool.true_or,Bool.or_true,Bool.false_or,Bool.or_false,Az]
  rw [if_neg (by omega),if_neg (by omega)]
theorem XH {out a:List Nat} {i v:Nat} (hol:out.length=i) (h:i<a.length):(out++a.drop i).set i v=(out++[v])++a.drop (i+1):=by
 rw [List.set_append_right _ _ (by omega),hol,Nat.sub_self,List.drop_eq_getElem_cons h,List.set_cons_zero,List.append_assoc]
 rfl
theorem aJo {out a:List Nat} {i:Nat} (hol:out.length=i):(out++a.drop i).getD i 0=a.getD i 0:=by
 rw [List.getD_eq_getElem?_getD,List.getElem?_append_right (by omega),hol,Nat.sub_self,List.getElem?_drop,Nat.add_zero,← List.getD_eq_getElem?_getD]
theorem aTn (a b:List Nat) (ha:∀ x∈a,x<2^64) (hb:∀ x∈b,x<2^64) (hla:a.length≤1000000) (hba:b.length≤a.length) (hv:nv (2^64) b≤nv (2^64) a) :
  XF (((a.length:Int),(Wd b,((0:Int),((0:Int),((),()))))),(Wd a,()))=some (.inl (((),()),(Wd (pd (2^64) a.length (nv (2^64) a-nv (2^64) b)),()))):=by
 have key:=Df (aB7 Cc.pre Cc.F A5.pre A5.F Af.pre Af.F) (fun x=>a.length-x.1.2.2.2.1.toNat)
  (fun x=>∃ (i:Nat) (out:List Nat) (c:Nat),i≤a.length∧out.length=i∧(∀ x∈out,x<2^64)∧c≤1∧nv (2^64) (a.take i)+(2^64)^i*c=nv (2^64) (b.take i)+nv (2^64) out ∧
   x=(((a.length:Int),(Wd b,((c:Int),((i:Int),((),()))))),(Wd (out++a.drop i),())))
  (fun _=>.inl (((),()),(Wd (pd (2^64) a.length (nv (2^64) a-nv (2^64) b)),()))) ?_ (((a.length:Int),(Wd b,((0:Int),((0:Int),((),()))))),(Wd a,()))
  ⟨0,[],0,Nat.zero_le _,rfl,(fun x hx=>by simp at hx),by decide,by simp [nv],rfl⟩
 ·exact key
 intro L x hx hL
 obtain ⟨i,out,c,hi,hol,hod,hc,hov,rfl⟩:=hx
 unfold Tc
 rcases Nat.lt_or_ge i a.length with hlt | hge
 ·have hxa:=Cm (by decide) ha i
  have hxb:=Cm (by decide) hb i
  have hna:=Ep (2^64) a i
  have hnb:=Ep (2^64) b i
  have hzb:b.length≤i→b.getD i 0=0:=fun h=>by rw [List.getD_eq_getElem?_getD,List.getElem?_eq_none h]; rfl
  have hset:=fun v=>XH (v:=v) hol hlt
  have hlen:(out++a.drop i).length=a.length:=by simp; omega
  have hget:=aJo (a:=a) hol
  generalize hda:a.getD i 0=da at *
  generalize hdb:b.getD i 0=db at *
  have hgo:∀ c' v:Nat,c'≤1→v<2^64→da+2^64*c'=db+c+v→L (((a.length:Int),(Wd b,((c':Int),(((i+1:Nat):Int),((),()))))),(Wd (out++[v]++a.drop (i+1)),()))=_:=fun c' v h1 h2 h3 =>
   hL _ ⟨i+1,out++[v],c',by omega,by simp; omega,Yt hod h2,h1,by
    rw [hna,hnb,Y8,hol,Nat.pow_succ]
    exact aJi hov h3,rfl⟩ (by simp only [Int.toNat_natCast]; omega)
  have hgo2:=hgo (if da<db+c then 1 else 0) ((da+2^64-db-c)%2^64) (by split <;> omega) (Nat.mod_lt _ (by decide)) (by split <;> omega)
  have hF:=VZ da db c hc hxa hxb
  have hP:=Zw (da:Int) (db:Int) c hc
  rcases Nat.lt_or_ge i b.length with hib | hib
  ·simp (disch:=omega) only [BU,BL,BS,Bz,Bn,B0,BJ,BO,B5,BT,BX,B8,B4,B6,BY,BZ,BV,BF,AU,Bx,AS,Bg,BH,Int.toNat_natCast,Int.toNat_zero,cond_true,cond_false,Bool.and_self,Bool.true_and,Bool.and_true,Bool.false_and,Bool.and_false,Bool.not_true,Bool.not_false,Bool.or_self,Bool.true_or,Bool.or_true,Bool.false_or,Bool.or_false,Az,Ca,hdb,hget,hF,hP,hlen,Ef,hset]
   exact hgo2
  ·have h0:=hzb hib
   rw [h0] at hF hP
   simp (disch:=omega) only [BU,BL,BS,Bz,Bn,B0,BJ,BO,B5,BT,BX,B8,B4,B6,BY,BZ,BV,BF,AU,Bx,AS,Bg,BH,Int.toNat_natCast,Int.toNat_zero,cond_true,cond_false,Bool.and_self,Bool.true_and,Bool.and_true,Bool.false_and,Bool.and_false,Bool.not_true,Bool.not_false,Bool.or_self,Bool.true_or,Bool.or_true,Bool.false_or,Bool.or_false,Az,Ca,hget]
   have hF':A5.F ((da:Int),((0:Int),((c:Int),())))=_:=hF
   have hP':A5.pre ((da:Int),((0:Int),((c:Int),())))=true:=hP
   rw [h0] at hgo2
   simp (disch:=omega) only [BU,BL,BS,Bz,Bn,B0,BJ,BO,B5,BT,BX,B8,B4,B6,BY,BZ,BV,BF,AU,Bx,AS,Bg,BH,Int.toNat_natCast,Int.toNat_zero,cond_true,cond_false,Bool.and_self,Bool.true_and,Bool.and_true,Bool.false_and,Bool.and_false,Bool.not_true,Bool.not_false,Bool.or_self,Bool.true_or,Bool.or_true,Bool.false_or,Bool.or_false,hF',hP',hlen,Ef,hset]
   exact hgo2
 ·have e:i=a.length:=by omega
  subst e
  rw [List.take_length,List.take_of_length_le hba] at hov
  have hlt:=DM (B:=2^64) (by decide) out hod
  rw [hol] at hlt
  have hc0:(2^64)^a.length*c=0:=by
   rcases (show c=0∨c=1 by omega) with h | h
   ·rw [h,Nat.mul_zero]
   ·rw [h,Nat.mul_one] at hov; omega
  have ho:=fJ (B:=2^64) (v:=nv (2^64) a-nv (2^64) b) (by decide) hod hol (by omega)
  rw [List.drop_length,List.append_nil]
  simp (disch:=omega) only [BU,BL,BS,Bz,Bn,B0,BJ,BO,B5,BT,BX,B8,B4,B6,BY,BZ,BV,BF,AU,Bx,AS,Bg,BH,Int.toNat_natCast,Int.toNat_zero,cond_true,cond_false,Bool.and_self,Bool.true_and,Bool.and_true,Bool.false_and,Bool.and_false,Bool.not_true,Bool.not_false,Bool.or_self,Bool.true_or,Bool.or_true,Bool.false_or,Bool.or_false,Az]
  rw [← ho]
theorem yC (l:List Nat) (hl:Ws l):Rw (Wd l,())=some (Dw (nv (2^64) l),()):=by
 show Z6 Af.pre Af.F (Wd l)=_
 unfold Z6
 have p0:=DU l hl.2
 have hle:=(DX l).1
 have h2:=hl.2
 have e3:decide ((((Ai l).length:Nat):Int)*8≤140737488355328)=true:=decide_eq_true (by omega)
 simp (disch:=omega) only [BU,BL,BS,Bz,Bn,B0,BJ,BO,B5,BT,BX,B8,B4,B6,BY,BZ,BV,BF,AU,Bx,AS,Bg,BH,Int.toNat_natCast,Int.toNat_zero,cond_true,cond_false,Bool.and_self,Bool.true_and,Bool.and_true,Bool.false_and,Bool.and_false,Bool.not_true,Bool.not_false,Bool.or_self,Bool.true_or,Bool.or_true,Bool.false_or,Bool.or_false,CV p0,CT p0,Az,e3,List.length_replicate,List.drop_replicate,Nat.sub_self]
 rw [List.take_of_length_le (by rw [Az]; exact Nat.le_refl _),List.replicate_zero,List.append_nil,Hj (by decide) l hl.1]
 rfl
theorem pE {x y:Nat} (hx:x<(2^64)^5000) (h:y≤x):Xm (Dw x,Dw y,())=some (Dw (x-y),0,()):=by
 show dG N7.pre N7.F Du.pre Du.F Bj.pre Bj.F CQ.pre CQ.F Af.pre Af.F Ul.pre Ul.F (Dw x) (Dw y)=_
 unfold dG
 have hy:y<(2^64)^5000:=Nat.lt_of_le_of_lt h hx
 have p0:=eG hx hy
 have p1:=yC (dg (2^64) x) (Dj hx)
 rw [Cb] at p1
 have p1:Rw (Dw x,())=some (Dw x,()):=p1
 have p2:=Oe hy
 have z1:decide ((if x=y then (0:Int) else if x<y then -1 else 1)<0)=false:=by
  by_cases he:x=y
  ·rw [if_pos he]; rfl
  ·rw [if_neg he,if_neg (by omega)]; rfl
 have hX:=Dj hx
 have hY:=Dj hy
 have hlx:=hX.2
 have p3:Yc (Dw x,Dw y,())=some (Dw (x-y),()):=by
  show fR Cc.pre Cc.F A5.pre A5.F Af.pre Af.F XF (Dw x) (Dw y)=_
  unfold fR
  have hw:=aTn (dg (2^64) x) (dg (2^64) y) hX.1 hY.1 hlx (aFg (by decide) h) (by rw [Cb,Cb]; exact h)
  rw [Cb,Cb] at hw
  have q1:=x7 (pd (2^64) (dg (2^64) x).length (x-y)) (by rw [EU]; exact hlx)
  have hlt:=Sf (B:=2^64) (by decide) x
  rw [Hj (by decide) _ (RB (by decide) _ _),RS (by decide) _ _ (by omega)] at q1
  rw [show (Dw x).length=(dg (2^64) x).length from Az _]
  rw [show XF ((((dg (2^64) x).length:Int),(Dw y,((0:Int),((0:Int),((),()))))),(Dw x,()))=_ from hw]
  show (bif Cc.pre (Wd (pd (2^64) (dg (2^64) x).length (x-y)),()) then some (Cc.F (Wd (pd (2^64) (dg (2^64) x).length (x-y)),())) else none)=_
  simp only [aGi q1,aFK q1,cond_true]
  rfl
 simp only [V6 p0,Ww p0,cond_true,z1,cond_false,sO p1,rB p1,CV p2,CT p2,aQT p3,aT7 p3]
def od (s:Bool) (n:Nat) (e:Int):Bool×Nat×Int:=if n=0 then (false,0,0) else (s,n/2^tz n,e+tz n)
def Cd (t:Bool×Nat×Int):iS:=dy t.1 t.2.1 t.2.2
theorem ZP (s:Bool) (n:Nat) (e:Int):(if n=0 then dy false 0 0 else dy s (n/2^tz n) (e+tz n))=Cd (od s n e):=by
 unfold od Cd
 split <;> rfl
theorem Ej (s:Bool) (n:Nat) (e:Int):(od s n e=(false,0,0)∧n=0)∨((od s n e).1=s∧(od s n e).2.1%2=1∧n≠0∧n=2^tz n*(od s n e).2.1∧(od s n e).2.2=e+tz n):=by
 unfold od
 by_cases h:n=0
 ·rw [if_pos h]; exact .inl ⟨rfl,h⟩
 ·right
  rw [if_neg h]
  obtain ⟨k,hk⟩:=Ug h
  have hd:n/2^tz n=2*k+1:=by
   have:=Nat.mul_div_cancel_left (2*k+1) (Nat.two_pow_pos (tz n))
   rw [← hk] at this
   exact this
  dsimp only
  rw [hd]
  exact ⟨rfl,by omega,h,hk,rfl⟩
theorem UI {n k:Nat} (h:n<2^k) (h0:n≠0):tz n<k:=by
 obtain ⟨j,hj⟩:=Ug h0
 have h1:2^tz n*1≤2^tz n*(2*j+1):=Nat.mul_le_mul_left _ (by omega)
 exact (Nat.pow_lt_pow_iff_right (a:=2) (by decide)).1 (by omega)
theorem aKK (s:Bool) {n k:Nat} (e:Int) (hn:n<2^k) (he:-20000≤e∧e≤20000):(od s n e).2.1<2^k∧-20000≤(od s n e).2.2∧(od s n e).2.2≤20000+k:=by
 rcases Ej s n e with ⟨h,_⟩ | ⟨_,h2,h3,h4,h5⟩
 ·rw [h]; exact ⟨Nat.two_pow_pos _,by dsimp only; omega,by dsimp only; omega⟩
 ·have hle:(od s n e).2.1≤n:=by
   have:=Nat.le_mul_of_pos_left (od s n e).2.1 (Nat.two_pow_pos (tz n))
   omega
  have:=UI hn h3
  refine ⟨by omega,by omega,by omega⟩
theorem LX {n k:Nat} (h:n<2^k) (hk:k≤64*2000):n<(2^64)^2000:=by
 rw [Cr]
 exact Nat.lt_of_lt_of_le h (Nat.pow_le_pow_right (by decide) hk)
theorem aEl {n k:Nat} (h:n<2^k) (hk:k≤64*1000):(Dw n).length≤1000:=by
 unfold Dw; rw [Az]
 refine CR (by decide) _ _ ?_
 rw [Cr]
 exact Nat.lt_of_lt_of_le h (Nat.pow_le_pow_right (by decide) hk)
theorem cE (s:Bool) {n k:Nat} (h:n<2^k) (hk:k≤64*1000) (e:Int) (he:-40000≤e∧e≤40000):HI (dy s n e,())=some (0,()):=by
 show dD (s,Dw n,e,())=_
 unfold dD
 have:=aEl h hk
 dsimp only
 rw [decide_eq_false (p:=((Dw n).length:Int)>1024) (by omega),decide_eq_false (p:=e < -40000) (by omega),decide_eq_false (p:=e>40000) (by omega)]
 rfl
theorem tY (s:Bool) {n:Nat} (h:n<2^6000) (e:Int) (he:-20000≤e∧e≤20000):OK (dy s n e,())=some (Cd (od s n e),0,()):=by
 show lV CF.pre CF.F (s,Dw n,e,())=_
 unfold lV
 have p0:=YG s (KD (LX h (by decide))) e (by omega)
 rw [ZP] at p0
 have p0:ET ((s,Dw n,e,()),())=some (Cd (od s n e),()):=p0
 have hb:=aKK s e h he
 have hl:=aEl hb.1 (by decide)
 have e1:decide ((((Cd (od s n e)).2.1.length:Nat):Int)>1024)=false:=decide_eq_false (by
  show ¬ ((((Dw (od s n e).2.1).length:Nat):Int)>1024)
  omega)
 have e2:decide ((Cd (od s n e)).2.2.1 < -40000)=false:=decide_eq_false (by
  show ¬ ((od s n e).2.2 < -40000)
  omega)
 have e3:decide ((Cd (od s n e)).2.2.1>40000)=false:=decide_eq_false (by
  show ¬ ((od s n e).2.2>40000)
  omega)
 simp only [O5 p0,Qv p0,cond_true,e1,e2,e3,cond_false,Bool.or_self]
theorem fD {x y:Nat} (hx:x<(2^64)^5000) (hy:y<(2^64)^5000):Rx (Dw x,Dw y,())=some (Dw (x+y),()):=by
 have h1:(dg (2^64) x).length≤5000:=CR (by decide) _ _ hx
 have h2:(dg (2^64) y).length≤5000:=CR (by decide) _ _ hy
 have:=zE (dg (2^64) x) (dg (2^64) y) (Dj hx) (Dj hy) (by rw [Ox (by decide)]; omega) (by rw [Ox (by decide)]; omega)
 rw [Cb,Cb] at this
 exact this
end VL
namespace VL
open Go Vx
theorem lG {x:Nat} (h0:x≠0) (h:x<2^64):Dw x=(x:Int)::[]:=by
 unfold Dw
 rw [F9 (by decide) (by omega),Nat.mod_eq_of_lt h,Nat.div_eq_of_lt h,Eq]; rfl
theorem Sr {f:Int} {a:Nat} (h:Am f a=0) (hfin:eF f a≠BE f):Sd (f,(a:Int),())=some (Cd (od (sF f a) (Ad f a) (Ag f a)),0,()):=by
 obtain ⟨hf,h0⟩:=CO h
 have ha:=MX h
 show Uv Ar.pre Ar.F Di.pre Di.F Br.pre Br.F BI.pre BI.F f a=_
 unfold Uv
 have h1:=Dz hf
 have h2:=EP hf
 have h3:=D4 hf
 have h4:=H2 hf
 have h5:=EX hf
 have h6:=R9 hf
 have hE:=Ry hf a
 have hM:=SW f a
 have hPp:2^(fP f-1)≤2^52:=Nat.pow_le_pow_right (by decide) (by omega)
 have hpp:=Nat.two_pow_pos (fP f-1)
 have p0:=En f a ha
 have p1:=Za (fW f-fP f) (by omega)
 have p2:=jA hf a ha
 have hr1:decide (0≤f)=true:=decide_eq_true hf.1
 have hr2:decide (f<((4:Nat):Int))=true:=decide_eq_true hf.2
 have r1:(Bp f).1=(fW f:Int):=rfl
 have r2:(Bp f).2.1=(fP f:Int):=rfl
 have r3:(Bp f).2.2.1=1-(fX f:Int):=rfl
 have e1:IntKind.wrap .i64 ((fW f:Int)-(fP f:Int))=((fW f-fP f:Nat):Int):=Bz _ _ (by omega)
 have e2:IntKind.wrap .i64 ((fP f:Int)-1)=((fP f-1:Nat):Int):=Bn _ (by omega)
 have e3:AQ .u64 1 ((fP f-1:Nat):Int)=((2^(fP f-1):Nat):Int):=L5 (by omega)
 have e4:A9 .u64 (mF f a:Int) ((2^(fP f-1):Nat):Int)=((mF f a+2^(fP f-1):Nat):Int):=by
  have:=Fk (a:=mF f a) (b:=1) (k:=fP f-1) hM (by omega)
  rwa [Nat.one_mul] at this
 have hfl:(((eF f a:Nat):Int)==((2^(fW f-fP f)-1:Nat):Int))=false:=by
  rw [H8]; exact beq_eq_false_iff_ne.2 hfin
 have ew:∀ z:Int,-1000000≤z∧z≤1000000→IntKind.wrap .i64 z=z:=fun z hz=>As (by omega)
 simp only [hJ hf,r1,r2,r3,hr1,hr2,Dp p0,Dt p0,iG p2,Z8 p2,h,cond_true,bne_self_eq_false,cond_false,e1,e2,e3,e4,YT p1,WK p1,hfl,AU]
 by_cases hz:eF f a=0
 ·have hg:(((eF f a:Nat):Int)==0)=true:=Bx _ hz
  have hm:Ad f a=mF f a:=by unfold Ad; rw [if_pos hz]
  have hx:Ag f a=1-(fX f:Int)-(fP f:Int)+1:=by unfold Ag; rw [if_pos hz,Int.add_zero]
  rw [hg,cond_true,hm,hx]
  by_cases hm0:mF f a=0
  ·rw [Bx _ hm0,cond_true]
   unfold od Cd
   rw [if_pos hm0,aFV]
  ·obtain ⟨k,hk⟩:=Ug hm0
   have htl:=UI (n:=mF f a) (k:=53) (by omega) hm0
   have p3:=lA (t:=tz (mF f a)) (k:=k) (by omega)
   rw [← hk] at p3
   have hq:mF f a/2^tz (mF f a)≠0:=by
    have:=Nat.mul_div_cancel_left (2*k+1) (Nat.two_pow_pos (tz (mF f a)))
    rw [← hk] at this
    omega
   have hql:=Nat.div_le_self (mF f a) (2^tz (mF f a))
   rw [AS _ hm0,cond_false]
   simp only [gH p3,kG p3,cond_true,AU,Dq (mF f a) (tz (mF f a)) (by omega)]
   rw [← lG hq (by omega)]
   unfold od Cd dy
   rw [if_neg hm0]
   rw [ew 1 (by omega),ew (1-1) (by omega),ew (1-1+_) (by omega),ew (1-1+_-_) (by omega),ew (1-1+_-_+1) (by omega),ew _ (by omega)]
   rw [show (1:Int)-1+(1-(fX f:Int))-(fP f:Int)+1+(tz (mF f a):Int)=1-(fX f:Int)-(fP f:Int)+1+(tz (mF f a):Int) by omega]
 ·have hg:(((eF f a:Nat):Int)==0)=false:=AS _ hz
  have hm:Ad f a=mF f a+2^(fP f-1):=by unfold Ad; rw [if_neg hz]
  have hx:Ag f a=1-(fX f:Int)-(fP f:Int)+1+((eF f a:Int)-1):=by unfold Ag; rw [if_neg hz]
  rw [hg,cond_false,hm,hx]
  have hm0:mF f a+2^(fP f-1)≠0:=by omega
  have hml:mF f a+2^(fP f-1)<2^54:=by omega
  generalize mF f a+2^(fP f-1)=n at *
  obtain ⟨k,hk⟩:=Ug hm0
  have htl:=UI hml hm0
  have p3:=lA (t:=tz n) (k:=k) (by rw [← hk]; omega)
  rw [← hk] at p3
  have hq:n/2^tz n≠0:=by
   have:=Nat.mul_div_cancel_left (2*k+1) (Nat.two_pow_pos (tz n))
   rw [← hk] at this
   omega
  have hql:=Nat.div_le_self n (2^tz n)
  rw [AS _ hm0,cond_false]
  simp only [gH p3,kG p3,cond_true,AU,Dq n (tz n) (by omega)]
  rw [← lG hq (by omega)]
  unfold od Cd dy
  rw [if_neg hm0]
  rw [ew (eF f a:Int) (by omega),ew ((eF f a:Int)-1) (by omega),ew ((eF f a:Int)-1+_) (by omega),ew ((eF f a:Int)-1+_-_) (by omega),ew ((eF f a:Int)-1+_-_+1) (by omega),ew _ (by omega)]
  rw [show (eF f a:Int)-1+(1-(fX f:Int))-(fP f:Int)+1+(tz n:Int)=1-(fX f:Int)-(fP f:Int)+1+((eF f a:Int)-1)+(tz n:Int) by omega]
theorem aFv (s:Bool) (n:Nat) (e:Int):od (od s n e).1 (od s n e).2.1 (od s n e).2.2=od s n e:=by
 rcases Ej s n e with ⟨h,_⟩ | ⟨_,h2,_,_,_⟩
 ·rw [h]; rfl
 ·obtain ⟨k,hk⟩:∃ k,(od s n e).2.1=2*k+1:=⟨(od s n e).2.1/2,by omega⟩
  generalize hD:od s n e=D at *
  obtain ⟨d1,d2,d3⟩:=D
  simp only at hk h2 ⊢
  subst hk
  unfold od
  rw [if_neg (by omega),aG9,Nat.pow_zero,Nat.div_one,Int.natCast_zero,Int.add_zero]
theorem YM (s:Bool) {n:Nat} (e:Int) (hn:n<2^53) (he:-2000≤e∧e≤2000):(od s n e).2.1<2^53∧-2500≤(od s n e).2.2∧(od s n e).2.2≤2500:=by
 rcases Ej s n e with ⟨h,_⟩ | ⟨_,h2,h3,h4,h5⟩
 ·rw [h]; exact ⟨Nat.two_pow_pos _,by dsimp only; omega,by dsimp only; omega⟩
 ·have hle:(od s n e).2.1≤n:=by
   have:=Nat.le_mul_of_pos_left (od s n e).2.1 (Nat.two_pow_pos (tz n))
   omega
  have:=UI hn h3
  refine ⟨by omega,by omega,by omega⟩
end VL
namespace VL
open Go Vx
theorem aA8 {f:Int} (hf:Fm f):qm f≤0:=by
 have:=R9 hf
 have:=Dz hf
 unfold qm; omega
theorem aLo (f:Int) (s:Bool) (e:Int):vI f s 0 e=0:=by
 unfold vI; rw [Nat.zero_mul]; cases s <;> rfl
theorem aPM (s:Bool) {n:Nat} (hn:n<(2^64)^5000) (e:Int):Vc (dy s n e,())=some (if n=0 then 0 else if s=true then -1 else 1,()):=by
 show kH Bh.pre Bh.F (s,Dw n,e,())=_
 unfold kH
 have p0:=ZC (dg (2^64) n) (Dj hn)
 rw [Cb] at p0
 have p0:RD (Dw n,())=some (Dw n,()):=p0
 dsimp only
 simp only [VB p0,UV p0,cond_true]
 by_cases h:n=0
 ·rw [if_pos h,h,Do]; rfl
 ·have hlen:(((Dw n).length:Int)==0)=false:=AS _ (by have:=Jm h; omega)
  rw [if_neg h,hlen,cond_false]
  cases s <;> rfl
theorem nG {f m:Int} (hf:Fm f) (hm:0≤m∧m≤5) (s:Bool) {n:Nat} (hn:n<2^6000) (h0:n≠0) (hodd:n%2=1) (e:Int) (he:-20000≤e∧e≤20000) :
  Nb (f,m,dy s n e,())=some (((AM f m s n e false).1:Int),((AM f m s n e false).2:Int),0,()):=by
 show dL EN.pre EN.F NE.pre NE.F EG.pre EG.F f m (s,Dw n,e,())=_
 unfold dL
 have p0:=wI hf hm
 have q1:=cE s hn (by decide) e (by omega)
 have q2:=tY s hn e he
 have hod:od s n e=(s,n,e):=by
  obtain ⟨k,rfl⟩:∃ k,n=2*k+1:=⟨n/2,by omega⟩
  unfold od
  rw [if_neg (by omega),aG9,Nat.pow_zero,Nat.div_one,Int.natCast_zero,Int.add_zero]
 rw [hod] at q2
 have p1:WB ((s,Dw n,e,()),())=some ((s,Dw n,e,()),0,()):=by
  show aZ E6.pre E6.F Eb.pre Eb.F (s,Dw n,e,())=_
  unfold aZ
  have q1:HI ((s,Dw n,e,()),())=some (0,()):=q1
  have q2:OK ((s,Dw n,e,()),())=some ((s,Dw n,e,()),0,()):=q2
  simp only [Wn q1,Yp q1,rQ q2,vU q2,cond_true,bne_self_eq_false,cond_false]
 have p2:=wJ s n e false f m hf (LX hn (by decide)) (by omega)
 have hlen:(((Dw n).length:Int)==0)=false:=AS _ (by have:=Jm h0; omega)
 simp only [vR p0,nR p0,cond_true,bne_self_eq_false,cond_false,aTN p1,aO8 p1,hlen,sY p2,wY p2]
end VL
namespace VL
open Go Vx
def cd (f:Int) (S:Int):iS:=Cd (od (decide (S<0)) S.natAbs (qm f))
theorem xM {n:Nat} (h:n≠0) (d:Nat):tz (n*2^d)=tz n+d:=by
 obtain ⟨k,hk⟩:=Ug h
 have e:n*2^d=2^(tz n+d)*(2*k+1):=by
  rw [Nat.pow_add,Nat.mul_assoc,Nat.mul_comm (2^d),← Nat.mul_assoc,← hk]
 rw [e]; exact We _ _
theorem aJW {f:Int} (s:Bool) (n:Nat) {e:Int} (he:qm f≤e):Cd (od s n e)=cd f (vI f s n e):=by
 unfold cd
 congr 1
 by_cases h0:n=0
 ·subst h0
  rw [aLo]; rfl
 ·have hp:=Nat.two_pow_pos (e-qm f).toNat
  have hpos:0<n*2^(e-qm f).toNat:=Nat.mul_pos (by omega) hp
  have hs:decide (vI f s n e<0)=s:=by
   unfold vI
   generalize n*2^(e-qm f).toNat=N at *
   cases s <;> simp only [cond_true,cond_false]
   ·exact decide_eq_false (by omega)
   ·exact decide_eq_true (by omega)
  have hn:(vI f s n e).natAbs=n*2^(e-qm f).toNat:=by
   unfold vI
   cases s
   ·exact Int.natAbs_natCast _
   ·exact (Int.natAbs_neg _).trans (Int.natAbs_natCast _)
  rw [hs,hn]
  unfold od
  rw [if_neg h0,if_neg (by omega),xM h0]
  have hd:n*2^(e-qm f).toNat/2^(tz n+(e-qm f).toNat)=n/2^tz n:=by
   rw [Nat.pow_add,Nat.mul_div_mul_right _ _ hp]
  rw [hd]
  congr 2
  omega
def Bd (f:Int) (n:Nat) (e:Int):Prop:=qm f≤e∧e≤6000∧n*2^(e-qm f).toNat<2^5000
theorem Bd.lt {f:Int} {n:Nat} {e:Int} (h:Bd f n e):n<2^5000:=by
 have:=Nat.le_mul_of_pos_right n (Nat.two_pow_pos (e-qm f).toNat)
 exact Nat.lt_of_le_of_lt this h.2.2
theorem Bd.od {f:Int} (hf:Fm f) {n:Nat} {e:Int} (s:Bool) (h:Bd f n e):Bd f (VL.od s n e).2.1 (VL.od s n e).2.2:=by
 rcases Ej s n e with ⟨hz,_⟩ | ⟨_,h2,h3,h4,h5⟩
 ·rw [hz]
  exact ⟨aA8 hf,by dsimp only; omega,by dsimp only; rw [Nat.zero_mul]; exact Nat.two_pow_pos _⟩
 ·have hle:2^(tz n+(e-qm f).toNat)≤n*2^(e-qm f).toNat:=by
   rw [Nat.pow_add]
   refine Nat.mul_le_mul_right _ ?_
   have:=Nat.le_mul_of_pos_right (2^tz n) (show 0<(VL.od s n e).2.1 by omega)
   omega
  have hlt:=(Nat.pow_lt_pow_iff_right (a:=2) (by decide)).1 (Nat.lt_of_le_of_lt hle h.2.2)
  have hq:=aA8 hf
  have h1:=h.1
  refine ⟨by omega,by omega,?_⟩
  have e1:(VL.od s n e).2.1*2^((VL.od s n e).2.2-qm f).toNat=n*2^(e-qm f).toNat:=by
   rw [h5,show (e+(tz n:Int)-qm f).toNat=tz n+(e-qm f).toNat by omega,Nat.pow_add,← Nat.mul_assoc,Nat.mul_comm _ (2^tz n),← h4]
  rw [e1]; exact h.2.2
theorem Bd.sft {f:Int} {X:Nat} {ex e:Int} (h:Bd f X ex) (h1:e≤ex) (h2:qm f≤e):X*2^(ex-e).toNat<2^5000:=by
 have e1:X*2^(ex-qm f).toNat=X*2^(ex-e).toNat*2^(e-qm f).toNat:=by
  rw [Nat.mul_assoc,← Nat.pow_add]; congr 2; omega
 have:=Nat.le_mul_of_pos_right (X*2^(ex-e).toNat) (Nat.two_pow_pos (e-qm f).toNat)
 rw [← e1] at this
 exact Nat.lt_of_le_of_lt this h.2.2
theorem aM9 (k:Nat):(2:Nat)^k+2^k=2^(k+1):=by rw [Nat.pow_succ]; omega
end VL
namespace VL
open Go Vx
theorem aIM {f:Int} (hf:Fm f) (a:Nat):(Ag f a-qm f).toNat≤2047:=by
 have h1:=Ry hf a
 unfold Ag qm
 split <;> omega
theorem aGn (f:Int) (a:Nat):(vA f a).natAbs=Ad f a*2^(Ag f a-qm f).toNat:=by
 unfold vA vI
 cases sF f a
 ·exact Int.natAbs_natCast _
 ·exact (Int.natAbs_neg _).trans (Int.natAbs_natCast _)
theorem aOR {f:Int} (hf:Fm f) (a:Nat):(vA f a).natAbs<2^2100:=by
 rw [aGn]
 have h1:Ad f a*2^(Ag f a-qm f).toNat<2^53*2^(Ag f a-qm f).toNat:=Nat.mul_lt_mul_of_pos_right (Fp hf a) (Nat.two_pow_pos _)
 rw [← Nat.pow_add] at h1
 have:=aIM hf a
 exact Nat.lt_of_lt_of_le h1 (Nat.pow_le_pow_right (by decide) (by omega))
end VL
namespace VL
open Go Vx
structure Hid (p:Prop):Prop where
 out:p
end VL
namespace VL
open Go Vx
theorem aPX {f:Int} {a:Nat} (h:Am f a=0) (hfull:eF f a=BE f):Sd (f,(a:Int),())=some ((false,[],0,()),40,()):=by
 obtain ⟨hf,h0⟩:=CO h
 have ha:=MX h
 show Uv Ar.pre Ar.F Di.pre Di.F Br.pre Br.F BI.pre BI.F f a=_
 unfold Uv
 have h2:=EP hf
 have h3:=D4 hf
 have h4:=Dz hf
 have h5:=EX hf
 have p0:=En f a ha
 have p1:=Za (fW f-fP f) (by omega)
 have p2:=jA hf a ha
 have hr1:decide (0≤f)=true:=decide_eq_true hf.1
 have hr2:decide (f<((4:Nat):Int))=true:=decide_eq_true hf.2
 have r1:(Bp f).1=(fW f:Int):=rfl
 have r2:(Bp f).2.1=(fP f:Int):=rfl
 have e1:IntKind.wrap .i64 ((fW f:Int)-(fP f:Int))=((fW f-fP f:Nat):Int):=Bz _ _ (by omega)
 have hfl:(((eF f a:Nat):Int)==((2^(fW f-fP f)-1:Nat):Int))=true:=by
  rw [H8]; exact beq_iff_eq.2 hfull
 simp only [hJ hf,r1,r2,hr1,hr2,Dp p0,Dt p0,iG p2,Z8 p2,h,cond_true,bne_self_eq_false,cond_false,e1,YT p1,WK p1,hfl]
end VL
namespace VL
open Go Vx
theorem qW {l:List Nat} {j v:Nat} (hj:j<l.length) (h:l.getD j 0=v):l.set j v=l:=by
 rw [List.getD_eq_getElem?_getD,List.getElem?_eq_getElem hj,Option.getD_some] at h
 subst h
 exact List.set_getElem_self hj
end VL
namespace VL
open Go Vx
theorem Hq {n k:Nat} (h:n<2^k) (hk:k≤64*5000):n<(2^64)^5000:=by
 rw [Cr]
 exact Nat.lt_of_lt_of_le h (Nat.pow_le_pow_right (by decide) hk)
theorem aS0 (n:Nat):((((Dw n).length:Nat):Int)==0)=decide (n=0):=by
 by_cases h:n=0
 ·subst h; rw [Do]; rfl
 ·rw [decide_eq_false h]; exact AS _ (by have:=Jm h; omega)
end VL
namespace VL
open Go Vx
def CL (far n:Int):Int:=if (if far<n then far else n)>-far then (if far<n then far else n) else -far
theorem aT0 {far:Int} (h:0≤far) (n:Int):-far≤CL far n∧CL far n≤far:=by
 unfold CL; split <;> split <;> omega
theorem aGC {f:Int} (hf:Fm f) (m:Int) (neg:Bool) {N:Nat} (h0:N≠0) (hN:N<2^100) {e:Int} (he:e≤-2500) :
  AM f m neg N e false=((if Ct m neg false 1=true then 1 else 0)+C9 f neg,24):=by
 have hP:=Dz hf
 have hPl:=EX hf
 have hX:=H2 hf
 have hX15:=R9 hf
 have hbl:=E2 hN
 have hbl1:=IE h0
 have htop:AV N e=e+(An N:Int)-1:=rfl
 have hq:KH f (AV N e)=1-(fX f:Int)-(fP f:Int)+1:=by unfold KH; rw [if_pos (by omega)]
 obtain ⟨d,hd⟩:=Int.eq_ofNat_of_zero_le (show 0≤1-(fX f:Int)-(fP f:Int)+1-e by omega)
 have hN2:N<2^(d-1):=Nat.lt_of_lt_of_le hN (Nat.pow_le_pow_right (by decide) (by omega))
 have hN3:N<2^d:=Nat.lt_of_lt_of_le hN (Nat.pow_le_pow_right (by decide) (by omega))
 have hquo:EI N e (1-(fX f:Int)-(fP f:Int)+1)=0:=by
  rw [fZ (by omega),hd,Int.toNat_natCast,Nat.div_eq_of_lt hN3]
 have hrst:DJ N e (1-(fX f:Int)-(fP f:Int)+1) false=1:=by
  rw [W0,mN (by omega),hd,Int.toNat_natCast,Nat.mod_eq_of_lt hN3]
  unfold Cs
  rw [if_neg h0,if_pos hN2]
 have hcut:CK m neg N e (1-(fX f:Int)-(fP f:Int)+1) false=(if Ct m neg false 1=true then 1 else 0):=by
  unfold CK
  rw [hquo,hrst]
  by_cases h:Ct m neg false 1=true
  ·rw [if_pos h,if_pos ⟨by decide,h⟩]
  ·rw [if_neg h,if_neg (fun h2=>h h2.2)]
 have hb1:An (if Ct m neg false 1=true then 1 else 0)≤1:=by split <;> decide
 have hc2:=aTL (m:=m) (neg:=neg) (n:=N) (e:=e) hf (Int.le_refl (AV N e-(fP f:Int)+1))
 have hb2:=E2 (Nat.lt_of_le_of_lt hc2 (Nat.pow_lt_pow_right (by decide) (Nat.lt_succ_self (fP f))))
 have htiny:FI f m neg N e false:=⟨by omega,by omega⟩
 unfold AM
 dsimp only
 rw [hq,hcut,hrst,if_neg (by omega),if_neg (by omega),if_neg (show ¬ (1:Nat)=0 by decide),if_pos htiny,Int.sub_self,Int.toNat_zero,Nat.zero_mul,Nat.zero_add]
theorem aHi {f:Int} (hf:Fm f) (m:Int) (neg:Bool) {N:Nat} (h0:N≠0) {e:Int} (he:2500≤e) :
  AM f m neg N e false=(Yd f m neg,20):=by
 have hX:=H2 hf
 have hbl1:=IE h0
 have htop:AV N e=e+(An N:Int)-1:=rfl
 unfold AM
 rw [if_pos (by omega)]
theorem aKR {f:Int} (hf:Fm f) (m:Int) (neg:Bool) {N:Nat} (h0:N≠0) (hN:N<2^100) {e:Int} (he:-2000≤e∧e≤2000) (n:Int) :
  AM f m neg N (e+CL 10000 n) false=AM f m neg N (e+CL 5000 n) false:=by
 by_cases h1:n>5000
 ·have a1:5000≤CL 10000 n:=by unfold CL; split <;> split <;> omega
  have a2:5000≤CL 5000 n:=by unfold CL; split <;> split <;> omega
  rw [aHi hf m neg h0 (by omega),aHi hf m neg h0 (by omega)]
 ·by_cases h2:n < -5000
  ·have a1:CL 10000 n≤-5000:=by unfold CL; split <;> split <;> omega
   have a2:CL 5000 n≤-5000:=by unfold CL; split <;> split <;> omega
   rw [aGC hf m neg h0 hN (by omega),aGC hf m neg h0 hN (by omega)]
  ·have a1:CL 10000 n=CL 5000 n:=by
    have b1:CL 10000 n=n:=by unfold CL; rw [if_neg (show ¬ (10000:Int)<n by omega),if_pos (by omega)]
    have b2:CL 5000 n=n:=by
     unfold CL
     rw [if_neg (show ¬ (5000:Int)<n by omega)]
     split <;> omega
    rw [b1,b2]
   rw [a1]
def Xd (f m:Int) (a:Nat) (n:Int):DenS Jq :=
 if ¬ Fm f then (0,0,2,())
 else if m<0∨m>5 then (0,0,3,())
 else if Am f a≠0 then (0,0,Am f a,())
 else bif nan f a then ((Cz f:Int),(bif AG f a then 1 else 0),0,())
 else if eF f a=BE f∨Bv f a=0 then ((a:Int),0,0,())
 else (((AM f m (sF f a) (Ad f a) (Ag f a+CL 5000 n) false).1:Int),((AM f m (sF f a) (Ad f a) (Ag f a+CL 5000 n) false).2:Int),0,())
theorem aL8 (f:Int) (a:Nat):(At f a==0)=decide (Bv f a=0):=by
 rw [Bool.eq_iff_iff,beq_iff_eq,decide_eq_true_eq]
 unfold At
 cases sF f a <;> simp only [cond_true,cond_false] <;> omega
theorem aIH (f m:Int) {a:Nat} (ha:a<2^64) (n:Int):W9 (f,m,(a:Int),n,())=some (Xd f m a n):=by
 show i5 Aq.pre Aq.F DE.pre DE.F CE.pre CE.F AC.pre AC.F CD.pre CD.F CB.pre CB.F Dn.pre Dn.F f m a n=_
 unfold i5 Xd
 try dsimp only
 rw [show (if ((if ((10000:Int)<n) then (10000:Int) else n)>(-(10000:Int))) then (if ((10000:Int)<n) then (10000:Int) else n) else (-(10000:Int)))=CL 10000 n from rfl]
 by_cases hf:¬ Fm f
 ·have p0:=GG hf
  rw [if_pos hf]
  simp only [Dd p0,C8 p0,cond_true]
  rfl
 have hf:=Classical.not_not.1 hf
 have p0:=FQ hf
 rw [if_neg (show ¬ ¬ Fm f from fun h=>h hf)]
 simp only [Dd p0,C8 p0,cond_true,bne_self_eq_false,cond_false]
 by_cases hm:m<0∨m>5
 ·rw [if_pos hm]
  have:(decide (m<0)||decide (m>5))=true:=by rcases hm with h | h <;> simp [h]
  rw [this,cond_true]
 rw [if_neg hm]
 have hmm:(decide (m<0)||decide (m>5))=false:=by
  rw [decide_eq_false (by omega),decide_eq_false (by omega)]; rfl
 rw [hmm,cond_false]
 by_cases hc:Am f a≠0
 ·have p1:=gR ha hc
  rw [if_pos hc]
  simp only [LP p1,L4 p1,cond_true,bne_iff_ne.2 hc]
 have hc:Am f a=0:=Classical.not_not.1 hc
 have p1:=Wx ha hc
 rw [if_neg (show ¬ Am f a≠0 from fun h=>h hc)]
 have p2:=KX (Av f a,At f a,())
 have p3:=KY (Av f a,At f a,()) (Av f a,At f a,())
 have p4:=Es hf
 rw [show ((Av f a,At f a,()):Int×Int×Unit).1=Av f a from rfl,GR] at p2
 rw [show ((Av f a,At f a,()):Int×Int×Unit).1=Av f a from rfl,E3,Bool.or_self] at p3
 simp only [LP p1,L4 p1,cond_true,bne_self_eq_false,cond_false,ZR p2,Xt p2,Yw p3,Y0 p3,Fs p4,Fq p4]
 cases hn:nan f a with
 | true=>rfl
 | false =>
  simp only [cond_false]
  by_cases hi:eF f a=BE f
  ·have p5:=aPX hc hi
   rw [if_pos (.inl hi)]
   simp only [OM p5,N5 p5,cond_true]
   rfl
  have p5:=Sr hc hi
  simp only [OM p5,N5 p5,cond_true,bne_self_eq_false,Bool.false_or,aL8]
  by_cases hz:Bv f a=0
  ·rw [if_pos (.inr hz),decide_eq_true hz,cond_true]
  rw [if_neg (by rintro (h | h) <;> contradiction),decide_eq_false hz,cond_false]
  have hml:=Fp hf a
  have hxb:=Gw hf a
  have hmn:Ad f a≠0:=by
   intro h
   have hz0:=(t7 hf a).2
   unfold Ad at h
   have hpp:=Nat.two_pow_pos (fP f-1)
   split at h
   ·rename_i h2; exact hz (hz0 ⟨h2,h⟩)
   ·omega
  have hcb:=aT0 (far:=10000) (by decide) n
  rcases Ej (sF f a) (Ad f a) (Ag f a) with ⟨_,h⟩ | ⟨o1,o2,o3,o4,o5⟩
  ·exact absurd h hmn
  have htz:=UI hml hmn
  have e1:(Cd (od (sF f a) (Ad f a) (Ag f a))).2.2.1=Ag f a+tz (Ad f a):=by
   show (od (sF f a) (Ad f a) (Ag f a)).2.2=_
   exact o5
  have e2:(Cd (od (sF f a) (Ad f a) (Ag f a))).1=sF f a:=by
   show (od (sF f a) (Ad f a) (Ag f a)).1=_
   exact o1
  have e3:(Cd (od (sF f a) (Ad f a) (Ag f a))).2.1=Dw (od (sF f a) (Ad f a) (Ag f a)).2.1:=rfl
  rw [e1,e2,e3,As (n:=Ag f a+_+_) (by omega)]
  generalize (od (sF f a) (Ad f a) (Ag f a)).2.1=k at *
  have hk0:k≠0:=by omega
  have hkl:k≤Ad f a:=by
   have:=Nat.le_mul_of_pos_left k (Nat.two_pow_pos (tz (Ad f a)))
   omega
  have p6:=nG hf (m:=m) (by omega) (sF f a) (n:=k) (Nat.lt_trans (Nat.lt_of_le_of_lt hkl hml) (Nat.pow_lt_pow_right (by decide) (by decide))) hk0 o2 (Ag f a+tz (Ad f a)+CL 10000 n) (by omega)
  have hsc:=Kx (f:=f) (m:=m) (neg:=sF f a) hf hk0 (tz (Ad f a)) (Ag f a+CL 10000 n)
  rw [Nat.mul_comm,← o4,show Ag f a+CL 10000 n+(tz (Ad f a):Int)=Ag f a+tz (Ad f a)+CL 10000 n by omega] at hsc
  rw [← hsc,aKR hf m (sF f a) hmn (Nat.lt_trans hml (Nat.pow_lt_pow_right (by decide) (by decide))) ⟨hxb.1,hxb.2⟩ n] at p6
  have p6:Nb (f,m,(sF f a,Dw k,Ag f a+tz (Ad f a)+CL 10000 n,()),())=_:=p6
  simp only [uG p6,qE p6,cond_true]
end VL
namespace VL
open Go Vx
theorem Wh {x:Nat} (h:x<2^64):A8 .u64 (x:Int) 4294967295=((x%2^32:Nat):Int):=Ss (n:=32) h (by decide)
theorem SA (x:Nat):AH .u64 (x:Int) 32=((x/2^32:Nat):Int):=by
 have h:=aGX (a:=(x:Int)) 32 (by decide)
 rw [show ((32:Nat):Int)=32 from rfl] at h
 rw [h]; norm_cast
theorem aUi {x0 x1 y0 y1:Nat} (h0:x0<2^32) (h1:x1<2^32) (k0:y0<2^32) (k1:y1<2^32) :
  ((x1*y1%2^64+(x1*y0%2^64+x0*y0%2^64/2^32)%2^64/2^32)%2^64+((x1*y0%2^64+x0*y0%2^64/2^32)%2^64%2^32+x0*y1%2^64)%2^64/2^32)%2^64=(x0+2^32*x1)*(y0+2^32*y1)/2^64:=by
 have b00:x0*y0≤(2^32-1)*(2^32-1):=Nat.mul_le_mul (by omega) (by omega)
 have b01:x0*y1≤(2^32-1)*(2^32-1):=Nat.mul_le_mul (by omega) (by omega)
 have b10:x1*y0≤(2^32-1)*(2^32-1):=Nat.mul_le_mul (by omega) (by omega)
 have b11:x1*y1≤(2^32-1)*(2^32-1):=Nat.mul_le_mul (by omega) (by omega)
 have e1:x0*(2^32*y1)=2^32*(x0*y1):=Nat.mul_left_comm _ _ _
 have e2:2^32*x1*y0=2^32*(x1*y0):=Nat.mul_assoc _ _ _
 have e3:2^32*x1*(2^32*y1)=2^64*(x1*y1):=by
  rw [Nat.mul_assoc,Nat.mul_left_comm x1,← Nat.mul_assoc]
 rw [Nat.add_mul,Nat.mul_add,Nat.mul_add,e1,e2,e3]
 generalize x0*y0=a at *
 generalize x0*y1=b at *
 generalize x1*y0=c at *
 generalize x1*y1=d at *
 have ha:a%2^64=a:=Nat.mod_eq_of_lt (by omega)
 have hb:b%2^64=b:=Nat.mod_eq_of_lt (by omega)
 have hc:c%2^64=c:=Nat.mod_eq_of_lt (by omega)
 have hd:d%2^64=d:=Nat.mod_eq_of_lt (by omega)
 rw [ha,hb,hc,hd]
 have ht:(c+a/2^32)%2^64=c+a/2^32:=Nat.mod_eq_of_lt (by omega)
 rw [ht]
 generalize hT:c+a/2^32=t
 have hw:(t%2^32+b)%2^64=t%2^32+b:=Nat.mod_eq_of_lt (by omega)
 rw [hw]
 have hq:(d+t/2^32)%2^64=d+t/2^32:=Nat.mod_eq_of_lt (by omega)
 rw [hq]
 omega
theorem aC {x y:Nat} (hx:x<2^64) (hy:y<2^64):Zz ((x:Int),(y:Int),())=some (((x*y/2^64:Nat):Int),((x*y%2^64:Nat):Int),()):=by
 show i9 (x:Int) (y:Int)=_
 unfold i9
 dsimp only
 rw [Wh hx,Wh hy,SA x,SA y]
 have hm:∀ z:Nat,z%2^64<2^64:=fun z=>Nat.mod_lt _ (by decide)
 have am:∀ z:Nat,A8 .u64 ((z%2^64:Nat):Int) 4294967295=((z%2^64%2^32:Nat):Int):=fun z=>Wh (hm z)
 have wm:∀ a b:Nat,IntKind.wrap .u64 ((a:Int)*(b:Int))=((a*b%2^64:Nat):Int):=fun a b=>by rw [← Int.natCast_mul]; exact JV _
 have wa:∀ a b:Nat,IntKind.wrap .u64 ((a:Int)+(b:Int))=(((a+b)%2^64:Nat):Int):=fun a b=>by rw [← Int.natCast_add]; exact JV _
 simp only [wm,wa,SA,am]
 have e:=aUi (x0:=x%2^32) (x1:=x/2^32) (y0:=y%2^32) (y1:=y/2^32) (by omega) (by omega) (by omega) (by omega)
 rw [Nat.mod_add_div,Nat.mod_add_div] at e
 rw [e]
theorem oH {x y:Nat} (hx:x<2^64) (hy:y<2^64):W3 ((x:Int),(y:Int),())=some (Wi (x*y),()):=by
 show mX AO.pre AO.F (x:Int) (y:Int)=_
 unfold mX
 have p:=aC hx hy
 simp only [dB p,mE p,cond_true]
 rfl
def AL (f:Int) (a:Nat):Bool:=eF f a==0&&mF f a==0
theorem VT {f:Int} (hf:Fm f) (a:Nat):(Av f a==5||Av f a==6)=AL f a:=by
 have hp:=PX hf
 have hne:(eF f a==BE f&&eF f a==0)=false:=by
  cases h:eF f a==BE f
  ·rfl
  ·have:=beq_iff_eq.1 h
   rw [Bool.true_and,this]
   exact beq_eq_false_iff_ne.2 (by omega)
 unfold Av AL
 cases h1:eF f a==BE f <;> cases h2:eF f a==0 <;> rw [h1,h2] at hne <;> cases mF f a==0 <;> cases sF f a <;> cases mF f a/2^(fP f-2) != 0 <;> first | rfl | cases hne
theorem aT4 {f:Int} (hf:Fm f) {a:Nat} (h:eF f a=0) :
  IntKind.wrap .i64 (IntKind.wrap .i64 (IntKind.wrap .i64 (IntKind.wrap .i64 (IntKind.wrap .i64 (1:Int)-1)+(1-(fX f:Int)))-(fP f:Int))+1)=Ag f a:=by
 have h3:=EX hf
 have h4:=H2 hf
 unfold Ag
 rw [if_pos h,show IntKind.wrap .i64 (1:Int)=1 from rfl,As (n:=(1:Int)-1) (by omega),As (n:=(1:Int)-1+(1-(fX f:Int))) (by omega),As (n:=(1:Int)-1+(1-(fX f:Int))-(fP f:Int)) (by omega),As (by omega)]
 omega
theorem aKI {f:Int} (hf:Fm f) {a:Nat} (h:eF f a≠0) :
  IntKind.wrap .i64 (IntKind.wrap .i64 (IntKind.wrap .i64 (IntKind.wrap .i64 (IntKind.wrap .i64 (eF f a:Int)-1)+(1-(fX f:Int)))-(fP f:Int))+1)=Ag f a:=by
 have h3:=EX hf
 have h4:=H2 hf
 have hE:=Ry hf a
 unfold Ag
 rw [if_neg h,As (n:=(eF f a:Int)) (by omega),As (n:=(eF f a:Int)-1) (by omega),As (n:=(eF f a:Int)-1+(1-(fX f:Int))) (by omega),As (n:=(eF f a:Int)-1+(1-(fX f:Int))-(fP f:Int)) (by omega),As (by omega)]
 omega
theorem aNb {f:Int} (hf:Fm f) (a:Nat):A9 .u64 (mF f a:Int) (AQ .u64 1 (IntKind.wrap .i64 ((fP f:Int)-1)))=((mF f a+2^(fP f-1):Nat):Int):=by
 have h1:=Dz hf
 have h3:=EX hf
 have hM:=SW f a
 have hPp:2^(fP f-1)≤2^52:=Nat.pow_le_pow_right (by decide) (by omega)
 have e0:IntKind.wrap .i64 ((fP f:Int)-1)=((fP f-1:Nat):Int):=Bn _ (by omega)
 have e3:AQ .u64 1 ((fP f-1:Nat):Int)=((2^(fP f-1):Nat):Int):=L5 (by omega)
 rw [e0,e3]
 have:=Fk (a:=mF f a) (b:=1) (k:=fP f-1) hM (by omega)
 rwa [Nat.one_mul] at this
theorem aBn {f:Int} {a:Nat} (h:Am f a=0):UL (f,Bp f,(a:Int),())=some ((Av f a,sF f a,(Ad f a:Int),Ag f a,()),0,()):=by
 obtain ⟨hf,h0⟩:=CO h
 have ha:=MX h
 show Uw AB.pre AB.F Bo.pre Bo.F f (Bp f) a=_
 unfold Uw
 have p1:=Fr ha h
 have p2:=RQ h
 have h1:=Dz hf
 have h3:=EX hf
 have r1:(Bp f).2.1=(fP f:Int):=rfl
 have r2:(Bp f).2.2.1=1-(fX f:Int):=rfl
 have e0:decide (0≤IntKind.wrap .i64 ((fP f:Int)-1))=true:=by
  rw [Bn _ (by omega)]; exact AU _
 simp only [Dl p1,Dk p1,SI p2,Su p2,cond_true,bne_self_eq_false,cond_false,r1,r2,e0]
 by_cases hz:eF f a=0
 ·rw [Bx _ hz,cond_true,aT4 hf hz]
  have hm:Ad f a=mF f a:=by unfold Ad; rw [if_pos hz]
  rw [hm]
 ·rw [AS _ hz,cond_false,aKI hf hz,aNb hf]
  have hm:Ad f a=mF f a+2^(fP f-1):=by unfold Ad; rw [if_neg hz]
  rw [hm]
theorem aGl {f:Int} {a:Nat} (ha:a<2^64) (h:Am f a≠0):UL (f,Bp f,(a:Int),())=some ((0,false,0,0,()),Am f a,()):=by
 show Uw AB.pre AB.F Bo.pre Bo.F f (Bp f) a=_
 unfold Uw
 have p1:=Pc ha h
 have e:(Am f a != 0)=true:=bne_iff_ne.2 h
 simp only [Dl p1,Dk p1,cond_true,e]
def yL (f m:Int) (a b:Nat):Int×Int×Int×Unit :=
 bif nan f a||nan f b then ((Cz f:Int),(bif AG f a||AG f b then 1 else 0),0,())
 else bif (Au f a&&AL f b)||(AL f a&&Au f b) then ((Cz f:Int),1,0,())
 else bif Au f a||Au f b then ((Gl f (!(sF f a==sF f b)):Int),0,0,())
 else bif AL f a||AL f b then ((C9 f (!(sF f a==sF f b)):Int),0,0,())
 else (((AM f m (!(sF f a==sF f b)) (Ad f a*Ad f b) (Ag f a+Ag f b) false).1:Int),((AM f m (!(sF f a==sF f b)) (Ad f a*Ad f b) (Ag f a+Ag f b) false).2:Int),0,())
def fK (f m:Int) (a b:Nat):Int×Int×Int×Unit :=
 if ¬ Fm f then (0,0,2,())
 else if m<0∨m>5 then (0,0,3,())
 else if Am f a≠0 then (0,0,Am f a,())
 else if Am f b≠0 then (0,0,Am f b,())
 else yL f m a b
theorem J9 {f:Int} {a:Nat} (h:AL f a=false):Ad f a≠0:=by
 unfold AL at h
 unfold Ad
 by_cases hz:eF f a=0
 ·rw [if_pos hz]
  intro hm
  rw [hz,hm] at h
  cases h
 ·rw [if_neg hz]
  have:=Nat.two_pow_pos (fP f-1)
  omega
theorem aD3 (f m:Int) {a b:Nat} (ha:a<2^64) (hb:b<2^64):Yl (f,m,(a:Int),(b:Int),())=some (fK f m a b):=by
 show cU Aq.pre Aq.F NS.pre NS.F PF.pre PF.F AC.pre AC.F O4.pre O4.F B7.pre B7.F NU.pre NU.F Be.pre Be.F C0.pre C0.F A3.pre A3.F f m a b=_
 unfold cU fK
 dsimp only
 by_cases hf:¬ Fm f
 ·have p0:=GG hf
  rw [if_pos hf]
  simp only [Dd p0,C8 p0,cond_true]
  rfl
 have hf:=Classical.not_not.1 hf
 have p0:=FQ hf
 rw [if_neg (show ¬ ¬ Fm f from fun h=>h hf)]
 simp only [Dd p0,C8 p0,cond_true,bne_self_eq_false,cond_false]
 by_cases hm:m<0∨m>5
 ·rw [if_pos hm]
  have:(decide (m<0)||decide (m>5))=true:=by rcases hm with h | h <;> simp [h]
  rw [this,cond_true]
 rw [if_neg hm]
 have hm':0≤m∧m≤5:=by omega
 have:(decide (m<0)||decide (m>5))=false:=by simp; omega
 rw [this,cond_false]
 by_cases hca:Am f a≠0
 ·have p1:=aGl ha hca
  have e:(Am f a != 0)=true:=bne_iff_ne.2 hca
  rw [if_pos hca]
  simp only [cF p1,lB p1,cond_true,e]
 have hca:=Classical.not_not.1 hca
 have p1:=aBn hca
 rw [if_neg (show ¬ Am f a≠0 from fun h=>h hca)]
 simp only [cF p1,lB p1,cond_true,bne_self_eq_false,cond_false]
 by_cases hcb:Am f b≠0
 ·have p2:=aGl hb hcb
  have e:(Am f b != 0)=true:=bne_iff_ne.2 hcb
  rw [if_pos hcb]
  simp only [cF p2,lB p2,cond_true,e]
 have hcb:=Classical.not_not.1 hcb
 have p2:=aBn hcb
 rw [if_neg (show ¬ Am f b≠0 from fun h=>h hcb)]
 have n351:∀ (c:Int) (s:Bool) (n e:Int),Xl ((c,s,n,e,()),())=some ((c==1||c==0),()):=fun _ _ _ _=>rfl
 have n352:∀ (c:Int) (s:Bool) (n e:Int),X7 ((c,s,n,e,()),())=some ((c==2||c==9),()):=fun _ _ _ _=>rfl
 have n353:∀ (c:Int) (s:Bool) (n e:Int),Y9 ((c,s,n,e,()),())=some ((c==5||c==6),()):=fun _ _ _ _=>rfl
 have q1:=n351 (Av f a) (sF f a) (Ad f a:Int) (Ag f a)
 have q2:=n351 (Av f b) (sF f b) (Ad f b:Int) (Ag f b)
 have q3:=n352 (Av f a) (sF f a) (Ad f a:Int) (Ag f a)
 have q4:=n352 (Av f b) (sF f b) (Ad f b:Int) (Ag f b)
 have q5:=n353 (Av f a) (sF f a) (Ad f a:Int) (Ag f a)
 have q6:=n353 (Av f b) (sF f b) (Ad f b:Int) (Ag f b)
 rw [GR] at q1 q2
 rw [TD] at q3 q4
 rw [VT hf] at q5 q6
 have s:=!(sF f a==sF f b)
 have p3:=Es hf
 have p4:=UT hf (!(sF f a==sF f b))
 have p5:=Q1 hf (!(sF f a==sF f b))
 have ma:=Fp hf a
 have mb:=Fp hf b
 have xa:=Gw hf a
 have xb:=Gw hf b
 have hprod:Ad f a*Ad f b<2^128:=Nat.lt_of_lt_of_le (Nat.mul_lt_mul'' ma mb) (by decide)
 have p6:=oH (x:=Ad f a) (y:=Ad f b) (Nat.lt_trans ma (by decide)) (Nat.lt_trans mb (by decide))
 have p7:=K5 hf hm' (!(sF f a==sF f b)) (Ad f a*Ad f b) hprod (Ag f a+Ag f b) (by omega) false (fun h=>by cases h)
 have ew:IntKind.wrap .i64 (Ag f a+Ag f b)=Ag f a+Ag f b:=As (by omega)
 simp only [cF p2,lB p2,cond_true,bne_self_eq_false,cond_false,aBb q1,aDH q1,aBb q2,aDH q2,aAZ q3,aEV q3,aAZ q4,aEV q4,aBf q5,zO q5,aBf q6,zO q6,Fs p3,Fq p3,TM p4,VH p4,N2 p5,Ph p5,uA p6,n4 p6,ew,Ig p7,Hy p7,Bool.true_or,E3]
 unfold yL
 cases h1:nan f a||nan f b
 ·simp only [cond_false]
  cases h2:Au f a&&AL f b||AL f a&&Au f b
  ·simp only [cond_false]
   cases h3:Au f a||Au f b
   ·simp only [cond_false]
    cases h4:AL f a||AL f b
    ·simp only [cond_false]
     simp only [Bool.or_eq_false_iff] at h4
     rw [if_neg (Nat.mul_ne_zero (J9 h4.1) (J9 h4.2))]
    ·simp only [cond_true]
   ·simp only [cond_true]
  ·simp only [cond_true]
 ·simp only [cond_true]
  cases AG f a||AG f b <;> rfl
end VL
namespace VL
open Go Vx
theorem pQ (n:Nat):∃ r,r*r≤n∧n<(r+1)*(r+1):=by
 induction n with
 | zero=>exact ⟨0,by decide,by decide⟩
 | succ n ih =>
  obtain ⟨r,h1,h2⟩:=ih
  by_cases h:n+1<(r+1)*(r+1)
  ·exact ⟨r,by omega,h⟩
  ·refine ⟨r+1,by omega,?_⟩
   have:(r+1+1)*(r+1+1)=(r+1)*(r+1)+2*(r+1)+1:=by
    rw [Nat.mul_add (r+1+1),Nat.add_mul (r+1) 1 (r+1)]; omega
   omega
def AA (n:Nat):Nat:=Classical.choose (pQ n)
theorem mP (n:Nat):AA n*AA n≤n:=(Classical.choose_spec (pQ n)).1
theorem oX (n:Nat):n<(AA n+1)*(AA n+1):=(Classical.choose_spec (pQ n)).2
theorem jS {a b:Nat} (h:a≤b):a*a≤b*b:=Nat.mul_le_mul h h
theorem ZZ {a b:Nat} (h:a*a<b*b):a<b:=by
 rcases Nat.lt_or_ge a b with h1 | h1
 ·exact h1
 ·exact absurd (jS h1) (by omega)
theorem zD {n r:Nat} (h1:r*r≤n) (h2:n<(r+1)*(r+1)):AA n=r:=by
 have h3:=mP n
 have h4:=oX n
 have:=ZZ (show r*r<(AA n+1)*(AA n+1) by omega)
 have:=ZZ (show AA n*AA n<(r+1)*(r+1) by omega)
 omega
theorem pH {n r:Nat} (h:r*r≤n):r≤AA n:=by
 have:=ZZ (show r*r<(AA n+1)*(AA n+1) from Nat.lt_of_le_of_lt h (oX n))
 omega
theorem tF (r:Nat):AA (r*r)=r:=zD (Nat.le_refl _) (by rw [Nat.mul_add,Nat.add_mul]; omega)
theorem aPo {n:Nat} (h:n≠0):1≤AA n:=pH (by omega)
theorem TF (a b:Nat):(a*b)*(a*b)=a*a*(b*b):=by
 rw [Nat.mul_assoc,Nat.mul_left_comm b a b,Nat.mul_assoc]
theorem aPS (n K:Nat) (hK:0<K):AA (n*(K*K))/K=AA n:=by
 symm
 have h1:=mP (n*(K*K))
 have h2:=oX (n*(K*K))
 generalize AA (n*(K*K))=R at *
 have hKK:=Nat.mul_pos hK hK
 apply zD
 ·have h3:=jS (Nat.div_mul_le_self R K)
  rw [TF] at h3
  exact Nat.le_of_mul_le_mul_right (Nat.le_trans h3 h1) hKK
 ·have h3:R+1≤(R/K+1)*K:=by
   have:=Nat.lt_div_mul_add hK (a:=R)
   rw [Nat.add_mul,Nat.one_mul]; omega
  have h4:=jS h3
  rw [TF] at h4
  exact Nat.lt_of_mul_lt_mul_right (Nat.lt_of_lt_of_le h2 h4)
theorem aGT:∀ (k R n:Nat),R*R=n*(2^k*2^k)→∃ q,R=q*2^k∧q*q=n
 | 0,R,n,h=>⟨R,by omega,by omega⟩
 | k+1,R,n,h=>by
  have e:n*(2^(k+1)*2^(k+1))=4*(n*(2^k*2^k)):=by
   rw [Nat.pow_succ,TF,← Nat.mul_assoc n,Nat.mul_comm]
  rw [e] at h
  have hev:R%2=0:=by
   rcases Nat.mod_two_eq_zero_or_one R with h1 | h1
   ·exact h1
   ·have h2:R=2*(R/2)+1:=by omega
    have h3:R*R%2=1:=by rw [Nat.mul_mod,h1]
    omega
  obtain ⟨S,rfl⟩:∃ S,R=2*S:=⟨R/2,by omega⟩
  rw [TF] at h
  obtain ⟨q,h1,h2⟩:=aGT k S n (by omega)
  exact ⟨q,by rw [h1,Nat.pow_succ,Nat.mul_comm (2^k) 2,Nat.mul_left_comm],h2⟩
theorem xB (n k:Nat):AA (n*(2^k*2^k))*AA (n*(2^k*2^k))=n*(2^k*2^k)↔AA n*AA n=n:=by
 constructor
 ·intro h
  obtain ⟨q,h1,h2⟩:=aGT k _ n h
  rw [← h2,tF]
 ·intro h
  have e:n*(2^k*2^k)=(AA n*2^k)*(AA n*2^k):=by rw [TF,h]
  rw [e,tF]
theorem aNc {n k:Nat} (h:AA n*AA n=n):AA (n*(2^k*2^k))=AA n*2^k:=by
 have e:n*(2^k*2^k)=(AA n*2^k)*(AA n*2^k):=by rw [TF,h]
 rw [e,tF]
theorem aIb {f m:Int} {neg:Bool} {N:Nat} {E:Int} (hf:Fm f) (hb:fP f+2≤An N):AM f m neg N E true=AM f m neg (2*N+1) (E-1) false:=by
 have hP:=Dz hf
 have e1:(2*N+1)/2^1=N:=by omega
 have e2:(2*N+1)%2^1≠0:=by omega
 have h0:N≠0:=fun h=>by
  rw [h] at hb
  have:An 0=0:=rfl
  omega
 have:=Xb (f:=f) (m:=m) (neg:=neg) (N:=2*N+1) (k:=1) (E:=E-1) hf (by rw [e1]; exact h0) (fun _=>by rw [e1]; exact hb)
 rw [e1,decide_eq_true e2,show E-1+((1:Nat):Int)=E by omega] at this
 exact this
theorem aOg {f m:Int} {neg:Bool} {N k:Nat} {E:Int} (hf:Fm f) (hb:fP f+2≤An (N/2^k)):AM f m neg (N/2^k) E true=AM f m neg (2*N+1) (E-k-1) false:=by
 have hP:=Dz hf
 have e1:(2*N+1)/2^(k+1)=N/2^k:=by
  rw [Nat.pow_succ,Nat.mul_comm (2^k),← Nat.div_div_eq_div_mul,show (2*N+1)/2=N by omega]
 have e2:(2*N+1)%2^(k+1)≠0:=by
  rw [Nat.pow_succ,Nat.mul_comm (2^k),Nat.mod_mul]; omega
 have h0:N/2^k≠0:=fun h=>by
  rw [h] at hb
  have:An 0=0:=rfl
  omega
 have:=Xb (f:=f) (m:=m) (neg:=neg) (N:=2*N+1) (k:=k+1) (E:=E-k-1) hf (by rw [e1]; exact h0) (fun _=>by rw [e1]; exact hb)
 rw [e1,decide_eq_true e2,show E-k-1+((k+1:Nat):Int)=E by omega] at this
 exact this
def P0 (f m:Int) (X:Nat) (E:Int):Nat×Nat :=
 if AA X*AA X=X then AM f m false (AA X) E false else AM f m false (2*AA X+1) (E-1) false
theorem aTh {f m:Int} (hf:Fm f) {X:Nat} {E:Int} (hb:fP f+2≤An (AA X)):P0 f m X E=AM f m false (AA X) E (!decide (AA X*AA X=X)):=by
 unfold P0
 by_cases h:AA X*AA X=X
 ·rw [if_pos h,decide_eq_true h]; rfl
 ·rw [if_neg h,decide_eq_false h,Bool.not_false,aIb hf hb]
theorem aDk {f m:Int} (hf:Fm f) {X k:Nat} {E:Int} (h0:X≠0) (hb:fP f+2≤An (AA X)):P0 f m (X*(2^k*2^k)) (E-k)=P0 f m X E:=by
 have hpos:=aPo h0
 have hsc:=aPS X (2^k) (Nat.two_pow_pos k)
 unfold P0
 by_cases h:AA X*AA X=X
 ·rw [if_pos h,if_pos ((xB X k).2 h),aNc h,Kx hf (by omega),show E-(k:Int)+(k:Int)=E by omega]
 ·rw [if_neg h,if_neg (fun h2=>h ((xB X k).1 h2)),← aIb hf hb]
  have:=aOg (f:=f) (m:=m) (neg:=false) (N:=AA (X*(2^k*2^k))) (k:=k) (E:=E) hf (by rw [hsc]; exact hb)
  rw [hsc] at this
  exact this.symm
theorem aPs {X k:Nat} (h:2^(2*k)≤X):k+1≤An (AA X):=by
 apply dP
 apply pH
 rw [← Nat.pow_add,show k+k=2*k by omega]
 exact h
theorem rU {X k:Nat} (h:X<2^(2*k)):AA X<2^k:=by
 apply ZZ
 rw [← Nat.pow_add,show k+k=2*k by omega]
 exact Nat.lt_of_le_of_lt (mP X) h
end VL
end
