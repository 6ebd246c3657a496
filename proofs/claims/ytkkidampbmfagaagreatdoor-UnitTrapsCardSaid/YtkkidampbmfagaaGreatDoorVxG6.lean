/- Part 6 of the proof. What is proved: symbolic execution of the functions, proved sound; what each function of the program computes, and that every run ends with it; what these functions compute, in plain numbers. Conditions: each theorem bears its own. -/
import Derived.Test.YtkkidampbmfagaaGreatDoorVxG5
set_option linter.all false
set_option exponentiation.threshold 1000000
noncomputable section
namespace VL
open Go Vx
theorem B8 (a b:Nat) (h:a+b<2^62):IntKind.wrap .i64 ((a:Int)+(b:Int))=((a+b:Nat):Int):=by rw [As (by omega)]; omega
theorem BM (a:Nat) (h:a<2^62):IntKind.wrap .i64 ((a:Int)+1)=((a+1:Nat):Int):=by rw [As (by omega)]; omega
theorem B0 (a:Nat) (h:a<2^56):IntKind.wrap .i64 (64*(a:Int))=((64*a:Nat):Int):=by rw [As (by omega)]; omega
theorem BX (a:Nat) (h:a<2^56):IntKind.wrap .i64 ((a:Int)*64)=((64*a:Nat):Int):=by rw [As (by omega)]; omega
theorem BC (m n:Nat) (h:n<=m/\m<2^62):IntKind.wrap .i64 ((m:Int)-(n:Int))=((m-n:Nat):Int):=by rw [As (by omega)]; omega
theorem Bn (m:Nat) (h:1<=m/\m<2^62):IntKind.wrap .i64 ((m:Int)-1)=((m-1:Nat):Int):=by rw [As (by omega)]; omega
theorem BP (a b:Nat) (h:a<b):decide ((a:Int)<(b:Int))=true:=decide_eq_true (by omega)
theorem BQ (a b:Nat) (h:b<=a):decide ((a:Int)<(b:Int))=false:=decide_eq_false (by omega)
theorem B4 (a b:Nat) (h:a<=b):decide ((a:Int)<=(b:Int))=true:=decide_eq_true (by omega)
theorem BZ (a b:Nat) (h:b<a):decide ((a:Int)<=(b:Int))=false:=decide_eq_false (by omega)
theorem Ca (a b:Nat) (h:b<a):decide ((a:Int)>(b:Int))=true:=decide_eq_true (by omega)
theorem Cc (a b:Nat) (h:a<=b):decide ((a:Int)>(b:Int))=false:=decide_eq_false (by omega)
theorem Cb (a b:Nat) (h:b<=a):decide ((a:Int)>=(b:Int))=true:=decide_eq_true (by omega)
theorem BW (a b:Nat) (h:a<b):decide ((a:Int)>=(b:Int))=false:=decide_eq_false (by omega)
theorem B5 (a:Nat) (h:0<a):decide ((0:Int)<(a:Int))=true:=decide_eq_true (by omega)
theorem BU (a:Nat) (h:a=0):decide ((0:Int)<(a:Int))=false:=decide_eq_false (by omega)
theorem B7 (a:Nat) (h:0<a):decide ((a:Int)>0)=true:=decide_eq_true (by omega)
theorem BJ (a:Nat) (h:a=0):decide ((a:Int)>0)=false:=decide_eq_false (by omega)
theorem uD (a:Nat):decide ((a:Int)<0)=false:=decide_eq_false (by omega)
theorem By (a:Nat) (h:a=0):((a:Int)==0)=true:=by rw [Fq]; simp [h]
theorem AU (a:Nat) (h:a≠0):((a:Int)==0)=false:=by rw [Fq]; simp [h]
theorem Bg (a:Nat) (h:a≠0):((a:Int) != 0)=true:=by rw [Tk]; simp [h]
theorem BH (a:Nat) (h:a=0):((a:Int) != 0)=false:=by rw [Tk]; simp [h]
def pd (B:Nat):Nat->Nat->List Nat
 | 0,_=>[]
 | k+1,v=>v%B::pd B k (v/B)
theorem E6 (B:Nat):∀ k v,(pd B k v).length=k
 | 0,_=>rfl
 | k+1,v=>by simp [pd,E6 B k]
theorem R4 {B:Nat} (hB:0<B):∀ k v,∀ x∈pd B k v,x<B
 | 0,_,x,hx=>by simp [pd] at hx
 | k+1,v,x,hx=>by
  simp only [pd,List.mem_cons] at hx
  rcases hx with rfl | hx
  ·exact Nat.mod_lt _ hB
  ·exact R4 hB k _ x hx
theorem aDu {B:Nat} (hB:0<B):∀ (l:List Nat),(∀ x∈l,x<B)->l=pd B l.length (nv B l)
 | [],_=>rfl
 | x::r,h=>by
  have hx:=h x (by simp)
  simp only [List.length_cons,pd,nv]
  rw [Nat.add_mul_mod_self_left,Nat.mod_eq_of_lt hx,Nat.add_mul_div_left _ _ hB,Nat.div_eq_of_lt hx,Nat.zero_add,← aDu hB r fun y hy=>h y (by simp [hy])]
theorem fC {B:Nat} (hB:0<B) {l:List Nat} {k v:Nat} (h:∀ x∈l,x<B) (hl:l.length=k) (hv:nv B l=v):l=pd B k v:=by
 have:=aDu hB l h
 rw [hl,hv] at this
 exact this
theorem Sa {B:Nat} (hB:0<B):∀ k v,v<B^k->nv B (pd B k v)=v
 | 0,v,h=>by simp at h; subst h; rfl
 | k+1,v,h=>by
  simp only [pd,nv]
  rw [Sa hB k (v/B) (by rw [Nat.div_lt_iff_lt_mul hB,← Nat.pow_succ]; exact h)]
  exact Nat.mod_add_div v B
theorem Xa (B:Nat):∀ k v i,i<k->(pd B k v).getD i 0=v/B^i%B
 | 0,_,_,h=>by omega
 | k+1,v,0,_=>by simp [pd]
 | k+1,v,i+1,h=>by
  simp only [pd,List.getD_cons_succ]
  rw [Xa B k (v/B) i (by omega),Nat.div_div_eq_div_mul,← Nat.pow_succ']
theorem qN (B:Nat):∀ k,pd B k 0=List.replicate k 0
 | 0=>rfl
 | k+1=>by simp [pd,qN B k,List.replicate_succ]
theorem W4 (B:Nat):∀ (l:List Nat) (i x:Nat),i<l.length->nv B (l.set i x)+B^i*l.getD i 0=nv B l+B^i*x
 | [],_,_,h=>by simp at h
 | y::r,0,x,_=>by simp [nv]; omega
 | y::r,i+1,x,h=>by
  have:=W4 B r i x (by simpa using h)
  simp only [List.set_cons_succ,nv,List.getD_cons_succ,Nat.pow_succ']
  rw [Nat.mul_assoc,Nat.mul_assoc,Nat.add_assoc,Nat.add_assoc,← Nat.mul_add,← Nat.mul_add,this]
theorem aEG {B:Nat} {l:List Nat} (h:∀ x∈l,x<B) {i v:Nat} (hv:v<B):∀ x∈l.set i v,x<B:=fun x hx=>by
 rcases List.mem_or_eq_of_mem_set hx with h1 | h1
 ·exact h x h1
 ·rw [h1]; exact hv
theorem Na {B:Nat} (hB:2<=B) (n:Nat):Ai (dg B n)=dg B n:=by
 rw [G0 hB _ (Ga hB n),lV hB]
theorem Zc (B:Nat) (l:List Nat) (i:Nat) (h:i<l.length):nv B (l.take (i+1))=nv B (l.take i)+B^i*l.getD i 0:=by
 have hs:=LS B (l.take (i+1)) i (by simp; omega)
 rw [hs,List.take_take,Nat.min_eq_left (by omega)]
 congr 2
 rw [List.drop_take,Nat.add_sub_cancel_left,List.getD_eq_getElem?_getD]
 rw [List.drop_eq_getElem_cons h,List.getElem?_eq_getElem h]
 show l[i]+B*0=l[i]
 rw [Nat.mul_zero,Nat.add_zero]
theorem pO {x:Nat} (h:0<x):∃ t k,x=2^t*(2*k+1):=by
 induction x using Nat.strongRecOn with
 | ind x ih =>
  rcases Nat.mod_two_eq_zero_or_one x with h0 | h1
  ·obtain ⟨t,k,e⟩:=ih (x/2) (by omega) (by omega)
   refine ⟨t+1,k,?_⟩
   rw [Nat.pow_succ,Nat.mul_comm (2^t) 2,Nat.mul_assoc,← e]
   omega
  ·exact ⟨0,x/2,by simp; omega⟩
theorem aNo {t k n:Nat}:(2^t*(2*k+1))%2^n=0↔n<=t:=by
 constructor
 ·intro h
  rcases Nat.lt_or_ge t n with hlt | hge
  ·exfalso
   have e:n=t+(n-t-1)+1:=by omega
   rw [e,Nat.add_assoc,Nat.pow_add,Nat.mul_mod_mul_left,Nat.pow_succ] at h
   have hp:=Nat.two_pow_pos t
   have h2:(2*k+1)%(2^(n-t-1)*2)=0:=by
    rcases Nat.mul_eq_zero.1 h with h | h
    ·omega
    ·exact h
   have:(2*k+1)%2=0:=by
    have:=Nat.mod_mod_of_dvd (2*k+1) (show 2 ∣ 2^(n-t-1)*2 from ⟨_,Nat.mul_comm _ _⟩)
    rw [h2] at this
    omega
   omega
  ·exact hge
 ·intro h
  have e:t=n+(t-n):=by omega
  rw [e,Nat.pow_add,Nat.mul_assoc]
  exact Nat.mul_mod_right _ _
theorem aKG {t k:Nat} (h:2^t*(2*k+1)<2^64):2^t*(2*k+1) &&& (2^64-2^t*(2*k+1))=2^t:=by
 have hp:=Nat.two_pow_pos t
 have ht:t<64:=by
  have:2^t*1<=2^t*(2*k+1):=Nat.mul_le_mul_left _ (by omega)
  exact (Nat.pow_lt_pow_iff_right (a:=2) (by decide)).1 (by omega)
 have hz:2^t*(2*k)+(2^t-1)+1=2^t*(2*k+1):=by rw [Nat.mul_add,Nat.mul_one]; omega
 have hb:∀ i,(2^64-2^t*(2*k+1)).testBit i=(decide (i<64)&&!(2^t*(2*k)+(2^t-1)).testBit i):=fun i=>by
  rw [← hz,Nat.testBit_two_pow_sub_succ (by omega)]
 apply Nat.eq_of_testBit_eq
 intro i
 rw [Nat.testBit_and,hb,Nat.testBit_two_pow]
 have h1:(2^t*(2*k+1)).testBit i=(decide (t<=i)&&(2*k+1).testBit (i-t)):=by
  have:=Nat.testBit_two_pow_mul_add (2*k+1) hp i
  rw [Nat.add_zero] at this
  rw [this]
  by_cases hi:i<t
  ·simp [hi]; omega
  ·simp [hi]; omega
 rw [h1,Nat.testBit_two_pow_mul_add (2*k) (show 2^t-1<2^t by omega) i]
 rcases Nat.lt_trichotomy i t with hi | hi | hi
 ·simp [show ¬ t<=i by omega,show ¬ t=i by omega]
 ·subst hi
  simp [ht]
 ·have e:i-t=(i-t-1)+1:=by omega
  simp only [show ¬ i<t by omega,if_false,show ¬ t=i by omega,decide_false]
  rw [e,Nat.testBit_succ,Nat.testBit_succ,show (2*k+1)/2=k by omega,show 2*k/2=k by omega]
  cases k.testBit (i-t-1) <;> simp
theorem yB {a b:Nat} (ha:a<2^64) (hb:b<2^64):AQ .u64 (a:Int) (b:Int)=((a &&& b:Nat):Int):=by
 have key:(BitVec.ofInt 64 (a:Int) &&& BitVec.ofInt 64 (b:Int)).toNat=a &&& b:=by
  rw [BitVec.toNat_and,G3 ha,G3 hb]
 show IntKind.u64.wrap (((BitVec.ofInt 64 (a:Int) &&& BitVec.ofInt 64 (b:Int)).toNat:Nat):Int)=_
 rw [key]
 have:=Nat.and_le_left (n:=a) (m:=b)
 exact DW (by omega)
theorem Th {a b:Nat} (ha:a<2^64) (hb:b<2^64):AX .u64 (a:Int) (b:Int)=((a ||| b:Nat):Int):=by
 have key:(BitVec.ofInt 64 (a:Int) ||| BitVec.ofInt 64 (b:Int)).toNat=a ||| b:=by
  rw [BitVec.toNat_or,G3 ha,G3 hb]
 show IntKind.u64.wrap (((BitVec.ofInt 64 (a:Int) ||| BitVec.ofInt 64 (b:Int)).toNat:Nat):Int)=_
 rw [key]
 have:=Nat.or_lt_two_pow ha hb
 exact DW (by omega)
theorem deb:∀ t:Nat,t<64->IntKind.wrap .i64 (k_deb.getD (2^t*285870213051353865%2^64/2^58) 0)=(t:Int):=by
 have h:((List.range 64).all fun t=>decide (IntKind.wrap .i64 (k_deb.getD (2^t*285870213051353865%2^64/2^58) (0:Int))=(t:Int)))=true:=by decide +kernel
 intro t ht
 have:=List.all_eq_true.1 h t (List.mem_range.2 ht)
 simpa using this
theorem gI {t k:Nat} (h:2^t*(2*k+1)<2^64):Yo (((2^t*(2*k+1):Nat):Int),())=some ((t:Int),()):=by
 have hp:=Nat.two_pow_pos t
 have h1:2^t*1<=2^t*(2*k+1):=Nat.mul_le_mul_left _ (by omega)
 have ht:t<64:=(Nat.pow_lt_pow_iff_right (a:=2) (by decide)).1 (by omega)
 have han:=aKG h
 show bB ((2^t*(2*k+1):Nat):Int)=_
 generalize hx:2^t*(2*k+1)=x at *
 unfold bB
 try dsimp only
 have e1:IntKind.wrap .u64 ((0:Int)-(x:Int))=((2^64-x:Nat):Int):=by
  have:∀ y:Int,IntKind.wrap .u64 y=y%18446744073709551616:=fun y=>by
   simp [IntKind.wrap,IntKind.bits,IntKind.signed]
  rw [this]; omega
 have e2:IntKind.wrap .u64 (((2^t:Nat):Int)*285870213051353865)=((2^t*285870213051353865%2^64:Nat):Int):=Ji (2^t*285870213051353865)
 have e3:AJ .u64 ((2^t*285870213051353865%2^64:Nat):Int) 58=((2^t*285870213051353865%2^64/2^58:Nat):Int):=DD _ 58 (by decide)
 have e4:2^t*285870213051353865%2^64/2^58<64:=by omega
 have e5:(decide ((0:Int)<=((2^t*285870213051353865%2^64/2^58:Nat):Int))&&decide (((2^t*285870213051353865%2^64/2^58:Nat):Int)<(64:Nat)))=true:=by
  rw [decide_eq_true (by omega),decide_eq_true (by omega)]; rfl
 rw [e1,yB h (by omega),han,e2,e3,e5,aHE,cond_true,AU x (by omega),cond_false,Int.toNat_natCast,deb t ht]
end VL
namespace VL
open Go Vx
def Dw (n:Nat):List Int:=Wd (dg (2^64) n)
theorem aEp (n:Nat) (h:(dg (2^64) n).length<=1000000):Ws (dg (2^64) n):=⟨Ga (by decide) n,h⟩
theorem C0 {B:Nat} (hB:2<=B):∀ (k n:Nat),n<B^k->(dg B n).length<=k
 | 0,n,h=>by simp at h; subst h; rw [Ev]; simp
 | k+1,n,h=>by
  rcases Nat.eq_zero_or_pos n with rfl | hn
  ·rw [Ev]; simp
  ·rw [F7 hB hn]
   have:=C0 hB k (n/B) (by rw [Nat.div_lt_iff_lt_mul (by omega),← Nat.pow_succ]; exact h)
   simp; omega
theorem RT {B:Nat} (hB:2<=B) (n:Nat):n<B^(dg B n).length:=by
 have:=DU hB _ (Ga hB n)
 rwa [lV hB] at this
theorem aQB {x i t k r n:Nat} (hx:x=2^t*(2*k+1)) (ht:t<64):((2^64)^i*(x+2^64*r))%2^n=0↔n<=64*i+t:=by
 have e:(2^64)^i*(x+2^64*r)=2^(64*i+t)*(2*(k+2^(64-t-1)*r)+1):=by
  have h1:2^64=2^t*(2^(64-t-1)*2):=by rw [← Nat.pow_succ,← Nat.pow_add]; congr 1; omega
  rw [Cu,hx,Nat.pow_add,Nat.mul_assoc]
  congr 1
  rw [h1,Nat.mul_assoc,← Nat.mul_add]
  congr 1
  rw [Nat.mul_assoc,Nat.mul_left_comm]
  omega
 rw [e]
 exact aNo
theorem aLg (a:List Nat) (ha:∀ x∈a,x<2^64) (hlen:a.length<=1000000) (n:Nat) (hn:n<=1000000000) (i:Nat) (hi:i<=a.length) (hz:nv (2^64) (a.take i)=0) :
  Z8 (((a.length:Int),(Wd a,((n:Int),((i:Int),())))),())=some (if nv (2^64) a=0 then .inl ((),()) else .inr ((decide (nv (2^64) a%2^n=0),()),())):=by
 have key:=Dm (aFR Ag.pre Ag.F BK.pre BK.F) (fun x=>a.length-x.1.2.2.2.1.toNat)
  (fun x=>∃ i:Nat,i<=a.length/\nv (2^64) (a.take i)=0/\x=(((a.length:Int),(Wd a,((n:Int),((i:Int),())))),()))
  (fun _=>if nv (2^64) a=0 then .inl ((),()) else .inr ((decide (nv (2^64) a%2^n=0),()),())) ?_ _ ⟨i,hi,hz,rfl⟩
 ·exact key
 intro L x hx hL
 obtain ⟨i,hi,hz,rfl⟩:=hx
 unfold VK
 rcases Nat.lt_or_ge i a.length with hlt | hge
 ·simp (disch:=omega) only [B8,BM,B0,BC,Bn,BX,BP,BQ,B4,BZ,Ca,Cc,Cb,BW,B5,BU,B7,BJ,AW,By,AU,Bg,BH,Int.toNat_natCast,Int.toNat_zero,cond_true,cond_false,Bool.and_self,Bool.true_and,Bool.and_true,Bool.false_and,Bool.and_false,Bool.not_true,Bool.not_false,Bool.or_self,Bool.true_or,Bool.or_true,Bool.false_or,Bool.or_false,AA,B9]
  have hxl:=Cq (by decide) ha i
  rcases Nat.eq_zero_or_pos (a.getD i 0) with h0 | h0
  ·simp (disch:=omega) only [B8,BM,B0,BC,Bn,BX,BP,BQ,B4,BZ,Ca,Cc,Cb,BW,B5,BU,B7,BJ,AW,By,AU,Bg,BH,Int.toNat_natCast,Int.toNat_zero,cond_true,cond_false,Bool.and_self,Bool.true_and,Bool.and_true,Bool.false_and,Bool.and_false,Bool.not_true,Bool.not_false,Bool.or_self,Bool.true_or,Bool.or_true,Bool.false_or,Bool.or_false]
   refine hL _ ⟨i+1,by omega,?_,rfl⟩ (by simp only [Int.toNat_natCast]; omega)
   rw [Zc _ _ _ hlt,hz,h0,Nat.mul_zero]
  ·obtain ⟨t,k,e⟩:=pO h0
   have ht:t<64:=by
    have hp:=Nat.two_pow_pos t
    have h1:2^t*1<=2^t*(2*k+1):=Nat.mul_le_mul_left _ (by omega)
    exact (Nat.pow_lt_pow_iff_right (a:=2) (by decide)).1 (by omega)
   have p0:=gI (t:=t) (k:=k) (by omega)
   rw [← e] at p0
   have hv:nv (2^64) a=(2^64)^i*(a.getD i 0+2^64*nv (2^64) (a.drop (i+1))):=by
    rw [LS _ a i hi,hz,Nat.zero_add,List.drop_eq_getElem_cons hlt]
    simp only [nv]
    rw [List.getD_eq_getElem?_getD,List.getElem?_eq_getElem hlt]
    rfl
   have hne:nv (2^64) a≠0:=by
    rw [hv]
    have:0<(2^64)^i:=Nat.pow_pos (by decide)
    exact Nat.ne_of_gt (Nat.mul_pos this (by omega))
   have hd:=aQB (i:=i) (r:=nv (2^64) (a.drop (i+1))) (n:=n) e ht
   rw [← hv] at hd
   simp (disch:=omega) only [B8,BM,B0,BC,Bn,BX,BP,BQ,B4,BZ,Ca,Cc,Cb,BW,B5,BU,B7,BJ,AW,By,AU,Bg,BH,Int.toNat_natCast,Int.toNat_zero,cond_true,cond_false,Bool.and_self,Bool.true_and,Bool.and_true,Bool.false_and,Bool.and_false,Bool.not_true,Bool.not_false,Bool.or_self,Bool.true_or,Bool.or_true,Bool.false_or,Bool.or_false,jO p0,cE p0,if_neg hne]
   have:decide (((64*i+t:Nat):Int)>=(n:Int))=decide (nv (2^64) a%2^n=0):=by
    rw [Bool.eq_iff_iff,decide_eq_true_eq,decide_eq_true_eq,hd]; omega
   rw [this]
 ·have e:i=a.length:=by omega
  subst e
  rw [List.take_length] at hz
  simp (disch:=omega) only [B8,BM,B0,BC,Bn,BX,BP,BQ,B4,BZ,Ca,Cc,Cb,BW,B5,BU,B7,BJ,AW,By,AU,Bg,BH,Int.toNat_natCast,Int.toNat_zero,cond_true,cond_false,Bool.and_self,Bool.true_and,Bool.and_true,Bool.false_and,Bool.and_false,Bool.not_true,Bool.not_false,Bool.or_self,Bool.true_or,Bool.or_true,Bool.false_or,Bool.or_false,if_pos hz]
theorem aUK (l:List Nat) (hl:Ws l) (n:Nat) (hn:n<=1000000000):VY (Wd l,(n:Int),())=some (decide (nv (2^64) l%2^n=0),()):=by
 obtain ⟨h,hlen⟩:=hl
 show cN Ag.pre Ag.F BK.pre BK.F Z8 (Wd l) n=_
 unfold cN
 have p0:=Ef l hlen
 have hm:∀ x∈Ai l,x<2^64:=fun x hx=>h x (R2 hx)
 have hle:=(D7 l).1
 have hw:=aLg (Ai l) hm (by omega) n hn 0 (Nat.zero_le _) rfl
 rw [I5 (by decide) h] at hw
 simp only [CX p0,CV p0,cond_true,AA]
 rw [show ((0:Nat):Int)=0 from rfl] at hw
 rw [hw]
 by_cases h0:nv (2^64) l=0
 ·rw [if_pos h0,h0,Nat.zero_mod]; rfl
 ·rw [if_neg h0]
def LP (v n:Nat):Nat:=if v%2^n=0 then v/2^n else v/2^n/2*2+1
theorem aDT (w:Nat):w ||| 1=w/2*2+1:=by
 apply Nat.eq_of_testBit_eq
 intro i
 rw [Nat.testBit_or]
 cases i with
 | zero=>simp [Nat.testBit_zero]
 | succ i =>
  rw [Nat.testBit_succ,Nat.testBit_succ,Nat.testBit_succ,show (w/2*2+1)/2=w/2 by omega,show 1/2=0 by rfl]
  simp
theorem aUc (l:List Nat) (hl:Ws l) (n:Nat) (hn:n<=100000000):TE (Wd l,(n:Int),())=some (Dw (LP (nv (2^64) l) n),0,()):=by
 show aZ Rj.pre Rj.F CS.pre CS.F Qk.pre Qk.F (Wd l) n=_
 unfold aZ
 have p0:=aN2 l hl n hn
 have p1:=aUK l hl n (by omega)
 simp only [uD,cond_false,aTb p0,aUA p0,aPr p1,aPQ p1,cond_true,AA]
 unfold LP
 by_cases h0:nv (2^64) l%2^n=0
 ·rw [if_pos h0,decide_eq_true h0]; rfl
 ·rw [if_neg h0,decide_eq_false h0]
  generalize nv (2^64) l/2^n=q
  rcases Nat.eq_zero_or_pos q with rfl | hq
  ·have e:Dw (0/2*2+1)=[1]:=by
    show Wd (dg (2^64) 1)=[1]
    rw [F7 (by decide) (by decide),Ev]; rfl
   rw [e,Ev]; rfl
  ·have hB:2<=2^64:=by decide
   have e:Dw (q/2*2+1)=Wd ((q%2^64/2*2+1)::dg (2^64) (q/2^64)):=by
    show Wd (dg (2^64) (q/2*2+1))=_
    rw [F7 hB (by omega)]
    have e1:(q/2*2+1)%2^64=q%2^64/2*2+1:=by omega
    have e2:(q/2*2+1)/2^64=q/2^64:=by omega
    rw [e1,e2]
   have e2:AX .u64 ((q%2^64:Nat):Int) 1=((q%2^64/2*2+1:Nat):Int):=by
    have:=Th (a:=q%2^64) (b:=1) (by omega) (by decide)
    rw [aDT] at this
    exact this
   rw [e,F7 hB hq]
   simp (disch:=omega) only [B8,BM,B0,BC,Bn,BX,BP,BQ,B4,BZ,Ca,Cc,Cb,BW,B5,BU,B7,BJ,AW,By,AU,Bg,BH,Int.toNat_natCast,Int.toNat_zero,cond_true,cond_false,Bool.and_self,Bool.true_and,Bool.and_true,Bool.false_and,Bool.and_false,Bool.not_true,Bool.not_false,Bool.or_self,Bool.true_or,Bool.or_true,Bool.false_or,Bool.or_false,List.length_cons,B9,List.getD_cons_zero,e2,Ee,List.set_cons_zero]
theorem wV (l:List Nat) (hl:Ws l) (n:Nat) (hn:n<=100000000):Nl (Wd l,(n:Int),())=some (Dw (nv (2^64) l/2^n),0,()):=by
 show kL CS.pre CS.F (Wd l) n=_
 unfold kL
 have p0:=aHP l hl n hn
 simp only [uD,cond_false,aBU p0,aFw p0,cond_true]
 rfl
end VL
namespace VL
open Go Vx
theorem aD8 {l:List Nat} {i j v:Nat} (h:i≠j):(l.set i v).getD j 0=l.getD j 0:=by
 rw [List.getD_eq_getElem?_getD,List.getD_eq_getElem?_getD,List.getElem?_set_ne h]
theorem aDB {out:List Nat} {K V k s x:Nat} (hs:s<64) (ho:out=pd (2^64) K V) (hk:k+1<K) (hV:V<2^(64*k+s)) (hx:x<2^64) :
  (out.getD k 0<2^s)/\(out.getD k 0+x%2^(64-s)*2^s<2^64)/\((out.set k (out.getD k 0+x%2^(64-s)*2^s)).set (k+1) (x/2^(64-s))=pd (2^64) K (V+2^(64*k+s)*x)):=by
 have hB:0<2^64:=by decide
 have hps:=Nat.two_pow_pos s
 have hpk:=Nat.two_pow_pos (64*k)
 have hlen:out.length=K:=by rw [ho,E6]
 have hc:out.getD k 0=V/(2^64)^k%2^64:=by rw [ho,Xa _ _ _ _ (by omega)]
 have hc2:V/(2^64)^k<2^s:=by
  rw [Cu,Nat.div_lt_iff_lt_mul hpk,Nat.mul_comm,← Nat.pow_add]; exact hV
 have hc1:out.getD (k+1) 0=0:=by
  rw [ho,Xa _ _ _ _ hk,Cu]
  have:V<2^(64*(k+1)):=Nat.lt_of_lt_of_le hV (Nat.pow_le_pow_right (by decide) (by omega))
  rw [Nat.div_eq_of_lt this]
 have h64:2^64=2^(64-s)*2^s:=by rw [← Nat.pow_add]; congr 1; omega
 have hs64:2^s<=2^64:=Nat.pow_le_pow_right (by decide) (by omega)
 have hce:V/(2^64)^k%2^64=V/(2^64)^k:=Nat.mod_eq_of_lt (by omega)
 have hcl:out.getD k 0<2^s:=by rw [hc,hce]; exact hc2
 have hp1:=Nat.two_pow_pos (64-s)
 have hm:x%2^(64-s)+1<=2^(64-s):=Nat.mod_lt _ hp1
 have hm2:=Nat.mul_le_mul_right (2^s) hm
 rw [← h64,Nat.add_mul,Nat.one_mul] at hm2
 have hsum:out.getD k 0+x%2^(64-s)*2^s<2^64:=by omega
 refine ⟨hcl,hsum,?_⟩
 have hall:∀ y∈out,y<2^64:=by rw [ho]; exact R4 hB _ _
 have hxd:x/2^(64-s)<2^64:=Nat.lt_of_le_of_lt (Nat.div_le_self _ _) hx
 refine fC hB (aEG (aEG hall hsum) hxd) (by simp [hlen]) ?_
 have g1:=W4 (2^64) out k (out.getD k 0+x%2^(64-s)*2^s) (by omega)
 have g2:=W4 (2^64) (out.set k (out.getD k 0+x%2^(64-s)*2^s)) (k+1) (x/2^(64-s)) (by rw [List.length_set]; omega)
 rw [aD8 (by omega),hc1,Nat.mul_zero,Nat.add_zero] at g2
 have hVK:V<(2^64)^K:=by
  rw [Cu]; exact Nat.lt_of_lt_of_le hV (Nat.pow_le_pow_right (by decide) (by omega))
 have hnv:nv (2^64) out=V:=by rw [ho,Sa hB _ _ hVK]
 rw [hnv,Nat.mul_add] at g1
 rw [g2]
 have hx2:2^(64*k+s)*x=(2^64)^k*(x%2^(64-s)*2^s)+(2^64)^(k+1)*(x/2^(64-s)):=by
  have hdm:=Nat.div_add_mod x (2^(64-s))
  generalize x/2^(64-s)=q at *
  generalize x%2^(64-s)=r at *
  rw [Nat.pow_add 2 (64*k) s,← Cu,show (2^64)^(k+1)=(2^64)^k*2^64 from Nat.pow_succ _ _,Nat.mul_assoc ((2^64)^k),Nat.mul_assoc ((2^64)^k),← Nat.mul_add,← hdm]
  congr 1
  rw [Nat.mul_add,Nat.mul_comm r,Nat.add_comm]
  congr 1
  rw [← Nat.mul_assoc,Nat.mul_comm (2^s),← h64]
 omega
theorem aS3 (a:List Nat) (ha:∀ x∈a,x<2^64) (hlen:a.length<=1000000) (w s:Nat) (hs:s<64) (hw:w<=10000000) (i:Nat) (hi:i<=a.length) :
  iR (((a.length:Int),(Wd a,((w:Int),((s:Int),((i:Int),((),())))))),(Wd (pd (2^64) (w+a.length+1) (2^(64*w+s)*nv (2^64) (a.take i))),()))=some (.inl (((),()),(Wd (pd (2^64) (w+a.length+1) (2^(64*w+s)*nv (2^64) a)),()))):=by
 have key:=Dm (aDD Ag.pre Ag.F) (fun x=>a.length-x.1.2.2.2.2.1.toNat)
  (fun x=>∃ i:Nat,i<=a.length/\x=(((a.length:Int),(Wd a,((w:Int),((s:Int),((i:Int),((),())))))),(Wd (pd (2^64) (w+a.length+1) (2^(64*w+s)*nv (2^64) (a.take i))),())))
  (fun _=>.inl (((),()),(Wd (pd (2^64) (w+a.length+1) (2^(64*w+s)*nv (2^64) a)),()))) ?_ _ ⟨i,hi,rfl⟩
 ·exact key
 intro L x hx hL
 obtain ⟨i,hi,rfl⟩:=hx
 unfold U4
 rcases Nat.lt_or_ge i a.length with hlt | hge
 ·have hxl:=Cq (by decide) ha i
  have ht:=DU (B:=2^64) (by decide) (a.take i) fun x hx=>ha x (List.mem_of_mem_take hx)
  rw [List.length_take,Nat.min_eq_left (by omega),Cu] at ht
  have hV:2^(64*w+s)*nv (2^64) (a.take i)<2^(64*(w+i)+s):=by
   have e:64*(w+i)+s=(64*w+s)+64*i:=by omega
   rw [e,Nat.pow_add _ (64*w+s)]
   exact Nat.mul_lt_mul_of_pos_left ht (Nat.two_pow_pos _)
  have hnext:=Zc (2^64) a i hlt
  have hgo:=hL (((a.length:Int),(Wd a,((w:Int),((s:Int),(((i+1:Nat):Int),((),())))))),(Wd (pd (2^64) (w+a.length+1) (2^(64*w+s)*nv (2^64) (a.take (i+1)))),())) ⟨i+1,by omega,rfl⟩ (by simp only [Int.toNat_natCast]; omega)
  rw [hnext,Nat.mul_add,← Nat.mul_assoc,show 2^(64*w+s)*(2^64)^i=2^(64*(w+i)+s) by rw [Cu,← Nat.pow_add]; congr 1; omega] at hgo
  generalize hout:pd (2^64) (w+a.length+1) (2^(64*w+s)*nv (2^64) (a.take i))=out at *
  obtain ⟨q1,q2,q3⟩:=aDB (k:=w+i) hs hout.symm (by omega) hV hxl
  have hol:out.length=w+a.length+1:=by rw [← hout,E6]
  have g1:a.getD i 0*2^s%2^64=(a.getD i 0%2^(64-s))*2^s:=by
   have:2^64=2^(64-s)*2^s:=by rw [← Nat.pow_add]; congr 1; omega
   rw [this,Nat.mul_mod_mul_right]
  have e8:IntKind.wrap .i64 (64-(s:Int))=((64-s:Nat):Int):=Eu 64 s (by omega) (by omega)
  simp (disch:=omega) only [B8,BM,B0,BC,Bn,BX,BP,BQ,B4,BZ,Ca,Cc,Cb,BW,B5,BU,B7,BJ,AW,By,AU,Bg,BH,Int.toNat_natCast,Int.toNat_zero,cond_true,cond_false,Bool.and_self,Bool.true_and,Bool.and_true,Bool.false_and,Bool.and_false,Bool.not_true,Bool.not_false,Bool.or_self,Bool.true_or,Bool.or_true,Bool.false_or,Bool.or_false,AA,B9,e8,El _ s (by omega),DD _ (64-s) (by omega),g1,Fc q1 q2,Ee,List.length_set,q3]
  exact hgo
 ·have e:i=a.length:=by omega
  subst e
  rw [List.take_length]
  simp (disch:=omega) only [B8,BM,B0,BC,Bn,BX,BP,BQ,B4,BZ,Ca,Cc,Cb,BW,B5,BU,B7,BJ,AW,By,AU,Bg,BH,Int.toNat_natCast,Int.toNat_zero,cond_true,cond_false,Bool.and_self,Bool.true_and,Bool.and_true,Bool.false_and,Bool.and_false,Bool.not_true,Bool.not_false,Bool.or_self,Bool.true_or,Bool.or_true,Bool.false_or,Bool.or_false]
theorem nU (l:List Nat) (hl:Ws l) (n:Nat) (hn:n/64+(Ai l).length+1<=1000000):RP (Wd l,(n:Int),())=some (Dw (nv (2^64) l*2^n),()):=by
 obtain ⟨h,hlen⟩:=hl
 show j8 Ag.pre Ag.F iR (Wd l) n=_
 unfold j8
 have hB:2<=2^64:=by decide
 have p0:=Ef l hlen
 have hm:∀ x∈Ai l,x<2^64:=fun x hx=>h x (R2 hx)
 have hle:=(D7 l).1
 have hv:=I5 hB h
 simp only [CX p0,CV p0,cond_true,AA]
 rcases Nat.eq_zero_or_pos (Ai l).length with h0 | h0
 ·rw [h0,aBB h h0,Nat.zero_mul]
  unfold Dw
  rw [Ev]; rfl
 ·have e4:Int.tmod (n:Int) 64=((n%64:Nat):Int):=rfl
  have e3:decide (((n/64+(Ai l).length+1:Nat):Int)*8<=140737488355328)=true:=decide_eq_true (by omega)
  have hw:=aS3 (Ai l) hm (by omega) (n/64) (n%64) (Nat.mod_lt _ (by decide)) (by omega) 0 (Nat.zero_le _)
  rw [show nv (2^64) ((Ai l).take 0)=0 by rfl,Nat.mul_zero,qN,show 64*(n/64)+n%64=n by omega,show ((0:Nat):Int)=0 from rfl] at hw
  simp (disch:=omega) only [B8,BM,B0,BC,Bn,BX,BP,BQ,B4,BZ,Ca,Cc,Cb,BW,B5,BU,B7,BJ,AW,By,AU,Bg,BH,Int.toNat_natCast,Int.toNat_zero,cond_true,cond_false,Bool.and_self,Bool.true_and,Bool.and_true,Bool.false_and,Bool.and_false,Bool.not_true,Bool.not_false,Bool.or_self,Bool.true_or,Bool.or_true,Bool.false_or,Bool.or_false,Xy n (by omega),e4,e3,RI,hw]
  have hV:2^n*nv (2^64) (Ai l)<(2^64)^(n/64+(Ai l).length+1):=by
   have:=DU hB (Ai l) hm
   rw [Cu] at this ⊢
   have h1:2^n*nv (2^64) (Ai l)<2^n*2^(64*(Ai l).length):=Nat.mul_lt_mul_of_pos_left this (Nat.two_pow_pos _)
   rw [← Nat.pow_add] at h1
   exact Nat.lt_of_lt_of_le h1 (Nat.pow_le_pow_right (by decide) (by omega))
  have p1:=Ef (pd (2^64) (n/64+(Ai l).length+1) (2^n*nv (2^64) (Ai l))) (by rw [E6]; omega)
  rw [G0 hB _ (R4 (by decide) _ _),Sa (by decide) _ _ hV,hv,Nat.mul_comm (2^n)] at p1
  rw [hv,Nat.mul_comm (2^n)]
  generalize pd (2^64) (n/64+(Ai l).length+1) (nv (2^64) l*2^n)=out at *
  show (bif Ag.pre (Wd out,()) then some (Ag.F (Wd out,())) else none)=_
  rw [CX p1,CV p1]
  rfl
theorem aKF (ls:List (List Nat)) (hls:∀ l∈ls,l.length<=1000000) (hn:ls.length<=1000000) (i:Nat) (hi:i<=ls.length) (hz:∀ l∈ls.take i,(Ai l).length<=1024) :
  g9 (((ls.length:Int),(ls.map Wd,((i:Int),()))),())=some (if (∀ l∈ls,(Ai l).length<=1024) then .inl ((),()) else .inr ((true,()),())):=by
 have key:=Dm (aGI Ag.pre Ag.F) (fun x=>ls.length-x.1.2.2.1.toNat)
  (fun x=>∃ i:Nat,i<=ls.length/\(∀ l∈ls.take i,(Ai l).length<=1024)/\x=(((ls.length:Int),(ls.map Wd,((i:Int),()))),()))
  (fun _=>if (∀ l∈ls,(Ai l).length<=1024) then .inl ((),()) else .inr ((true,()),())) ?_ _ ⟨i,hi,hz,rfl⟩
 ·exact key
 intro L x hx hL
 obtain ⟨i,hi,hz,rfl⟩:=hx
 unfold TQ
 rcases Nat.lt_or_ge i ls.length with hlt | hge
 ·have eg:(ls.map Wd).getD i []=Wd (ls[i]):=by
   rw [List.getD_eq_getElem?_getD,List.getElem?_map,List.getElem?_eq_getElem hlt]; rfl
  have hil:ls[i]∈ls:=List.getElem_mem hlt
  have p0:=Ef ls[i] (hls _ hil)
  simp (disch:=omega) only [B8,BM,B0,BC,Bn,BX,BP,BQ,B4,BZ,Ca,Cc,Cb,BW,B5,BU,B7,BJ,AW,By,AU,Bg,BH,Int.toNat_natCast,Int.toNat_zero,cond_true,cond_false,Bool.and_self,Bool.true_and,Bool.and_true,Bool.false_and,Bool.and_false,Bool.not_true,Bool.not_false,Bool.or_self,Bool.true_or,Bool.or_true,Bool.false_or,Bool.or_false,List.length_map,eg,CX p0,CV p0,AA]
  rcases Nat.lt_or_ge 1024 (Ai ls[i]).length with hg | hg
  ·have e:decide (((Ai ls[i]).length:Int)>1024)=true:=decide_eq_true (by omega)
   have hnot:¬ ∀ l∈ls,(Ai l).length<=1024:=fun hh=>by have:=hh _ hil; omega
   rw [e,cond_true,if_neg hnot]
  ·have e:decide (((Ai ls[i]).length:Int)>1024)=false:=decide_eq_false (by omega)
   rw [e,cond_false]
   refine hL _ ⟨i+1,by omega,?_,rfl⟩ (by simp only [Int.toNat_natCast]; omega)
   intro l hl
   rw [List.take_succ,List.getElem?_eq_getElem hlt] at hl
   rcases List.mem_append.1 hl with hl | hl
   ·exact hz l hl
   ·have:l=ls[i]:=by simpa using hl
    rw [this]; exact hg
 ·have e:i=ls.length:=by omega
  subst e
  rw [List.take_length] at hz
  simp (disch:=omega) only [B8,BM,B0,BC,Bn,BX,BP,BQ,B4,BZ,Ca,Cc,Cb,BW,B5,BU,B7,BJ,AW,By,AU,Bg,BH,Int.toNat_natCast,Int.toNat_zero,cond_true,cond_false,Bool.and_self,Bool.true_and,Bool.and_true,Bool.false_and,Bool.and_false,Bool.not_true,Bool.not_false,Bool.or_self,Bool.true_or,Bool.or_true,Bool.false_or,Bool.or_false,if_pos hz]
theorem wT (ls:List (List Nat)) (hls:∀ l∈ls,l.length<=1000000) (hn:ls.length<=1000000) :
  JG (ls.map Wd,())=some (!decide (∀ l∈ls,(Ai l).length<=1024),()):=by
 show mK Ag.pre Ag.F g9 (ls.map Wd)=_
 unfold mK
 have hw:=aKF ls hls hn 0 (Nat.zero_le _) (fun l hl=>by simp at hl)
 rw [show ((0:Nat):Int)=0 from rfl] at hw
 rw [List.length_map,hw]
 by_cases h:∀ l∈ls,(Ai l).length<=1024
 ·rw [if_pos h,decide_eq_true h]; rfl
 ·rw [if_neg h,decide_eq_false h]; rfl
theorem aG7 (l:List Nat) (hl:l.length<=1000000):JG ((Wd l::[]),())=some (!decide ((Ai l).length<=1024),()):=by
 have:=wT [l] (by simp; exact hl) (by simp)
 rw [show [l].map Wd=Wd l::[] from rfl] at this
 rw [this]
 simp
theorem aBb (l:List Nat) (hl:Ws l) (n:Nat) (hn:n<=65536) (hv:nv (2^64) l*2^n<(2^64)^1024):Sz (Wd l,(n:Int),())=some (Dw (nv (2^64) l*2^n),0,()):=by
 show dT DB.pre DB.F D6.pre D6.F (Wd l) n=_
 unfold dT
 have p0:=aG7 l hl.2
 have hB:2<=2^64:=by decide
 have h1:=C0 hB 1024 _ hv
 have h0:(Ai l).length<=1024:=by
  rw [G0 hB _ hl.1]
  apply C0 hB
  exact Nat.lt_of_le_of_lt (Nat.le_mul_of_pos_right _ (Nat.two_pow_pos _)) hv
 have p1:=nU l hl n (by omega)
 have p2:=aG7 (dg (2^64) (nv (2^64) l*2^n)) (by omega)
 rw [Na hB] at p2
 rw [decide_eq_true h0] at p0
 rw [decide_eq_true h1] at p2
 have e2:decide ((n:Int)>65536)=false:=decide_eq_false (by omega)
 simp only [uD,e2,Bool.or_self,cond_false,Wz p0,ZA p0,cond_true,Bool.not_true,mS p1,oZ p1]
 unfold Dw
 simp only [Wz p2,ZA p2,cond_true,Bool.not_true,cond_false]
end VL
namespace VL
open Go Vx
theorem Ew (B:Nat) (l:List Nat) (i:Nat):nv B (l.take (i+1))=nv B (l.take i)+B^i*l.getD i 0:=by
 rcases Nat.lt_or_ge i l.length with h | h
 ·exact Zc B l i h
 ·rw [List.take_of_length_le (by omega),List.take_of_length_le h,List.getD_eq_getElem?_getD,List.getElem?_eq_none h]
  simp
def Cj (a b:List Nat) (i:Nat):Nat:=nv (2^64) (a.take i)+nv (2^64) (b.take i)
def DN (a b:List Nat) (i:Nat):List Nat:=pd (2^64) i (Cj a b i%(2^64)^i)++(a++[0]).drop i
theorem ZL {l:List Nat} (h:∀ x∈l,x<2^64) (i:Nat):nv (2^64) (l.take i)<(2^64)^i:=by
 have:=DU (B:=2^64) (by decide) (l.take i) fun x hx=>h x (List.mem_of_mem_take hx)
 refine Nat.lt_of_lt_of_le this (Nat.pow_le_pow_right (by decide) ?_)
 rw [List.length_take]
 exact Nat.min_le_left _ _
theorem aBC {a b:List Nat} (ha:∀ x∈a,x<2^64) (hb:∀ x∈b,x<2^64) (i:Nat):Cj a b i/(2^64)^i<=1:=by
 have h1:=ZL ha i
 have h2:=ZL hb i
 have hp:0<(2^64)^i:=Nat.pow_pos (by decide)
 unfold Cj
 have:(nv (2^64) (a.take i)+nv (2^64) (b.take i))/(2^64)^i<2:=by
  rw [Nat.div_lt_iff_lt_mul hp]; omega
 omega
theorem aAL (a b:List Nat) (i:Nat):Cj a b (i+1)=Cj a b i%(2^64)^i+(2^64)^i*(a.getD i 0+b.getD i 0+Cj a b i/(2^64)^i):=by
 have hdm:=Nat.div_add_mod (Cj a b i) ((2^64)^i)
 have h1:Cj a b (i+1)=Cj a b i+(2^64)^i*(a.getD i 0+b.getD i 0):=by
  unfold Cj
  rw [Ew,Ew,Nat.mul_add]
  omega
 rw [h1,Nat.mul_add ((2^64)^i) (a.getD i 0+b.getD i 0)]
 omega
theorem aNr (a b:List Nat) (i:Nat):Cj a b (i+1)/(2^64)^(i+1)=(a.getD i 0+b.getD i 0+Cj a b i/(2^64)^i)/2^64:=by
 have hp:0<(2^64)^i:=Nat.pow_pos (by decide)
 rw [aAL,Nat.pow_succ (2^64) i,← Nat.div_div_eq_div_mul,Nat.add_mul_div_left _ _ hp,Nat.div_eq_of_lt (Nat.mod_lt _ hp),Nat.zero_add]
theorem aUQ (a b:List Nat) (i:Nat):Cj a b (i+1)%(2^64)^(i+1)=Cj a b i%(2^64)^i+(2^64)^i*((a.getD i 0+b.getD i 0+Cj a b i/(2^64)^i)%2^64):=by
 have hp:0<(2^64)^i:=Nat.pow_pos (by decide)
 rw [aAL a b i,Nat.pow_succ (2^64) i,Nat.mod_mul,Nat.add_mul_mod_self_left,Nat.mod_mod,Nat.add_mul_div_left _ _ hp,Nat.div_eq_of_lt (Nat.mod_lt _ hp),Nat.zero_add]
theorem aFV {k r v:Nat} (hr:r<(2^64)^k) (hv:v<2^64):pd (2^64) k r++[v]=pd (2^64) (k+1) (r+(2^64)^k*v):=by
 refine fC (by decide) ?_ (by simp [E6]) ?_
 ·intro x hx
  rcases List.mem_append.1 hx with hx | hx
  ·exact R4 (by decide) _ _ x hx
  ·have:x=v:=by simpa using hx
   rw [this]; exact hv
 ·rw [S7,E6,Sa (by decide) _ _ hr]
  simp [nv]
theorem aKc (a b:List Nat) (i:Nat) (hi:i<a.length):(DN a b i).set i ((a.getD i 0+b.getD i 0+Cj a b i/(2^64)^i)%2^64)=DN a b (i+1):=by
 have hp:0<(2^64)^i:=Nat.pow_pos (by decide)
 unfold DN
 rw [aUQ,← aFV (Nat.mod_lt _ hp) (Nat.mod_lt _ (by decide)),List.set_append_right _ _ (by rw [E6]; exact Nat.le_refl _),E6,Nat.sub_self,
  List.drop_eq_getElem_cons (l:=a++[0]) (i:=i) (by simp; omega),List.set_cons_zero,List.append_assoc]
 rfl
theorem aHu (a b:List Nat) (i:Nat) (hi:i<=a.length):(DN a b i).length=a.length+1:=by
 unfold DN; rw [List.length_append,E6]; simp; omega
theorem aS8 (a b:List Nat) (ha:∀ x∈a,x<2^64) (hb:∀ x∈b,x<2^64) (hlen:a.length<=1000000) (i:Nat) (hi:i<=a.length) :
  ZP (((a.length:Int),(Wd b,((i:Int),(Wd a,(((Cj a b i/(2^64)^i:Nat):Int),((),())))))),(Wd (DN a b i),()))=some (.inl ((Wd a,(((Cj a b a.length/(2^64)^a.length:Nat):Int),((),()))),(Wd (DN a b a.length),()))):=by
 have key:=Dm (aDI Ay.pre Ay.F Ag.pre Ag.F) (fun x=>a.length-x.1.2.2.1.toNat)
  (fun x=>∃ i:Nat,i<=a.length/\x=(((a.length:Int),(Wd b,((i:Int),(Wd a,(((Cj a b i/(2^64)^i:Nat):Int),((),())))))),(Wd (DN a b i),())))
  (fun _=>.inl ((Wd a,(((Cj a b a.length/(2^64)^a.length:Nat):Int),((),()))),(Wd (DN a b a.length),()))) ?_ _ ⟨i,hi,rfl⟩
 ·exact key
 intro L x hx hL
 obtain ⟨i,hi,rfl⟩:=hx
 unfold Un
 rcases Nat.lt_or_ge i a.length with hlt | hge
 ·have hc:=aBC ha hb i
  have hol:=aHu a b i hi
  have hset:=aKc a b i hlt
  have hgo:=hL (((a.length:Int),(Wd b,(((i+1:Nat):Int),(Wd a,(((Cj a b (i+1)/(2^64)^(i+1):Nat):Int),((),())))))),(Wd (DN a b (i+1)),())) ⟨i+1,by omega,rfl⟩ (by simp only [Int.toNat_natCast]; omega)
  rw [aNr,← hset] at hgo
  have hF:∀ x y c:Nat,Ay.F ((x:Int),((y:Int),((c:Int),())))=(((((x+y+c)%2^64:Nat):Int)),((((x+y+c)/2^64:Nat):Int)),()):=fun x y c=>rfl
  have hP:∀ (x y:Int) (c:Nat),c<=1->Ay.pre (x,(y,((c:Int),())))=true:=fun x y c h=>by
   show (decide ((0:Int)<=(c:Int))&&decide ((c:Int)<=1))=true
   rw [decide_eq_true (by omega),decide_eq_true (by omega)]; rfl
  generalize Cj a b i/(2^64)^i=c at *
  generalize DN a b i=out at *
  rcases Nat.lt_or_ge i b.length with hbl | hbl
  ·simp (disch:=omega) only [B8,BM,B0,BC,Bn,BX,BP,BQ,B4,BZ,Ca,Cc,Cb,BW,B5,BU,B7,BJ,AW,By,AU,Bg,BH,Int.toNat_natCast,Int.toNat_zero,cond_true,cond_false,Bool.and_self,Bool.true_and,Bool.and_true,Bool.false_and,Bool.and_false,Bool.not_true,Bool.not_false,Bool.or_self,Bool.true_or,Bool.or_true,Bool.false_or,Bool.or_false,AA,B9,hP _ _ c hc,hF,Ee]
   exact hgo
  ·have hbz:b.getD i 0=0:=by rw [List.getD_eq_getElem?_getD,List.getElem?_eq_none hbl]; rfl
   have hF0:Ay.F (((a.getD i 0:Nat):Int),((0:Int),((c:Int),())))=((((a.getD i 0+b.getD i 0+c)%2^64:Nat):Int),(((a.getD i 0+b.getD i 0+c)/2^64:Nat):Int),()):=by rw [hbz]; rfl
   simp (disch:=omega) only [B8,BM,B0,BC,Bn,BX,BP,BQ,B4,BZ,Ca,Cc,Cb,BW,B5,BU,B7,BJ,AW,By,AU,Bg,BH,Int.toNat_natCast,Int.toNat_zero,cond_true,cond_false,Bool.and_self,Bool.true_and,Bool.and_true,Bool.false_and,Bool.and_false,Bool.not_true,Bool.not_false,Bool.or_self,Bool.true_or,Bool.or_true,Bool.false_or,Bool.or_false,AA,B9,hP _ _ c hc,hF0,Ee]
   exact hgo
 ·have e:i=a.length:=by omega
  subst e
  simp (disch:=omega) only [B8,BM,B0,BC,Bn,BX,BP,BQ,B4,BZ,Ca,Cc,Cb,BW,B5,BU,B7,BJ,AW,By,AU,Bg,BH,Int.toNat_natCast,Int.toNat_zero,cond_true,cond_false,Bool.and_self,Bool.true_and,Bool.and_true,Bool.false_and,Bool.and_false,Bool.not_true,Bool.not_false,Bool.or_self,Bool.true_or,Bool.or_true,Bool.false_or,Bool.or_false]
theorem aO0 (a b:List Nat) (ha:∀ x∈a,x<2^64) (hb:∀ x∈b,x<2^64) (hab:b.length<=a.length) :
  (DN a b a.length).set a.length (Cj a b a.length/(2^64)^a.length)=pd (2^64) (a.length+1) (nv (2^64) a+nv (2^64) b)/\nv (2^64) a+nv (2^64) b<(2^64)^(a.length+1):=by
 have hp:0<(2^64)^a.length:=Nat.pow_pos (by decide)
 have hc:=aBC ha hb a.length
 have hs:Cj a b a.length=nv (2^64) a+nv (2^64) b:=by
  unfold Cj; rw [List.take_length,List.take_of_length_le hab]
 have hdm:=Nat.div_add_mod (Cj a b a.length) ((2^64)^a.length)
 refine ⟨?_,?_⟩
 ·have hd:(a++[0]).drop a.length=[0]:=by simp
  unfold DN
  rw [hd,List.set_append_right _ _ (by rw [E6]; exact Nat.le_refl _),E6,Nat.sub_self,List.set_cons_zero,aFV (Nat.mod_lt _ hp) (by omega),Nat.add_comm (Cj a b a.length%(2^64)^a.length),hdm,hs]
 ·rw [← hs]
  have h1:=ZL ha a.length
  have h2:=ZL hb a.length
  unfold Cj
  rw [Nat.pow_succ (2^64) a.length]
  omega
theorem aLG {a:List Nat}:List.take (List.replicate (a.length+1) (0:Int)).length (Wd a)++List.drop a.length (List.replicate (a.length+1) (0:Int))=Wd (DN a ([]:List Nat) 0):=by
 rw [List.length_replicate,List.drop_replicate,Nat.add_sub_cancel_left,List.take_of_length_le (by rw [AA]; omega)]
 unfold DN
 simp [Wd,pd]
theorem aTV (a b c:List Nat):DN a b 0=DN a c 0:=by unfold DN; simp [pd]
theorem aDv (a b:List Nat) (ha:∀ x∈a,x<2^64) (hb:∀ x∈b,x<2^64) (hlen:a.length+1<=1000000) (hab:b.length<=a.length) :
  (bif decide (0<=IntKind.wrap .i64 ((a.length:Int)+1))&&decide (IntKind.wrap .i64 ((a.length:Int)+1)*8<=140737488355328) then
   A3 (ZP (((a.length:Int),(Wd b,((0:Int),(Wd a,((0:Int),((),())))))),(List.take (List.replicate (Int.toNat (IntKind.wrap .i64 ((a.length:Int)+1))) (0:Int)).length (Wd a)++List.drop a.length (List.replicate (Int.toNat (IntKind.wrap .i64 ((a.length:Int)+1))) (0:Int)),()))) fun y4 =>
    A6 y4 (fun y5=>bif decide (0<=((y5.1.1.length:Nat):Int))&&decide (((y5.1.1.length:Nat):Int)<((y5.2.1.length:Nat):Int)) then
     (bif Ag.pre ((y5.2.1.set (Int.toNat ((y5.1.1.length:Nat):Int)) y5.1.2.1),()) then some (Ag.F ((y5.2.1.set (Int.toNat ((y5.1.1.length:Nat):Int)) y5.1.2.1),())) else none) else none) fun _=>none
  else none:Option (DenS Gm))=some (Dw (nv (2^64) a+nv (2^64) b),()):=by
 have hw:=aS8 a b ha hb (by omega) 0 (Nat.zero_le _)
 have h0:Cj a b 0/(2^64)^0=0:=by unfold Cj; simp [nv]
 rw [h0,show ((0:Nat):Int)=0 from rfl,aTV a b [],← aLG] at hw
 have e3:decide (((a.length+1:Nat):Int)*8<=140737488355328)=true:=decide_eq_true (by omega)
 rw [BM _ (by omega),e3,AW,Int.toNat_natCast,hw]
 obtain ⟨g1,g2⟩:=aO0 a b ha hb hab
 have hol:=aHu a b a.length (Nat.le_refl _)
 have p1:=Ef (pd (2^64) (a.length+1) (nv (2^64) a+nv (2^64) b)) (by rw [E6]; exact hlen)
 rw [G0 (by decide) _ (R4 (by decide) _ _),Sa (by decide) _ _ g2,← g1,← Ee] at p1
 generalize Cj a b a.length/(2^64)^a.length=c at *
 generalize DN a b a.length=out at *
 show (bif decide (0<=(((Wd a).length:Nat):Int))&&decide ((((Wd a).length:Nat):Int)<(((Wd out).length:Nat):Int)) then
     (bif Ag.pre ((Wd out).set (Wd a).length (c:Int),()) then some (Ag.F ((Wd out).set (Wd a).length (c:Int),())) else none) else none)=_
 simp (disch:=omega) only [B8,BM,B0,BC,Bn,BX,BP,BQ,B4,BZ,Ca,Cc,Cb,BW,B5,BU,B7,BJ,AW,By,AU,Bg,BH,Int.toNat_natCast,Int.toNat_zero,cond_true,cond_false,Bool.and_self,Bool.true_and,Bool.and_true,Bool.false_and,Bool.and_false,Bool.not_true,Bool.not_false,Bool.or_self,Bool.true_or,Bool.or_true,Bool.false_or,Bool.or_false,AA,CX p1,CV p1]
 rfl
theorem aDH (l m:List Nat) (hl:Ws l) (hm:Ws m) (hl2:(Ai l).length<1000000) (hm2:(Ai m).length<1000000):RV (Wd l,Wd m,())=some (Dw (nv (2^64) l+nv (2^64) m),()):=by
 show eA Ay.pre Ay.F Ag.pre Ag.F ZP (Wd l) (Wd m)=_
 unfold eA
 have p0:=Ef l hl.2
 have p1:=Ef m hm.2
 have h1:∀ x∈Ai l,x<2^64:=fun x hx=>hl.1 x (R2 hx)
 have h2:∀ x∈Ai m,x<2^64:=fun x hx=>hm.1 x (R2 hx)
 simp only [CX p0,CV p0,CX p1,CV p1,cond_true]
 rcases Nat.lt_or_ge (Ai l).length (Ai m).length with h | h
 ·rw [AA,AA,BP _ _ h,cond_true]
  have:=aDv (Ai m) (Ai l) h2 h1 hm2 (by omega)
  rw [I5 (by decide) hl.1,I5 (by decide) hm.1,Nat.add_comm] at this
  exact this
 ·rw [AA,AA,BQ _ _ h,cond_false]
  have:=aDv (Ai l) (Ai m) h1 h2 hl2 (by omega)
  rw [I5 (by decide) hl.1,I5 (by decide) hm.1] at this
  exact this
theorem aPt (l:List Nat) (hl:Ws l):YJ (Wd l,())=some (Dw (nv (2^64) l),()):=by
 show lJ Ag.pre Ag.F (Wd l)=_
 unfold lJ
 have p0:=Ef l hl.2
 have hle:=(D7 l).1
 have h2:=hl.2
 have e3:decide ((((Ai l).length:Nat):Int)*8<=140737488355328)=true:=decide_eq_true (by omega)
 simp (disch:=omega) only [B8,BM,B0,BC,Bn,BX,BP,BQ,B4,BZ,Ca,Cc,Cb,BW,B5,BU,B7,BJ,AW,By,AU,Bg,BH,Int.toNat_natCast,Int.toNat_zero,cond_true,cond_false,Bool.and_self,Bool.true_and,Bool.and_true,Bool.false_and,Bool.and_false,Bool.not_true,Bool.not_false,Bool.or_self,Bool.true_or,Bool.or_true,Bool.false_or,Bool.or_false,CX p0,CV p0,AA,e3,List.length_replicate,List.drop_replicate,Nat.sub_self]
 rw [List.take_of_length_le (by rw [AA]; exact Nat.le_refl _),List.replicate_zero,List.append_nil,G0 (by decide) l hl.1]
 rfl
theorem Xh (l:List Nat) (hl:Ws l):SZ (Wd l,())=some (Dw (nv (2^64) l),()):=by
 show jD CR.pre CR.F (Wd l)=_
 unfold jD
 have p0:=aPt l hl
 simp only [aPd p0,aLd p0,cond_true]
end VL
namespace VL
open Go Vx
def Wi (n:Nat):Aa (.pair (.int .u64) (.pair (.int .u64) .unit)):=(((n/2^64:Nat):Int),(((n%2^64:Nat):Int),()))
theorem aBi (k:Nat) (h:0<k):decide ((k:Int)<=0)=false:=decide_eq_false (by omega)
theorem aK9 {A q R P:Nat} (g1:A%2^64=R) (g2:q<P) (g4:R+P<=2^64):(A+q)%2^64=q+R:=by omega
theorem aKv {X Y r:Nat} (h:X%2^64=Y) (hr:r<2^64):(2^64*X+r)%2^128=2^64*Y+r:=by omega
theorem aNZ {X h q R P:Nat} (e:X=2^64*h+R+q) (g2:q<P) (g4:R+P<=2^64):X/2^64=h/\X%2^64=q+R:=by omega
theorem rS (n k:Nat) (hn:n<2^128):O1 (Wi n,(k:Int),())=some (Wi (n*2^k%2^128),()):=by
 show Z2 (Wi n) k=_
 unfold Z2
 rcases Nat.eq_zero_or_pos k with rfl | hk
 ·have e:n*2^0%2^128=n:=by rw [Nat.pow_zero,Nat.mul_one,Nat.mod_eq_of_lt hn]
  rw [e]; rfl
 rw [aBi k hk,cond_false]
 rcases Nat.lt_or_ge k 128 with h128 | h128
 ·rw [show decide ((k:Int)>=128)=false from decide_eq_false (by omega),cond_false]
  have hlo:(n%2^64)<2^64:=Nat.mod_lt _ (by decide)
  have hhi:n/2^64<2^64:=by omega
  have hsplit:n=2^64*(n/2^64)+n%2^64:=(Nat.div_add_mod n (2^64)).symm
  rcases Nat.lt_or_ge k 64 with h64 | h64
  ·have e8:IntKind.wrap .i64 (64-(k:Int))=((64-k:Nat):Int):=Eu 64 k (by omega) (by omega)
   rw [show decide ((k:Int)>=64)=false from decide_eq_false (by omega),cond_false,AW,cond_true,e8,AW,cond_true,cond_true]
   show some ((AX .u64 (AT .u64 ((n/2^64:Nat):Int) k) (AJ .u64 ((n%2^64:Nat):Int) ((64-k:Nat):Int)),(AT .u64 ((n%2^64:Nat):Int) k,())),())=_
   rw [El _ k (by omega),El _ k (by omega),DD _ (64-k) (by omega)]
   have hp:=Nat.two_pow_pos k
   have hp2:=Nat.two_pow_pos (64-k)
   have h2:2^64=2^(64-k)*2^k:=by rw [← Nat.pow_add]; congr 1; omega
   generalize n/2^64=hi at *
   generalize n%2^64=lo at *
   have g1:hi*2^k%2^64=(hi%2^(64-k))*2^k:=by rw [h2,Nat.mul_mod_mul_right]
   have g2:lo/2^(64-k)<2^k:=by rw [Nat.div_lt_iff_lt_mul hp2,Nat.mul_comm,← h2]; exact hlo
   have g3:hi%2^(64-k)+1<=2^(64-k):=Nat.mod_lt _ hp2
   have g4:=Nat.mul_le_mul_right (2^k) g3
   rw [← h2,Nat.add_mul,Nat.one_mul] at g4
   have hor:AX .u64 ((hi*2^k%2^64:Nat):Int) ((lo/2^(64-k):Nat):Int)=((lo/2^(64-k)+(hi%2^(64-k))*2^k:Nat):Int):=by
    have:=Fc g2 (b:=hi%2^(64-k)) (by omega)
    rw [g1]
    have hc:∀ a b:Nat,a<2^64->b<2^64->AX .u64 (a:Int) (b:Int)=AX .u64 (b:Int) (a:Int):=fun a b ha hb=>by
     rw [Th ha hb,Th hb ha,Nat.or_comm]
    rw [hc _ _ (by omega) (by omega)]
    exact this
   rw [hor]
   have hdm:=Nat.div_add_mod lo (2^(64-k))
   have v1:n*2^k=2^64*(hi*2^k+lo/2^(64-k))+lo*2^k%2^64:=by
    have g5:lo*2^k%2^64=(lo%2^(64-k))*2^k:=by rw [h2,Nat.mul_mod_mul_right]
    have g6:2^64*(lo/2^(64-k))=2^(64-k)*(lo/2^(64-k))*2^k:=by
     rw [Nat.mul_right_comm,← h2]
    rw [hsplit,Nat.add_mul,Nat.mul_add,Nat.mul_assoc,Nat.add_assoc,g6,g5,← Nat.add_mul,hdm]
   have v2:n*2^k%2^128=2^64*(lo/2^(64-k)+(hi%2^(64-k))*2^k)+lo*2^k%2^64:=by
    rw [v1]
    have hlo2:lo*2^k%2^64<2^64:=Nat.mod_lt _ (by decide)
    exact aKv (aK9 g1 g2 g4) hlo2
   have hlo2:lo*2^k%2^64<2^64:=Nat.mod_lt _ (by decide)
   have e1:n*2^k%2^128/2^64=lo/2^(64-k)+(hi%2^(64-k))*2^k:=by rw [v2]; omega
   have e2:n*2^k%2^128%2^64=lo*2^k%2^64:=by rw [v2]; omega
   unfold Wi
   rw [e1,e2]
  ·have e8:IntKind.wrap .i64 ((k:Int)-64)=((k-64:Nat):Int):=Eu k 64 (by omega) (by omega)
   rw [show decide ((k:Int)>=64)=true from decide_eq_true (by omega),cond_true,e8,AW,cond_true]
   show some ((AT .u64 ((n%2^64:Nat):Int) ((k-64:Nat):Int),((0:Int),())),())=_
   rw [El _ (k-64) (by omega)]
   have v1:n*2^k%2^128=2^64*(n%2^64*2^(k-64)%2^64):=by
    have h2:2^k=2^(k-64)*2^64:=by rw [← Nat.pow_add]; congr 1; omega
    rw [h2,← Nat.mul_assoc,show 2^128=2^64*2^64 by decide,Nat.mul_mod_mul_right,Nat.mul_comm _ (2^64),Nat.mul_mod n (2^(k-64)),Nat.mul_mod (n%2^64) (2^(k-64)),Nat.mod_mod]
   have e1:n*2^k%2^128/2^64=n%2^64*2^(k-64)%2^64:=by rw [v1]; omega
   have e2:n*2^k%2^128%2^64=0:=by rw [v1]; omega
   unfold Wi
   rw [e1,e2]
   rfl
 ·rw [show decide ((k:Int)>=128)=true from decide_eq_true (by omega),cond_true]
  have e:n*2^k%2^128=0:=by
   rw [show k=(k-128)+128 by omega,Nat.pow_add,← Nat.mul_assoc]
   exact Nat.mul_mod_left _ _
  rw [e]
  rfl
theorem aK4 (n k:Nat) (hn:n<2^128):Ur (Wi n,(k:Int),())=some (Wi (n/2^k),()):=by
 show aS (Wi n) k=_
 unfold aS
 rcases Nat.eq_zero_or_pos k with rfl | hk
 ·have e:n/2^0=n:=by rw [Nat.pow_zero,Nat.div_one]
  rw [e]; rfl
 rw [aBi k hk,cond_false]
 rcases Nat.lt_or_ge k 128 with h128 | h128
 ·rw [show decide ((k:Int)>=128)=false from decide_eq_false (by omega),cond_false]
  have hlo:(n%2^64)<2^64:=Nat.mod_lt _ (by decide)
  have hhi:n/2^64<2^64:=by omega
  rcases Nat.lt_or_ge k 64 with h64 | h64
  ·have e8:IntKind.wrap .i64 (64-(k:Int))=((64-k:Nat):Int):=Eu 64 k (by omega) (by omega)
   rw [show decide ((k:Int)>=64)=false from decide_eq_false (by omega),cond_false,AW,cond_true,e8,AW,cond_true,cond_true]
   show some ((AJ .u64 ((n/2^64:Nat):Int) k,(AX .u64 (AJ .u64 ((n%2^64:Nat):Int) k) (AT .u64 ((n/2^64:Nat):Int) ((64-k:Nat):Int)),())),())=_
   rw [El _ (64-k) (by omega),DD _ k (by omega),DD _ k (by omega)]
   have hp:=Nat.two_pow_pos k
   have hp2:=Nat.two_pow_pos (64-k)
   have h2:2^64=2^k*2^(64-k):=by rw [← Nat.pow_add]; congr 1; omega
   have hsplit:n=2^64*(n/2^64)+n%2^64:=(Nat.div_add_mod n (2^64)).symm
   generalize n/2^64=hi at *
   generalize n%2^64=lo at *
   have g1:hi*2^(64-k)%2^64=(hi%2^k)*2^(64-k):=by rw [h2,Nat.mul_mod_mul_right]
   have g2:lo/2^k<2^(64-k):=by rw [Nat.div_lt_iff_lt_mul hp,Nat.mul_comm,← h2]; exact hlo
   have g3:hi%2^k+1<=2^k:=Nat.mod_lt _ hp
   have g4:=Nat.mul_le_mul_right (2^(64-k)) g3
   rw [← h2,Nat.add_mul,Nat.one_mul] at g4
   rw [g1,Fc g2 (by omega)]
   have v1:n/2^k=hi*2^(64-k)+lo/2^k:=by
    have:n=lo+2^k*(hi*2^(64-k)):=by rw [hsplit,h2,Nat.mul_assoc,Nat.mul_comm hi]; omega
    rw [this,Nat.add_mul_div_left _ _ hp,Nat.add_comm]
   have hdm:=Nat.div_add_mod hi (2^k)
   have v2:hi*2^(64-k)=2^64*(hi/2^k)+(hi%2^k)*2^(64-k):=by
    rw [h2,Nat.mul_right_comm,← Nat.add_mul,hdm]
   rw [v2] at v1
   obtain ⟨e1,e2⟩:=aNZ v1 g2 g4
   unfold Wi
   rw [e1,e2]
  ·have e8:IntKind.wrap .i64 ((k:Int)-64)=((k-64:Nat):Int):=Eu k 64 (by omega) (by omega)
   rw [show decide ((k:Int)>=64)=true from decide_eq_true (by omega),cond_true,e8,AW,cond_true]
   show some (((0:Int),(AJ .u64 ((n/2^64:Nat):Int) ((k-64:Nat):Int),())),())=_
   rw [DD _ (k-64) (by omega)]
   have v1:n/2^k=n/2^64/2^(k-64):=by
    rw [Nat.div_div_eq_div_mul,← Nat.pow_add]; congr 2; omega
   have hs:n/2^k<2^64:=by
    rw [v1]; exact Nat.lt_of_le_of_lt (Nat.div_le_self _ _) hhi
   have e1:n/2^k/2^64=0:=Nat.div_eq_of_lt hs
   have e2:n/2^k%2^64=n/2^64/2^(k-64):=by rw [← v1]; exact Nat.mod_eq_of_lt hs
   unfold Wi
   rw [e1,e2]
   rfl
 ·rw [show decide ((k:Int)>=128)=true from decide_eq_true (by omega),cond_true]
  have e:n/2^k=0:=Nat.div_eq_of_lt (Nat.lt_of_lt_of_le hn (Nat.pow_le_pow_right (by decide) h128))
  rw [e]
  rfl
theorem QI (x y c:Nat):Ay.F ((x:Int),((y:Int),((c:Int),())))=(((((x+y+c)%2^64:Nat):Int)),((((x+y+c)/2^64:Nat):Int)),()):=rfl
theorem O9 (x y:Int) (c:Nat) (h:c<=1):Ay.pre (x,(y,((c:Int),())))=true:=by
 show (decide ((0:Int)<=(c:Int))&&decide ((c:Int)<=1))=true
 rw [decide_eq_true (by omega),decide_eq_true (by omega)]; rfl
theorem VZ (x y c:Nat) (h:c<=1) (hx:x<2^64) (hy:y<2^64):A8.F ((x:Int),((y:Int),((c:Int),())))=(((((x+2^64-y-c)%2^64:Nat):Int)),((if x<y+c then 1 else 0:Nat):Int),()):=by
 show ((((x:Int)-y-c)%18446744073709551616:Int),((if (x:Int)<y+c then 1 else 0:Int)),())=_
 have e1:((x:Int)-y-c)%18446744073709551616=((x+2^64-y-c)%2^64:Nat):=by omega
 rw [e1]
 by_cases h:x<y+c
 ·rw [if_pos h,if_pos (by omega)]; rfl
 ·rw [if_neg h,if_neg (by omega)]; rfl
theorem Xg (x y:Int) (c:Nat) (h:c<=1):A8.pre (x,(y,((c:Int),())))=true:=by
 show (decide ((0:Int)<=(c:Int))&&decide ((c:Int)<=1))=true
 rw [decide_eq_true (by omega),decide_eq_true (by omega)]; rfl
theorem aIL (n m:Nat) (h:n+m<2^128):XW (Wi n,Wi m,())=some (Wi (n+m),0,()):=by
 show bO Ay.pre Ay.F (Wi n) (Wi m)=_
 unfold bO
 have c1:(n%2^64+m%2^64+0)/2^64<=1:=by omega
 have p1:Ay.pre ((Wi n).2.1,((Wi m).2.1,((0:Int),())))=true:=O9 _ _ 0 (by decide)
 have q1:Ay.F ((Wi n).2.1,((Wi m).2.1,((0:Int),())))=_:=QI (n%2^64) (m%2^64) 0
 rw [p1,q1,cond_true]
 have p2:Ay.pre ((Wi n).1,((Wi m).1,((((n%2^64+m%2^64+0)/2^64:Nat):Int),())))=true:=O9 _ _ _ c1
 have q2:Ay.F ((Wi n).1,((Wi m).1,((((n%2^64+m%2^64+0)/2^64:Nat):Int),())))=_:=QI (n/2^64) (m/2^64) ((n%2^64+m%2^64+0)/2^64)
 dsimp only
 rw [p2,q2,cond_true]
 have e1:(n/2^64+m/2^64+(n%2^64+m%2^64+0)/2^64)%2^64=(n+m)/2^64:=by omega
 have e2:(n%2^64+m%2^64+0)%2^64=(n+m)%2^64:=by omega
 have e3:(n/2^64+m/2^64+(n%2^64+m%2^64+0)/2^64)/2^64=0:=by omega
 rw [e1,e2,e3]
 rfl
theorem nX (n m:Nat) (hn:n<2^128) (h:m<=n):ZY (Wi n,Wi m,())=some (Wi (n-m),0,()):=by
 show lO A8.pre A8.F (Wi n) (Wi m)=_
 unfold lO
 have p1:A8.pre ((Wi n).2.1,((Wi m).2.1,((0:Int),())))=true:=Xg _ _ 0 (by decide)
 have q1:A8.F ((Wi n).2.1,((Wi m).2.1,((0:Int),())))=_:=VZ (n%2^64) (m%2^64) 0 (by decide) (by omega) (by omega)
 rw [p1,q1,cond_true]
 have c1:(if n%2^64<m%2^64+0 then 1 else 0)<=1:=by split <;> omega
 have p2:A8.pre ((Wi n).1,((Wi m).1,(((if n%2^64<m%2^64+0 then 1 else 0:Nat):Int),())))=true:=Xg _ _ _ c1
 have q2:A8.F ((Wi n).1,((Wi m).1,(((if n%2^64<m%2^64+0 then 1 else 0:Nat):Int),())))=_:=VZ (n/2^64) (m/2^64) _ c1 (by omega) (by omega)
 dsimp only
 rw [p2,q2,cond_true]
 have e2:(n%2^64+2^64-m%2^64-0)%2^64=(n-m)%2^64:=by omega
 rw [e2]
 by_cases hb:n%2^64<m%2^64+0
 ·rw [if_pos hb,if_neg (by omega)]
  have e1:(n/2^64+2^64-m/2^64-1)%2^64=(n-m)/2^64:=by omega
  rw [e1]
  rfl
 ·rw [if_neg hb,if_neg (by omega)]
  have e1:(n/2^64+2^64-m/2^64-0)%2^64=(n-m)/2^64:=by omega
  rw [e1]
  rfl
theorem aE2 (n m:Nat):Yn (Wi n,Wi m,())=some (if n=m then 0 else if n<m then -1 else 1,()):=by
 show gR (Wi n) (Wi m)=_
 unfold gR
 show (bif (((n/2^64:Nat):Int)==((m/2^64:Nat):Int)&&((n%2^64:Nat):Int)==((m%2^64:Nat):Int)) then some ((0:Int),())
  else bif (decide (((n/2^64:Nat):Int)<((m/2^64:Nat):Int))||(((n/2^64:Nat):Int)==((m/2^64:Nat):Int)&&decide (((n%2^64:Nat):Int)<((m%2^64:Nat):Int)))) then some ((-1:Int),()) else some ((1:Int),()):Option (Int×Unit))=_
 rw [Hw,Hw,uW,uW]
 rcases Nat.lt_trichotomy n m with h | h | h
 ·have e1:(n/2^64==m/2^64&&n%2^64==m%2^64)=false:=by
   rw [Bool.and_eq_false_iff,beq_eq_false_iff_ne,beq_eq_false_iff_ne]; omega
  have e2:(decide (n/2^64<m/2^64)||(n/2^64==m/2^64&&decide (n%2^64<m%2^64)))=true:=by
   rw [Bool.or_eq_true,Bool.and_eq_true,decide_eq_true_eq,decide_eq_true_eq,beq_iff_eq]; omega
  rw [e1,e2,if_neg (by omega),if_pos h]; rfl
 ·subst h
  rw [if_pos rfl]
  simp
 ·have e1:(n/2^64==m/2^64&&n%2^64==m%2^64)=false:=by
   rw [Bool.and_eq_false_iff,beq_eq_false_iff_ne,beq_eq_false_iff_ne]; omega
  have e2:(decide (n/2^64<m/2^64)||(n/2^64==m/2^64&&decide (n%2^64<m%2^64)))=false:=by
   rw [Bool.or_eq_false_iff,Bool.and_eq_false_iff,decide_eq_false_iff_not,decide_eq_false_iff_not,beq_eq_false_iff_ne]; omega
  rw [e1,e2,if_neg (by omega),if_neg (by omega)]; rfl
end VL
namespace VL
open Go Vx
def Cw (m:Int) (neg odd:Bool) (rest:Nat):Bool :=
 if m=4 then neg else if m=3 then !neg else if m=0 then (if rest=2 then odd else decide (2<=rest)) else if m=1 then decide (2<=rest) else if m=5 then !odd else false
theorem H9 (a b:Int) (h:a≠b):(a==b)=false:=by simp [h]
theorem Td (m:Int) (neg odd:Bool) (rest:Nat):RH (m,neg,odd,(rest:Int),())=some (Cw m neg odd rest,()):=by
 show eQ m neg odd (rest:Int)=_
 have e2:decide ((rest:Int)>=2)=decide (2<=rest):=by rw [Bool.eq_iff_iff,decide_eq_true_eq,decide_eq_true_eq]; omega
 have e3:((rest:Int)==2)=decide (rest=2):=by rw [Bool.eq_iff_iff,decide_eq_true_eq,beq_iff_eq]; omega
 unfold eQ Cw
 rw [e2,e3]
 by_cases h4:m=4
 ·subst h4; cases neg <;> rfl
 rw [H9 m 4 h4,cond_false,if_neg h4]
 by_cases h3:m=3
 ·subst h3; rfl
 rw [H9 m 3 h3,cond_false,if_neg h3]
 by_cases h0:m=0
 ·subst h0
  by_cases hr:rest=2
  ·subst hr; rfl
  ·rw [decide_eq_false hr,if_pos rfl,if_neg hr]; rfl
 rw [H9 m 0 h0,cond_false,if_neg h0]
 by_cases h1:m=1
 ·subst h1; rfl
 rw [H9 m 1 h1,cond_false,if_neg h1]
 by_cases h5:m=5
 ·subst h5; rfl
 rw [H9 m 5 h5,cond_false,if_neg h5]
def DY (n:Nat) (e q:Int):Nat:=if q<=e then n*2^(e-q).toNat else n/2^(q-e).toNat
def Ct (r s:Nat):Nat:=if r=0 then 0 else if r<2^(s-1) then 1 else if r=2^(s-1) then 2 else 3
def H5 (n:Nat) (e q:Int):Nat:=if q<=e then 0 else Ct (n%2^(q-e).toNat) (q-e).toNat
def j4 (n:Nat) (e q:Int):Nat:=if 2<=q-e then LP n (q-e-2).toNat else n*2^(2-(q-e)).toNat
theorem aPj (n:Nat) (e q:Int):j4 n e q/4=DY n e q/\j4 n e q%4=H5 n e q:=by
 unfold j4 DY H5
 by_cases h2:2<=q-e
 ·rw [if_pos h2,if_neg (by omega),if_neg (by omega)]
  have es:(q-e).toNat=(q-e-2).toNat+2:=by omega
  rw [es]
  generalize (q-e-2).toNat=s
  have hp:=Nat.two_pow_pos s
  have e1:2^(s+2)=2^s*4:=by rw [Nat.pow_add]
  have e2:2^(s+2-1)=2^s*2:=by rw [show s+2-1=s+1 by omega,Nat.pow_succ]
  unfold LP Ct
  rw [e2,e1,← Nat.div_div_eq_div_mul,Nat.mod_mul]
  have hr:=Nat.mod_lt n hp
  generalize n%2^s=r at *
  generalize n/2^s=u at *
  have h4:u%4=0∨u%4=1∨u%4=2∨u%4=3:=by omega
  constructor
  ·split <;> omega
  ·rcases h4 with h | h | h | h <;> rw [h] <;> by_cases hz:r=0
   ·rw [if_pos hz,if_pos (by omega)]; exact h
   ·rw [if_neg hz,if_neg (by omega),if_pos (by omega)]; omega
   ·rw [if_pos hz,if_neg (by omega),if_pos (by omega)]; exact h
   ·rw [if_neg hz,if_neg (by omega),if_pos (by omega)]; omega
   ·rw [if_pos hz,if_neg (by omega),if_neg (by omega),if_pos (by omega)]; exact h
   ·rw [if_neg hz,if_neg (by omega),if_neg (by omega),if_neg (by omega)]; omega
   ·rw [if_pos hz,if_neg (by omega),if_neg (by omega),if_neg (by omega)]; exact h
   ·rw [if_neg hz,if_neg (by omega),if_neg (by omega),if_neg (by omega)]; omega
 ·rw [if_neg h2]
  by_cases h1:q<=e
  ·rw [if_pos h1,if_pos h1,show (2-(q-e)).toNat=(e-q).toNat+2 by omega,Nat.pow_add,← Nat.mul_assoc]
   generalize n*2^(e-q).toNat=x
   omega
  ·rw [if_neg h1,if_neg h1,show (2-(q-e)).toNat=1 by omega,show (q-e).toNat=1 by omega]
   unfold Ct
   rcases Nat.mod_two_eq_zero_or_one n with h | h
   ·rw [show n%2^1=0 from h,if_pos rfl]; omega
   ·rw [show n%2^1=1 from h,if_neg (by omega),if_neg (by decide),if_pos (by decide)]; omega
def CM (n:Nat) (e q:Int) (more:Bool):Nat:=if more then H5 n e q/2*2+1 else H5 n e q
def BE (m:Int) (neg:Bool) (n:Nat) (e q:Int) (more:Bool):Nat :=
 if CM n e q more≠0/\Cw m neg (decide (DY n e q%2=1)) (CM n e q more)=true then DY n e q+1 else DY n e q
theorem Dt:Dw 0=[]:=by unfold Dw; rw [Ev]; rfl
theorem Iy {n:Nat} (h:n≠0):0<(Dw n).length:=by
 unfold Dw; rw [AA,F7 (by decide) (by omega)]; simp
theorem Oo {n:Nat} (h:n≠0):decide ((((Dw n).length:Nat):Int)>0)=true:=decide_eq_true (by have:=Iy h; omega)
theorem Ss {n:Nat} (h:n≠0):decide ((0:Int)<(((Dw n).length:Nat):Int))=true:=decide_eq_true (by have:=Iy h; omega)
theorem LM (n:Nat):(Dw n).getD 0 0=((n%2^64:Nat):Int):=by
 unfold Dw; rw [B9]
 rcases Nat.eq_zero_or_pos n with rfl | h
 ·rw [Ev]; rfl
 ·rw [F7 (by decide) h]; rfl
theorem aQ5:Dw 1=(1:Int)::[]:=by
 unfold Dw; rw [F7 (by decide) (by decide),Ev]; rfl
theorem Rd (n:Nat):(decide ((0:Int)<(((Dw n).length:Nat):Int))||!decide ((((Dw n).length:Nat):Int)>0))=true:=by
 by_cases h:0<(Dw n).length
 ·rw [decide_eq_true (by omega)]; rfl
 ·rw [decide_eq_false (p:=(((Dw n).length:Nat):Int)>0) (by omega)]; simp
theorem mM (n:Nat):AQ .u64 ((n%2^64:Nat):Int) 3=((n%4:Nat):Int):=by
 have:=UY (m:=n%2^64) (n:=2) (Nat.mod_lt _ (by decide)) (by decide)
 rw [show n%2^64%2^2=n%4 by omega] at this
 exact this
theorem aSw (n:Nat):AQ .u64 ((n%2^64:Nat):Int) 1=((n%2:Nat):Int):=by
 have:=UY (m:=n%2^64) (n:=1) (Nat.mod_lt _ (by decide)) (by decide)
 rw [show n%2^64%2^1=n%2 by omega] at this
 exact this
theorem or1 (n:Nat) (h:n<2^64):AX .u64 (n:Int) 1=((n/2*2+1:Nat):Int):=by
 have:=Th (a:=n) (b:=1) h (by decide)
 rw [aDT] at this
 exact this
theorem aCF:AX .u64 0 1=1:=by decide
theorem TU (u:Nat):(decide ((((Dw u).length:Nat):Int)>0)&&(AQ .u64 ((Dw u).getD 0 0) 1==1))=decide (u%2=1):=by
 rw [LM,aSw]
 rcases Nat.eq_zero_or_pos u with rfl | h
 ·rw [Dt]; rfl
 ·rw [Oo (by omega),Bool.true_and,Bool.eq_iff_iff,decide_eq_true_eq,beq_iff_eq]; omega
theorem Dl {n:Nat} (h:n<(2^64)^5000):Ws (dg (2^64) n):=by
 have:=C0 (B:=2^64) (by decide) 5000 n h
 exact aEp n (by omega)
theorem Cd (n:Nat):nv (2^64) (dg (2^64) n)=n:=lV (by decide) n
theorem aBq {j:Nat} (hj:Ws (dg (2^64) j)):Nl (Dw j,(2:Int),())=some (Dw (j/4),0,()):=by
 have:=wV (dg (2^64) j) hj 2 (by decide)
 rw [Cd] at this
 exact this
theorem aAt {u:Nat} (hu:Ws (dg (2^64) u)) (hl:(dg (2^64) u).length<1000000):RV (Dw u,((1:Int)::[]),())=some (Dw (u+1),()):=by
 have:=aDH (dg (2^64) u) [1] hu ⟨by simp,by simp⟩ (by rw [Na (by decide)]; exact hl) (by simp [Ai])
 rw [Cd,show nv (2^64) [1]=1 by rfl] at this
 exact this
end VL
namespace VL
open Go Vx
theorem lN:decide ((0:Int)>0)=false:=rfl
theorem aMY (m:Int) (neg:Bool) (n:Nat) (e q:Int) (more:Bool) (hn:n<(2^64)^2000) (hq:q-e<=10000000) (he:-1000000000<=e/\e<=1000000000) (hqb:-1000000000<=q/\q<=1000000000)
  (hs:q-e<2->2-(q-e)<=65536/\n*2^(2-(q-e)).toNat<(2^64)^1024) :
  TK ((neg,Dw n,e,more,()),m,q,())=some (Dw (BE m neg n e q more),decide (CM n e q more≠0),()):=by
 show gX _ _ _ _ _ _ _ _ _ _ (neg,Dw n,e,more,()) m q=_
 unfold gX
 have hnw:Ws (dg (2^64) n):=Dl (Nat.lt_trans hn (Nat.pow_lt_pow_right (by decide) (by decide)))
 have e0:IntKind.wrap .i64 (q-e)=q-e:=As (by omega)
 have hj4:=aPj n e q
 dsimp only
 rw [e0]
 by_cases h2:2<=q-e
 ·rw [show decide (q-e>=2)=true from decide_eq_true h2,cond_true]
  obtain ⟨s,hs⟩:=Int.eq_ofNat_of_zero_le (show 0<=q-e-2 by omega)
  have e1:IntKind.wrap .i64 (q-e-2)=(s:Int):=by rw [As (by omega)]; exact hs
  have hj:j4 n e q=LP n s:=by unfold j4; rw [if_pos h2]; congr 1; omega
  rw [hj] at hj4
  have hjn:LP n s<=n+1:=by
   unfold LP
   have:=Nat.div_le_self n (2^s)
   split <;> omega
  have p0:=aUc (dg (2^64) n) hnw s (by omega)
  rw [Cd] at p0
  have hjl:LP n s<(2^64)^5000:=by
   have h1:(2^64)^2000<(2^64)^5000:=Nat.pow_lt_pow_right (by decide) (by decide)
   generalize (2^64)^2000=A at *
   generalize (2^64)^5000=B at *
   omega
  clear hj
  generalize LP n s=j at *
  have hj:Ws (dg (2^64) j):=Dl hjl
  rw [e1]
  have p0:TE (Dw n,(s:Int),())=some (Dw j,0,()):=p0
  have p1:=aBq hj
  have hu:Ws (dg (2^64) (j/4)):=Dl (Nat.lt_of_le_of_lt (Nat.div_le_self _ _) hjl)
  have hul:=C0 (B:=2^64) (by decide) 5000 (j/4) (Nat.lt_of_le_of_lt (Nat.div_le_self _ _) hjl)
  have p3:=aAt hu (by omega)
  have h4:j%4<4:=Nat.mod_lt _ (by decide)
  unfold BE CM
  rw [← hj4.1,← hj4.2]
  rcases Nat.eq_zero_or_pos j with hj0 | hj0
  ·subst hj0
   have pz:Nl ([],(2:Int),())=some (Dw (0/4),0,()):=by rw [← Dt]; exact p1
   cases more with
   | true =>
    have p2:RH (m,neg,decide (0/4%2=1),(1:Int),())=some (Cw m neg (decide (0/4%2=1)) 1,()):=Td m neg _ 1
    simp only [cS p0,lQ p0,cond_true,Dt,List.length_nil,BJ,Int.natCast_zero,cond_false,Int.toNat_zero,lN,aCF,Kv pz,KG pz,Rd,TU,TR p2,TO p2,Bool.true_or,Bool.or_true,Bool.true_and]
    cases hf:Cw m neg (decide (0/4%2=1)) 1 with
    | true=>simp only [cond_true,Io p3,Jt p3]; have hf:Cw m neg false 1=true:=hf; simp [hf]
    | false=>simp only [cond_false]; have hf:Cw m neg false 1=false:=hf; simp [hf]
   | false =>
    simp only [cS p0,lQ p0,cond_true,Dt,List.length_nil,Int.natCast_zero,cond_false,Int.toNat_zero,lN,Kv pz,KG pz,Rd,Bool.or_true]
    simp
  ·have hjn:j≠0:=by omega
   cases more with
   | true =>
    have p2:=Td m neg (decide (j/4%2=1)) (j%4/2*2+1)
    have hr:j%4/2*2+1≠0:=by omega
    simp only [cS p0,lQ p0,cond_true,Oo hjn,Ss hjn,Int.toNat_zero,LM j,mM,or1 (j%4) (by omega),Kv p1,KG p1,Rd,TU,TR p2,TO p2,Bool.true_or,Bool.or_true,Bg _ hr,Bool.true_and]
    cases hf:Cw m neg (decide (j/4%2=1)) (j%4/2*2+1) with
    | true=>simp only [cond_true,Io p3,Jt p3]; simp [hf]
    | false=>simp only [cond_false]; simp [hf]
   | false =>
    have p2:=Td m neg (decide (j/4%2=1)) (j%4)
    simp only [cS p0,lQ p0,cond_true,cond_false,Oo hjn,Ss hjn,Int.toNat_zero,LM j,mM,Kv p1,KG p1,Rd,TU,TR p2,TO p2,Bool.true_or,Bool.or_true]
    rcases Nat.eq_zero_or_pos (j%4) with hz | hz
    ·rw [BH _ hz,Bool.false_and,cond_false]
     simp [hz]
    ·have hr:j%4≠0:=by omega
     rw [Bg _ hr,Bool.true_and]
     cases hf:Cw m neg (decide (j/4%2=1)) (j%4) with
     | true=>simp only [cond_true,Io p3,Jt p3]; simp [hf,hr]
     | false=>simp only [cond_false]; simp [hf,hr]
 ·rw [show decide (q-e>=2)=false from decide_eq_false h2,cond_false]
  obtain ⟨s,hse⟩:=Int.eq_ofNat_of_zero_le (show 0<=2-(q-e) by omega)
  have e1:IntKind.wrap .i64 (2-(q-e))=(s:Int):=by rw [As (by omega)]; exact hse
  have hj:j4 n e q=n*2^s:=by unfold j4; rw [if_neg h2]; congr 2; omega
  rw [hj] at hj4
  obtain ⟨hs1,hs2⟩:=hs (by omega)
  rw [show (2-(q-e)).toNat=s by omega] at hs2
  have p0:=aBb (dg (2^64) n) hnw s (by omega) (by rw [Cd]; exact hs2)
  rw [Cd] at p0
  have hjl:n*2^s<(2^64)^5000:=Nat.lt_trans hs2 (Nat.pow_lt_pow_right (by decide) (by decide))
  clear hj
  generalize n*2^s=j at *
  have hj:Ws (dg (2^64) j):=Dl hjl
  rw [e1]
  have p0:Sz (Dw n,(s:Int),())=some (Dw j,0,()):=p0
  have p1:=aBq hj
  have hu:Ws (dg (2^64) (j/4)):=Dl (Nat.lt_of_le_of_lt (Nat.div_le_self _ _) hjl)
  have hul:=C0 (B:=2^64) (by decide) 5000 (j/4) (Nat.lt_of_le_of_lt (Nat.div_le_self _ _) hjl)
  have p3:=aAt hu (by omega)
  have h4:j%4<4:=Nat.mod_lt _ (by decide)
  unfold BE CM
  rw [← hj4.1,← hj4.2]
  rcases Nat.eq_zero_or_pos j with hj0 | hj0
  ·subst hj0
   have pz:Nl ([],(2:Int),())=some (Dw (0/4),0,()):=by rw [← Dt]; exact p1
   cases more with
   | true =>
    have p2:RH (m,neg,decide (0/4%2=1),(1:Int),())=some (Cw m neg (decide (0/4%2=1)) 1,()):=Td m neg _ 1
    simp only [Zz p0,YB p0,cond_true,Dt,List.length_nil,BJ,Int.natCast_zero,cond_false,Int.toNat_zero,lN,aCF,Kv pz,KG pz,Rd,TU,TR p2,TO p2,Bool.true_or,Bool.or_true,Bool.true_and]
    cases hf:Cw m neg (decide (0/4%2=1)) 1 with
    | true=>simp only [cond_true,Io p3,Jt p3]; have hf:Cw m neg false 1=true:=hf; simp [hf]
    | false=>simp only [cond_false]; have hf:Cw m neg false 1=false:=hf; simp [hf]
   | false =>
    simp only [Zz p0,YB p0,cond_true,Dt,List.length_nil,Int.natCast_zero,cond_false,Int.toNat_zero,lN,Kv pz,KG pz,Rd,Bool.or_true]
    simp
  ·have hjn:j≠0:=by omega
   cases more with
   | true =>
    have p2:=Td m neg (decide (j/4%2=1)) (j%4/2*2+1)
    have hr:j%4/2*2+1≠0:=by omega
    simp only [Zz p0,YB p0,cond_true,Oo hjn,Ss hjn,Int.toNat_zero,LM j,mM,or1 (j%4) (by omega),Kv p1,KG p1,Rd,TU,TR p2,TO p2,Bool.true_or,Bool.or_true,Bg _ hr,Bool.true_and]
    cases hf:Cw m neg (decide (j/4%2=1)) (j%4/2*2+1) with
    | true=>simp only [cond_true,Io p3,Jt p3]; simp [hf]
    | false=>simp only [cond_false]; simp [hf]
   | false =>
    have p2:=Td m neg (decide (j/4%2=1)) (j%4)
    simp only [Zz p0,YB p0,cond_true,cond_false,Oo hjn,Ss hjn,Int.toNat_zero,LM j,mM,Kv p1,KG p1,Rd,TU,TR p2,TO p2,Bool.true_or,Bool.or_true]
    rcases Nat.eq_zero_or_pos (j%4) with hz | hz
    ·rw [BH _ hz,Bool.false_and,cond_false]
     simp [hz]
    ·have hr:j%4≠0:=by omega
     rw [Bg _ hr,Bool.true_and]
     cases hf:Cw m neg (decide (j/4%2=1)) (j%4) with
     | true=>simp only [cond_true,Io p3,Jt p3]; simp [hf,hr]
     | false=>simp only [cond_false]; simp [hf,hr]
end VL
namespace VL
open Go Vx
def Co (f:Int) (neg:Bool):Nat:=if neg then 2^(fW f-1) else 0
def Ge (f:Int) (neg:Bool):Nat:=(2^(fW f-fP f)-1)*2^(fP f-1)+Co f neg
def r8 (m:Int) (neg:Bool):Bool:=((m==0||m==1)||(m==3&&!neg))||(m==4&&neg)
def Xw (f m:Int) (neg:Bool):Nat:=if r8 m neg then Ge f neg else Ge f neg-1
theorem Vd {f:Int} (h:Fm f) (neg:Bool):W8 (f,neg,())=some ((Ge f neg:Int),0,()):=by
 rcases C5 h with rfl | rfl | rfl | rfl <;> cases neg <;> kernel_rfl
theorem aLN {f:Int} (h:Fm f) (neg:Bool):Yf (f,neg,())=some (((Ge f neg-1:Nat):Int),0,()):=by
 rcases C5 h with rfl | rfl | rfl | rfl <;> cases neg <;> kernel_rfl
theorem MK {f:Int} (h:Fm f) (neg:Bool):WC (f,neg,())=some ((Co f neg:Int),0,()):=by
 rcases C5 h with rfl | rfl | rfl | rfl <;> cases neg <;> kernel_rfl
theorem aJH {f:Int} (h:Fm f) (m:Int) (neg:Bool):ZW (f,m,neg,())=some ((Xw f m neg:Int),()):=by
 show aL B6.pre B6.F JP.pre JP.F f m neg=_
 have p0:=Vd h neg
 have p1:=aLN h neg
 unfold aL Xw
 show (bif r8 m neg then (bif B6.pre (f,neg,()) then some ((B6.F (f,neg,())).1,()) else none) else (bif JP.pre (f,neg,()) then some ((JP.F (f,neg,())).1,()) else none))=_
 rw [Te p0,T9 p0,aTq p1,aSb p1]
 cases r8 m neg <;> rfl
def AF (n:Nat) (e:Int):Int:=e+(An n:Int)-1
theorem Et {n k:Nat} (h:n<2^k):An n<=k:=by
 rcases Nat.eq_zero_or_pos n with rfl | hn
 ·exact Nat.zero_le _
 ·have:=Ir (n:=n) (by omega)
  have:An n-1<k:=(Nat.pow_lt_pow_iff_right (a:=2) (by decide)).1 (Nat.lt_of_le_of_lt this h)
  omega
theorem IZ {n:Nat} (h:n≠0):1<=An n:=by unfold An; rw [if_neg h]; omega
theorem jW {n:Nat} (h:n<(2^64)^2000):An n<=128000:=by
 apply Et
 rw [Cu] at h
 exact h
theorem ST {n:Nat} (h:n<(2^64)^5000):TF (Dw n,())=some ((An n:Int),()):=by
 have:=aHY _ (Dl h)
 rw [Cd] at this
 exact this
theorem L9 {n:Nat} (h:n<(2^64)^2000):n<(2^64)^5000:=Nat.lt_trans h (Nat.pow_lt_pow_right (by decide) (by decide))
theorem aMH (neg:Bool) (n:Nat) (e:Int) (more:Bool) (hn:n<(2^64)^2000) (he:-1000000<=e/\e<=1000000):YE ((neg,Dw n,e,more,()),())=some (AF n e,()):=by
 show aT Ch.pre Ch.F (neg,Dw n,e,more,())=_
 unfold aT
 have p0:=ST (L9 hn)
 have hb:=jW hn
 simp only [SY p0,SA p0,cond_true]
 rw [As (n:=e+(An n:Int)) (by omega),As (by omega)]
 rfl
theorem aMk {n:Nat} {e q:Int} {p:Nat} (h:AF n e-p+1<=q):DY n e q<2^p:=by
 unfold AF at h
 unfold DY
 have hb:=G2 n
 by_cases hq:q<=e
 ·rw [if_pos hq]
  have h1:n*2^(e-q).toNat<2^An n*2^(e-q).toNat:=Nat.mul_lt_mul_of_pos_right hb (Nat.two_pow_pos _)
  rw [← Nat.pow_add] at h1
  exact Nat.lt_of_lt_of_le h1 (Nat.pow_le_pow_right (by decide) (by omega))
 ·rw [if_neg hq,Nat.div_lt_iff_lt_mul (Nat.two_pow_pos _),← Nat.pow_add]
  exact Nat.lt_of_lt_of_le hb (Nat.pow_le_pow_right (by decide) (by omega))
theorem m7 {m:Int} {neg:Bool} {n:Nat} {e q:Int} {more:Bool} {p:Nat} (h:AF n e-p+1<=q):BE m neg n e q more<=2^p:=by
 have:=aMk h
 unfold BE
 split <;> omega
theorem aC4 (m:Int) (neg:Bool) (n:Nat) (e q:Int) (more:Bool) (hn:n<(2^64)^2000) (he:-1000000<=e/\e<=1000000) {p:Nat} (hp:p<=60) (h1:AF n e-p+1<=q) (h2:q<=AF n e∨q<=1000) :
  TK ((neg,Dw n,e,more,()),m,q,())=some (Dw (BE m neg n e q more),decide (CM n e q more≠0),()):=by
 have hb:=jW hn
 unfold AF at h1 h2
 refine aMY m neg n e q more hn (by omega) (by omega) (by omega) fun hs=>?_
 refine ⟨by omega,?_⟩
 have hl:=G2 n
 have h3:n*2^(2-(q-e)).toNat<2^An n*2^(2-(q-e)).toNat:=Nat.mul_lt_mul_of_pos_right hl (Nat.two_pow_pos _)
 rw [← Nat.pow_add] at h3
 rw [Cu]
 exact Nat.lt_of_lt_of_le h3 (Nat.pow_le_pow_right (by decide) (by omega))
theorem aIp (neg:Bool) (n:Nat) (e:Int) (more:Bool) (f m:Int) (hf:Fm f) (hn:n<(2^64)^2000) (he:-1000000<=e/\e<=1000000) :
  Zi ((neg,Dw n,e,more,()),Br f,m,AF n e,())=some (decide (AF n e<1-(fX f:Int)/\AF n e-fP f+An (BE m neg n e (AF n e-fP f+1) more)<1-(fX f:Int)),()):=by
 show cF HC.pre HC.F Ch.pre Ch.F (neg,Dw n,e,more,()) ((fW f:Int),((fP f:Int),((1-(fX f:Int)),((fX f:Int),())))) m (AF n e)=_
 unfold cF
 have hb:=jW hn
 have hp:=EC hf
 have hw:=D5 hf
 have hx:=Ho hf
 have hp8:=Dq hf
 have ht:AF n e=e+(An n:Int)-1:=rfl
 have p0:=aC4 m neg n e (AF n e-fP f+1) more hn he (p:=fP f) (by omega) (by omega) (by omega)
 have hc:=m7 (m:=m) (neg:=neg) (more:=more) (n:=n) (e:=e) (q:=AF n e-fP f+1) (p:=fP f) (by omega)
 generalize BE m neg n e (AF n e-fP f+1) more=u at *
 have hu:u<(2^64)^5000:=by
  rw [Cu]
  exact Nat.lt_of_le_of_lt hc (Nat.pow_lt_pow_right (by decide) (by omega))
 have hub:An u<=fP f+1:=Et (Nat.lt_of_le_of_lt hc (Nat.pow_lt_pow_right (by decide) (by omega)))
 have p1:=ST hu
 have e1:IntKind.wrap .i64 (AF n e-(fP f:Int))=AF n e-(fP f:Int):=As (by omega)
 have e2:IntKind.wrap .i64 (AF n e-(fP f:Int)+1)=AF n e-(fP f:Int)+1:=As (by omega)
 have e3:IntKind.wrap .i64 (AF n e-(fP f:Int)+(An u:Int))=AF n e-(fP f:Int)+(An u:Int):=As (by omega)
 dsimp only
 rw [e1,e2]
 by_cases h:AF n e>=1-(fX f:Int)
 ·rw [decide_eq_true h,cond_true,decide_eq_false (by omega)]
 ·rw [decide_eq_false h,cond_false]
  simp only [aGB p0,aGm p0,cond_true,SY p1,SA p1,e3]
  have:(AF n e<1-(fX f:Int)):=by omega
  simp only [this,true_and]
end VL
namespace VL
open Go Vx
def Dk (f:Int) (t:Int):Int:=(if 1-(fX f:Int)>t then 1-(fX f:Int) else t)-fP f+1
def FC (f m:Int) (neg:Bool) (n:Nat) (e:Int) (more:Bool):Prop:=AF n e<1-(fX f:Int)/\AF n e-fP f+An (BE m neg n e (AF n e-fP f+1) more)<1-(fX f:Int)
instance (f m:Int) (neg:Bool) (n:Nat) (e:Int) (more:Bool):Decidable (FC f m neg n e more):=by unfold FC; infer_instance
def AD (f m:Int) (neg:Bool) (n:Nat) (e:Int) (more:Bool):Nat×Nat :=
 if AF n e>fX f then (Xw f m neg,20)
 else
  let q:=Dk f (AF n e)
  let u:=BE m neg n e q more
  if q+An u-1>fX f then (Xw f m neg,20)
  else ((q-(1-(fX f:Int)-fP f+1)).toNat*2^(fP f-1)+u+Co f neg,
   if CM n e q more=0 then 0 else if FC f m neg n e more then 24 else 16)
theorem aPn {f:Int} (hf:Fm f):(2*fX f-1)*2^(fP f-1)+2^fP f+2^(fP f-1)=2^(fW f-1):=by
 rcases C5 hf with rfl | rfl | rfl | rfl <;> decide
theorem Rp {f:Int} (hf:Fm f):15<=fX f:=by
 rcases C5 hf with rfl | rfl | rfl | rfl <;> decide
theorem tZ (neg:Bool) (n:Nat) (e:Int) (more:Bool) (f m:Int) (hf:Fm f) (hn:n<(2^64)^2000) (he:-1000000<=e/\e<=1000000) :
  Zh ((neg,Dw n,e,more,()),f,Br f,m,())=some (((AD f m neg n e more).1:Int),((AD f m neg n e more).2:Int),()):=by
 show kH _ _ _ _ _ _ _ _ _ _ (neg,Dw n,e,more,()) f ((fW f:Int),((fP f:Int),((1-(fX f:Int)),((fX f:Int),())))) m=_
 unfold kH AD
 have hb:=jW hn
 have hp:=EC hf
 have hp8:=Dq hf
 have hw:=D5 hf
 have hx:=Ho hf
 have hx15:=Rp hf
 have ht:AF n e=e+(An n:Int)-1:=rfl
 have pt:=aMH neg n e more hn he
 have pb:=aJH hf m neg
 have py:=aIp neg n e more f m hf hn he
 have hrow:Br f=((fW f:Int),((fP f:Int),((1-(fX f:Int)),((fX f:Int),())))):=rfl
 rw [hrow] at py
 simp only [aIu pt,aUq pt,cond_true]
 by_cases h1:AF n e>(fX f:Int)
 ·rw [if_pos h1,decide_eq_true h1,cond_true]
  simp only [sE pb,uL pb,cond_true]
  rfl
 rw [if_neg h1,decide_eq_false h1,cond_false]
 have hM:∃ M:Int,(if 1-(fX f:Int)>AF n e then 1-(fX f:Int) else AF n e)=M/\AF n e<=M/\1-(fX f:Int)<=M/\M<=fX f/\(M=AF n e∨M=1-(fX f:Int)):=by
  refine ⟨_,rfl,?_⟩
  split <;> omega
 obtain ⟨M,hMe,m1,m2,m3,m4⟩:=hM
 have hq:Dk f (AF n e)=M-fP f+1:=by unfold Dk; rw [hMe]
 simp only [hMe,hq]
 have e1:IntKind.wrap .i64 (M-(fP f:Int))=M-(fP f:Int):=As (by omega)
 have e2:IntKind.wrap .i64 (M-(fP f:Int)+1)=M-(fP f:Int)+1:=As (by omega)
 simp only [e1,e2]
 have p0:=aC4 m neg n e (M-(fP f:Int)+1) more hn he (p:=fP f) (by omega) (by omega) (by omega)
 have hc:=m7 (m:=m) (neg:=neg) (more:=more) (n:=n) (e:=e) (q:=M-(fP f:Int)+1) (p:=fP f) (by omega)
 generalize BE m neg n e (M-(fP f:Int)+1) more=u at *
 generalize CM n e (M-(fP f:Int)+1) more=r at *
 have hP60:2^fP f<=2^60:=Nat.pow_le_pow_right (by decide) (by omega)
 have hu:u<(2^64)^5000:=by
  rw [Cu]
  exact Nat.lt_of_le_of_lt hc (Nat.pow_lt_pow_right (by decide) (by omega))
 have hub:An u<=fP f+1:=Et (Nat.lt_of_le_of_lt hc (Nat.pow_lt_pow_right (by decide) (by omega)))
 have p1:=ST hu
 have e3:IntKind.wrap .i64 ((fP f:Int)-1)=((fP f-1:Nat):Int):=Bn _ (by omega)
 have e4:IntKind.wrap .i64 ((fW f:Int)-1)=((fW f-1:Nat):Int):=Bn _ (by omega)
 have e5:IntKind.wrap .i64 (M-(fP f:Int)+1+(An u:Int))=M-(fP f:Int)+1+(An u:Int):=As (by omega)
 have e6:IntKind.wrap .i64 (M-(fP f:Int)+1+(An u:Int)-1)=M-(fP f:Int)+1+(An u:Int)-1:=As (by omega)
 have e7:IntKind.wrap .i64 (1-(fX f:Int)-(fP f:Int))=1-(fX f:Int)-(fP f:Int):=As (by omega)
 have e8:IntKind.wrap .i64 (1-(fX f:Int)-(fP f:Int)+1)=1-(fX f:Int)-(fP f:Int)+1:=As (by omega)
 obtain ⟨k,hk⟩:=Int.eq_ofNat_of_zero_le (show 0<=M-(fP f:Int)+1-(1-(fX f:Int)-(fP f:Int)+1) by omega)
 have e9:IntKind.wrap .i64 (M-(fP f:Int)+1-(1-(fX f:Int)-(fP f:Int)+1))=(k:Int):=by rw [As (by omega)]; exact hk
 have e10:IntKind.wrap .u64 (k:Int)=(k:Int):=DW (by omega)
 have hkn:(M-(fP f:Int)+1-(1-(fX f:Int)-(fP f:Int)+1)).toNat=k:=by omega
 have hhalf:=aPn hf
 have hk2:k<=2*fX f-1:=by omega
 have hk3:=Nat.mul_le_mul_right (2^(fP f-1)) hk2
 have hW64:2^(fW f-1)<=2^63:=Nat.pow_le_pow_right (by decide) (by omega)
 have hpp:=Nat.two_pow_pos (fP f-1)
 have e11:AT .u64 (k:Int) ((fP f-1:Nat):Int)=((k*2^(fP f-1):Nat):Int):=by
  rw [El _ _ (by omega),Nat.mod_eq_of_lt (by omega)]
 have e12:AT .u64 1 ((fW f-1:Nat):Int)=((1*2^(fW f-1):Nat):Int):=by rw [KT (by omega),Nat.one_mul]
 generalize hA:k*2^(fP f-1)=A at *
 have hbits:A+u<2^(fW f-1):=by omega
 have e13:IntKind.wrap .u64 ((A:Int)+((u%2^64:Nat):Int))=((A+u:Nat):Int):=by
  rw [Nat.mod_eq_of_lt (by omega),DW (by omega)]; omega
 have hor:∀ b:Nat,b<2^(fW f-1)->AX .u64 (b:Int) ((1*2^(fW f-1):Nat):Int)=((b+2^(fW f-1):Nat):Int):=fun b hb=>by
  have:=Fc (a:=b) (b:=1) (k:=fW f-1) hb (by omega)
  rw [Nat.one_mul] at this ⊢
  exact this
 have hsg:Co f neg=if neg then 2^(fW f-1) else 0:=rfl
 have htd:decide (AF n e<1-(fX f:Int)/\AF n e-fP f+An (BE m neg n e (AF n e-fP f+1) more)<1-(fX f:Int))=decide (FC f m neg n e more):=by
  unfold FC; rfl
 rw [htd] at py
 simp only [aGB p0,aGm p0,cond_true,e3,AW,SY p1,SA p1,e5,e6,e7,e8,e9,e10,e11,e4,e12,hkn,hA]
 rcases Nat.eq_zero_or_pos u with hu0 | hu0
 ·subst hu0
  have hl0:decide ((((Dw 0).length:Nat):Int)>0)=false:=by rw [Dt]; rfl
  rw [hl0,cond_false]
  by_cases h2:M-(fP f:Int)+1+(An 0:Int)-1>(fX f:Int)
  ·rw [decide_eq_true h2,cond_true,if_pos h2]
   simp only [sE pb,uL pb,cond_true]
   rfl
  ·rw [decide_eq_false h2,cond_false,if_neg h2]
   have hbi:=hor (A) (by omega)
   rw [hbi]
   by_cases hr:r=0
   ·rw [if_pos hr,decide_eq_false (p:=r≠0) (by omega)]
    simp only [Bool.not_false,cond_true]
    cases neg <;> rfl
   ·rw [if_neg hr,decide_eq_true (p:=r≠0) hr]
    simp only [Bool.not_true,cond_false,aF1 py,aHe py,cond_true]
    by_cases hti:FC f m neg n e more
    ·rw [if_pos hti,decide_eq_true hti]
     cases neg <;> rfl
    ·rw [if_neg hti,decide_eq_false hti]
     cases neg <;> rfl
 ·have hun:u≠0:=by omega
  simp only [Oo hun,Ss hun,cond_true,Int.toNat_zero,LM,e13]
  by_cases h2:M-(fP f:Int)+1+(An u:Int)-1>(fX f:Int)
  ·rw [decide_eq_true h2,cond_true,if_pos h2]
   simp only [sE pb,uL pb,cond_true]
   rfl
  ·rw [decide_eq_false h2,cond_false,if_neg h2]
   have hbi:=hor (A+u) (by omega)
   rw [hbi]
   by_cases hr:r=0
   ·rw [if_pos hr,decide_eq_false (p:=r≠0) (by omega)]
    simp only [Bool.not_false,cond_true]
    cases neg <;> rfl
   ·rw [if_neg hr,decide_eq_true (p:=r≠0) hr]
    simp only [Bool.not_true,cond_false,aF1 py,aHe py,cond_true]
    by_cases hti:FC f m neg n e more
    ·rw [if_pos hti,decide_eq_true hti]
     cases neg <;> rfl
    ·rw [if_neg hti,decide_eq_false hti]
     cases neg <;> rfl
theorem rU {f m:Int} (hf:Fm f) (hm:0<=m/\m<=5):WK (f,m,())=some (Br f,0,()):=by
 show lC Aq.pre Aq.F P9.pre P9.F f m=_
 unfold lC
 have p0:=FE hf
 have p1:ZO (m,())=some (0,()):=by
  show iZ m=_
  unfold iZ
  rw [decide_eq_false (show ¬ m<0 by omega),decide_eq_false (show ¬ m>5 by omega)]; rfl
 simp only [Dc p0,Dg p0,cond_true,aLp p1,aUV p1]
 rfl
theorem aIy {f:Int} (h:Fm f) (neg:Bool):Zo (f,neg,())=some ((Co f neg:Int),0,0,()):=by
 show i4 A1.pre A1.F f neg=_
 unfold i4
 have p0:=MK h neg
 simp only [LE p0,Mz p0,cond_true]
theorem aI9 (s:Nat) (hs:s<2^128):(Wi s).2.1::(Wi s).1::[]=Wd [s%2^64,s/2^64]/\Ws [s%2^64,s/2^64]/\nv (2^64) [s%2^64,s/2^64]=s:=by
 refine ⟨rfl,⟨?_,by simp⟩,?_⟩
 ·intro x hx
  have:x=s%2^64∨x=s/2^64:=by simpa using hx
  omega
 ·simp only [nv]; omega
theorem KQ {f m:Int} (hf:Fm f) (hm:0<=m/\m<=5) (neg:Bool) (s:Nat) (hs:s<2^128) (e:Int) (he:-40000<=e/\e<=40000) (more:Bool) (hmore:more=true->fP f+2<=An s) :
  SD (f,m,neg,Wi s,e,more,())=some (if s=0 then ((Co f neg:Int),0,0,()) else (((AD f m neg s e more).1:Int),((AD f m neg s e more).2:Int),0,())):=by
 show dI _ _ _ _ _ _ _ _ _ _ f m neg (Wi s) e more=_
 unfold dI
 obtain ⟨w1,w2,w3⟩:=aI9 s hs
 have hP:=EC hf
 have hW:=D5 hf
 have p0:=rU hf hm
 have p1:=Xh _ w2
 rw [← w1,w3] at p1
 have hs2:s<(2^64)^2000:=by
  rw [Cu]
  exact Nat.lt_of_lt_of_le hs (Nat.pow_le_pow_right (by decide) (by decide))
 have p2:=ST (L9 hs2)
 have p3:=aIy hf neg
 have p4:=tZ neg s e more f m hf hs2 (by omega)
 have e1:decide (e < -40000)=false:=decide_eq_false (by omega)
 have e2:decide (e>40000)=false:=decide_eq_false (by omega)
 have e3:IntKind.wrap .i64 ((Br f).2.1+2)=((fP f+2:Nat):Int):=by
  show IntKind.wrap .i64 ((fP f:Int)+2)=_
  rw [As (by omega)]; rfl
 have e4:(more&&decide ((An s:Int)<((fP f+2:Nat):Int)))=false:=by
  cases more with
  | false=>rfl
  | true=>rw [decide_eq_false (by have:=hmore rfl; omega)]; rfl
 have z0:((0:Int) != 0)=false:=rfl
 simp only [tF p0,qC p0,cond_true,z0,cond_false,Ue p1,Tu p1,e1,e2,Bool.or_self,SY p2,SA p2,Bool.true_or,e3,e4]
 by_cases h0:s=0
 ·rw [if_pos h0]
  subst h0
  rw [show ((((Dw 0).length:Nat):Int)==0)=true by rw [Dt]; rfl,cond_true]
  simp only [aQ0 p3,aKw p3,cond_true]
 ·rw [if_neg h0,AU _ (by have:=Iy h0; omega),cond_false]
  simp only [mY p4,pT p4,cond_true]
end VL
namespace VL
open Go Vx
theorem aTF {r k s ρ:Nat} (hρ:0<ρ) (hρ2:ρ<2^k) (hs:1<=s):Ct (ρ+2^k*r) (k+s)=Ct r s/2*2+1:=by
 unfold Ct
 have hp:2^(k+s-1)=2^k*2^(s-1):=by rw [← Nat.pow_add]; congr 1; omega
 rw [hp]
 have hh:=Nat.two_pow_pos (s-1)
 generalize 2^(s-1)=h at *
 generalize 2^k=K at *
 rw [if_neg (by omega)]
 rcases Nat.lt_trichotomy r h with h1 | h1 | h1
 ·have:K*(r+1)<=K*h:=Nat.mul_le_mul_left _ h1
  rw [Nat.mul_add,Nat.mul_one] at this
  rw [if_pos (by omega)]
  by_cases hr:r=0
  ·rw [if_pos hr]
  ·rw [if_neg hr,if_pos h1]
 ·subst h1
  rw [if_neg (by omega),if_neg (by omega),if_neg (by omega),if_neg (by omega),if_pos rfl]
 ·have:K*(h+1)<=K*r:=Nat.mul_le_mul_left _ h1
  rw [Nat.mul_add,Nat.mul_one] at this
  rw [if_neg (by omega),if_neg (by omega),if_neg (by omega),if_neg (by omega),if_neg (by omega)]
theorem aMG {r k s:Nat} (hs:1<=s):Ct (2^k*r) (k+s)=Ct r s:=by
 unfold Ct
 have hp:2^(k+s-1)=2^k*2^(s-1):=by rw [← Nat.pow_add]; congr 1; omega
 rw [hp]
 have hk:=Nat.two_pow_pos k
 generalize 2^(s-1)=h at *
 generalize 2^k=K at *
 have h1:K*r=0↔r=0:=by
  constructor
  ·intro h; rcases Nat.mul_eq_zero.1 h with h | h <;> omega
  ·intro h; rw [h,Nat.mul_zero]
 have h2:K*r<K*h↔r<h:=Nat.mul_lt_mul_left hk
 have h3:K*r=K*h↔r=h:=Nat.mul_right_inj (by omega)
 simp only [h1,h2,h3]
theorem aLk (N k s:Nat):N%2^(k+s)=N%2^k+2^k*(N/2^k%2^s):=by
 rw [Nat.pow_add,Nat.mod_mul]
theorem aAU {n:Nat} {e q:Int} (h:q<=e):DY n e q=n*2^(e-q).toNat:=if_pos h
theorem gB {n:Nat} {e q:Int} (h:e<q):DY n e q=n/2^(q-e).toNat:=if_neg (by omega)
theorem wU {n:Nat} {e q:Int} (h:q<=e):H5 n e q=0:=if_pos h
theorem aU {n:Nat} {e q:Int} (h:e<q):H5 n e q=Ct (n%2^(q-e).toNat) (q-e).toNat:=if_neg (by omega)
theorem YV (n:Nat) (e q:Int):CM n e q false=H5 n e q:=rfl
theorem aNi (n:Nat) (e q:Int):CM n e q true=H5 n e q/2*2+1:=rfl
theorem oI {N k:Nat} {E q:Int} (hq:N%2^k≠0->E+k<q) :
  DY (N/2^k) (E+k) q=DY N E q/\CM (N/2^k) (E+k) q (decide (N%2^k≠0))=CM N E q false:=by
 have hk:=Nat.two_pow_pos k
 have hdm:=Nat.div_add_mod N (2^k)
 by_cases h1:E+k<q
 ·have es:(q-E).toNat=k+(q-(E+k)).toNat:=by omega
  have hs:1<=(q-(E+k)).toNat:=by omega
  rw [gB h1,gB (by omega),YV,aU (e:=E) (by omega),es]
  have hrs:=aU (n:=N/2^k) h1
  generalize (q-(E+k)).toNat=s at *
  refine ⟨by rw [Nat.div_div_eq_div_mul,← Nat.pow_add],?_⟩
  rw [aLk]
  by_cases hr:N%2^k=0
  ·rw [hr,Nat.zero_add,aMG hs,show decide ((0:Nat)≠0)=false by decide,YV,hrs]
  ·have hρ:0<N%2^k:=by omega
   rw [aTF hρ (Nat.mod_lt _ hk) hs,decide_eq_true hr,aNi,hrs]
 ·have hr:N%2^k=0:=by
   by_cases h:N%2^k=0
   ·exact h
   ·exact absurd (hq h) h1
  rw [hr,Nat.add_zero] at hdm
  rw [hr]
  clear hq hr
  generalize N/2^k=n at *
  subst hdm
  have hz:decide ((0:Nat)≠0)=false:=by decide
  rw [hz,aAU (by omega),YV,YV,wU (by omega)]
  by_cases h2:q<=E
  ·rw [aAU h2,wU h2,show (E+k-q).toNat=k+(E-q).toNat by omega,Nat.pow_add,Nat.mul_comm (2^k) n,Nat.mul_assoc]
   exact ⟨rfl,rfl⟩
  ·rw [gB (by omega),aU (by omega)]
   have ek:k=(q-E).toNat+(E+k-q).toNat:=by omega
   generalize (q-E).toNat=s at *
   generalize (E+k-q).toNat=t at *
   have:2^k*n=2^s*(2^t*n):=by rw [ek,Nat.pow_add,Nat.mul_assoc]
   rw [this,Nat.mul_div_cancel_left _ (Nat.two_pow_pos s),Nat.mul_mod_right]
   exact ⟨Nat.mul_comm _ _,rfl⟩
theorem jZ {m:Int} {neg:Bool} {N k:Nat} {E q:Int} (hq:N%2^k≠0->E+k<q):BE m neg (N/2^k) (E+k) q (decide (N%2^k≠0))=BE m neg N E q false:=by
 obtain ⟨h1,h2⟩:=oI hq
 unfold BE
 rw [h1,h2]
theorem aBh {N k:Nat} {E:Int} (hn:N/2^k≠0):AF (N/2^k) (E+k)=AF N E:=by
 have hk:=Nat.two_pow_pos k
 have h1:2^k<=N:=by
  rcases Nat.lt_or_ge N (2^k) with h | h
  ·exact absurd (Nat.div_eq_of_lt h) hn
  ·exact h
 have:=nW h1
 unfold AF
 omega
theorem YQ {f m:Int} {neg:Bool} {N k:Nat} {E:Int} (hf:Fm f) (hn:N/2^k≠0) (hm:N%2^k≠0->fP f+2<=An (N/2^k)):AD f m neg (N/2^k) (E+k) (decide (N%2^k≠0))=AD f m neg N E false:=by
 have ht:=aBh (E:=E) hn
 have htd:AF (N/2^k) (E+k)=E+k+(An (N/2^k):Int)-1:=rfl
 have hq1:N%2^k≠0->E+k<Dk f (AF N E):=fun h=>by
  have:=hm h
  unfold Dk
  split <;> omega
 have hq2:N%2^k≠0->E+k<AF N E-fP f+1:=fun h=>by
  have:=hm h
  omega
 have hti:FC f m neg (N/2^k) (E+k) (decide (N%2^k≠0))=FC f m neg N E false:=by
  unfold FC
  rw [ht,jZ hq2]
 unfold AD
 simp only [ht,jZ hq1,(oI hq1).2,hti]
theorem LV {f m:Int} {neg:Bool} (hf:Fm f) {n:Nat} (hn:n≠0) (k:Nat) (e:Int):AD f m neg (n*2^k) e false=AD f m neg n (e+k) false:=by
 have hk:=Nat.two_pow_pos k
 have:=YQ (f:=f) (m:=m) (neg:=neg) (N:=n*2^k) (k:=k) (E:=e) hf (by rw [Nat.mul_div_cancel _ hk]; exact hn) (by rw [Nat.mul_mod_left]; omega)
 rw [Nat.mul_div_cancel _ hk,Nat.mul_mod_left] at this
 exact this.symm
end VL
namespace VL
open Go Vx
def UL (f m:Int) (nx:Bool) (X ex:Int) (ny:Bool) (Y ey:Int):Option (DenS It) :=
 bif (AG.pre (((0:Int),(X,())),((if ((70:Int)<(IntKind.wrap .i64 (ex-ey))) then (70:Int) else (IntKind.wrap .i64 (ex-ey))),()))) then
  (bif (AL.pre (((0:Int),(Y,())),((IntKind.wrap .i64 ((IntKind.wrap .i64 (ex-(if ((70:Int)<(IntKind.wrap .i64 (ex-ey))) then (70:Int) else (IntKind.wrap .i64 (ex-ey)))))-ey)),()))) then
   (bif (AG.pre ((AL.F (((0:Int),(Y,())),((IntKind.wrap .i64 ((IntKind.wrap .i64 (ex-(if ((70:Int)<(IntKind.wrap .i64 (ex-ey))) then (70:Int) else (IntKind.wrap .i64 (ex-ey)))))-ey)),()))).1,((IntKind.wrap .i64 ((IntKind.wrap .i64 (ex-(if ((70:Int)<(IntKind.wrap .i64 (ex-ey))) then (70:Int) else (IntKind.wrap .i64 (ex-ey)))))-ey)),()))) then
    (bif (AL.pre (((0:Int),(Y,())),((IntKind.wrap .i64 ((IntKind.wrap .i64 (ex-(if ((70:Int)<(IntKind.wrap .i64 (ex-ey))) then (70:Int) else (IntKind.wrap .i64 (ex-ey)))))-ey)),()))) then
     (bif (nx==ny) then
      (bif (MC.pre ((AG.F (((0:Int),(X,())),((if ((70:Int)<(IntKind.wrap .i64 (ex-ey))) then (70:Int) else (IntKind.wrap .i64 (ex-ey))),()))).1,(AL.F (((0:Int),(Y,())),((IntKind.wrap .i64 ((IntKind.wrap .i64 (ex-(if ((70:Int)<(IntKind.wrap .i64 (ex-ey))) then (70:Int) else (IntKind.wrap .i64 (ex-ey)))))-ey)),()))))) then
       (bif (A4.pre (f,(m,(nx,((MC.F ((AG.F (((0:Int),(X,())),((if ((70:Int)<(IntKind.wrap .i64 (ex-ey))) then (70:Int) else (IntKind.wrap .i64 (ex-ey))),()))).1,(AL.F (((0:Int),(Y,())),((IntKind.wrap .i64 ((IntKind.wrap .i64 (ex-(if ((70:Int)<(IntKind.wrap .i64 (ex-ey))) then (70:Int) else (IntKind.wrap .i64 (ex-ey)))))-ey)),()))))).1,((IntKind.wrap .i64 (ex-(if ((70:Int)<(IntKind.wrap .i64 (ex-ey))) then (70:Int) else (IntKind.wrap .i64 (ex-ey))))),(((!(((AG.F ((AL.F (((0:Int),(Y,())),((IntKind.wrap .i64 ((IntKind.wrap .i64 (ex-(if ((70:Int)<(IntKind.wrap .i64 (ex-ey))) then (70:Int) else (IntKind.wrap .i64 (ex-ey)))))-ey)),()))).1,((IntKind.wrap .i64 ((IntKind.wrap .i64 (ex-(if ((70:Int)<(IntKind.wrap .i64 (ex-ey))) then (70:Int) else (IntKind.wrap .i64 (ex-ey)))))-ey)),()))).1.1==(0:Int))&&((AG.F ((AL.F (((0:Int),(Y,())),((IntKind.wrap .i64 ((IntKind.wrap .i64 (ex-(if ((70:Int)<(IntKind.wrap .i64 (ex-ey))) then (70:Int) else (IntKind.wrap .i64 (ex-ey)))))-ey)),()))).1,((IntKind.wrap .i64 ((IntKind.wrap .i64 (ex-(if ((70:Int)<(IntKind.wrap .i64 (ex-ey))) then (70:Int) else (IntKind.wrap .i64 (ex-ey)))))-ey)),()))).1.2.1==Y)))||((decide ((IntKind.wrap .i64 ((IntKind.wrap .i64 (ex-(if ((70:Int)<(IntKind.wrap .i64 (ex-ey))) then (70:Int) else (IntKind.wrap .i64 (ex-ey)))))-ey))>(63:Int)))&&(Y != (0:Int)))),()))))))) then
        (some (A4.F (f,(m,(nx,((MC.F ((AG.F (((0:Int),(X,())),((if ((70:Int)<(IntKind.wrap .i64 (ex-ey))) then (70:Int) else (IntKind.wrap .i64 (ex-ey))),()))).1,(AL.F (((0:Int),(Y,())),((IntKind.wrap .i64 ((IntKind.wrap .i64 (ex-(if ((70:Int)<(IntKind.wrap .i64 (ex-ey))) then (70:Int) else (IntKind.wrap .i64 (ex-ey)))))-ey)),()))))).1,((IntKind.wrap .i64 (ex-(if ((70:Int)<(IntKind.wrap .i64 (ex-ey))) then (70:Int) else (IntKind.wrap .i64 (ex-ey))))),(((!(((AG.F ((AL.F (((0:Int),(Y,())),((IntKind.wrap .i64 ((IntKind.wrap .i64 (ex-(if ((70:Int)<(IntKind.wrap .i64 (ex-ey))) then (70:Int) else (IntKind.wrap .i64 (ex-ey)))))-ey)),()))).1,((IntKind.wrap .i64 ((IntKind.wrap .i64 (ex-(if ((70:Int)<(IntKind.wrap .i64 (ex-ey))) then (70:Int) else (IntKind.wrap .i64 (ex-ey)))))-ey)),()))).1.1==(0:Int))&&((AG.F ((AL.F (((0:Int),(Y,())),((IntKind.wrap .i64 ((IntKind.wrap .i64 (ex-(if ((70:Int)<(IntKind.wrap .i64 (ex-ey))) then (70:Int) else (IntKind.wrap .i64 (ex-ey)))))-ey)),()))).1,((IntKind.wrap .i64 ((IntKind.wrap .i64 (ex-(if ((70:Int)<(IntKind.wrap .i64 (ex-ey))) then (70:Int) else (IntKind.wrap .i64 (ex-ey)))))-ey)),()))).1.2.1==Y)))||((decide ((IntKind.wrap .i64 ((IntKind.wrap .i64 (ex-(if ((70:Int)<(IntKind.wrap .i64 (ex-ey))) then (70:Int) else (IntKind.wrap .i64 (ex-ey)))))-ey))>(63:Int)))&&(Y != (0:Int)))),()))))))))
       else none)
      else none)
     else bif (Dz.pre ((AG.F (((0:Int),(X,())),((if ((70:Int)<(IntKind.wrap .i64 (ex-ey))) then (70:Int) else (IntKind.wrap .i64 (ex-ey))),()))).1,(AL.F (((0:Int),(Y,())),((IntKind.wrap .i64 ((IntKind.wrap .i64 (ex-(if ((70:Int)<(IntKind.wrap .i64 (ex-ey))) then (70:Int) else (IntKind.wrap .i64 (ex-ey)))))-ey)),()))))) then
      (bif (decide ((Dz.F ((AG.F (((0:Int),(X,())),((if ((70:Int)<(IntKind.wrap .i64 (ex-ey))) then (70:Int) else (IntKind.wrap .i64 (ex-ey))),()))).1,(AL.F (((0:Int),(Y,())),((IntKind.wrap .i64 ((IntKind.wrap .i64 (ex-(if ((70:Int)<(IntKind.wrap .i64 (ex-ey))) then (70:Int) else (IntKind.wrap .i64 (ex-ey)))))-ey)),()))))).1<(0:Int))) then
       (bif (BF.pre ((AL.F (((0:Int),(Y,())),((IntKind.wrap .i64 ((IntKind.wrap .i64 (ex-(if ((70:Int)<(IntKind.wrap .i64 (ex-ey))) then (70:Int) else (IntKind.wrap .i64 (ex-ey)))))-ey)),()))).1,(AG.F (((0:Int),(X,())),((if ((70:Int)<(IntKind.wrap .i64 (ex-ey))) then (70:Int) else (IntKind.wrap .i64 (ex-ey))),()))))) then
        (bif ((!(((AG.F ((AL.F (((0:Int),(Y,())),((IntKind.wrap .i64 ((IntKind.wrap .i64 (ex-(if ((70:Int)<(IntKind.wrap .i64 (ex-ey))) then (70:Int) else (IntKind.wrap .i64 (ex-ey)))))-ey)),()))).1,((IntKind.wrap .i64 ((IntKind.wrap .i64 (ex-(if ((70:Int)<(IntKind.wrap .i64 (ex-ey))) then (70:Int) else (IntKind.wrap .i64 (ex-ey)))))-ey)),()))).1.1==(0:Int))&&((AG.F ((AL.F (((0:Int),(Y,())),((IntKind.wrap .i64 ((IntKind.wrap .i64 (ex-(if ((70:Int)<(IntKind.wrap .i64 (ex-ey))) then (70:Int) else (IntKind.wrap .i64 (ex-ey)))))-ey)),()))).1,((IntKind.wrap .i64 ((IntKind.wrap .i64 (ex-(if ((70:Int)<(IntKind.wrap .i64 (ex-ey))) then (70:Int) else (IntKind.wrap .i64 (ex-ey)))))-ey)),()))).1.2.1==Y)))||((decide ((IntKind.wrap .i64 ((IntKind.wrap .i64 (ex-(if ((70:Int)<(IntKind.wrap .i64 (ex-ey))) then (70:Int) else (IntKind.wrap .i64 (ex-ey)))))-ey))>(63:Int)))&&(Y != (0:Int)))) then
         (bif (BF.pre ((BF.F ((AL.F (((0:Int),(Y,())),((IntKind.wrap .i64 ((IntKind.wrap .i64 (ex-(if ((70:Int)<(IntKind.wrap .i64 (ex-ey))) then (70:Int) else (IntKind.wrap .i64 (ex-ey)))))-ey)),()))).1,(AG.F (((0:Int),(X,())),((if ((70:Int)<(IntKind.wrap .i64 (ex-ey))) then (70:Int) else (IntKind.wrap .i64 (ex-ey))),()))))).1,(((0:Int),((1:Int),())),()))) then
          (bif ((((BF.F ((BF.F ((AL.F (((0:Int),(Y,())),((IntKind.wrap .i64 ((IntKind.wrap .i64 (ex-(if ((70:Int)<(IntKind.wrap .i64 (ex-ey))) then (70:Int) else (IntKind.wrap .i64 (ex-ey)))))-ey)),()))).1,(AG.F (((0:Int),(X,())),((if ((70:Int)<(IntKind.wrap .i64 (ex-ey))) then (70:Int) else (IntKind.wrap .i64 (ex-ey))),()))))).1,(((0:Int),((1:Int),())),()))).1.1==(0:Int))&&((BF.F ((BF.F ((AL.F (((0:Int),(Y,())),((IntKind.wrap .i64 ((IntKind.wrap .i64 (ex-(if ((70:Int)<(IntKind.wrap .i64 (ex-ey))) then (70:Int) else (IntKind.wrap .i64 (ex-ey)))))-ey)),()))).1,(AG.F (((0:Int),(X,())),((if ((70:Int)<(IntKind.wrap .i64 (ex-ey))) then (70:Int) else (IntKind.wrap .i64 (ex-ey))),()))))).1,(((0:Int),((1:Int),())),()))).1.2.1==(0:Int)))&&(!((!(((AG.F ((AL.F (((0:Int),(Y,())),((IntKind.wrap .i64 ((IntKind.wrap .i64 (ex-(if ((70:Int)<(IntKind.wrap .i64 (ex-ey))) then (70:Int) else (IntKind.wrap .i64 (ex-ey)))))-ey)),()))).1,((IntKind.wrap .i64 ((IntKind.wrap .i64 (ex-(if ((70:Int)<(IntKind.wrap .i64 (ex-ey))) then (70:Int) else (IntKind.wrap .i64 (ex-ey)))))-ey)),()))).1.1==(0:Int))&&((AG.F ((AL.F (((0:Int),(Y,())),((IntKind.wrap .i64 ((IntKind.wrap .i64 (ex-(if ((70:Int)<(IntKind.wrap .i64 (ex-ey))) then (70:Int) else (IntKind.wrap .i64 (ex-ey)))))-ey)),()))).1,((IntKind.wrap .i64 ((IntKind.wrap .i64 (ex-(if ((70:Int)<(IntKind.wrap .i64 (ex-ey))) then (70:Int) else (IntKind.wrap .i64 (ex-ey)))))-ey)),()))).1.2.1==Y)))||((decide ((IntKind.wrap .i64 ((IntKind.wrap .i64 (ex-(if ((70:Int)<(IntKind.wrap .i64 (ex-ey))) then (70:Int) else (IntKind.wrap .i64 (ex-ey)))))-ey))>(63:Int)))&&(Y != (0:Int)))))) then
           (bif (A1.pre (f,((m==(4:Int)),()))) then
            (some ((A1.F (f,((m==(4:Int)),()))).1,((0:Int),((0:Int),()))))
           else none)
          else bif (A4.pre (f,(m,(ny,((BF.F ((BF.F ((AL.F (((0:Int),(Y,())),((IntKind.wrap .i64 ((IntKind.wrap .i64 (ex-(if ((70:Int)<(IntKind.wrap .i64 (ex-ey))) then (70:Int) else (IntKind.wrap .i64 (ex-ey)))))-ey)),()))).1,(AG.F (((0:Int),(X,())),((if ((70:Int)<(IntKind.wrap .i64 (ex-ey))) then (70:Int) else (IntKind.wrap .i64 (ex-ey))),()))))).1,(((0:Int),((1:Int),())),()))).1,((IntKind.wrap .i64 (ex-(if ((70:Int)<(IntKind.wrap .i64 (ex-ey))) then (70:Int) else (IntKind.wrap .i64 (ex-ey))))),(((!(((AG.F ((AL.F (((0:Int),(Y,())),((IntKind.wrap .i64 ((IntKind.wrap .i64 (ex-(if ((70:Int)<(IntKind.wrap .i64 (ex-ey))) then (70:Int) else (IntKind.wrap .i64 (ex-ey)))))-ey)),()))).1,((IntKind.wrap .i64 ((IntKind.wrap .i64 (ex-(if ((70:Int)<(IntKind.wrap .i64 (ex-ey))) then (70:Int) else (IntKind.wrap .i64 (ex-ey)))))-ey)),()))).1.1==(0:Int))&&((AG.F ((AL.F (((0:Int),(Y,())),((IntKind.wrap .i64 ((IntKind.wrap .i64 (ex-(if ((70:Int)<(IntKind.wrap .i64 (ex-ey))) then (70:Int) else (IntKind.wrap .i64 (ex-ey)))))-ey)),()))).1,((IntKind.wrap .i64 ((IntKind.wrap .i64 (ex-(if ((70:Int)<(IntKind.wrap .i64 (ex-ey))) then (70:Int) else (IntKind.wrap .i64 (ex-ey)))))-ey)),()))).1.2.1==Y)))||((decide ((IntKind.wrap .i64 ((IntKind.wrap .i64 (ex-(if ((70:Int)<(IntKind.wrap .i64 (ex-ey))) then (70:Int) else (IntKind.wrap .i64 (ex-ey)))))-ey))>(63:Int)))&&(Y != (0:Int)))),()))))))) then
           (some (A4.F (f,(m,(ny,((BF.F ((BF.F ((AL.F (((0:Int),(Y,())),((IntKind.wrap .i64 ((IntKind.wrap .i64 (ex-(if ((70:Int)<(IntKind.wrap .i64 (ex-ey))) then (70:Int) else (IntKind.wrap .i64 (ex-ey)))))-ey)),()))).1,(AG.F (((0:Int),(X,())),((if ((70:Int)<(IntKind.wrap .i64 (ex-ey))) then (70:Int) else (IntKind.wrap .i64 (ex-ey))),()))))).1,(((0:Int),((1:Int),())),()))).1,((IntKind.wrap .i64 (ex-(if ((70:Int)<(IntKind.wrap .i64 (ex-ey))) then (70:Int) else (IntKind.wrap .i64 (ex-ey))))),(((!(((AG.F ((AL.F (((0:Int),(Y,())),((IntKind.wrap .i64 ((IntKind.wrap .i64 (ex-(if ((70:Int)<(IntKind.wrap .i64 (ex-ey))) then (70:Int) else (IntKind.wrap .i64 (ex-ey)))))-ey)),()))).1,((IntKind.wrap .i64 ((IntKind.wrap .i64 (ex-(if ((70:Int)<(IntKind.wrap .i64 (ex-ey))) then (70:Int) else (IntKind.wrap .i64 (ex-ey)))))-ey)),()))).1.1==(0:Int))&&((AG.F ((AL.F (((0:Int),(Y,())),((IntKind.wrap .i64 ((IntKind.wrap .i64 (ex-(if ((70:Int)<(IntKind.wrap .i64 (ex-ey))) then (70:Int) else (IntKind.wrap .i64 (ex-ey)))))-ey)),()))).1,((IntKind.wrap .i64 ((IntKind.wrap .i64 (ex-(if ((70:Int)<(IntKind.wrap .i64 (ex-ey))) then (70:Int) else (IntKind.wrap .i64 (ex-ey)))))-ey)),()))).1.2.1==Y)))||((decide ((IntKind.wrap .i64 ((IntKind.wrap .i64 (ex-(if ((70:Int)<(IntKind.wrap .i64 (ex-ey))) then (70:Int) else (IntKind.wrap .i64 (ex-ey)))))-ey))>(63:Int)))&&(Y != (0:Int)))),()))))))))
          else none)
         else none)
        else bif ((((BF.F ((AL.F (((0:Int),(Y,())),((IntKind.wrap .i64 ((IntKind.wrap .i64 (ex-(if ((70:Int)<(IntKind.wrap .i64 (ex-ey))) then (70:Int) else (IntKind.wrap .i64 (ex-ey)))))-ey)),()))).1,(AG.F (((0:Int),(X,())),((if ((70:Int)<(IntKind.wrap .i64 (ex-ey))) then (70:Int) else (IntKind.wrap .i64 (ex-ey))),()))))).1.1==(0:Int))&&((BF.F ((AL.F (((0:Int),(Y,())),((IntKind.wrap .i64 ((IntKind.wrap .i64 (ex-(if ((70:Int)<(IntKind.wrap .i64 (ex-ey))) then (70:Int) else (IntKind.wrap .i64 (ex-ey)))))-ey)),()))).1,(AG.F (((0:Int),(X,())),((if ((70:Int)<(IntKind.wrap .i64 (ex-ey))) then (70:Int) else (IntKind.wrap .i64 (ex-ey))),()))))).1.2.1==(0:Int)))&&(!((!(((AG.F ((AL.F (((0:Int),(Y,())),((IntKind.wrap .i64 ((IntKind.wrap .i64 (ex-(if ((70:Int)<(IntKind.wrap .i64 (ex-ey))) then (70:Int) else (IntKind.wrap .i64 (ex-ey)))))-ey)),()))).1,((IntKind.wrap .i64 ((IntKind.wrap .i64 (ex-(if ((70:Int)<(IntKind.wrap .i64 (ex-ey))) then (70:Int) else (IntKind.wrap .i64 (ex-ey)))))-ey)),()))).1.1==(0:Int))&&((AG.F ((AL.F (((0:Int),(Y,())),((IntKind.wrap .i64 ((IntKind.wrap .i64 (ex-(if ((70:Int)<(IntKind.wrap .i64 (ex-ey))) then (70:Int) else (IntKind.wrap .i64 (ex-ey)))))-ey)),()))).1,((IntKind.wrap .i64 ((IntKind.wrap .i64 (ex-(if ((70:Int)<(IntKind.wrap .i64 (ex-ey))) then (70:Int) else (IntKind.wrap .i64 (ex-ey)))))-ey)),()))).1.2.1==Y)))||((decide ((IntKind.wrap .i64 ((IntKind.wrap .i64 (ex-(if ((70:Int)<(IntKind.wrap .i64 (ex-ey))) then (70:Int) else (IntKind.wrap .i64 (ex-ey)))))-ey))>(63:Int)))&&(Y != (0:Int)))))) then
         (bif (A1.pre (f,((m==(4:Int)),()))) then
          (some ((A1.F (f,((m==(4:Int)),()))).1,((0:Int),((0:Int),()))))
         else none)
        else bif (A4.pre (f,(m,(ny,((BF.F ((AL.F (((0:Int),(Y,())),((IntKind.wrap .i64 ((IntKind.wrap .i64 (ex-(if ((70:Int)<(IntKind.wrap .i64 (ex-ey))) then (70:Int) else (IntKind.wrap .i64 (ex-ey)))))-ey)),()))).1,(AG.F (((0:Int),(X,())),((if ((70:Int)<(IntKind.wrap .i64 (ex-ey))) then (70:Int) else (IntKind.wrap .i64 (ex-ey))),()))))).1,((IntKind.wrap .i64 (ex-(if ((70:Int)<(IntKind.wrap .i64 (ex-ey))) then (70:Int) else (IntKind.wrap .i64 (ex-ey))))),(((!(((AG.F ((AL.F (((0:Int),(Y,())),((IntKind.wrap .i64 ((IntKind.wrap .i64 (ex-(if ((70:Int)<(IntKind.wrap .i64 (ex-ey))) then (70:Int) else (IntKind.wrap .i64 (ex-ey)))))-ey)),()))).1,((IntKind.wrap .i64 ((IntKind.wrap .i64 (ex-(if ((70:Int)<(IntKind.wrap .i64 (ex-ey))) then (70:Int) else (IntKind.wrap .i64 (ex-ey)))))-ey)),()))).1.1==(0:Int))&&((AG.F ((AL.F (((0:Int),(Y,())),((IntKind.wrap .i64 ((IntKind.wrap .i64 (ex-(if ((70:Int)<(IntKind.wrap .i64 (ex-ey))) then (70:Int) else (IntKind.wrap .i64 (ex-ey)))))-ey)),()))).1,((IntKind.wrap .i64 ((IntKind.wrap .i64 (ex-(if ((70:Int)<(IntKind.wrap .i64 (ex-ey))) then (70:Int) else (IntKind.wrap .i64 (ex-ey)))))-ey)),()))).1.2.1==Y)))||((decide ((IntKind.wrap .i64 ((IntKind.wrap .i64 (ex-(if ((70:Int)<(IntKind.wrap .i64 (ex-ey))) then (70:Int) else (IntKind.wrap .i64 (ex-ey)))))-ey))>(63:Int)))&&(Y != (0:Int)))),()))))))) then
         (some (A4.F (f,(m,(ny,((BF.F ((AL.F (((0:Int),(Y,())),((IntKind.wrap .i64 ((IntKind.wrap .i64 (ex-(if ((70:Int)<(IntKind.wrap .i64 (ex-ey))) then (70:Int) else (IntKind.wrap .i64 (ex-ey)))))-ey)),()))).1,(AG.F (((0:Int),(X,())),((if ((70:Int)<(IntKind.wrap .i64 (ex-ey))) then (70:Int) else (IntKind.wrap .i64 (ex-ey))),()))))).1,((IntKind.wrap .i64 (ex-(if ((70:Int)<(IntKind.wrap .i64 (ex-ey))) then (70:Int) else (IntKind.wrap .i64 (ex-ey))))),(((!(((AG.F ((AL.F (((0:Int),(Y,())),((IntKind.wrap .i64 ((IntKind.wrap .i64 (ex-(if ((70:Int)<(IntKind.wrap .i64 (ex-ey))) then (70:Int) else (IntKind.wrap .i64 (ex-ey)))))-ey)),()))).1,((IntKind.wrap .i64 ((IntKind.wrap .i64 (ex-(if ((70:Int)<(IntKind.wrap .i64 (ex-ey))) then (70:Int) else (IntKind.wrap .i64 (ex-ey)))))-ey)),()))).1.1==(0:Int))&&((AG.F ((AL.F (((0:Int),(Y,())),((IntKind.wrap .i64 ((IntKind.wrap .i64 (ex-(if ((70:Int)<(IntKind.wrap .i64 (ex-ey))) then (70:Int) else (IntKind.wrap .i64 (ex-ey)))))-ey)),()))).1,((IntKind.wrap .i64 ((IntKind.wrap .i64 (ex-(if ((70:Int)<(IntKind.wrap .i64 (ex-ey))) then (70:Int) else (IntKind.wrap .i64 (ex-ey)))))-ey)),()))).1.2.1==Y)))||((decide ((IntKind.wrap .i64 ((IntKind.wrap .i64 (ex-(if ((70:Int)<(IntKind.wrap .i64 (ex-ey))) then (70:Int) else (IntKind.wrap .i64 (ex-ey)))))-ey))>(63:Int)))&&(Y != (0:Int)))),()))))))))
        else none)
       else none)
      else bif (BF.pre ((AG.F (((0:Int),(X,())),((if ((70:Int)<(IntKind.wrap .i64 (ex-ey))) then (70:Int) else (IntKind.wrap .i64 (ex-ey))),()))).1,(AL.F (((0:Int),(Y,())),((IntKind.wrap .i64 ((IntKind.wrap .i64 (ex-(if ((70:Int)<(IntKind.wrap .i64 (ex-ey))) then (70:Int) else (IntKind.wrap .i64 (ex-ey)))))-ey)),()))))) then
       (bif ((!(((AG.F ((AL.F (((0:Int),(Y,())),((IntKind.wrap .i64 ((IntKind.wrap .i64 (ex-(if ((70:Int)<(IntKind.wrap .i64 (ex-ey))) then (70:Int) else (IntKind.wrap .i64 (ex-ey)))))-ey)),()))).1,((IntKind.wrap .i64 ((IntKind.wrap .i64 (ex-(if ((70:Int)<(IntKind.wrap .i64 (ex-ey))) then (70:Int) else (IntKind.wrap .i64 (ex-ey)))))-ey)),()))).1.1==(0:Int))&&((AG.F ((AL.F (((0:Int),(Y,())),((IntKind.wrap .i64 ((IntKind.wrap .i64 (ex-(if ((70:Int)<(IntKind.wrap .i64 (ex-ey))) then (70:Int) else (IntKind.wrap .i64 (ex-ey)))))-ey)),()))).1,((IntKind.wrap .i64 ((IntKind.wrap .i64 (ex-(if ((70:Int)<(IntKind.wrap .i64 (ex-ey))) then (70:Int) else (IntKind.wrap .i64 (ex-ey)))))-ey)),()))).1.2.1==Y)))||((decide ((IntKind.wrap .i64 ((IntKind.wrap .i64 (ex-(if ((70:Int)<(IntKind.wrap .i64 (ex-ey))) then (70:Int) else (IntKind.wrap .i64 (ex-ey)))))-ey))>(63:Int)))&&(Y != (0:Int)))) then
        (bif (BF.pre ((BF.F ((AG.F (((0:Int),(X,())),((if ((70:Int)<(IntKind.wrap .i64 (ex-ey))) then (70:Int) else (IntKind.wrap .i64 (ex-ey))),()))).1,(AL.F (((0:Int),(Y,())),((IntKind.wrap .i64 ((IntKind.wrap .i64 (ex-(if ((70:Int)<(IntKind.wrap .i64 (ex-ey))) then (70:Int) else (IntKind.wrap .i64 (ex-ey)))))-ey)),()))))).1,(((0:Int),((1:Int),())),()))) then
         (bif ((((BF.F ((BF.F ((AG.F (((0:Int),(X,())),((if ((70:Int)<(IntKind.wrap .i64 (ex-ey))) then (70:Int) else (IntKind.wrap .i64 (ex-ey))),()))).1,(AL.F (((0:Int),(Y,())),((IntKind.wrap .i64 ((IntKind.wrap .i64 (ex-(if ((70:Int)<(IntKind.wrap .i64 (ex-ey))) then (70:Int) else (IntKind.wrap .i64 (ex-ey)))))-ey)),()))))).1,(((0:Int),((1:Int),())),()))).1.1==(0:Int))&&((BF.F ((BF.F ((AG.F (((0:Int),(X,())),((if ((70:Int)<(IntKind.wrap .i64 (ex-ey))) then (70:Int) else (IntKind.wrap .i64 (ex-ey))),()))).1,(AL.F (((0:Int),(Y,())),((IntKind.wrap .i64 ((IntKind.wrap .i64 (ex-(if ((70:Int)<(IntKind.wrap .i64 (ex-ey))) then (70:Int) else (IntKind.wrap .i64 (ex-ey)))))-ey)),()))))).1,(((0:Int),((1:Int),())),()))).1.2.1==(0:Int)))&&(!((!(((AG.F ((AL.F (((0:Int),(Y,())),((IntKind.wrap .i64 ((IntKind.wrap .i64 (ex-(if ((70:Int)<(IntKind.wrap .i64 (ex-ey))) then (70:Int) else (IntKind.wrap .i64 (ex-ey)))))-ey)),()))).1,((IntKind.wrap .i64 ((IntKind.wrap .i64 (ex-(if ((70:Int)<(IntKind.wrap .i64 (ex-ey))) then (70:Int) else (IntKind.wrap .i64 (ex-ey)))))-ey)),()))).1.1==(0:Int))&&((AG.F ((AL.F (((0:Int),(Y,())),((IntKind.wrap .i64 ((IntKind.wrap .i64 (ex-(if ((70:Int)<(IntKind.wrap .i64 (ex-ey))) then (70:Int) else (IntKind.wrap .i64 (ex-ey)))))-ey)),()))).1,((IntKind.wrap .i64 ((IntKind.wrap .i64 (ex-(if ((70:Int)<(IntKind.wrap .i64 (ex-ey))) then (70:Int) else (IntKind.wrap .i64 (ex-ey)))))-ey)),()))).1.2.1==Y)))||((decide ((IntKind.wrap .i64 ((IntKind.wrap .i64 (ex-(if ((70:Int)<(IntKind.wrap .i64 (ex-ey))) then (70:Int) else (IntKind.wrap .i64 (ex-ey)))))-ey))>(63:Int)))&&(Y != (0:Int)))))) then
          (bif (A1.pre (f,((m==(4:Int)),()))) then
           (some ((A1.F (f,((m==(4:Int)),()))).1,((0:Int),((0:Int),()))))
          else none)
         else bif (A4.pre (f,(m,(nx,((BF.F ((BF.F ((AG.F (((0:Int),(X,())),((if ((70:Int)<(IntKind.wrap .i64 (ex-ey))) then (70:Int) else (IntKind.wrap .i64 (ex-ey))),()))).1,(AL.F (((0:Int),(Y,())),((IntKind.wrap .i64 ((IntKind.wrap .i64 (ex-(if ((70:Int)<(IntKind.wrap .i64 (ex-ey))) then (70:Int) else (IntKind.wrap .i64 (ex-ey)))))-ey)),()))))).1,(((0:Int),((1:Int),())),()))).1,((IntKind.wrap .i64 (ex-(if ((70:Int)<(IntKind.wrap .i64 (ex-ey))) then (70:Int) else (IntKind.wrap .i64 (ex-ey))))),(((!(((AG.F ((AL.F (((0:Int),(Y,())),((IntKind.wrap .i64 ((IntKind.wrap .i64 (ex-(if ((70:Int)<(IntKind.wrap .i64 (ex-ey))) then (70:Int) else (IntKind.wrap .i64 (ex-ey)))))-ey)),()))).1,((IntKind.wrap .i64 ((IntKind.wrap .i64 (ex-(if ((70:Int)<(IntKind.wrap .i64 (ex-ey))) then (70:Int) else (IntKind.wrap .i64 (ex-ey)))))-ey)),()))).1.1==(0:Int))&&((AG.F ((AL.F (((0:Int),(Y,())),((IntKind.wrap .i64 ((IntKind.wrap .i64 (ex-(if ((70:Int)<(IntKind.wrap .i64 (ex-ey))) then (70:Int) else (IntKind.wrap .i64 (ex-ey)))))-ey)),()))).1,((IntKind.wrap .i64 ((IntKind.wrap .i64 (ex-(if ((70:Int)<(IntKind.wrap .i64 (ex-ey))) then (70:Int) else (IntKind.wrap .i64 (ex-ey)))))-ey)),()))).1.2.1==Y)))||((decide ((IntKind.wrap .i64 ((IntKind.wrap .i64 (ex-(if ((70:Int)<(IntKind.wrap .i64 (ex-ey))) then (70:Int) else (IntKind.wrap .i64 (ex-ey)))))-ey))>(63:Int)))&&(Y != (0:Int)))),()))))))) then
          (some (A4.F (f,(m,(nx,((BF.F ((BF.F ((AG.F (((0:Int),(X,())),((if ((70:Int)<(IntKind.wrap .i64 (ex-ey))) then (70:Int) else (IntKind.wrap .i64 (ex-ey))),()))).1,(AL.F (((0:Int),(Y,())),((IntKind.wrap .i64 ((IntKind.wrap .i64 (ex-(if ((70:Int)<(IntKind.wrap .i64 (ex-ey))) then (70:Int) else (IntKind.wrap .i64 (ex-ey)))))-ey)),()))))).1,(((0:Int),((1:Int),())),()))).1,((IntKind.wrap .i64 (ex-(if ((70:Int)<(IntKind.wrap .i64 (ex-ey))) then (70:Int) else (IntKind.wrap .i64 (ex-ey))))),(((!(((AG.F ((AL.F (((0:Int),(Y,())),((IntKind.wrap .i64 ((IntKind.wrap .i64 (ex-(if ((70:Int)<(IntKind.wrap .i64 (ex-ey))) then (70:Int) else (IntKind.wrap .i64 (ex-ey)))))-ey)),()))).1,((IntKind.wrap .i64 ((IntKind.wrap .i64 (ex-(if ((70:Int)<(IntKind.wrap .i64 (ex-ey))) then (70:Int) else (IntKind.wrap .i64 (ex-ey)))))-ey)),()))).1.1==(0:Int))&&((AG.F ((AL.F (((0:Int),(Y,())),((IntKind.wrap .i64 ((IntKind.wrap .i64 (ex-(if ((70:Int)<(IntKind.wrap .i64 (ex-ey))) then (70:Int) else (IntKind.wrap .i64 (ex-ey)))))-ey)),()))).1,((IntKind.wrap .i64 ((IntKind.wrap .i64 (ex-(if ((70:Int)<(IntKind.wrap .i64 (ex-ey))) then (70:Int) else (IntKind.wrap .i64 (ex-ey)))))-ey)),()))).1.2.1==Y)))||((decide ((IntKind.wrap .i64 ((IntKind.wrap .i64 (ex-(if ((70:Int)<(IntKind.wrap .i64 (ex-ey))) then (70:Int) else (IntKind.wrap .i64 (ex-ey)))))-ey))>(63:Int)))&&(Y != (0:Int)))),()))))))))
         else none)
        else none)
       else bif ((((BF.F ((AG.F (((0:Int),(X,())),((if ((70:Int)<(IntKind.wrap .i64 (ex-ey))) then (70:Int) else (IntKind.wrap .i64 (ex-ey))),()))).1,(AL.F (((0:Int),(Y,())),((IntKind.wrap .i64 ((IntKind.wrap .i64 (ex-(if ((70:Int)<(IntKind.wrap .i64 (ex-ey))) then (70:Int) else (IntKind.wrap .i64 (ex-ey)))))-ey)),()))))).1.1==(0:Int))&&((BF.F ((AG.F (((0:Int),(X,())),((if ((70:Int)<(IntKind.wrap .i64 (ex-ey))) then (70:Int) else (IntKind.wrap .i64 (ex-ey))),()))).1,(AL.F (((0:Int),(Y,())),((IntKind.wrap .i64 ((IntKind.wrap .i64 (ex-(if ((70:Int)<(IntKind.wrap .i64 (ex-ey))) then (70:Int) else (IntKind.wrap .i64 (ex-ey)))))-ey)),()))))).1.2.1==(0:Int)))&&(!((!(((AG.F ((AL.F (((0:Int),(Y,())),((IntKind.wrap .i64 ((IntKind.wrap .i64 (ex-(if ((70:Int)<(IntKind.wrap .i64 (ex-ey))) then (70:Int) else (IntKind.wrap .i64 (ex-ey)))))-ey)),()))).1,((IntKind.wrap .i64 ((IntKind.wrap .i64 (ex-(if ((70:Int)<(IntKind.wrap .i64 (ex-ey))) then (70:Int) else (IntKind.wrap .i64 (ex-ey)))))-ey)),()))).1.1==(0:Int))&&((AG.F ((AL.F (((0:Int),(Y,())),((IntKind.wrap .i64 ((IntKind.wrap .i64 (ex-(if ((70:Int)<(IntKind.wrap .i64 (ex-ey))) then (70:Int) else (IntKind.wrap .i64 (ex-ey)))))-ey)),()))).1,((IntKind.wrap .i64 ((IntKind.wrap .i64 (ex-(if ((70:Int)<(IntKind.wrap .i64 (ex-ey))) then (70:Int) else (IntKind.wrap .i64 (ex-ey)))))-ey)),()))).1.2.1==Y)))||((decide ((IntKind.wrap .i64 ((IntKind.wrap .i64 (ex-(if ((70:Int)<(IntKind.wrap .i64 (ex-ey))) then (70:Int) else (IntKind.wrap .i64 (ex-ey)))))-ey))>(63:Int)))&&(Y != (0:Int)))))) then
        (bif (A1.pre (f,((m==(4:Int)),()))) then
         (some ((A1.F (f,((m==(4:Int)),()))).1,((0:Int),((0:Int),()))))
        else none)
       else bif (A4.pre (f,(m,(nx,((BF.F ((AG.F (((0:Int),(X,())),((if ((70:Int)<(IntKind.wrap .i64 (ex-ey))) then (70:Int) else (IntKind.wrap .i64 (ex-ey))),()))).1,(AL.F (((0:Int),(Y,())),((IntKind.wrap .i64 ((IntKind.wrap .i64 (ex-(if ((70:Int)<(IntKind.wrap .i64 (ex-ey))) then (70:Int) else (IntKind.wrap .i64 (ex-ey)))))-ey)),()))))).1,((IntKind.wrap .i64 (ex-(if ((70:Int)<(IntKind.wrap .i64 (ex-ey))) then (70:Int) else (IntKind.wrap .i64 (ex-ey))))),(((!(((AG.F ((AL.F (((0:Int),(Y,())),((IntKind.wrap .i64 ((IntKind.wrap .i64 (ex-(if ((70:Int)<(IntKind.wrap .i64 (ex-ey))) then (70:Int) else (IntKind.wrap .i64 (ex-ey)))))-ey)),()))).1,((IntKind.wrap .i64 ((IntKind.wrap .i64 (ex-(if ((70:Int)<(IntKind.wrap .i64 (ex-ey))) then (70:Int) else (IntKind.wrap .i64 (ex-ey)))))-ey)),()))).1.1==(0:Int))&&((AG.F ((AL.F (((0:Int),(Y,())),((IntKind.wrap .i64 ((IntKind.wrap .i64 (ex-(if ((70:Int)<(IntKind.wrap .i64 (ex-ey))) then (70:Int) else (IntKind.wrap .i64 (ex-ey)))))-ey)),()))).1,((IntKind.wrap .i64 ((IntKind.wrap .i64 (ex-(if ((70:Int)<(IntKind.wrap .i64 (ex-ey))) then (70:Int) else (IntKind.wrap .i64 (ex-ey)))))-ey)),()))).1.2.1==Y)))||((decide ((IntKind.wrap .i64 ((IntKind.wrap .i64 (ex-(if ((70:Int)<(IntKind.wrap .i64 (ex-ey))) then (70:Int) else (IntKind.wrap .i64 (ex-ey)))))-ey))>(63:Int)))&&(Y != (0:Int)))),()))))))) then
        (some (A4.F (f,(m,(nx,((BF.F ((AG.F (((0:Int),(X,())),((if ((70:Int)<(IntKind.wrap .i64 (ex-ey))) then (70:Int) else (IntKind.wrap .i64 (ex-ey))),()))).1,(AL.F (((0:Int),(Y,())),((IntKind.wrap .i64 ((IntKind.wrap .i64 (ex-(if ((70:Int)<(IntKind.wrap .i64 (ex-ey))) then (70:Int) else (IntKind.wrap .i64 (ex-ey)))))-ey)),()))))).1,((IntKind.wrap .i64 (ex-(if ((70:Int)<(IntKind.wrap .i64 (ex-ey))) then (70:Int) else (IntKind.wrap .i64 (ex-ey))))),(((!(((AG.F ((AL.F (((0:Int),(Y,())),((IntKind.wrap .i64 ((IntKind.wrap .i64 (ex-(if ((70:Int)<(IntKind.wrap .i64 (ex-ey))) then (70:Int) else (IntKind.wrap .i64 (ex-ey)))))-ey)),()))).1,((IntKind.wrap .i64 ((IntKind.wrap .i64 (ex-(if ((70:Int)<(IntKind.wrap .i64 (ex-ey))) then (70:Int) else (IntKind.wrap .i64 (ex-ey)))))-ey)),()))).1.1==(0:Int))&&((AG.F ((AL.F (((0:Int),(Y,())),((IntKind.wrap .i64 ((IntKind.wrap .i64 (ex-(if ((70:Int)<(IntKind.wrap .i64 (ex-ey))) then (70:Int) else (IntKind.wrap .i64 (ex-ey)))))-ey)),()))).1,((IntKind.wrap .i64 ((IntKind.wrap .i64 (ex-(if ((70:Int)<(IntKind.wrap .i64 (ex-ey))) then (70:Int) else (IntKind.wrap .i64 (ex-ey)))))-ey)),()))).1.2.1==Y)))||((decide ((IntKind.wrap .i64 ((IntKind.wrap .i64 (ex-(if ((70:Int)<(IntKind.wrap .i64 (ex-ey))) then (70:Int) else (IntKind.wrap .i64 (ex-ey)))))-ey))>(63:Int)))&&(Y != (0:Int)))),()))))))))
       else none)
      else none)
     else none)
    else none)
   else none)
  else none)
 else none
theorem aRA (f m:Int) (nx:Bool) (X ex:Int) (ny:Bool) (Y ey:Int):U9 (f,m,(nx,X,ex,()),(ny,Y,ey,()),()) =
 (bif ((X==0)&&(Y==0))&&(nx==ny) then (bif A1.pre (f,nx,()) then some ((A1.F (f,nx,())).1,0,0,()) else none)
 else bif (X==0)||((Y != 0)&&decide (ex<ey)) then (bif X==0 then UL f m ny Y ey nx X ey else UL f m ny Y ey nx X ex)
 else bif Y==0 then UL f m nx X ex ny Y ex else UL f m nx X ex ny Y ey):=by kernel_rfl
theorem aCJ {n:Nat} (h:n<2^64):((0:Int),((n:Int),()))=Wi n:=by
 unfold Wi
 rw [Nat.div_eq_of_lt h,Nat.mod_eq_of_lt h]; rfl
theorem aNu:((0:Int),((1:Int),()))=Wi 1:=rfl
theorem aFY {n:Nat} (h:n<2^128):(((Wi n).1==0)&&((Wi n).2.1==0))=decide (n=0):=by
 show (((n/2^64:Nat):Int)==0&&((n%2^64:Nat):Int)==0)=_
 rw [Fq,Fq,Bool.eq_iff_iff,Bool.and_eq_true,beq_iff_eq,beq_iff_eq,decide_eq_true_eq]
 omega
theorem aKY {Y dn:Nat} (hY:Y<2^64):((!(((Wi (Y/2^dn*2^dn)).1==0)&&((Wi (Y/2^dn*2^dn)).2.1==(Y:Int))))||(decide ((dn:Int)>63)&&((Y:Int) != 0)))=decide (Y%2^dn≠0):=by
 have hdm:=Nat.div_add_mod Y (2^dn)
 rw [Nat.mul_comm] at hdm
 generalize hL:Y/2^dn*2^dn=L at *
 show ((!(((L/2^64:Nat):Int)==0&&((L%2^64:Nat):Int)==(Y:Int)))||(decide ((dn:Int)>63)&&((Y:Int) != 0)))=_
 rw [Fq,Hw,Tk]
 by_cases h:Y%2^dn=0
 ·rw [decide_eq_false (p:=Y%2^dn≠0) (by omega)]
  rw [show (L/2^64==0)=true by rw [beq_iff_eq]; omega,show (L%2^64==Y)=true by rw [beq_iff_eq]; omega]
  by_cases hy:Y=0
  ·rw [hy]; simp
  ·have:¬ (dn:Int)>63:=fun hd=>by
    have h1:Y<2^dn:=Nat.lt_of_lt_of_le hY (Nat.pow_le_pow_right (by decide) (by omega))
    rw [Nat.mod_eq_of_lt h1] at h
    exact hy h
   rw [decide_eq_false this]; rfl
 ·rw [decide_eq_true (p:=Y%2^dn≠0) h]
  rw [show (L%2^64==Y)=false by rw [beq_eq_false_iff_ne]; omega]
  simp
theorem kB {n k:Nat} (h:2^k<=n):k+1<=An n:=by
 have h1:=G2 n
 have:k<An n:=(Nat.pow_lt_pow_iff_right (a:=2) (by decide)).1 (Nat.lt_of_le_of_lt h h1)
 omega
def Es (f m:Int) (nx:Bool) (X:Nat) (ex:Int) (ny:Bool) (Y:Nat) (ey:Int):Nat×Nat :=
 let e:=if ex<=ey then ex else ey
 let a:=X*2^(ex-e).toNat
 let b:=Y*2^(ey-e).toNat
 if nx=ny then (if a+b=0 then (Co f nx,0) else AD f m nx (a+b) e false)
 else if a=b then (Co f (m==4),0) else if b<a then AD f m nx (a-b) e false else AD f m ny (b-a) e false
theorem o9 {f m:Int} {nx:Bool} {X:Nat} {ey:Int} {ny:Bool} {Y:Nat} (D:Nat) :
  Es f m nx X (ey+D) ny Y ey=if nx=ny then (if X*2^D+Y=0 then (Co f nx,0) else AD f m nx (X*2^D+Y) ey false)
   else if X*2^D=Y then (Co f (m==4),0) else if Y<X*2^D then AD f m nx (X*2^D-Y) ey false else AD f m ny (Y-X*2^D) ey false:=by
 unfold Es
 have he:(if ey+(D:Int)<=ey then ey+(D:Int) else ey)=ey:=by split <;> omega
 simp only [he]
 rw [show (ey+(D:Int)-ey).toNat=D by omega,show (ey-ey).toNat=0 by omega,Nat.pow_zero,Nat.mul_one]
theorem vX (f m:Int) (nx:Bool) (X:Nat) (ex:Int) (ny:Bool) (Y:Nat) (ey:Int):Es f m nx X ex ny Y ey=Es f m ny Y ey nx X ex:=by
 unfold Es
 have he:(if ex<=ey then ex else ey)=(if ey<=ex then ey else ex):=by split <;> split <;> omega
 simp only [he]
 generalize (if ey<=ex then ey else ex)=e
 generalize X*2^(ex-e).toNat=a
 generalize Y*2^(ey-e).toNat=b
 by_cases hn:nx=ny
 ·subst hn
  rw [if_pos rfl,if_pos rfl,Nat.add_comm]
 ·rw [if_neg hn,if_neg (Ne.symm hn)]
  rcases Nat.lt_trichotomy a b with h | h | h
  ·rw [if_neg (by omega),if_neg (by omega),if_neg (by omega),if_pos h]
  ·rw [if_pos h,if_pos h.symm]
  ·rw [if_neg (by omega),if_pos h,if_neg (by omega),if_neg (by omega)]
theorem V6 {f m:Int} (hf:Fm f) (nx:Bool) (X:Nat) (ex:Int) (ny:Bool) (ey:Int):Es f m nx X ex ny 0 ey=if X=0 then (if nx=ny then (Co f nx,0) else (Co f (m==4),0)) else AD f m nx X ex false:=by
 rcases Int.le_total ex ey with h | h
 ·obtain ⟨D,hD⟩:=Int.eq_ofNat_of_zero_le (show 0<=ey-ex by omega)
  have:ey=ex+D:=by omega
  subst this
  rw [vX,o9,Nat.zero_mul,Nat.zero_add]
  by_cases hn:nx=ny
  ·subst hn
   simp only [↓reduceIte]
  ·rw [if_neg (Ne.symm hn),if_neg hn]
   by_cases hx:X=0
   ·subst hx
    simp only [↓reduceIte]
   ·rw [if_neg (by omega),if_neg (by omega),if_neg hx,Nat.sub_zero]
 ·obtain ⟨D,hD⟩:=Int.eq_ofNat_of_zero_le (show 0<=ex-ey by omega)
  have:ex=ey+D:=by omega
  subst this
  rw [o9,Nat.add_zero]
  by_cases hx:X=0
  ·subst hx
   rw [if_pos rfl,Nat.zero_mul,if_pos rfl,if_pos rfl]
  ·have hp:=Nat.two_pow_pos D
   have hpos:0<X*2^D:=Nat.mul_pos (by omega) hp
   rw [if_neg hx]
   by_cases hn:nx=ny
   ·rw [if_pos hn,if_neg (by omega),LV hf hx]
   ·rw [if_neg hn,if_neg (by omega),if_pos hpos,Nat.sub_zero,LV hf hx]
theorem fN {f m:Int} (hf:Fm f) (hm:0<=m/\m<=5) (nx:Bool) (X D:Nat) (ny:Bool) (Y:Nat) (ey:Int) (hX:X<2^53) (hY:Y<2^53) (he:-2000<=ey/\ey+D<=2000) (h0:X≠0∨(Y=0/\nx≠ny)) :
  UL f m nx X (ey+D) ny Y ey=some (((Es f m nx X (ey+D) ny Y ey).1:Int),((Es f m nx X (ey+D) ny Y ey).2:Int),0,()):=by
 rw [o9]
 have hW:=D5 hf
 have hP:=EC hf
 have hU:∃ U dn:Nat,(if (70:Int)<(D:Int) then (70:Int) else (D:Int))=(U:Int)/\D=U+dn/\U<=70/\(dn≠0->U=70):=by
  by_cases h:70<D
  ·exact ⟨70,D-70,by rw [if_pos (by omega)]; rfl,by omega,by omega,fun _=>rfl⟩
  ·exact ⟨D,0,by rw [if_neg (by omega)],by omega,by omega,fun h=>absurd rfl h⟩
 obtain ⟨U,dn,hU1,hU2,hU3,hU4⟩:=hU
 have e1:IntKind.wrap .i64 (ey+(D:Int)-ey)=(D:Int):=by rw [As (by omega)]; omega
 have e2:IntKind.wrap .i64 (ey+(D:Int)-(U:Int))=ey+(dn:Int):=by rw [As (by omega)]; omega
 have e3:IntKind.wrap .i64 (ey+(dn:Int)-ey)=(dn:Int):=by rw [As (by omega)]; omega
 have hpU:=Nat.two_pow_pos U
 have hpd:=Nat.two_pow_pos dn
 have hU70:2^U<=2^70:=Nat.pow_le_pow_right (by decide) hU3
 have hH:X*2^U<2^123:=by
  have h1:X*2^U<=X*2^70:=Nat.mul_le_mul_left _ hU70
  have h2:X*2^70<2^53*2^70:=Nat.mul_lt_mul_of_pos_right hX (by decide)
  omega
 have hXD:X*2^D=X*2^U*2^dn:=by rw [hU2,Nat.pow_add,Nat.mul_assoc]
 have hbig:Y%2^dn≠0->2^70<=X*2^U/\X≠0:=fun h=>by
  have hd:dn≠0:=fun h1=>by rw [h1,Nat.pow_zero,Nat.mod_one] at h; exact h rfl
  have hy:Y≠0:=fun h1=>by rw [h1,Nat.zero_mod] at h; exact h rfl
  have hx:X≠0:=by
   rcases h0 with h | h
   ·exact h
   ·exact absurd h.1 hy
  refine ⟨?_,hx⟩
  rw [hU4 hd]
  exact Nat.le_mul_of_pos_left _ (by omega)
 have hYL:Y/2^dn<=Y:=Nat.div_le_self _ _
 have hLd:Y/2^dn*2^dn<=Y:=Nat.div_mul_le_self _ _
 have p1:O1 (((0:Int),((X:Int),())),((U:Int),()))=some (Wi (X*2^U),()):=by
  rw [aCJ (by omega),rS _ _ (by omega),Nat.mod_eq_of_lt (by omega)]
 have p2:Ur (((0:Int),((Y:Int),())),((dn:Int),()))=some (Wi (Y/2^dn),()):=by
  rw [aCJ (by omega),aK4 _ _ (by omega)]
 have p3:O1 (Wi (Y/2^dn),((dn:Int),()))=some (Wi (Y/2^dn*2^dn),()):=by
  rw [rS _ _ (by omega),Nat.mod_eq_of_lt (by omega)]
 have p4:=aIL (X*2^U) (Y/2^dn) (by omega)
 have p5:=aE2 (X*2^U) (Y/2^dn)
 have pz:=MK hf (m==4)
 unfold UL
 simp only [e1,hU1,e2,e3,iX p1,lL p1,aOQ p2,aMU p2,iX p3,lL p3,cond_true,aJJ p4,aQ9 p4,aE5 p5,aDl p5,aKY (show Y<2^64 by omega)]
 have hdm:=Nat.div_add_mod Y (2^dn)
 have hml:=Nat.mod_lt Y hpd
 have hX0H:X=0->X*2^U=0:=fun h=>by rw [h,Nat.zero_mul]
 have hXb:X≠0->dn≠0->2^70<=X*2^U:=fun h1 h2=>by rw [hU4 h2]; exact Nat.le_mul_of_pos_left _ (by omega)
 have hHp:X≠0->0<X*2^U:=fun h=>Nat.mul_pos (by omega) hpU
 clear e1 e2 e3 p1 p2 p3
 rw [Nat.mul_comm] at hdm
 generalize hHe:X*2^U=H at *
 generalize hLe:Y/2^dn=L at *
 generalize hRe:Y%2^dn=R at *
 by_cases hn:nx=ny
 ·subst hn
  rw [if_pos rfl,show (nx==nx)=true by cases nx <;> rfl,cond_true]
  have hX0:X≠0:=by
   rcases h0 with h | h
   ·exact h
   ·exact absurd rfl h.2
  have hHp:=hHp hX0
  have hN:X*2^D+Y=Y+H*2^dn:=by rw [hXD,Nat.add_comm]
  have hNd:(X*2^D+Y)/2^dn=H+L:=by rw [hN,Nat.add_mul_div_right _ _ hpd,hLe,Nat.add_comm]
  have hNm:(X*2^D+Y)%2^dn=R:=by rw [hN,Nat.add_mul_mod_self_right,hRe]
  have hbl:R≠0->fP f+2<=An (H+L):=fun h=>by
   have h1:=(hbig h).1
   have:=kB (n:=H+L) (k:=70) (by omega)
   omega
  have p6:=KQ hf hm nx (H+L) (by omega) (ey+(dn:Int)) (by omega) (decide (R≠0)) (fun h=>hbl (by simpa using h))
  rw [if_neg (by omega)] at p6
  simp only [HA p6,Hc p6,cond_true]
  have htr:=YQ (f:=f) (m:=m) (neg:=nx) (N:=X*2^D+Y) (k:=dn) (E:=ey) hf (by rw [hNd]; omega) (by rw [hNd,hNm]; exact hbl)
  rw [hNd,hNm] at htr
  have hpp:0<H*2^dn:=Nat.mul_pos hHp hpd
  rw [htr,if_neg (by rw [hXD]; omega)]
 ·rw [if_neg hn,show (nx==ny)=false by cases nx <;> cases ny <;> first | rfl | exact absurd rfl hn,cond_false]
  by_cases hlt:H<L
  ·-- low is the greater: nothing is lost
   have hm0:R=0:=by
    by_cases h:R=0
    ·exact h
    ·have:=(hbig h).1; omega
   have hdn:dn=0:=by
    by_cases h:dn=0
    ·exact h
    ·exfalso
     rcases h0 with h1 | h1
     ·have h2:=hXb h1 h
      omega
     ·have:=h1.1; omega
   subst hdn
   have hY1:Y=L:=by rw [← hLe]; simp
   subst hY1
   have hXD1:X*2^D=H:=by rw [hXD]; simp
   rw [hm0,hXD1]
   have p7:=nX Y H (by omega) (by omega)
   have p6:=KQ hf hm ny (Y-H) (by omega) (ey+((0:Nat):Int)) (by omega) false (fun h=>by cases h)
   rw [if_neg (by omega)] at p6
   have z1:decide ((if H=Y then (0:Int) else if H<Y then -1 else 1)<0)=true:=by
    rw [if_neg (by omega),if_pos hlt]; rfl
   have z2:decide ((0:Nat)≠0)=false:=by decide
   have z3:=aFY (n:=Y-H) (by omega)
   rw [decide_eq_false (p:=Y-H=0) (by omega)] at z3
   simp only [z1,z2,cond_true,cond_false,wI p7,sW p7,z3,Bool.false_and,HA p6,Hc p6]
   rw [if_neg (by omega),if_neg (by omega),Int.natCast_zero,Int.add_zero]
  ·have hge:L<=H:=by omega
   have p7:=nX H L (by omega) hge
   have z1:decide ((if H=L then (0:Int) else if H<L then -1 else 1)<0)=false:=by
    by_cases h:H=L
    ·rw [if_pos h]; rfl
    ·rw [if_neg h,if_neg hlt]; rfl
   simp only [z1,cond_false,wI p7,sW p7,cond_true]
   by_cases hm0:R=0
   ·rw [hm0,show decide ((0:Nat)≠0)=false by decide,cond_false]
    have hYe:Y=L*2^dn:=by omega
    have z3:=aFY (n:=H-L) (by omega)
    rw [z3]
    by_cases hz:H-L=0
    ·have heq:X*2^D=Y:=by rw [hXD,hYe,show H=L by omega]
     rw [decide_eq_true hz,if_pos heq]
     simp only [Bool.not_false,Bool.and_self,cond_true,LE pz,Mz pz]
     rfl
    ·rw [decide_eq_false hz]
     have p6:=KQ hf hm nx (H-L) (by omega) (ey+(dn:Int)) (by omega) false (fun h=>by cases h)
     rw [if_neg hz] at p6
     simp only [Bool.false_and,cond_false,HA p6,Hc p6,cond_true]
     have hN:X*2^D-Y=(H-L)*2^dn:=by rw [hXD,Nat.sub_mul,← hYe]
     have hpp:0<(H-L)*2^dn:=Nat.mul_pos (by omega) hpd
     have hlt2:Y<X*2^D:=by omega
     rw [if_neg (by omega),if_pos hlt2,hN,LV hf hz]
   ·rw [decide_eq_true (p:=R≠0) hm0,cond_true]
    obtain ⟨hb1,hX0⟩:=hbig hm0
    have p8:=nX (H-L) 1 (by omega) (by omega)
    rw [← aNu] at p8
    have hbl:fP f+2<=An (H-L-1):=by
     have:=kB (n:=H-L-1) (k:=69) (by omega)
     omega
    have p6:=KQ hf hm nx (H-L-1) (by omega) (ey+(dn:Int)) (by omega) true (fun _=>hbl)
    rw [if_neg (by omega)] at p6
    simp only [wI p8,sW p8,cond_true,Bool.not_true,Bool.and_false,cond_false,HA p6,Hc p6]
    have h2:(L+1+(H-L-1))*2^dn=H*2^dn:=by rw [show L+1+(H-L-1)=H by omega]
    rw [Nat.add_mul,Nat.add_mul,Nat.one_mul] at h2
    have hN:X*2^D-Y=(2^dn-R)+(H-L-1)*2^dn:=by rw [hXD]; omega
    have hlt2:Y<X*2^D:=by omega
    have hNd:(X*2^D-Y)/2^dn=H-L-1:=by
     rw [hN,Nat.add_mul_div_right _ _ hpd,Nat.div_eq_of_lt (by omega),Nat.zero_add]
    have hNm:(X*2^D-Y)%2^dn=2^dn-R:=by
     rw [hN,Nat.add_mul_mod_self_right,Nat.mod_eq_of_lt (by omega)]
    have htr:=YQ (f:=f) (m:=m) (neg:=nx) (N:=X*2^D-Y) (k:=dn) (E:=ey) hf (by rw [hNd]; omega) (fun _=>by rw [hNd]; exact hbl)
    rw [hNd,hNm,decide_eq_true (p:=2^dn-R≠0) (by omega)] at htr
    rw [htr,if_neg (by omega),if_pos hlt2]
theorem aTa {f m:Int} (hf:Fm f) (hm:0<=m/\m<=5) (nx:Bool) (X:Nat) (ex:Int) (ny:Bool) (Y:Nat) (ey:Int) (hX:X<2^53) (hY:Y<2^53) (hex:-2000<=ex/\ex<=2000) (hey:-2000<=ey/\ey<=2000) :
  U9 (f,m,(nx,(X:Int),ex,()),(ny,(Y:Int),ey,()),())=some (((Es f m nx X ex ny Y ey).1:Int),((Es f m nx X ex ny Y ey).2:Int),0,()):=by
 rw [aRA]
 by_cases hX0:X=0
 ·subst hX0
  by_cases hYn:Y=0/\nx=ny
  ·obtain ⟨rfl,rfl⟩:=hYn
   have p0:=MK hf nx
   rw [show ((((0:Nat):Int)==0)&&(((0:Nat):Int)==0)&&(nx==nx))=true by cases nx <;> rfl,cond_true]
   simp only [LE p0,Mz p0,cond_true]
   rw [V6 hf,if_pos rfl,if_pos rfl]
   rfl
  ·have hg:((((0:Nat):Int)==0)&&(((Y:Nat):Int)==0)&&(nx==ny))=false:=by
    by_cases hy:Y=0
    ·have:nx≠ny:=fun h=>hYn ⟨hy,h⟩
     subst hy
     cases nx <;> cases ny <;> first | rfl | exact absurd rfl this
    ·rw [AU Y hy,Bool.and_false,Bool.false_and]
   have h1:(((0:Nat):Int)==0)=true:=rfl
   rw [hg,cond_false,h1,Bool.true_or,cond_true,cond_true]
   have ht:=fN hf hm ny Y 0 nx 0 ey hY hX (by omega) (by
    by_cases hy:Y=0
    ·exact .inr ⟨rfl,fun h=>hYn ⟨hy,h.symm⟩⟩
    ·exact .inl hy)
   rw [Int.natCast_zero,Int.add_zero] at ht
   rw [Int.natCast_zero,ht,vX f m nx 0 ex,V6 hf,V6 hf]
 ·have hx0:((X:Int)==0)=false:=AU _ hX0
  rw [hx0,Bool.false_and,Bool.false_and,cond_false,Bool.false_or,cond_false]
  by_cases hY0:Y=0
  ·subst hY0
   have ht:=fN hf hm nx X 0 ny 0 ex hX hY (by omega) (.inl hX0)
   rw [Int.natCast_zero,Int.add_zero] at ht
   rw [show (((0:Nat):Int) != 0)=false by rfl,Bool.false_and,cond_false,show (((0:Nat):Int)==0)=true by rfl,cond_true,Int.natCast_zero,ht,V6 hf,V6 hf]
  ·rw [Bg _ hY0,Bool.true_and,AU _ hY0,cond_false]
   by_cases hlt:ex<ey
   ·rw [decide_eq_true hlt,cond_true]
    obtain ⟨D,hD⟩:=Int.eq_ofNat_of_zero_le (show 0<=ey-ex by omega)
    have hee:ey=ex+D:=by omega
    subst hee
    rw [fN hf hm ny Y D nx X ex hY hX (by omega) (.inl hY0),vX f m ny Y]
   ·rw [decide_eq_false hlt,cond_false]
    obtain ⟨D,hD⟩:=Int.eq_ofNat_of_zero_le (show 0<=ex-ey by omega)
    have hee:ex=ey+D:=by omega
    subst hee
    rw [fN hf hm nx X D ny Y ey hX hY (by omega) (.inl hX0)]
end VL
namespace VL
open Go Vx
def Hs (l:List Nat):Prop:=(∀ x∈l,x<2^32)/\l.length<=1000000
theorem Hs.dg {n:Nat} (h:n<2^100000):Hs (dg (2^32) n):=by
 refine ⟨Ga (by decide) n,?_⟩
 have:n<(2^32)^3125:=by rw [← Nat.pow_mul]; exact h
 have:=C0 (B:=2^32) (by decide) 3125 n this
 omega
theorem mA (n:Nat) (h:n<2^64):IntKind.wrap .u64 (n:Int)=(n:Int):=DW (by omega)
theorem sO (a b:Nat) (h:a*b<2^64):IntKind.wrap .u64 ((a:Int)*(b:Int))=((a*b:Nat):Int):=by
 rw [← Int.natCast_mul,mA _ h]
theorem Ug (a b:Nat) (h:a+b<2^64):IntKind.wrap .u64 ((a:Int)+(b:Int))=((a+b:Nat):Int):=by
 rw [← Int.natCast_add,mA _ h]
theorem XE {B:Nat} {l:List Nat} {v:Nat} (h:∀ x∈l,x<B) (hv:v<B):∀ x∈l++[v],x<B:=fun x hx=>by
 rcases List.mem_append.1 hx with hx | hx
 ·exact h x hx
 ·have:x=v:=by simpa using hx
  rw [this]; exact hv
theorem WD (B:Nat) (l:List Nat) (v:Nat):nv B (l++[v])=nv B l+B^l.length*v:=by
 rw [S7]; simp [nv]
theorem aBd (B n:Nat):nv B (List.replicate n 0)=0:=by
 induction n with
 | zero=>rfl
 | succ n ih=>rw [List.replicate_succ]; simp [nv,ih]
end VL
namespace VL
open Go Vx
theorem VP (B:Nat) (l:List Nat) (i:Nat) (h:i<l.length):nv B (l.drop i)=l.getD i 0+B*nv B (l.drop (i+1)):=by
 rw [List.drop_eq_getElem_cons h,List.getD_eq_getElem?_getD,List.getElem?_eq_getElem h]; rfl
theorem aMh {B:Nat} (hB:2<=B) {l:List Nat} (h:∀ x∈l,x<B) (i:Nat):nv B (l.take i)<B^i:=by
 have:=DU hB (l.take i) fun x hx=>h x (List.mem_of_mem_take hx)
 refine Nat.lt_of_lt_of_le this (Nat.pow_le_pow_right (by omega) ?_)
 rw [List.length_take]
 exact Nat.min_le_left _ _
theorem aPT {P A A' X Y:Nat} (h:A<P) (hxy:X<Y):A+P*X<A'+P*Y:=by
 have:P*(X+1)<=P*Y:=Nat.mul_le_mul_left _ hxy
 rw [Nat.mul_add,Nat.mul_one] at this
 omega
theorem N0 {B:Nat} (hB:2<=B) {a b:List Nat} (ha:∀ x∈a,x<B) {i:Nat} (hia:i<a.length) (hib:i<b.length) (hd:nv B (a.drop (i+1))=nv B (b.drop (i+1))) (h:a.getD i 0<b.getD i 0):nv B a<nv B b:=by
 rw [LS B a i (by omega),LS B b i (by omega),VP B a i hia,VP B b i hib,hd]
 exact aPT (aMh hB ha i) (by omega)
theorem pH {B:Nat} (hB:2<=B) {x y:Nat} (h:(dg B x).length<(dg B y).length):x<y:=by
 have h1:=RT hB x
 rcases Nat.lt_or_ge x y with h2 | h2
 ·exact h2
 ·have:=C0 hB (dg B x).length y (by omega)
  omega
theorem aVd {P B A A' O a b c c' v:Nat} (h:A+P*c=A'+O) (h2:a+B*c'=b+c+v):A+P*a+P*B*c'=A'+P*b+(O+P*v):=by
 have h3:P*(a+B*c')=P*(b+c+v):=by rw [h2]
 rw [Nat.mul_add,Nat.mul_add,Nat.mul_add,← Nat.mul_assoc] at h3
 omega
theorem aGa {B:Nat} (hB:2<=B) {x y:Nat} (h:y<=x):(dg B y).length<=(dg B x).length:=by
 rcases Nat.lt_or_ge (dg B x).length (dg B y).length with h1 | h1
 ·have:=pH hB h1; omega
 ·exact h1
theorem Hs.len {n:Nat} (h:n<2^100000):(VL.dg (2^32) n).length<=3125:=by
 have:n<(2^32)^3125:=by rw [← Nat.pow_mul]; exact h
 exact C0 (B:=2^32) (by decide) 3125 n this
theorem aPS (x:Nat):Int.tmod (x:Int) 2=((x%2:Nat):Int):=rfl
theorem Wb (x m:Nat) (h:x<2^64) (hm:0<m):BD .u64 (x:Int) (m:Int)=((x/m:Nat):Int):=by
 unfold BD
 have e:(x:Int).tdiv (m:Int)=((x/m:Nat):Int):=rfl
 have:=Nat.div_le_self x m
 generalize x/m=q at *
 rw [e,DW (by omega)]
end VL
namespace VL
open Go Vx
theorem E9 {f:Int} (hf:Fm f):fP f<=53:=by
 rcases C5 hf with rfl | rfl | rfl | rfl <;> decide
theorem aLj {f m:Int} (hf:Fm f) {neg:Bool} {n:Nat} {e q:Int} (h:AF n e-fP f+1<=q):BE m neg n e q false<=2^fP f:=m7 h
end VL
namespace VL
open Go Vx
def CP (nx:Bool) (X:Nat) (ex:Int) (ny:Bool) (Y:Nat) (ey:Int):Bool×Nat×Int :=
 if X=0 then (ny,Y,ey) else if Y=0 then (nx,X,ex) else
 let e:=if ey<ex then ey else ex
 let a:=X*2^(ex-e).toNat
 let b:=Y*2^(ey-e).toNat
 if nx=ny then (nx,a+b,e) else if b<=a then (nx,a-b,e) else (ny,b-a,e)
def Ad (f:Int) (a:Nat):Nat:=if eF f a=0 then mF f a else mF f a+2^(fP f-1)
def Af (f:Int) (a:Nat):Int:=1-(fX f:Int)-(fP f:Int)+1+(if eF f a=0 then 0 else (eF f a:Int)-1)
theorem SE (f:Int) (a:Nat):mF f a<2^(fP f-1):=Nat.mod_lt _ (Nat.two_pow_pos _)
theorem FB {f:Int} (hf:Fm f) (a:Nat):Ad f a<2^53:=by
 have h1:=SE f a
 have h2:=Dq hf
 have h3:=EC hf
 have h4:=D5 hf
 have h5:2^(fP f-1)<=2^52:=Nat.pow_le_pow_right (by decide) (by rcases C5 hf with rfl | rfl | rfl | rfl <;> decide)
 unfold Ad
 split <;> omega
theorem Sf {f:Int} (hf:Fm f) (a:Nat):eF f a<2048:=by
 have:2^(fW f-fP f)<=2^11:=Nat.pow_le_pow_right (by decide) (by rcases C5 hf with rfl | rfl | rfl | rfl <;> decide)
 have h:eF f a<2^(fW f-fP f):=Nat.mod_lt _ (Nat.two_pow_pos _)
 omega
theorem FN {f:Int} (hf:Fm f) (a:Nat):-2000<=Af f a/\Af f a<=2000:=by
 have h1:=Sf hf a
 have h2:=Ho hf
 have h3:=E9 hf
 have h4:=Rp hf
 have h5:=Dq hf
 have h6:(eF f a:Int)<=2*fX f+1:=by
  have:eF f a<2^(fW f-fP f):=Nat.mod_lt _ (Nat.two_pow_pos _)
  have:=aGG hf
  omega
 unfold Af
 split <;> omega
def Au (f:Int) (a:Nat):Bool:=eF f a==BG f&&mF f a==0
def aCC (f m:Int) (a b:Nat):Int×Int×Int×Unit :=
 bif AK f a||AK f b then ((CE f:Int),1,0,())
 else bif nan f a||nan f b then ((CE f:Int),0,0,())
 else bif (Au f a&&Au f b)&&!(sF f a==sF f b) then ((CE f:Int),1,0,())
 else bif Au f a then ((a:Int),0,0,())
 else bif Au f b then ((b:Int),0,0,())
 else (((Es f m (sF f a) (Ad f a) (Af f a) (sF f b) (Ad f b) (Af f b)).1:Int),((Es f m (sF f a) (Ad f a) (Af f a) (sF f b) (Ad f b) (Af f b)).2:Int),0,())
def OJ (f m:Int) (a b:Nat):Int×Int×Int×Unit :=
 if Fm f then (if 0<=m/\m<=5 then (if Am f a=0/\Am f b=0 then aCC f m a b else (0,0,4,())) else (0,0,3,())) else (0,0,2,())
def eZ (f m:Int) (a b:Nat):Int×Int×Int×Unit:=OJ f m a (if Am f b=0 then Ii f b else b)
theorem aLS {f:Int} {b:Nat} (h:Am f b=0):Ii f b<2^64:=J4 (aPg (CT h).1 b)
end VL
namespace VL
open Go Vx
theorem Su {f:Int} {a:Nat} (h:Am f a=0):WG (f,(a:Int),())=some (sF f a,(eF f a:Int),(mF f a:Int),0,()):=by
 obtain ⟨hf,h0⟩:=CT h
 have ha:=J4 h
 show gE Ar.pre Ar.F Dr.pre Dr.F f a=_
 unfold gE
 have p0:=Ex f a ha
 have p2:=mB hf a ha
 have hr1:decide (0<=f)=true:=decide_eq_true hf.1
 have hr2:decide (f<((4:Nat):Int))=true:=decide_eq_true hf.2
 simp only [dE hf,hr1,hr2,Dv p0,Dy p0,eR p2,kS p2,h,cond_true,bne_self_eq_false,cond_false]
theorem aBn {f:Int} {a:Nat} (h:Am f a=0):W6 (f,Br f,(a:Int),())=some ((sF f a,(Ad f a:Int),Af f a,()),()):=by
 obtain ⟨hf,h0⟩:=CT h
 show eH Bq.pre Bq.F f (Br f) a=_
 unfold eH
 have h1:=Dq hf
 have h3:=E9 hf
 have h4:=Ho hf
 have hE:=Sf hf a
 have hM:=SE f a
 have hPp:2^(fP f-1)<=2^52:=Nat.pow_le_pow_right (by decide) (by omega)
 have p0:=Su h
 have r1:(Br f).2.1=(fP f:Int):=rfl
 have r2:(Br f).2.2.1=1-(fX f:Int):=rfl
 have e0:IntKind.wrap .i64 ((fP f:Int)-1)=((fP f-1:Nat):Int):=Bn _ (by omega)
 have e1:IntKind.wrap .i64 (IntKind.wrap .i64 ((1-(fX f:Int))-(fP f:Int))+1)=1-(fX f:Int)-(fP f:Int)+1:=by
  rw [As (n:=_-(fP f:Int)) (by omega),As (by omega)]
 have e2:IntKind.wrap .i64 (eF f a:Int)=(eF f a:Int):=As (by omega)
 have e3:AT .u64 1 ((fP f-1:Nat):Int)=((2^(fP f-1):Nat):Int):=KT (by omega)
 have e4:AX .u64 (mF f a:Int) ((2^(fP f-1):Nat):Int)=((mF f a+2^(fP f-1):Nat):Int):=by
  have:=Fc (a:=mF f a) (b:=1) (k:=fP f-1) hM (by omega)
  rwa [Nat.one_mul] at this
 simp only [RW p0,Sq p0,cond_true,r1,r2,e0,e1,e2,e3,e4,AW]
 by_cases hz:eF f a=0
 ·have hg:decide ((eF f a:Int)>0)=false:=decide_eq_false (by omega)
  have hm:Ad f a=mF f a:=by unfold Ad; rw [if_pos hz]
  have hx:Af f a=1-(fX f:Int)-(fP f:Int)+1:=by unfold Af; rw [if_pos hz,Int.add_zero]
  rw [hg,cond_false,hm,hx]
 ·have hg:decide ((eF f a:Int)>0)=true:=decide_eq_true (by omega)
  have hm:Ad f a=mF f a+2^(fP f-1):=by unfold Ad; rw [if_neg hz]
  have hx:IntKind.wrap .i64 ((1-(fX f:Int)-(fP f:Int)+1)+IntKind.wrap .i64 ((eF f a:Int)-1))=Af f a:=by
   unfold Af; rw [if_neg hz,As (n:=(eF f a:Int)-1) (by omega),As (by omega)]
  rw [hg,cond_true,hm,hx]
theorem VA (f:Int) (a:Nat):(Av f a==2||Av f a==9)=Au f a:=by
 unfold Av Au
 cases eF f a==BG f <;> cases eF f a==0 <;> cases mF f a==0 <;> cases sF f a <;> cases mF f a/2^(fP f-2) != 0 <;> rfl
theorem aKi (f:Int) (a b:Nat):((Au f a&&Au f b)&&(Av f a != Av f b))=((Au f a&&Au f b)&&!(sF f a==sF f b)):=by
 unfold Av Au
 cases eF f a==BG f <;> cases mF f a==0 <;> cases eF f b==BG f <;> cases mF f b==0 <;> first | rfl | (cases sF f a <;> cases sF f b <;> rfl)
theorem r7 (f m:Int) {a b:Nat} (ha:a<2^64) (hb:b<2^64):WV (f,m,(a:Int),(b:Int),())=some (OJ f m a b):=by
 show mN Aq.pre Aq.F AE.pre AE.F AB.pre AB.F P3.pre P3.F Rl.pre Rl.F f m a b=_
 unfold mN OJ
 by_cases hf:Fm f
 ·rw [if_pos hf]
  have p0:=FE hf
  simp only [Dc p0,Dg p0,cond_true,bne_self_eq_false,cond_false]
  by_cases hm:0<=m/\m<=5
  ·have hmm:(decide (m<0)||decide (m>5))=false:=by
    rw [decide_eq_false (p:=m<0) (by omega),decide_eq_false (p:=m>5) (by omega)]; rfl
   rw [if_pos hm,hmm,cond_false]
   have c4:∀ x:Nat,Am f x≠0->Am f x=4:=fun x h=>by
    unfold Am at h ⊢
    rw [if_pos hf] at h ⊢
    split at h
    ·exact absurd rfl h
    ·rename_i h1; rw [if_neg h1]
   by_cases hca:Am f a=0
   ·have p1:=FR ha hca
    by_cases hcb:Am f b=0
    ·have p2:=FR hb hcb
     rw [if_pos ⟨hca,hcb⟩]
     have p3:=En hf
     have p4:=aBn hca
     have p5:=aBn hcb
     have p6:=aTa hf hm (sF f a) (Ad f a) (Af f a) (sF f b) (Ad f b) (Af f b) (FB hf a) (FB hf b) (FN hf a) (FN hf b)
     simp only [Dx p1,Du p1,Dx p2,Du p2,cond_true,bne_self_eq_false,cond_false,Fx p3,Fp p3,yF p4,aG2 p4,yF p5,aG2 p5,aOx p6,aRG p6,VA,aKi]
     unfold aCC
     rw [← E0,← E0,← G9,← G9]
     generalize ((Au f a&&Au f b)&&!(sF f a==sF f b))=w1
     generalize Au f a=w2
     generalize Au f b=w3
     generalize (Av f a==0)=x1
     generalize (Av f b==0)=x2
     generalize (Av f a==1)=x3
     generalize (Av f b==1)=x4
     cases x1 <;> cases x2 <;> cases x3 <;> cases x4 <;> cases w1 <;> cases w2 <;> cases w3 <;> rfl
    ·have p2:=SF hb hcb
     rw [if_neg (fun h=>hcb h.2)]
     have hne:(Am f b != 0)=true:=by simpa using hcb
     simp only [Dx p1,Du p1,Dx p2,Du p2,cond_true,bne_self_eq_false,cond_false,hne]
     rw [c4 b hcb]
   ·have p1:=SF ha hca
    rw [if_neg (fun h=>hca h.1)]
    have hne:(Am f a != 0)=true:=by simpa using hca
    simp only [Dx p1,Du p1,cond_true,hne]
    rw [c4 a hca]
  ·rw [if_neg hm]
   have:(decide (m<0)||decide (m>5))=true:=by
    by_cases h:m<0
    ·rw [decide_eq_true h]; rfl
    ·rw [decide_eq_true (p:=m>5) (by omega),Bool.or_true]
   rw [this]; rfl
 ·rw [if_neg hf]
  have p0:=GH hf
  simp only [Dc p0,Dg p0]
  rfl
theorem aJe (f m:Int) {a b:Nat} (ha:a<2^64) (hb:b<2^64):XC (f,m,(a:Int),(b:Int),())=some (eZ f m a b):=by
 show jG Ar.pre Ar.F DO.pre DO.F FJ.pre FJ.F f m a b=_
 unfold jG eZ
 have p0:=Ex f b hb
 by_cases h:Am f b=0
 ·have p1:=nG h
  have p2:=r7 f m ha (aLS h)
  rw [if_pos h]
  simp only [Dv p0,Dy p0,h,beq_self_eq_true,cond_true,wF p1,vU p1,oE p2,pK p2]
 ·have p2:=r7 f m ha hb
  have hne:(Am f b==0)=false:=by simpa using h
  rw [if_neg h]
  simp only [Dv p0,Dy p0,cond_true,hne,cond_false,oE p2,pK p2]
end VL
namespace VL
open Go Vx
def qm (f:Int):Int:=1-(fX f:Int)-(fP f:Int)+1
theorem aMv {f:Int} (hf:Fm f):2^fP f=2*2^(fP f-1):=by
 have hP:=Dq hf
 rw [← Nat.pow_succ',Nat.succ_eq_add_one,Nat.sub_add_cancel (by omega)]
end VL
namespace VL
open Go Vx
def vI (f:Int) (neg:Bool) (X:Nat) (e:Int):Int:=bif neg then -((X*2^(e-qm f).toNat:Nat):Int) else ((X*2^(e-qm f).toNat:Nat):Int)
end VL
namespace VL
open Go Vx
theorem aVb (f:Int) (a:Nat):qm f<=Af f a:=by
 unfold Af qm
 split <;> omega
def sl (V:Nat->Int) (i:Nat):List Int:=[if 0<i then V 0 else 0,if 1<i then V 1 else 0,if 2<i then V 2 else 0,if 3<i then V 3 else 0,if 4<i then V 4 else 0,if 5<i then V 5 else 0]
end VL
namespace VL
open Go Vx
def vA (f:Int) (a:Nat):Int:=vI f (sF f a) (Ad f a) (Af f a)
end VL
namespace VL
open Go Vx
def tz (n:Nat):Nat:=if n=0 then 0 else if n%2=1 then 0 else tz (n/2)+1
termination_by n
decreasing_by omega
theorem YG:∀ (t k:Nat),tz (2^t*(2*k+1))=t
 | 0,k=>by
  rw [tz,Nat.pow_zero,Nat.one_mul,if_neg (by omega),if_pos (by omega)]
 | t+1,k=>by
  have e:2^(t+1)*(2*k+1)=2*(2^t*(2*k+1)):=by rw [Nat.pow_succ,Nat.mul_comm (2^t) 2,Nat.mul_assoc]
  have hp:0<2^t*(2*k+1):=Nat.mul_pos (Nat.two_pow_pos t) (by omega)
  have ih:=YG t k
  rw [e]
  generalize 2^t*(2*k+1)=n at *
  rw [tz,if_neg (by omega),if_neg (by omega),show 2*n/2=n by omega,ih]
theorem TX {n:Nat} (h:n≠0):∃ k,n=2^tz n*(2*k+1):=by
 obtain ⟨t,k,e⟩:=pO (x:=n) (by omega)
 refine ⟨k,?_⟩
 have:=YG t k
 rw [← e] at this
 rw [this]; exact e
theorem aSp {x i t k r:Nat} (hx:x=2^t*(2*k+1)) (ht:t<64):(2^64)^i*(x+2^64*r)=2^(64*i+t)*(2*(k+2^(64-t-1)*r)+1):=by
 have h1:2^64=2^t*(2^(64-t-1)*2):=by rw [← Nat.pow_succ,← Nat.pow_add]; congr 1; omega
 rw [Cu,hx,Nat.pow_add,Nat.mul_assoc]
 congr 1
 rw [h1,Nat.mul_assoc,← Nat.mul_add]
 congr 1
 rw [Nat.mul_assoc,Nat.mul_left_comm]
 omega
abbrev bZ:=Aa (.pair (.bool) (.pair (.slice (.int .u64)) (.pair (.int .i64) (.unit))))
def dy (s:Bool) (n:Nat) (e:Int):bZ:=(s,Dw n,e,())
theorem zJ:dy false 0 0=(false,[],0,()):=by unfold dy; rw [Dt]
theorem tY (i:Nat) (h:i<=1000000):BD .i64 ((64*i:Nat):Int) 64=(i:Int):=by
 rw [Xy _ (by omega),show 64*i/64=i by omega]
theorem aIg (n:Nat) (h0:n≠0) (hl:(dg (2^64) n).length<=1000000) (M:SH GN.mem) :
  ZN (((0:Int),(Dw n,((),((),())))),M)=some (.inl ((((64*(tz n/64):Nat):Int),(Dw n,((),((),())))),M)):=by
 have key:=Dm (aHJ Bh.pre Bh.F BK.pre BK.F DT.pre DT.F) (fun x=>(dg (2^64) n).length-x.1.1.toNat/64)
  (fun x=>∃ i:Nat,i<=(dg (2^64) n).length/\nv (2^64) ((dg (2^64) n).take i)=0/\x=((((64*i:Nat):Int),(Dw n,((),((),())))),M))
  (fun _=>.inl ((((64*(tz n/64):Nat):Int),(Dw n,((),((),())))),M)) ?_ (((0:Int),(Dw n,((),((),())))),M) ⟨0,Nat.zero_le _,rfl,rfl⟩
 ·exact key
 intro L x hx hL
 obtain ⟨i,hi,hz,rfl⟩:=hx
 have hnv:=Cd n
 have ha:=Ga (B:=2^64) (by decide) n
 have hlt:i<(dg (2^64) n).length:=by
  rcases Nat.lt_or_ge i (dg (2^64) n).length with h | h
  ·exact h
  ·rw [List.take_of_length_le h,hnv] at hz; exact absurd hz h0
 unfold VU
 have e64:IntKind.wrap .i64 (((64*i:Nat):Int)+64)=((64*(i+1):Nat):Int):=by rw [As (by omega)]; omega
 have hxl:=Cq (by decide) ha i
 unfold Dw at hL ⊢
 rcases Nat.eq_zero_or_pos ((dg (2^64) n).getD i 0) with hw | hw
 ·simp (disch:=omega) only [tY,B8,BM,B0,BC,Bn,BX,BP,BQ,B4,BZ,Ca,Cc,Cb,BW,B5,BU,B7,BJ,AW,By,AU,Bg,BH,Int.toNat_natCast,Int.toNat_zero,cond_true,cond_false,Bool.and_self,Bool.true_and,Bool.and_true,Bool.false_and,Bool.and_false,Bool.not_true,Bool.not_false,Bool.or_self,Bool.true_or,Bool.or_true,Bool.false_or,Bool.or_false,AA,B9,e64]
  refine hL _ ⟨i+1,by omega,?_,rfl⟩ (by simp only [Int.toNat_natCast]; omega)
  rw [Zc _ _ _ hlt,hz,hw,Nat.mul_zero]
 ·simp (disch:=omega) only [tY,B8,BM,B0,BC,Bn,BX,BP,BQ,B4,BZ,Ca,Cc,Cb,BW,B5,BU,B7,BJ,AW,By,AU,Bg,BH,Int.toNat_natCast,Int.toNat_zero,cond_true,cond_false,Bool.and_self,Bool.true_and,Bool.and_true,Bool.false_and,Bool.and_false,Bool.not_true,Bool.not_false,Bool.or_self,Bool.true_or,Bool.or_true,Bool.false_or,Bool.or_false,AA,B9]
  obtain ⟨t,k,e⟩:=pO hw
  have ht:t<64:=by
   have h1:2^t*1<=2^t*(2*k+1):=Nat.mul_le_mul_left _ (by omega)
   exact (Nat.pow_lt_pow_iff_right (a:=2) (by decide)).1 (by omega)
  have hv:n=(2^64)^i*((dg (2^64) n).getD i 0+2^64*nv (2^64) ((dg (2^64) n).drop (i+1))):=by
   have h1:=LS (2^64) (dg (2^64) n) i hi
   rw [hnv,hz,Nat.zero_add,VP _ _ _ hlt] at h1
   exact h1
  rw [aSp e ht] at hv
  have htz:tz n=64*i+t:=by rw [hv]; exact YG _ _
  rw [htz,show (64*i+t)/64=i by omega]
theorem aP4 (s:Bool) (l:List Nat) (hl:Ws l) (e:Int) (he:-100000000<=e/\e<=100000000) :
  E2 ((s,Wd l,e,()),())=some (if nv (2^64) l=0 then dy false 0 0 else dy s (nv (2^64) l/2^tz (nv (2^64) l)) (e+tz (nv (2^64) l)),()):=by
 show dS Bh.pre Bh.F BK.pre BK.F DT.pre DT.F ZN (s,Wd l,e,())=_
 unfold dS
 dsimp only
 have p0:=Xh l hl
 simp only [Ue p0,Tu p0,cond_true]
 have hlt:=DU (B:=2^64) (by decide) l hl.1
 have hll:=hl.2
 generalize hn:nv (2^64) l=n at *
 have hdl:(dg (2^64) n).length<=1000000:=Nat.le_trans (C0 (by decide) _ _ hlt) hll
 by_cases h0:n=0
 ·subst h0
  rw [Dt,if_pos rfl,zJ]; rfl
 ·have hlen:(((Dw n).length:Int)==0)=false:=AU _ (by have:=Iy h0; omega)
  rw [hlen,cond_false,if_neg h0]
  have hw:=aIg n h0 hdl ((s,Wd l,e,()),(false,[],0,()),())
  rw [show ZN (((0:Int),(Dw n,((),((),())))),((s,Wd l,e,()),((false,([],((0:Int),()))),())))=_ from hw]
  dsimp only [A3,A6]
  obtain ⟨k,hk⟩:=TX h0
  have htl:tz n/64<(dg (2^64) n).length:=by
   rcases Nat.lt_or_ge (tz n/64) (dg (2^64) n).length with h | h
   ·exact h
   ·exfalso
    have h1:=RT (B:=2^64) (by decide) n
    rw [Cu] at h1
    have h2:2^(64*(dg (2^64) n).length)<=2^tz n:=Nat.pow_le_pow_right (by decide) (by omega)
    have h3:2^tz n*1<=2^tz n*(2*k+1):=Nat.mul_le_mul_left _ (by omega)
    omega
  have hword:∃ k',(dg (2^64) n).getD (tz n/64) 0=2^(tz n%64)*(2*k'+1):=by
   have h1:(dg (2^64) n).getD (tz n/64) 0=n/(2^64)^(tz n/64)%2^64:=by
    have h2:dg (2^64) n=pd (2^64) (dg (2^64) n).length n:=fC (by decide) (Ga (by decide) n) rfl (Cd n)
    rw [h2,Xa _ _ _ _ htl]
   have h3:n/(2^64)^(tz n/64)=2^(tz n%64)*(2*k+1):=by
    have h4:2^tz n=(2^64)^(tz n/64)*2^(tz n%64):=by rw [Cu,← Nat.pow_add]; congr 1; omega
    have h5:n=(2^64)^(tz n/64)*(2^(tz n%64)*(2*k+1)):=by rw [← Nat.mul_assoc,← h4]; exact hk
    have h6:=Nat.mul_div_cancel_left (2^(tz n%64)*(2*k+1)) (show 0<(2^64)^(tz n/64) from Nat.pow_pos (by decide))
    rw [← h5] at h6
    exact h6
   rw [h1,h3]
   have hr:tz n%64<64:=Nat.mod_lt _ (by decide)
   generalize tz n%64=r at *
   have h6:2^64=2^r*(2^(64-r-1)*2):=by rw [← Nat.pow_succ,← Nat.pow_add]; congr 1; omega
   rw [h6,Nat.mul_mod_mul_left]
   refine ⟨(2*k+1)%(2^(64-r-1)*2)/2,?_⟩
   congr 1
   have h7:(2*k+1)%(2^(64-r-1)*2)%2=(2*k+1)%2:=Nat.mod_mod_of_dvd _ ⟨_,Nat.mul_comm _ _⟩
   omega
  obtain ⟨k',hk'⟩:=hword
  have hwl:=Cq (B:=2^64) (by decide) (Ga (by decide) n) (tz n/64)
  have p1:=gI (t:=tz n%64) (k:=k') (by rw [← hk']; exact hwl)
  rw [← hk'] at p1
  have p2:=wV (dg (2^64) n) (aEp n hdl) (tz n) (by omega)
  rw [Cd] at p2
  have e1:IntKind.wrap .i64 (((64*(tz n/64):Nat):Int)+((tz n%64:Nat):Int))=(tz n:Int):=by rw [As (by omega)]; omega
  have e2:IntKind.wrap .i64 (e+(tz n:Int))=e+(tz n:Int):=As (by omega)
  have hg:decide (((tz n/64:Nat):Int)<((dg (2^64) n).length:Int))=true:=decide_eq_true (by omega)
  unfold Dw at *
  simp (disch:=omega) only [tY,B8,BM,B0,BC,Bn,BX,BP,BQ,B4,BZ,Ca,Cc,Cb,BW,B5,BU,B7,BJ,AW,By,AU,Bg,BH,Int.toNat_natCast,Int.toNat_zero,cond_true,cond_false,Bool.and_self,Bool.true_and,Bool.and_true,Bool.false_and,Bool.and_false,Bool.not_true,Bool.not_false,Bool.or_self,Bool.true_or,Bool.or_true,Bool.false_or,Bool.or_false,AA,B9,jO p1,cE p1,e1,Kv p2,KG p2,e2]
  rfl
theorem ZR (s:Bool) {n:Nat} (hn:n<(2^64)^5000) (e:Int) (he:-100000000<=e/\e<=100000000) :
  E2 (dy s n e,())=some (if n=0 then dy false 0 0 else dy s (n/2^tz n) (e+tz n),()):=by
 have:=aP4 s (dg (2^64) n) (Dl hn) e he
 rw [Cd] at this
 exact this
theorem aBG (k:Nat):tz (2*k+1)=0:=by have:=YG 0 k; rwa [Nat.pow_zero,Nat.one_mul] at this
theorem aNx {l:List Nat} {i:Nat} (h:i<l.length):l.set i (l.getD i 0)=l:=by
 rw [List.getD_eq_getElem?_getD,List.getElem?_eq_getElem h]
 exact List.set_getElem_self h
theorem aPv (a:List Nat) (ha:∀ x∈a,x<2^64) (hlen:a.length<=1000000) (w s:Nat) (hs:s<64) (hw:w<=10000000) (i:Nat) (hi:i<=a.length) :
  cX (((a.length:Int),(Wd a,((w:Int),((s:Int),((i:Int),((),())))))),(Wd (pd (2^64) (w+a.length+1) (2^(64*w+s)*nv (2^64) (a.take i))),()))=some (.inl (((),()),(Wd (pd (2^64) (w+a.length+1) (2^(64*w+s)*nv (2^64) a)),()))):=by
 have key:=Dm (zI Bh.pre Bh.F) (fun x=>a.length-x.1.2.2.2.2.1.toNat)
  (fun x=>∃ i:Nat,i<=a.length/\x=(((a.length:Int),(Wd a,((w:Int),((s:Int),((i:Int),((),())))))),(Wd (pd (2^64) (w+a.length+1) (2^(64*w+s)*nv (2^64) (a.take i))),())))
  (fun _=>.inl (((),()),(Wd (pd (2^64) (w+a.length+1) (2^(64*w+s)*nv (2^64) a)),()))) ?_ _ ⟨i,hi,rfl⟩
 ·exact key
 intro L x hx hL
 obtain ⟨i,hi,rfl⟩:=hx
 unfold TZ
 rcases Nat.lt_or_ge i a.length with hlt | hge
 ·have hxl:=Cq (by decide) ha i
  have ht:=DU (B:=2^64) (by decide) (a.take i) fun x hx=>ha x (List.mem_of_mem_take hx)
  rw [List.length_take,Nat.min_eq_left (by omega),Cu] at ht
  have hV:2^(64*w+s)*nv (2^64) (a.take i)<2^(64*(w+i)+s):=by
   have e:64*(w+i)+s=(64*w+s)+64*i:=by omega
   rw [e,Nat.pow_add _ (64*w+s)]
   exact Nat.mul_lt_mul_of_pos_left ht (Nat.two_pow_pos _)
  have hnext:=Zc (2^64) a i hlt
  have hgo:=hL (((a.length:Int),(Wd a,((w:Int),((s:Int),(((i+1:Nat):Int),((),())))))),(Wd (pd (2^64) (w+a.length+1) (2^(64*w+s)*nv (2^64) (a.take (i+1)))),())) ⟨i+1,by omega,rfl⟩ (by simp only [Int.toNat_natCast]; omega)
  rw [hnext,Nat.mul_add,← Nat.mul_assoc,show 2^(64*w+s)*(2^64)^i=2^(64*(w+i)+s) by rw [Cu,← Nat.pow_add]; congr 1; omega] at hgo
  have hz1:(pd (2^64) (w+a.length+1) (2^(64*w+s)*nv (2^64) (a.take i))).getD (w+i+1) 0=0:=by
   rw [Xa _ _ _ _ (by omega),Cu]
   have h64:2^(64*(w+i)+s)<=2^(64*(w+i+1)):=Nat.pow_le_pow_right (by decide) (by omega)
   rw [Nat.div_eq_of_lt (by omega)]
  generalize hout:pd (2^64) (w+a.length+1) (2^(64*w+s)*nv (2^64) (a.take i))=out at *
  obtain ⟨q1,q2,q3⟩:=aDB (k:=w+i) hs hout.symm (by omega) hV hxl
  have hol:out.length=w+a.length+1:=by rw [← hout,E6]
  have g1:a.getD i 0*2^s%2^64=(a.getD i 0%2^(64-s))*2^s:=by
   have:2^64=2^(64-s)*2^s:=by rw [← Nat.pow_add]; congr 1; omega
   rw [this,Nat.mul_mod_mul_right]
  have e8:IntKind.wrap .u64 (64-(s:Int))=((64-s:Nat):Int):=by rw [DW (by omega)]; omega
  rcases Nat.eq_zero_or_pos s with hs0 | hs0
  ·have hq:out.set (w+i) (out.getD (w+i) 0+a.getD i 0%2^(64-s)*2^s)=pd (2^64) (w+a.length+1) (2^(64*w+s)*nv (2^64) (a.take i)+2^(64*(w+i)+s)*a.getD i 0):=by
    rw [← q3]
    have hd:a.getD i 0/2^(64-s)=0:=by rw [hs0]; exact Nat.div_eq_of_lt hxl
    have hg:(out.set (w+i) (out.getD (w+i) 0+a.getD i 0%2^(64-s)*2^s)).getD (w+i+1) 0=0:=by rw [aD8 (by omega)]; exact hz1
    rw [hd]
    have:=aNx (l:=out.set (w+i) (out.getD (w+i) 0+a.getD i 0%2^(64-s)*2^s)) (i:=w+i+1) (by rw [List.length_set]; omega)
    rw [hg] at this
    exact this.symm
   simp (disch:=omega) only [B8,BM,B0,BC,Bn,BX,BP,BQ,B4,BZ,Ca,Cc,Cb,BW,B5,BU,B7,BJ,AW,By,AU,Bg,BH,Int.toNat_natCast,Int.toNat_zero,cond_true,cond_false,Bool.and_self,Bool.true_and,Bool.and_true,Bool.false_and,Bool.and_false,Bool.not_true,Bool.not_false,Bool.or_self,Bool.true_or,Bool.or_true,Bool.false_or,Bool.or_false,AA,B9,El _ s (by omega),g1,Fc q1 q2,Ee,hq]
   exact hgo
  ·simp (disch:=omega) only [B8,BM,B0,BC,Bn,BX,BP,BQ,B4,BZ,Ca,Cc,Cb,BW,B5,BU,B7,BJ,AW,By,AU,Bg,BH,Int.toNat_natCast,Int.toNat_zero,cond_true,cond_false,Bool.and_self,Bool.true_and,Bool.and_true,Bool.false_and,Bool.and_false,Bool.not_true,Bool.not_false,Bool.or_self,Bool.true_or,Bool.or_true,Bool.false_or,Bool.or_false,AA,B9,e8,El _ s (by omega),DD _ (64-s) (by omega),g1,Fc q1 q2,Ee,List.length_set,q3]
   exact hgo
 ·have e:i=a.length:=by omega
  subst e
  rw [List.take_length]
  simp (disch:=omega) only [B8,BM,B0,BC,Bn,BX,BP,BQ,B4,BZ,Ca,Cc,Cb,BW,B5,BU,B7,BJ,AW,By,AU,Bg,BH,Int.toNat_natCast,Int.toNat_zero,cond_true,cond_false,Bool.and_self,Bool.true_and,Bool.and_true,Bool.false_and,Bool.and_false,Bool.not_true,Bool.not_false,Bool.or_self,Bool.true_or,Bool.or_true,Bool.false_or,Bool.or_false]
theorem xI {x:Nat} (hx:x<(2^64)^5000) (n:Nat) (hn:n<=1000000):Zt (Dw x,(n:Int),())=some (Dw (x*2^n),()):=by
 show fQ Bh.pre Bh.F cX (Dw x) n=_
 unfold fQ
 have hws:=Dl hx
 have hl:(dg (2^64) x).length<=5000:=C0 (by decide) _ _ hx
 have hv:=Cd x
 by_cases h0:x=0
 ·subst h0
  rw [Dt,Nat.zero_mul,Dt]; rfl
 ·have hlen:(((Dw x).length:Int)==0)=false:=AU _ (by have:=Iy h0; omega)
  rw [hlen,cond_false]
  have e4:Int.tmod (n:Int) 64=((n%64:Nat):Int):=rfl
  have e5:IntKind.wrap .u64 ((n%64:Nat):Int)=((n%64:Nat):Int):=mA _ (by omega)
  have hw:=aPv (dg (2^64) x) hws.1 (by omega) (n/64) (n%64) (Nat.mod_lt _ (by decide)) (by omega) 0 (Nat.zero_le _)
  rw [show nv (2^64) ((dg (2^64) x).take 0)=0 by rfl,Nat.mul_zero,qN,show 64*(n/64)+n%64=n by omega,show ((0:Nat):Int)=0 from rfl,hv] at hw
  have e3:decide (((n/64+(dg (2^64) x).length+1:Nat):Int)*8<=140737488355328)=true:=decide_eq_true (by omega)
  have hV:2^n*x<(2^64)^(n/64+(dg (2^64) x).length+1):=by
   have:=RT (B:=2^64) (by decide) x
   rw [Cu] at this ⊢
   have h1:2^n*x<2^n*2^(64*(dg (2^64) x).length):=Nat.mul_lt_mul_of_pos_left this (Nat.two_pow_pos _)
   rw [← Nat.pow_add] at h1
   exact Nat.lt_of_lt_of_le h1 (Nat.pow_le_pow_right (by decide) (by omega))
  have p1:=Xh (pd (2^64) (n/64+(dg (2^64) x).length+1) (2^n*x)) ⟨R4 (by decide) _ _,by rw [E6]; omega⟩
  rw [Sa (by decide) _ _ hV,Nat.mul_comm (2^n)] at p1
  rw [Nat.mul_comm (2^n)] at hw
  unfold Dw at *
  simp (disch:=omega) only [B8,BM,B0,BC,Bn,BX,BP,BQ,B4,BZ,Ca,Cc,Cb,BW,B5,BU,B7,BJ,AW,By,AU,Bg,BH,Int.toNat_natCast,Int.toNat_zero,cond_true,cond_false,Bool.and_self,Bool.true_and,Bool.and_true,Bool.false_and,Bool.and_false,Bool.not_true,Bool.not_false,Bool.or_self,Bool.true_or,Bool.or_true,Bool.false_or,Bool.or_false,AA,Xy n (by omega),e4,e5,e3,RI,hw]
  generalize pd (2^64) (n/64+(dg (2^64) x).length+1) (x*2^n)=out at *
  show (bif Bh.pre (Wd out,()) then some (Bh.F (Wd out,())) else none)=_
  rw [Ue p1,Tu p1]
  rfl
end VL
namespace VL
open Go Vx
theorem aMl (a b:List Nat) (ha:∀ x∈a,x<2^64) (hb:∀ x∈b,x<2^64) (hla:a.length<=1000000) (hab:a.length=b.length) :
  gG ((Wd a,(Wd b,((a.length:Int)-1,()))),())=some (if nv (2^64) a=nv (2^64) b then .inl ((),()) else .inr (((if nv (2^64) a<nv (2^64) b then (-1:Int) else 1),()),())):=by
 have key:=Dm (aHI Ag.pre Ag.F) (fun x=>(x.1.2.2.1+1).toNat)
  (fun x=>∃ j:Nat,j<=a.length/\nv (2^64) (a.drop j)=nv (2^64) (b.drop j)/\x=((Wd a,(Wd b,((j:Int)-1,()))),()))
  (fun _=>if nv (2^64) a=nv (2^64) b then .inl ((),()) else .inr (((if nv (2^64) a<nv (2^64) b then (-1:Int) else 1),()),())) ?_ ((Wd a,(Wd b,((a.length:Int)-1,()))),())
  ⟨a.length,Nat.le_refl _,by rw [List.drop_length,hab,List.drop_length],rfl⟩
 ·exact key
 intro L x hx hL
 obtain ⟨j,hj,hd,rfl⟩:=hx
 unfold VW
 rcases j with _ | i
 ·have e1:decide ((((0:Nat):Int)-1)>=0)=false:=rfl
  rw [List.drop_zero,List.drop_zero] at hd
  simp only [e1,cond_false,if_pos hd]
 ·have e0:(((i+1:Nat):Int)-1)=(i:Int):=by omega
  have e2:IntKind.wrap .i64 ((i:Int)-1)=(i:Int)-1:=As (by omega)
  have e3:decide ((i:Int)>=0)=true:=decide_eq_true (by omega)
  simp (disch:=omega) only [e0,e2,e3,B8,BM,B0,BC,Bn,BX,BP,BQ,B4,BZ,Ca,Cc,Cb,BW,B5,BU,B7,BJ,AW,By,AU,Bg,BH,Int.toNat_natCast,Int.toNat_zero,cond_true,cond_false,Bool.and_self,Bool.true_and,Bool.and_true,Bool.false_and,Bool.and_false,Bool.not_true,Bool.not_false,Bool.or_self,Bool.true_or,Bool.or_true,Bool.false_or,Bool.or_false,AA,B9]
  rcases Nat.lt_trichotomy (a.getD i 0) (b.getD i 0) with h | h | h
  ·have hr:=N0 (by decide) ha (by omega) (by omega) hd h
   simp (disch:=omega) only [B8,BM,B0,BC,Bn,BX,BP,BQ,B4,BZ,Ca,Cc,Cb,BW,B5,BU,B7,BJ,AW,By,AU,Bg,BH,Int.toNat_natCast,Int.toNat_zero,cond_true,cond_false,Bool.and_self,Bool.true_and,Bool.and_true,Bool.false_and,Bool.and_false,Bool.not_true,Bool.not_false,Bool.or_self,Bool.true_or,Bool.or_true,Bool.false_or,Bool.or_false]
   rw [if_neg (by omega),if_pos hr]
  ·simp (disch:=omega) only [B8,BM,B0,BC,Bn,BX,BP,BQ,B4,BZ,Ca,Cc,Cb,BW,B5,BU,B7,BJ,AW,By,AU,Bg,BH,Int.toNat_natCast,Int.toNat_zero,cond_true,cond_false,Bool.and_self,Bool.true_and,Bool.and_true,Bool.false_and,Bool.and_false,Bool.not_true,Bool.not_false,Bool.or_self,Bool.true_or,Bool.or_true,Bool.false_or,Bool.or_false]
   refine hL _ ⟨i,by omega,?_,rfl⟩ (by simp only [Int.toNat_natCast]; omega)
   rw [VP _ a i (by omega),VP _ b i (by omega),hd,h]
  ·have hr:=N0 (by decide) hb (by omega) (by omega) hd.symm h
   simp (disch:=omega) only [B8,BM,B0,BC,Bn,BX,BP,BQ,B4,BZ,Ca,Cc,Cb,BW,B5,BU,B7,BJ,AW,By,AU,Bg,BH,Int.toNat_natCast,Int.toNat_zero,cond_true,cond_false,Bool.and_self,Bool.true_and,Bool.and_true,Bool.false_and,Bool.and_false,Bool.not_true,Bool.not_false,Bool.or_self,Bool.true_or,Bool.or_true,Bool.false_or,Bool.or_false]
   rw [if_neg (by omega),if_neg (by omega)]
theorem Qi {x:Nat} (hx:x<(2^64)^5000):SG (Dw x,())=some (Dw x,()):=by
 have:=Ef (dg (2^64) x) (Dl hx).2
 rw [Na (by decide)] at this
 exact this
theorem fY {x y:Nat} (hx:x<(2^64)^5000) (hy:y<(2^64)^5000):ZU (Dw x,Dw y,())=some (if x=y then 0 else if x<y then -1 else 1,()):=by
 show cJ Ag.pre Ag.F gG (Dw x) (Dw y)=_
 unfold cJ
 have p0:=Qi hx
 have p1:=Qi hy
 have hX:=Dl hx
 have hY:=Dl hy
 have hlx:=hX.2
 simp only [CX p0,CV p0,CX p1,CV p1,cond_true]
 clear p0 p1
 rcases Nat.lt_trichotomy (dg (2^64) x).length (dg (2^64) y).length with h | h | h
 ·have hr:=pH (by decide) h
  unfold Dw
  simp (disch:=omega) only [B8,BM,B0,BC,Bn,BX,BP,BQ,B4,BZ,Ca,Cc,Cb,BW,B5,BU,B7,BJ,AW,By,AU,Bg,BH,Int.toNat_natCast,Int.toNat_zero,cond_true,cond_false,Bool.and_self,Bool.true_and,Bool.and_true,Bool.false_and,Bool.and_false,Bool.not_true,Bool.not_false,Bool.or_self,Bool.true_or,Bool.or_true,Bool.false_or,Bool.or_false,AA]
  rw [if_neg (by omega),if_pos hr]
 ·have hw:=aMl _ _ hX.1 hY.1 hlx h
  rw [Cd,Cd] at hw
  have e2:IntKind.wrap .i64 (((dg (2^64) x).length:Int)-1)=((dg (2^64) x).length:Int)-1:=As (by omega)
  unfold Dw
  simp (disch:=omega) only [B8,BM,B0,BC,Bn,BX,BP,BQ,B4,BZ,Ca,Cc,Cb,BW,B5,BU,B7,BJ,AW,By,AU,Bg,BH,Int.toNat_natCast,Int.toNat_zero,cond_true,cond_false,Bool.and_self,Bool.true_and,Bool.and_true,Bool.false_and,Bool.and_false,Bool.not_true,Bool.not_false,Bool.or_self,Bool.true_or,Bool.or_true,Bool.false_or,Bool.or_false,AA,e2,hw]
  by_cases he:x=y
  ·rw [if_pos he,if_pos he]; first | rfl | skip
  ·rw [if_neg he,if_neg he]; first | rfl | skip
 ·have hr:=pH (by decide) h
  unfold Dw
  simp (disch:=omega) only [B8,BM,B0,BC,Bn,BX,BP,BQ,B4,BZ,Ca,Cc,Cb,BW,B5,BU,B7,BJ,AW,By,AU,Bg,BH,Int.toNat_natCast,Int.toNat_zero,cond_true,cond_false,Bool.and_self,Bool.true_and,Bool.and_true,Bool.false_and,Bool.and_false,Bool.not_true,Bool.not_false,Bool.or_self,Bool.true_or,Bool.or_true,Bool.false_or,Bool.or_false,AA]
  rw [if_neg (by omega),if_neg (by omega)]
theorem Yl {out a:List Nat} {i v:Nat} (hol:out.length=i) (h:i<a.length):(out++a.drop i).set i v=(out++[v])++a.drop (i+1):=by
 rw [List.set_append_right _ _ (by omega),hol,Nat.sub_self,List.drop_eq_getElem_cons h,List.set_cons_zero,List.append_assoc]
 rfl
theorem aTl {out a:List Nat} {i:Nat} (hol:out.length=i):(out++a.drop i).getD i 0=a.getD i 0:=by
 rw [List.getD_eq_getElem?_getD,List.getElem?_append_right (by omega),hol,Nat.sub_self,List.getElem?_drop,Nat.add_zero,← List.getD_eq_getElem?_getD]
theorem aMp (a b:List Nat) (ha:∀ x∈a,x<2^64) (hb:∀ x∈b,x<2^64) (hla:a.length<=1000000) (hba:b.length<=a.length) (hv:nv (2^64) b<=nv (2^64) a) :
  XD (((a.length:Int),(Wd b,((0:Int),((0:Int),((),()))))),(Wd a,()))=some (.inl (((),()),(Wd (pd (2^64) a.length (nv (2^64) a-nv (2^64) b)),()))):=by
 have key:=Dm (xL Cf.pre Cf.F A8.pre A8.F Ag.pre Ag.F) (fun x=>a.length-x.1.2.2.2.1.toNat)
  (fun x=>∃ (i:Nat) (out:List Nat) (c:Nat),i<=a.length/\out.length=i/\(∀ x∈out,x<2^64)/\c<=1/\nv (2^64) (a.take i)+(2^64)^i*c=nv (2^64) (b.take i)+nv (2^64) out /\
   x=(((a.length:Int),(Wd b,((c:Int),((i:Int),((),()))))),(Wd (out++a.drop i),())))
  (fun _=>.inl (((),()),(Wd (pd (2^64) a.length (nv (2^64) a-nv (2^64) b)),()))) ?_ (((a.length:Int),(Wd b,((0:Int),((0:Int),((),()))))),(Wd a,()))
  ⟨0,[],0,Nat.zero_le _,rfl,(fun x hx=>by simp at hx),by decide,by simp [nv],rfl⟩
 ·exact key
 intro L x hx hL
 obtain ⟨i,out,c,hi,hol,hod,hc,hov,rfl⟩:=hx
 unfold Tb
 rcases Nat.lt_or_ge i a.length with hlt | hge
 ·have hxa:=Cq (by decide) ha i
  have hxb:=Cq (by decide) hb i
  have hna:=Ew (2^64) a i
  have hnb:=Ew (2^64) b i
  have hzb:b.length<=i->b.getD i 0=0:=fun h=>by rw [List.getD_eq_getElem?_getD,List.getElem?_eq_none h]; rfl
  have hset:=fun v=>Yl (v:=v) hol hlt
  have hlen:(out++a.drop i).length=a.length:=by simp; omega
  have hget:=aTl (a:=a) hol
  generalize hda:a.getD i 0=da at *
  generalize hdb:b.getD i 0=db at *
  have hgo:∀ c' v:Nat,c'<=1->v<2^64->da+2^64*c'=db+c+v->L (((a.length:Int),(Wd b,((c':Int),(((i+1:Nat):Int),((),()))))),(Wd (out++[v]++a.drop (i+1)),()))=_:=fun c' v h1 h2 h3 =>
   hL _ ⟨i+1,out++[v],c',by omega,by simp; omega,XE hod h2,h1,by
    rw [hna,hnb,WD,hol,Nat.pow_succ]
    exact aVd hov h3,rfl⟩ (by simp only [Int.toNat_natCast]; omega)
  have hgo2:=hgo (if da<db+c then 1 else 0) ((da+2^64-db-c)%2^64) (by split <;> omega) (Nat.mod_lt _ (by decide)) (by split <;> omega)
  have hF:=VZ da db c hc hxa hxb
  have hP:=Xg (da:Int) (db:Int) c hc
  rcases Nat.lt_or_ge i b.length with hib | hib
  ·simp (disch:=omega) only [B8,BM,B0,BC,Bn,BX,BP,BQ,B4,BZ,Ca,Cc,Cb,BW,B5,BU,B7,BJ,AW,By,AU,Bg,BH,Int.toNat_natCast,Int.toNat_zero,cond_true,cond_false,Bool.and_self,Bool.true_and,Bool.and_true,Bool.false_and,Bool.and_false,Bool.not_true,Bool.not_false,Bool.or_self,Bool.true_or,Bool.or_true,Bool.false_or,Bool.or_false,AA,B9,hdb,hget,hF,hP,hlen,Ee,hset]
   exact hgo2
  ·have h0:=hzb hib
   rw [h0] at hF hP
   simp (disch:=omega) only [B8,BM,B0,BC,Bn,BX,BP,BQ,B4,BZ,Ca,Cc,Cb,BW,B5,BU,B7,BJ,AW,By,AU,Bg,BH,Int.toNat_natCast,Int.toNat_zero,cond_true,cond_false,Bool.and_self,Bool.true_and,Bool.and_true,Bool.false_and,Bool.and_false,Bool.not_true,Bool.not_false,Bool.or_self,Bool.true_or,Bool.or_true,Bool.false_or,Bool.or_false,AA,B9,hget]
   have hF':A8.F ((da:Int),((0:Int),((c:Int),())))=_:=hF
   have hP':A8.pre ((da:Int),((0:Int),((c:Int),())))=true:=hP
   rw [h0] at hgo2
   simp (disch:=omega) only [B8,BM,B0,BC,Bn,BX,BP,BQ,B4,BZ,Ca,Cc,Cb,BW,B5,BU,B7,BJ,AW,By,AU,Bg,BH,Int.toNat_natCast,Int.toNat_zero,cond_true,cond_false,Bool.and_self,Bool.true_and,Bool.and_true,Bool.false_and,Bool.and_false,Bool.not_true,Bool.not_false,Bool.or_self,Bool.true_or,Bool.or_true,Bool.false_or,Bool.or_false,hF',hP',hlen,Ee,hset]
   exact hgo2
 ·have e:i=a.length:=by omega
  subst e
  rw [List.take_length,List.take_of_length_le hba] at hov
  have hlt:=DU (B:=2^64) (by decide) out hod
  rw [hol] at hlt
  have hc0:(2^64)^a.length*c=0:=by
   rcases (show c=0∨c=1 by omega) with h | h
   ·rw [h,Nat.mul_zero]
   ·rw [h,Nat.mul_one] at hov; omega
  have ho:=fC (B:=2^64) (v:=nv (2^64) a-nv (2^64) b) (by decide) hod hol (by omega)
  rw [List.drop_length,List.append_nil]
  simp (disch:=omega) only [B8,BM,B0,BC,Bn,BX,BP,BQ,B4,BZ,Ca,Cc,Cb,BW,B5,BU,B7,BJ,AW,By,AU,Bg,BH,Int.toNat_natCast,Int.toNat_zero,cond_true,cond_false,Bool.and_self,Bool.true_and,Bool.and_true,Bool.false_and,Bool.and_false,Bool.not_true,Bool.not_false,Bool.or_self,Bool.true_or,Bool.or_true,Bool.false_or,Bool.or_false,AA]
  rw [← ho]
theorem aHC (l:List Nat) (hl:Ws l):Sv (Wd l,())=some (Dw (nv (2^64) l),()):=by
 show fM Ag.pre Ag.F (Wd l)=_
 unfold fM
 have p0:=Ef l hl.2
 have hle:=(D7 l).1
 have h2:=hl.2
 have e3:decide ((((Ai l).length:Nat):Int)*8<=140737488355328)=true:=decide_eq_true (by omega)
 simp (disch:=omega) only [B8,BM,B0,BC,Bn,BX,BP,BQ,B4,BZ,Ca,Cc,Cb,BW,B5,BU,B7,BJ,AW,By,AU,Bg,BH,Int.toNat_natCast,Int.toNat_zero,cond_true,cond_false,Bool.and_self,Bool.true_and,Bool.and_true,Bool.false_and,Bool.and_false,Bool.not_true,Bool.not_false,Bool.or_self,Bool.true_or,Bool.or_true,Bool.false_or,Bool.or_false,CX p0,CV p0,AA,e3,List.length_replicate,List.drop_replicate,Nat.sub_self]
 rw [List.take_of_length_le (by rw [AA]; exact Nat.le_refl _),List.replicate_zero,List.append_nil,G0 (by decide) l hl.1]
 rfl
theorem u9 {x y:Nat} (hx:x<(2^64)^5000) (h:y<=x):YK (Dw x,Dw y,())=some (Dw (x-y),0,()):=by
 show jV QO.pre QO.F DC.pre DC.F Bi.pre Bi.F CR.pre CR.F Ag.pre Ag.F Vg.pre Vg.F (Dw x) (Dw y)=_
 unfold jV
 have hy:y<(2^64)^5000:=Nat.lt_of_le_of_lt h hx
 have p0:=fY hx hy
 have p1:=aHC (dg (2^64) x) (Dl hx)
 rw [Cd] at p1
 have p1:Sv (Dw x,())=some (Dw x,()):=p1
 have p2:=Qi hy
 have z1:decide ((if x=y then (0:Int) else if x<y then -1 else 1)<0)=false:=by
  by_cases he:x=y
  ·rw [if_pos he]; rfl
  ·rw [if_neg he,if_neg (by omega)]; rfl
 have hX:=Dl hx
 have hY:=Dl hy
 have hlx:=hX.2
 have p3:Wy (Dw x,Dw y,())=some (Dw (x-y),()):=by
  show bP Cf.pre Cf.F A8.pre A8.F Ag.pre Ag.F XD (Dw x) (Dw y)=_
  unfold bP
  have hw:=aMp (dg (2^64) x) (dg (2^64) y) hX.1 hY.1 hlx (aGa (by decide) h) (by rw [Cd,Cd]; exact h)
  rw [Cd,Cd] at hw
  have q1:=aGt (pd (2^64) (dg (2^64) x).length (x-y)) (by rw [E6]; exact hlx)
  have hlt:=RT (B:=2^64) (by decide) x
  rw [G0 (by decide) _ (R4 (by decide) _ _),Sa (by decide) _ _ (by omega)] at q1
  rw [show (Dw x).length=(dg (2^64) x).length from AA _]
  rw [show XD ((((dg (2^64) x).length:Int),(Dw y,((0:Int),((0:Int),((),()))))),(Dw x,()))=_ from hw]
  show (bif Cf.pre (Wd (pd (2^64) (dg (2^64) x).length (x-y)),()) then some (Cf.F (Wd (pd (2^64) (dg (2^64) x).length (x-y)),())) else none)=_
  simp only [aB4 q1,aHx q1,cond_true]
  rfl
 simp only [V8 p0,W2 p0,cond_true,z1,cond_false,qA p1,nJ p1,CX p2,CV p2,aRL p3,aM2 p3]
def od (s:Bool) (n:Nat) (e:Int):Bool×Nat×Int:=if n=0 then (false,0,0) else (s,n/2^tz n,e+tz n)
def Ce (t:Bool×Nat×Int):bZ:=dy t.1 t.2.1 t.2.2
theorem YD (s:Bool) (n:Nat) (e:Int):(if n=0 then dy false 0 0 else dy s (n/2^tz n) (e+tz n))=Ce (od s n e):=by
 unfold od Ce
 split <;> rfl
theorem Em (s:Bool) (n:Nat) (e:Int):(od s n e=(false,0,0)/\n=0)∨((od s n e).1=s/\(od s n e).2.1%2=1/\n≠0/\n=2^tz n*(od s n e).2.1/\(od s n e).2.2=e+tz n):=by
 unfold od
 by_cases h:n=0
 ·rw [if_pos h]; exact .inl ⟨rfl,h⟩
 ·right
  rw [if_neg h]
  obtain ⟨k,hk⟩:=TX h
  have hd:n/2^tz n=2*k+1:=by
   have:=Nat.mul_div_cancel_left (2*k+1) (Nat.two_pow_pos (tz n))
   rw [← hk] at this
   exact this
  dsimp only
  rw [hd]
  exact ⟨rfl,by omega,h,hk,rfl⟩
theorem U1 {n k:Nat} (h:n<2^k) (h0:n≠0):tz n<k:=by
 obtain ⟨j,hj⟩:=TX h0
 have h1:2^tz n*1<=2^tz n*(2*j+1):=Nat.mul_le_mul_left _ (by omega)
 exact (Nat.pow_lt_pow_iff_right (a:=2) (by decide)).1 (by omega)
theorem aPJ (s:Bool) {n k:Nat} (e:Int) (hn:n<2^k) (he:-20000<=e/\e<=20000):(od s n e).2.1<2^k/\-20000<=(od s n e).2.2/\(od s n e).2.2<=20000+k:=by
 rcases Em s n e with ⟨h,_⟩ | ⟨_,h2,h3,h4,h5⟩
 ·rw [h]; exact ⟨Nat.two_pow_pos _,by dsimp only; omega,by dsimp only; omega⟩
 ·have hle:(od s n e).2.1<=n:=by
   have:=Nat.le_mul_of_pos_left (od s n e).2.1 (Nat.two_pow_pos (tz n))
   omega
  have:=U1 hn h3
  refine ⟨by omega,by omega,by omega⟩
theorem KB {n k:Nat} (h:n<2^k) (hk:k<=64*2000):n<(2^64)^2000:=by
 rw [Cu]
 exact Nat.lt_of_lt_of_le h (Nat.pow_le_pow_right (by decide) hk)
theorem aHh {n k:Nat} (h:n<2^k) (hk:k<=64*1000):(Dw n).length<=1000:=by
 unfold Dw; rw [AA]
 refine C0 (by decide) _ _ ?_
 rw [Cu]
 exact Nat.lt_of_lt_of_le h (Nat.pow_le_pow_right (by decide) hk)
theorem fO (s:Bool) {n k:Nat} (h:n<2^k) (hk:k<=64*1000) (e:Int) (he:-40000<=e/\e<=40000):HW (dy s n e,())=some (0,()):=by
 show mL (s,Dw n,e,())=_
 unfold mL
 have:=aHh h hk
 dsimp only
 rw [decide_eq_false (p:=((Dw n).length:Int)>1024) (by omega),decide_eq_false (p:=e < -40000) (by omega),decide_eq_false (p:=e>40000) (by omega)]
 rfl
theorem nC (s:Bool) {n:Nat} (h:n<2^6000) (e:Int) (he:-20000<=e/\e<=20000):Pf (dy s n e,())=some (Ce (od s n e),0,()):=by
 show eE CK.pre CK.F (s,Dw n,e,())=_
 unfold eE
 have p0:=ZR s (L9 (KB h (by decide))) e (by omega)
 rw [YD] at p0
 have p0:E2 ((s,Dw n,e,()),())=some (Ce (od s n e),()):=p0
 have hb:=aPJ s e h he
 have hl:=aHh hb.1 (by decide)
 have e1:decide ((((Ce (od s n e)).2.1.length:Nat):Int)>1024)=false:=decide_eq_false (by
  show ¬ ((((Dw (od s n e).2.1).length:Nat):Int)>1024)
  omega)
 have e2:decide ((Ce (od s n e)).2.2.1 < -40000)=false:=decide_eq_false (by
  show ¬ ((od s n e).2.2 < -40000)
  omega)
 have e3:decide ((Ce (od s n e)).2.2.1>40000)=false:=decide_eq_false (by
  show ¬ ((od s n e).2.2>40000)
  omega)
 simp only [Oc p0,Nk p0,cond_true,e1,e2,e3,cond_false,Bool.or_self]
theorem aM {x y:Nat} (hx:x<(2^64)^5000) (hy:y<(2^64)^5000):RV (Dw x,Dw y,())=some (Dw (x+y),()):=by
 have h1:(dg (2^64) x).length<=5000:=C0 (by decide) _ _ hx
 have h2:(dg (2^64) y).length<=5000:=C0 (by decide) _ _ hy
 have:=aDH (dg (2^64) x) (dg (2^64) y) (Dl hx) (Dl hy) (by rw [Na (by decide)]; omega) (by rw [Na (by decide)]; omega)
 rw [Cd,Cd] at this
 exact this
end VL
namespace VL
open Go Vx
theorem cM {x:Nat} (h0:x≠0) (h:x<2^64):Dw x=(x:Int)::[]:=by
 unfold Dw
 rw [F7 (by decide) (by omega),Nat.mod_eq_of_lt h,Nat.div_eq_of_lt h,Ev]; rfl
theorem Sd {f:Int} {a:Nat} (h:Am f a=0) (hfin:eF f a≠BG f):SM (f,(a:Int),())=some (Ce (od (sF f a) (Ad f a) (Af f a)),0,()):=by
 obtain ⟨hf,h0⟩:=CT h
 have ha:=J4 h
 show Vu Ar.pre Ar.F Dr.pre Dr.F Bo.pre Bo.F BK.pre BK.F f a=_
 unfold Vu
 have h1:=Dq hf
 have h2:=EC hf
 have h3:=D5 hf
 have h4:=Ho hf
 have h5:=E9 hf
 have h6:=Rp hf
 have hE:=Sf hf a
 have hM:=SE f a
 have hPp:2^(fP f-1)<=2^52:=Nat.pow_le_pow_right (by decide) (by omega)
 have hpp:=Nat.two_pow_pos (fP f-1)
 have p0:=Ex f a ha
 have p1:=WN (fW f-fP f) (by omega)
 have p2:=mB hf a ha
 have hr1:decide (0<=f)=true:=decide_eq_true hf.1
 have hr2:decide (f<((4:Nat):Int))=true:=decide_eq_true hf.2
 have r1:(Br f).1=(fW f:Int):=rfl
 have r2:(Br f).2.1=(fP f:Int):=rfl
 have r3:(Br f).2.2.1=1-(fX f:Int):=rfl
 have e1:IntKind.wrap .i64 ((fW f:Int)-(fP f:Int))=((fW f-fP f:Nat):Int):=BC _ _ (by omega)
 have e2:IntKind.wrap .i64 ((fP f:Int)-1)=((fP f-1:Nat):Int):=Bn _ (by omega)
 have e3:AT .u64 1 ((fP f-1:Nat):Int)=((2^(fP f-1):Nat):Int):=KT (by omega)
 have e4:AX .u64 (mF f a:Int) ((2^(fP f-1):Nat):Int)=((mF f a+2^(fP f-1):Nat):Int):=by
  have:=Fc (a:=mF f a) (b:=1) (k:=fP f-1) hM (by omega)
  rwa [Nat.one_mul] at this
 have hfl:(((eF f a:Nat):Int)==((2^(fW f-fP f)-1:Nat):Int))=false:=by
  rw [Hw]; exact beq_eq_false_iff_ne.2 hfin
 have ew:∀ z:Int,-1000000<=z/\z<=1000000->IntKind.wrap .i64 z=z:=fun z hz=>As (by omega)
 simp only [dE hf,r1,r2,r3,hr1,hr2,Dv p0,Dy p0,eR p2,kS p2,h,cond_true,bne_self_eq_false,cond_false,e1,e2,e3,e4,W0 p1,Zm p1,hfl,AW]
 by_cases hz:eF f a=0
 ·have hg:(((eF f a:Nat):Int)==0)=true:=By _ hz
  have hm:Ad f a=mF f a:=by unfold Ad; rw [if_pos hz]
  have hx:Af f a=1-(fX f:Int)-(fP f:Int)+1:=by unfold Af; rw [if_pos hz,Int.add_zero]
  rw [hg,cond_true,hm,hx]
  by_cases hm0:mF f a=0
  ·rw [By _ hm0,cond_true]
   unfold od Ce
   rw [if_pos hm0,zJ]
  ·obtain ⟨k,hk⟩:=TX hm0
   have htl:=U1 (n:=mF f a) (k:=53) (by omega) hm0
   have p3:=gI (t:=tz (mF f a)) (k:=k) (by omega)
   rw [← hk] at p3
   have hq:mF f a/2^tz (mF f a)≠0:=by
    have:=Nat.mul_div_cancel_left (2*k+1) (Nat.two_pow_pos (tz (mF f a)))
    rw [← hk] at this
    omega
   have hql:=Nat.div_le_self (mF f a) (2^tz (mF f a))
   rw [AU _ hm0,cond_false]
   simp only [jO p3,cE p3,cond_true,AW,DD (mF f a) (tz (mF f a)) (by omega)]
   rw [← cM hq (by omega)]
   unfold od Ce dy
   rw [if_neg hm0]
   rw [ew 1 (by omega),ew (1-1) (by omega),ew (1-1+_) (by omega),ew (1-1+_-_) (by omega),ew (1-1+_-_+1) (by omega),ew _ (by omega)]
   rw [show (1:Int)-1+(1-(fX f:Int))-(fP f:Int)+1+(tz (mF f a):Int)=1-(fX f:Int)-(fP f:Int)+1+(tz (mF f a):Int) by omega]
 ·have hg:(((eF f a:Nat):Int)==0)=false:=AU _ hz
  have hm:Ad f a=mF f a+2^(fP f-1):=by unfold Ad; rw [if_neg hz]
  have hx:Af f a=1-(fX f:Int)-(fP f:Int)+1+((eF f a:Int)-1):=by unfold Af; rw [if_neg hz]
  rw [hg,cond_false,hm,hx]
  have hm0:mF f a+2^(fP f-1)≠0:=by omega
  have hml:mF f a+2^(fP f-1)<2^54:=by omega
  generalize mF f a+2^(fP f-1)=n at *
  obtain ⟨k,hk⟩:=TX hm0
  have htl:=U1 hml hm0
  have p3:=gI (t:=tz n) (k:=k) (by rw [← hk]; omega)
  rw [← hk] at p3
  have hq:n/2^tz n≠0:=by
   have:=Nat.mul_div_cancel_left (2*k+1) (Nat.two_pow_pos (tz n))
   rw [← hk] at this
   omega
  have hql:=Nat.div_le_self n (2^tz n)
  rw [AU _ hm0,cond_false]
  simp only [jO p3,cE p3,cond_true,AW,DD n (tz n) (by omega)]
  rw [← cM hq (by omega)]
  unfold od Ce dy
  rw [if_neg hm0]
  rw [ew (eF f a:Int) (by omega),ew ((eF f a:Int)-1) (by omega),ew ((eF f a:Int)-1+_) (by omega),ew ((eF f a:Int)-1+_-_) (by omega),ew ((eF f a:Int)-1+_-_+1) (by omega),ew _ (by omega)]
  rw [show (eF f a:Int)-1+(1-(fX f:Int))-(fP f:Int)+1+(tz n:Int)=1-(fX f:Int)-(fP f:Int)+1+((eF f a:Int)-1)+(tz n:Int) by omega]
theorem xU (s:Bool) (n:Nat) (e:Int):od (od s n e).1 (od s n e).2.1 (od s n e).2.2=od s n e:=by
 rcases Em s n e with ⟨h,_⟩ | ⟨_,h2,_,_,_⟩
 ·rw [h]; rfl
 ·obtain ⟨k,hk⟩:∃ k,(od s n e).2.1=2*k+1:=⟨(od s n e).2.1/2,by omega⟩
  generalize hD:od s n e=D at *
  obtain ⟨d1,d2,d3⟩:=D
  simp only at hk h2 ⊢
  subst hk
  unfold od
  rw [if_neg (by omega),aBG,Nat.pow_zero,Nat.div_one,Int.natCast_zero,Int.add_zero]
theorem Yy (s:Bool) {n:Nat} (e:Int) (hn:n<2^53) (he:-2000<=e/\e<=2000):(od s n e).2.1<2^53/\-2500<=(od s n e).2.2/\(od s n e).2.2<=2500:=by
 rcases Em s n e with ⟨h,_⟩ | ⟨_,h2,h3,h4,h5⟩
 ·rw [h]; exact ⟨Nat.two_pow_pos _,by dsimp only; omega,by dsimp only; omega⟩
 ·have hle:(od s n e).2.1<=n:=by
   have:=Nat.le_mul_of_pos_left (od s n e).2.1 (Nat.two_pow_pos (tz n))
   omega
  have:=U1 hn h3
  refine ⟨by omega,by omega,by omega⟩
end VL
namespace VL
open Go Vx
theorem aFj {f:Int} (hf:Fm f):qm f<=0:=by
 have:=Rp hf
 have:=Dq hf
 unfold qm; omega
theorem aUe (f:Int) (s:Bool) (e:Int):vI f s 0 e=0:=by
 unfold vI; rw [Nat.zero_mul]; cases s <;> rfl
theorem aKH (s:Bool) {n:Nat} (hn:n<(2^64)^5000) (e:Int):TD (dy s n e,())=some (if n=0 then 0 else if s=true then -1 else 1,()):=by
 show lU Bh.pre Bh.F (s,Dw n,e,())=_
 unfold lU
 have p0:=Xh (dg (2^64) n) (Dl hn)
 rw [Cd] at p0
 have p0:SZ (Dw n,())=some (Dw n,()):=p0
 dsimp only
 simp only [Ue p0,Tu p0,cond_true]
 by_cases h:n=0
 ·rw [if_pos h,h,Dt]; rfl
 ·have hlen:(((Dw n).length:Int)==0)=false:=AU _ (by have:=Iy h; omega)
  rw [if_neg h,hlen,cond_false]
  cases s <;> rfl
theorem nT {f m:Int} (hf:Fm f) (hm:0<=m/\m<=5) (s:Bool) {n:Nat} (hn:n<2^6000) (h0:n≠0) (hodd:n%2=1) (e:Int) (he:-20000<=e/\e<=20000) :
  OA (f,m,dy s n e,())=some (((AD f m s n e false).1:Int),((AD f m s n e false).2:Int),0,()):=by
 show iI EL.pre EL.F MP.pre MP.F EO.pre EO.F f m (s,Dw n,e,())=_
 unfold iI
 have p0:=rU hf hm
 have q1:=fO s hn (by decide) e (by omega)
 have q2:=nC s hn e he
 have hod:od s n e=(s,n,e):=by
  obtain ⟨k,rfl⟩:∃ k,n=2*k+1:=⟨n/2,by omega⟩
  unfold od
  rw [if_neg (by omega),aBG,Nat.pow_zero,Nat.div_one,Int.natCast_zero,Int.add_zero]
 rw [hod] at q2
 have p1:Yu ((s,Dw n,e,()),())=some ((s,Dw n,e,()),0,()):=by
  show dV E3.pre E3.F D3.pre D3.F (s,Dw n,e,())=_
  unfold dV
  have q1:HW ((s,Dw n,e,()),())=some (0,()):=q1
  have q2:Pf ((s,Dw n,e,()),())=some ((s,Dw n,e,()),0,()):=q2
  simp only [WL q1,Ye q1,vR q2,v4 q2,cond_true,bne_self_eq_false,cond_false]
 have p2:=tZ s n e false f m hf (KB hn (by decide)) (by omega)
 have hlen:(((Dw n).length:Int)==0)=false:=AU _ (by have:=Iy h0; omega)
 simp only [tF p0,qC p0,cond_true,bne_self_eq_false,cond_false,aM8 p1,aUF p1,hlen,mY p2,pT p2]
end VL
namespace VL
open Go Vx
def cd (f:Int) (S:Int):bZ:=Ce (od (decide (S<0)) S.natAbs (qm f))
theorem aEa {n:Nat} (h:n≠0) (d:Nat):tz (n*2^d)=tz n+d:=by
 obtain ⟨k,hk⟩:=TX h
 have e:n*2^d=2^(tz n+d)*(2*k+1):=by
  rw [Nat.pow_add,Nat.mul_assoc,Nat.mul_comm (2^d),← Nat.mul_assoc,← hk]
 rw [e]; exact YG _ _
theorem aOJ {f:Int} (s:Bool) (n:Nat) {e:Int} (he:qm f<=e):Ce (od s n e)=cd f (vI f s n e):=by
 unfold cd
 congr 1
 by_cases h0:n=0
 ·subst h0
  rw [aUe]; rfl
 ·have hp:=Nat.two_pow_pos (e-qm f).toNat
  have hpos:0<n*2^(e-qm f).toNat:=Nat.mul_pos (by omega) hp
  have hs:decide (vI f s n e<0)=s:=by
   unfold vI
   generalize n*2^(e-qm f).toNat=N at *
   cases s <;> simp only [cond_true,cond_false]
   ·exact decide_eq_false (by omega)
   ·exact decide_eq_true (by omega)
  have hn:(vI f s n e).natAbs=n*2^(e-qm f).toNat:=by
   unfold vI
   cases s
   ·exact Int.natAbs_natCast _
   ·exact (Int.natAbs_neg _).trans (Int.natAbs_natCast _)
  rw [hs,hn]
  unfold od
  rw [if_neg h0,if_neg (by omega),aEa h0]
  have hd:n*2^(e-qm f).toNat/2^(tz n+(e-qm f).toNat)=n/2^tz n:=by
   rw [Nat.pow_add,Nat.mul_div_mul_right _ _ hp]
  rw [hd]
  congr 2
  omega
def Bd (f:Int) (n:Nat) (e:Int):Prop:=qm f<=e/\e<=6000/\n*2^(e-qm f).toNat<2^5000
theorem Bd.lt {f:Int} {n:Nat} {e:Int} (h:Bd f n e):n<2^5000:=by
 have:=Nat.le_mul_of_pos_right n (Nat.two_pow_pos (e-qm f).toNat)
 exact Nat.lt_of_le_of_lt this h.2.2
theorem Bd.od {f:Int} (hf:Fm f) {n:Nat} {e:Int} (s:Bool) (h:Bd f n e):Bd f (VL.od s n e).2.1 (VL.od s n e).2.2:=by
 rcases Em s n e with ⟨hz,_⟩ | ⟨_,h2,h3,h4,h5⟩
 ·rw [hz]
  exact ⟨aFj hf,by dsimp only; omega,by dsimp only; rw [Nat.zero_mul]; exact Nat.two_pow_pos _⟩
 ·have hle:2^(tz n+(e-qm f).toNat)<=n*2^(e-qm f).toNat:=by
   rw [Nat.pow_add]
   refine Nat.mul_le_mul_right _ ?_
   have:=Nat.le_mul_of_pos_right (2^tz n) (show 0<(VL.od s n e).2.1 by omega)
   omega
  have hlt:=(Nat.pow_lt_pow_iff_right (a:=2) (by decide)).1 (Nat.lt_of_le_of_lt hle h.2.2)
  have hq:=aFj hf
  have h1:=h.1
  refine ⟨by omega,by omega,?_⟩
  have e1:(VL.od s n e).2.1*2^((VL.od s n e).2.2-qm f).toNat=n*2^(e-qm f).toNat:=by
   rw [h5,show (e+(tz n:Int)-qm f).toNat=tz n+(e-qm f).toNat by omega,Nat.pow_add,← Nat.mul_assoc,Nat.mul_comm _ (2^tz n),← h4]
  rw [e1]; exact h.2.2
theorem Bd.sft {f:Int} {X:Nat} {ex e:Int} (h:Bd f X ex) (h1:e<=ex) (h2:qm f<=e):X*2^(ex-e).toNat<2^5000:=by
 have e1:X*2^(ex-qm f).toNat=X*2^(ex-e).toNat*2^(e-qm f).toNat:=by
  rw [Nat.mul_assoc,← Nat.pow_add]; congr 2; omega
 have:=Nat.le_mul_of_pos_right (X*2^(ex-e).toNat) (Nat.two_pow_pos (e-qm f).toNat)
 rw [← e1] at this
 exact Nat.lt_of_le_of_lt this h.2.2
theorem aTC (k:Nat):(2:Nat)^k+2^k=2^(k+1):=by rw [Nat.pow_succ]; omega
end VL
namespace VL
open Go Vx
theorem aKq {f:Int} (hf:Fm f) (a:Nat):Ad f a<2^fP f:=by
 have h1:=SE f a
 have h2:=aMv hf
 have hpp:=Nat.two_pow_pos (fP f-1)
 unfold Ad
 split <;> omega
theorem aPL {f:Int} (hf:Fm f) (a:Nat):(Af f a-qm f).toNat<=2047:=by
 have h1:=Sf hf a
 unfold Af qm
 split <;> omega
theorem aHN (f:Int) (a:Nat):(vA f a).natAbs=Ad f a*2^(Af f a-qm f).toNat:=by
 unfold vA vI
 cases sF f a
 ·exact Int.natAbs_natCast _
 ·exact (Int.natAbs_neg _).trans (Int.natAbs_natCast _)
theorem aNg {f:Int} (hf:Fm f) (a:Nat):(vA f a).natAbs<2^2100:=by
 rw [aHN]
 have h1:Ad f a*2^(Af f a-qm f).toNat<2^53*2^(Af f a-qm f).toNat:=Nat.mul_lt_mul_of_pos_right (FB hf a) (Nat.two_pow_pos _)
 rw [← Nat.pow_add] at h1
 have:=aPL hf a
 exact Nat.lt_of_lt_of_le h1 (Nat.pow_le_pow_right (by decide) (by omega))
end VL
namespace VL
open Go Vx
structure Hid (p:Prop):Prop where
 out:p
end VL
namespace VL
open Go Vx
theorem aT7 {f:Int} {a:Nat} (h:Am f a=0) (hfull:eF f a=BG f):SM (f,(a:Int),())=some ((false,[],0,()),40,()):=by
 obtain ⟨hf,h0⟩:=CT h
 have ha:=J4 h
 show Vu Ar.pre Ar.F Dr.pre Dr.F Bo.pre Bo.F BK.pre BK.F f a=_
 unfold Vu
 have h2:=EC hf
 have h3:=D5 hf
 have h4:=Dq hf
 have h5:=E9 hf
 have p0:=Ex f a ha
 have p1:=WN (fW f-fP f) (by omega)
 have p2:=mB hf a ha
 have hr1:decide (0<=f)=true:=decide_eq_true hf.1
 have hr2:decide (f<((4:Nat):Int))=true:=decide_eq_true hf.2
 have r1:(Br f).1=(fW f:Int):=rfl
 have r2:(Br f).2.1=(fP f:Int):=rfl
 have e1:IntKind.wrap .i64 ((fW f:Int)-(fP f:Int))=((fW f-fP f:Nat):Int):=BC _ _ (by omega)
 have hfl:(((eF f a:Nat):Int)==((2^(fW f-fP f)-1:Nat):Int))=true:=by
  rw [Hw]; exact beq_iff_eq.2 hfull
 simp only [dE hf,r1,r2,hr1,hr2,Dv p0,Dy p0,eR p2,kS p2,h,cond_true,bne_self_eq_false,cond_false,e1,W0 p1,Zm p1,hfl]
end VL
namespace VL
open Go Vx
theorem rY {l:List Nat} {j v:Nat} (hj:j<l.length) (h:l.getD j 0=v):l.set j v=l:=by
 rw [List.getD_eq_getElem?_getD,List.getElem?_eq_getElem hj,Option.getD_some] at h
 subst h
 exact List.set_getElem_self hj
end VL
namespace VL
open Go Vx
theorem Hk {n k:Nat} (h:n<2^k) (hk:k<=64*5000):n<(2^64)^5000:=by
 rw [Cu]
 exact Nat.lt_of_lt_of_le h (Nat.pow_le_pow_right (by decide) hk)
theorem aNY (n:Nat):((((Dw n).length:Nat):Int)==0)=decide (n=0):=by
 by_cases h:n=0
 ·subst h; rw [Dt]; rfl
 ·rw [decide_eq_false h]; exact AU _ (by have:=Iy h; omega)
end VL
namespace VL
open Go Vx
def CO (far n:Int):Int:=if (if far<n then far else n)>-far then (if far<n then far else n) else -far
theorem aRK {far:Int} (h:0<=far) (n:Int):-far<=CO far n/\CO far n<=far:=by
 unfold CO; split <;> split <;> omega
theorem aCz {f:Int} (hf:Fm f) (m:Int) (neg:Bool) {N:Nat} (h0:N≠0) (hN:N<2^100) {e:Int} (he:e<=-2500) :
  AD f m neg N e false=((if Cw m neg false 1=true then 1 else 0)+Co f neg,24):=by
 have hP:=Dq hf
 have hPl:=E9 hf
 have hX:=Ho hf
 have hX15:=Rp hf
 have hbl:=Et hN
 have hbl1:=IZ h0
 have htop:AF N e=e+(An N:Int)-1:=rfl
 have hq:Dk f (AF N e)=1-(fX f:Int)-(fP f:Int)+1:=by unfold Dk; rw [if_pos (by omega)]
 obtain ⟨d,hd⟩:=Int.eq_ofNat_of_zero_le (show 0<=1-(fX f:Int)-(fP f:Int)+1-e by omega)
 have hN2:N<2^(d-1):=Nat.lt_of_lt_of_le hN (Nat.pow_le_pow_right (by decide) (by omega))
 have hN3:N<2^d:=Nat.lt_of_lt_of_le hN (Nat.pow_le_pow_right (by decide) (by omega))
 have hquo:DY N e (1-(fX f:Int)-(fP f:Int)+1)=0:=by
  rw [gB (by omega),hd,Int.toNat_natCast,Nat.div_eq_of_lt hN3]
 have hrst:CM N e (1-(fX f:Int)-(fP f:Int)+1) false=1:=by
  rw [YV,aU (by omega),hd,Int.toNat_natCast,Nat.mod_eq_of_lt hN3]
  unfold Ct
  rw [if_neg h0,if_pos hN2]
 have hcut:BE m neg N e (1-(fX f:Int)-(fP f:Int)+1) false=(if Cw m neg false 1=true then 1 else 0):=by
  unfold BE
  rw [hquo,hrst]
  by_cases h:Cw m neg false 1=true
  ·rw [if_pos h,if_pos ⟨by decide,h⟩]
  ·rw [if_neg h,if_neg (fun h2=>h h2.2)]
 have hb1:An (if Cw m neg false 1=true then 1 else 0)<=1:=by split <;> decide
 have hc2:=aLj (m:=m) (neg:=neg) (n:=N) (e:=e) hf (Int.le_refl (AF N e-(fP f:Int)+1))
 have hb2:=Et (Nat.lt_of_le_of_lt hc2 (Nat.pow_lt_pow_right (by decide) (Nat.lt_succ_self (fP f))))
 have htiny:FC f m neg N e false:=⟨by omega,by omega⟩
 unfold AD
 dsimp only
 rw [hq,hcut,hrst,if_neg (by omega),if_neg (by omega),if_neg (show ¬ (1:Nat)=0 by decide),if_pos htiny,Int.sub_self,Int.toNat_zero,Nat.zero_mul,Nat.zero_add]
theorem aHk {f:Int} (hf:Fm f) (m:Int) (neg:Bool) {N:Nat} (h0:N≠0) {e:Int} (he:2500<=e) :
  AD f m neg N e false=(Xw f m neg,20):=by
 have hX:=Ho hf
 have hbl1:=IZ h0
 have htop:AF N e=e+(An N:Int)-1:=rfl
 unfold AD
 rw [if_pos (by omega)]
theorem aJX {f:Int} (hf:Fm f) (m:Int) (neg:Bool) {N:Nat} (h0:N≠0) (hN:N<2^100) {e:Int} (he:-2000<=e/\e<=2000) (n:Int) :
  AD f m neg N (e+CO 10000 n) false=AD f m neg N (e+CO 5000 n) false:=by
 by_cases h1:n>5000
 ·have a1:5000<=CO 10000 n:=by unfold CO; split <;> split <;> omega
  have a2:5000<=CO 5000 n:=by unfold CO; split <;> split <;> omega
  rw [aHk hf m neg h0 (by omega),aHk hf m neg h0 (by omega)]
 ·by_cases h2:n < -5000
  ·have a1:CO 10000 n<=-5000:=by unfold CO; split <;> split <;> omega
   have a2:CO 5000 n<=-5000:=by unfold CO; split <;> split <;> omega
   rw [aCz hf m neg h0 hN (by omega),aCz hf m neg h0 hN (by omega)]
  ·have a1:CO 10000 n=CO 5000 n:=by
    have b1:CO 10000 n=n:=by unfold CO; rw [if_neg (show ¬ (10000:Int)<n by omega),if_pos (by omega)]
    have b2:CO 5000 n=n:=by
     unfold CO
     rw [if_neg (show ¬ (5000:Int)<n by omega)]
     split <;> omega
    rw [b1,b2]
   rw [a1]
def Qb (f m:Int) (a:Nat) (n:Int):DenS KC :=
 if ¬ Fm f then (0,0,2,())
 else if m<0∨m>5 then (0,0,3,())
 else if Am f a≠0 then (0,0,Am f a,())
 else bif nan f a then ((CE f:Int),(bif AK f a then 1 else 0),0,())
 else if eF f a=BG f∨Bv f a=0 then ((a:Int),0,0,())
 else (((AD f m (sF f a) (Ad f a) (Af f a+CO 5000 n) false).1:Int),((AD f m (sF f a) (Ad f a) (Af f a+CO 5000 n) false).2:Int),0,())
theorem aOq (f:Int) (a:Nat):(At f a==0)=decide (Bv f a=0):=by
 rw [Bool.eq_iff_iff,beq_iff_eq,decide_eq_true_eq]
 unfold At
 cases sF f a <;> simp only [cond_true,cond_false] <;> omega
theorem aJY (f m:Int) {a:Nat} (ha:a<2^64) (n:Int):ZD (f,m,(a:Int),n,())=some (Qb f m a n):=by
 show iV Aq.pre Aq.F DG.pre DG.F CI.pre CI.F AB.pre AB.F CH.pre CH.F CF.pre CF.F Dj.pre Dj.F f m a n=_
 unfold iV Qb
 try dsimp only
 rw [show (if ((if ((10000:Int)<n) then (10000:Int) else n)>(-(10000:Int))) then (if ((10000:Int)<n) then (10000:Int) else n) else (-(10000:Int)))=CO 10000 n from rfl]
 by_cases hf:¬ Fm f
 ·have p0:=GH hf
  rw [if_pos hf]
  simp only [Dc p0,Dg p0,cond_true]
  rfl
 have hf:=Classical.not_not.1 hf
 have p0:=FE hf
 rw [if_neg (show ¬ ¬ Fm f from fun h=>h hf)]
 simp only [Dc p0,Dg p0,cond_true,bne_self_eq_false,cond_false]
 by_cases hm:m<0∨m>5
 ·rw [if_pos hm]
  have:(decide (m<0)||decide (m>5))=true:=by rcases hm with h | h <;> simp [h]
  rw [this,cond_true]
 rw [if_neg hm]
 have hmm:(decide (m<0)||decide (m>5))=false:=by
  rw [decide_eq_false (by omega),decide_eq_false (by omega)]; rfl
 rw [hmm,cond_false]
 by_cases hc:Am f a≠0
 ·have p1:=gC ha hc
  rw [if_pos hc]
  simp only [KE p1,Kf p1,cond_true,bne_iff_ne.2 hc]
 have hc:Am f a=0:=Classical.not_not.1 hc
 have p1:=Wh ha hc
 rw [if_neg (show ¬ Am f a≠0 from fun h=>h hc)]
 have p2:=Kh (Av f a,At f a,())
 have p3:=KS (Av f a,At f a,()) (Av f a,At f a,())
 have p4:=En hf
 rw [show ((Av f a,At f a,()):Int×Int×Unit).1=Av f a from rfl,G9] at p2
 rw [show ((Av f a,At f a,()):Int×Int×Unit).1=Av f a from rfl,E0,Bool.or_self] at p3
 simp only [KE p1,Kf p1,cond_true,bne_self_eq_false,cond_false,V5 p2,XH p2,Wk p3,Xe p3,Fx p4,Fp p4]
 cases hn:nan f a with
 | true=>rfl
 | false =>
  simp only [cond_false]
  by_cases hi:eF f a=BG f
  ·have p5:=aT7 hc hi
   rw [if_pos (.inl hi)]
   simp only [Rw p5,Rv p5,cond_true]
   rfl
  have p5:=Sd hc hi
  simp only [Rw p5,Rv p5,cond_true,bne_self_eq_false,Bool.false_or,aOq]
  by_cases hz:Bv f a=0
  ·rw [if_pos (.inr hz),decide_eq_true hz,cond_true]
  rw [if_neg (by rintro (h | h) <;> contradiction),decide_eq_false hz,cond_false]
  have hml:=FB hf a
  have hxb:=FN hf a
  have hmn:Ad f a≠0:=by
   intro h
   have hz0:=(pL hf a).2
   unfold Ad at h
   have hpp:=Nat.two_pow_pos (fP f-1)
   split at h
   ·rename_i h2; exact hz (hz0 ⟨h2,h⟩)
   ·omega
  have hcb:=aRK (far:=10000) (by decide) n
  rcases Em (sF f a) (Ad f a) (Af f a) with ⟨_,h⟩ | ⟨o1,o2,o3,o4,o5⟩
  ·exact absurd h hmn
  have htz:=U1 hml hmn
  have e1:(Ce (od (sF f a) (Ad f a) (Af f a))).2.2.1=Af f a+tz (Ad f a):=by
   show (od (sF f a) (Ad f a) (Af f a)).2.2=_
   exact o5
  have e2:(Ce (od (sF f a) (Ad f a) (Af f a))).1=sF f a:=by
   show (od (sF f a) (Ad f a) (Af f a)).1=_
   exact o1
  have e3:(Ce (od (sF f a) (Ad f a) (Af f a))).2.1=Dw (od (sF f a) (Ad f a) (Af f a)).2.1:=rfl
  rw [e1,e2,e3,As (n:=Af f a+_+_) (by omega)]
  generalize (od (sF f a) (Ad f a) (Af f a)).2.1=k at *
  have hk0:k≠0:=by omega
  have hkl:k<=Ad f a:=by
   have:=Nat.le_mul_of_pos_left k (Nat.two_pow_pos (tz (Ad f a)))
   omega
  have p6:=nT hf (m:=m) (by omega) (sF f a) (n:=k) (Nat.lt_trans (Nat.lt_of_le_of_lt hkl hml) (Nat.pow_lt_pow_right (by decide) (by decide))) hk0 o2 (Af f a+tz (Ad f a)+CO 10000 n) (by omega)
  have hsc:=LV (f:=f) (m:=m) (neg:=sF f a) hf hk0 (tz (Ad f a)) (Af f a+CO 10000 n)
  rw [Nat.mul_comm,← o4,show Af f a+CO 10000 n+(tz (Ad f a):Int)=Af f a+tz (Ad f a)+CO 10000 n by omega] at hsc
  rw [← hsc,aJX hf m (sF f a) hmn (Nat.lt_trans hml (Nat.pow_lt_pow_right (by decide) (by decide))) ⟨hxb.1,hxb.2⟩ n] at p6
  have p6:OA (f,m,(sF f a,Dw k,Af f a+tz (Ad f a)+CO 10000 n,()),())=_:=p6
  simp only [sH p6,rL p6,cond_true]
end VL
namespace VL
open Go Vx
theorem Za {x:Nat} (h:x<2^64):AQ .u64 (x:Int) 4294967295=((x%2^32:Nat):Int):=UY (n:=32) h (by decide)
theorem S2 (x:Nat):AJ .u64 (x:Int) 32=((x/2^32:Nat):Int):=by
 have h:=aBk (a:=(x:Int)) 32 (by decide)
 rw [show ((32:Nat):Int)=32 from rfl] at h
 rw [h]; norm_cast
theorem aT2 {x0 x1 y0 y1:Nat} (h0:x0<2^32) (h1:x1<2^32) (k0:y0<2^32) (k1:y1<2^32) :
  ((x1*y1%2^64+(x1*y0%2^64+x0*y0%2^64/2^32)%2^64/2^32)%2^64+((x1*y0%2^64+x0*y0%2^64/2^32)%2^64%2^32+x0*y1%2^64)%2^64/2^32)%2^64=(x0+2^32*x1)*(y0+2^32*y1)/2^64:=by
 have b00:x0*y0<=(2^32-1)*(2^32-1):=Nat.mul_le_mul (by omega) (by omega)
 have b01:x0*y1<=(2^32-1)*(2^32-1):=Nat.mul_le_mul (by omega) (by omega)
 have b10:x1*y0<=(2^32-1)*(2^32-1):=Nat.mul_le_mul (by omega) (by omega)
 have b11:x1*y1<=(2^32-1)*(2^32-1):=Nat.mul_le_mul (by omega) (by omega)
 have e1:x0*(2^32*y1)=2^32*(x0*y1):=Nat.mul_left_comm _ _ _
 have e2:2^32*x1*y0=2^32*(x1*y0):=Nat.mul_assoc _ _ _
 have e3:2^32*x1*(2^32*y1)=2^64*(x1*y1):=by
  rw [Nat.mul_assoc,Nat.mul_left_comm x1,← Nat.mul_assoc]
 rw [Nat.add_mul,Nat.mul_add,Nat.mul_add,e1,e2,e3]
 generalize x0*y0=a at *
 generalize x0*y1=b at *
 generalize x1*y0=c at *
 generalize x1*y1=d at *
 have ha:a%2^64=a:=Nat.mod_eq_of_lt (by omega)
 have hb:b%2^64=b:=Nat.mod_eq_of_lt (by omega)
 have hc:c%2^64=c:=Nat.mod_eq_of_lt (by omega)
 have hd:d%2^64=d:=Nat.mod_eq_of_lt (by omega)
 rw [ha,hb,hc,hd]
 have ht:(c+a/2^32)%2^64=c+a/2^32:=Nat.mod_eq_of_lt (by omega)
 rw [ht]
 generalize hT:c+a/2^32=t
 have hw:(t%2^32+b)%2^64=t%2^32+b:=Nat.mod_eq_of_lt (by omega)
 rw [hw]
 have hq:(d+t/2^32)%2^64=d+t/2^32:=Nat.mod_eq_of_lt (by omega)
 rw [hq]
 omega
theorem kN {x y:Nat} (hx:x<2^64) (hy:y<2^64):Yt ((x:Int),(y:Int),())=some (((x*y/2^64:Nat):Int),((x*y%2^64:Nat):Int),()):=by
 show iO (x:Int) (y:Int)=_
 unfold iO
 dsimp only
 rw [Za hx,Za hy,S2 x,S2 y]
 have hm:∀ z:Nat,z%2^64<2^64:=fun z=>Nat.mod_lt _ (by decide)
 have am:∀ z:Nat,AQ .u64 ((z%2^64:Nat):Int) 4294967295=((z%2^64%2^32:Nat):Int):=fun z=>Za (hm z)
 have wm:∀ a b:Nat,IntKind.wrap .u64 ((a:Int)*(b:Int))=((a*b%2^64:Nat):Int):=fun a b=>by rw [← Int.natCast_mul]; exact Ji _
 have wa:∀ a b:Nat,IntKind.wrap .u64 ((a:Int)+(b:Int))=(((a+b)%2^64:Nat):Int):=fun a b=>by rw [← Int.natCast_add]; exact Ji _
 simp only [wm,wa,S2,am]
 have e:=aT2 (x0:=x%2^32) (x1:=x/2^32) (y0:=y%2^32) (y1:=y/2^32) (by omega) (by omega) (by omega) (by omega)
 rw [Nat.mod_add_div,Nat.mod_add_div] at e
 rw [e]
theorem sQ {x y:Nat} (hx:x<2^64) (hy:y<2^64):V4 ((x:Int),(y:Int),())=some (Wi (x*y),()):=by
 show aO AP.pre AP.F (x:Int) (y:Int)=_
 unfold aO
 have p:=kN hx hy
 simp only [j7 p,cO p,cond_true]
 rfl
def AM (f:Int) (a:Nat):Bool:=eF f a==0&&mF f a==0
theorem X8 {f:Int} (hf:Fm f) (a:Nat):(Av f a==5||Av f a==6)=AM f a:=by
 have hp:=OR hf
 have hne:(eF f a==BG f&&eF f a==0)=false:=by
  cases h:eF f a==BG f
  ·rfl
  ·have:=beq_iff_eq.1 h
   rw [Bool.true_and,this]
   exact beq_eq_false_iff_ne.2 (by omega)
 unfold Av AM
 cases h1:eF f a==BG f <;> cases h2:eF f a==0 <;> rw [h1,h2] at hne <;> cases mF f a==0 <;> cases sF f a <;> cases mF f a/2^(fP f-2) != 0 <;> first | rfl | cases hne
theorem aSC {f:Int} (hf:Fm f) {a:Nat} (h:eF f a=0) :
  IntKind.wrap .i64 (IntKind.wrap .i64 (IntKind.wrap .i64 (IntKind.wrap .i64 (IntKind.wrap .i64 (1:Int)-1)+(1-(fX f:Int)))-(fP f:Int))+1)=Af f a:=by
 have h3:=E9 hf
 have h4:=Ho hf
 unfold Af
 rw [if_pos h,show IntKind.wrap .i64 (1:Int)=1 from rfl,As (n:=(1:Int)-1) (by omega),As (n:=(1:Int)-1+(1-(fX f:Int))) (by omega),As (n:=(1:Int)-1+(1-(fX f:Int))-(fP f:Int)) (by omega),As (by omega)]
 omega
theorem aPe {f:Int} (hf:Fm f) {a:Nat} (h:eF f a≠0) :
  IntKind.wrap .i64 (IntKind.wrap .i64 (IntKind.wrap .i64 (IntKind.wrap .i64 (IntKind.wrap .i64 (eF f a:Int)-1)+(1-(fX f:Int)))-(fP f:Int))+1)=Af f a:=by
 have h3:=E9 hf
 have h4:=Ho hf
 have hE:=Sf hf a
 unfold Af
 rw [if_neg h,As (n:=(eF f a:Int)) (by omega),As (n:=(eF f a:Int)-1) (by omega),As (n:=(eF f a:Int)-1+(1-(fX f:Int))) (by omega),As (n:=(eF f a:Int)-1+(1-(fX f:Int))-(fP f:Int)) (by omega),As (by omega)]
 omega
theorem aNm {f:Int} (hf:Fm f) (a:Nat):AX .u64 (mF f a:Int) (AT .u64 1 (IntKind.wrap .i64 ((fP f:Int)-1)))=((mF f a+2^(fP f-1):Nat):Int):=by
 have h1:=Dq hf
 have h3:=E9 hf
 have hM:=SE f a
 have hPp:2^(fP f-1)<=2^52:=Nat.pow_le_pow_right (by decide) (by omega)
 have e0:IntKind.wrap .i64 ((fP f:Int)-1)=((fP f-1:Nat):Int):=Bn _ (by omega)
 have e3:AT .u64 1 ((fP f-1:Nat):Int)=((2^(fP f-1):Nat):Int):=KT (by omega)
 rw [e0,e3]
 have:=Fc (a:=mF f a) (b:=1) (k:=fP f-1) hM (by omega)
 rwa [Nat.one_mul] at this
theorem aC6 {f:Int} {a:Nat} (h:Am f a=0):U5 (f,Br f,(a:Int),())=some ((Av f a,sF f a,(Ad f a:Int),Af f a,()),0,()):=by
 obtain ⟨hf,h0⟩:=CT h
 have ha:=J4 h
 show UW AE.pre AE.F Bq.pre Bq.F f (Br f) a=_
 unfold UW
 have p1:=FR ha h
 have p2:=Su h
 have h1:=Dq hf
 have h3:=E9 hf
 have r1:(Br f).2.1=(fP f:Int):=rfl
 have r2:(Br f).2.2.1=1-(fX f:Int):=rfl
 have e0:decide (0<=IntKind.wrap .i64 ((fP f:Int)-1))=true:=by
  rw [Bn _ (by omega)]; exact AW _
 simp only [Dx p1,Du p1,RW p2,Sq p2,cond_true,bne_self_eq_false,cond_false,r1,r2,e0]
 by_cases hz:eF f a=0
 ·rw [By _ hz,cond_true,aSC hf hz]
  have hm:Ad f a=mF f a:=by unfold Ad; rw [if_pos hz]
  rw [hm]
 ·rw [AU _ hz,cond_false,aPe hf hz,aNm hf]
  have hm:Ad f a=mF f a+2^(fP f-1):=by unfold Ad; rw [if_neg hz]
  rw [hm]
theorem aFi {f:Int} {a:Nat} (ha:a<2^64) (h:Am f a≠0):U5 (f,Br f,(a:Int),())=some ((0,false,0,0,()),Am f a,()):=by
 show UW AE.pre AE.F Bq.pre Bq.F f (Br f) a=_
 unfold UW
 have p1:=SF ha h
 have e:(Am f a != 0)=true:=bne_iff_ne.2 h
 simp only [Dx p1,Du p1,cond_true,e]
def aDP (f m:Int) (a b:Nat):Int×Int×Int×Unit :=
 bif nan f a||nan f b then ((CE f:Int),(bif AK f a||AK f b then 1 else 0),0,())
 else bif (Au f a&&AM f b)||(AM f a&&Au f b) then ((CE f:Int),1,0,())
 else bif Au f a||Au f b then ((Ge f (!(sF f a==sF f b)):Int),0,0,())
 else bif AM f a||AM f b then ((Co f (!(sF f a==sF f b)):Int),0,0,())
 else (((AD f m (!(sF f a==sF f b)) (Ad f a*Ad f b) (Af f a+Af f b) false).1:Int),((AD f m (!(sF f a==sF f b)) (Ad f a*Ad f b) (Af f a+Af f b) false).2:Int),0,())
def Sp (f m:Int) (a b:Nat):Int×Int×Int×Unit :=
 if ¬ Fm f then (0,0,2,())
 else if m<0∨m>5 then (0,0,3,())
 else if Am f a≠0 then (0,0,Am f a,())
 else if Am f b≠0 then (0,0,Am f b,())
 else aDP f m a b
theorem I1 {f:Int} {a:Nat} (h:AM f a=false):Ad f a≠0:=by
 unfold AM at h
 unfold Ad
 by_cases hz:eF f a=0
 ·rw [if_pos hz]
  intro hm
  rw [hz,hm] at h
  cases h
 ·rw [if_neg hz]
  have:=Nat.two_pow_pos (fP f-1)
  omega
theorem aUj (f m:Int) {a b:Nat} (ha:a<2^64) (hb:b<2^64):ZG (f,m,(a:Int),(b:Int),())=some (Sp f m a b):=by
 show jJ Aq.pre Aq.F Pb.pre Pb.F PZ.pre PZ.F AB.pre AB.F N2.pre N2.F B6.pre B6.F QG.pre QG.F A1.pre A1.F C2.pre C2.F A4.pre A4.F f m a b=_
 unfold jJ Sp
 dsimp only
 by_cases hf:¬ Fm f
 ·have p0:=GH hf
  rw [if_pos hf]
  simp only [Dc p0,Dg p0,cond_true]
  rfl
 have hf:=Classical.not_not.1 hf
 have p0:=FE hf
 rw [if_neg (show ¬ ¬ Fm f from fun h=>h hf)]
 simp only [Dc p0,Dg p0,cond_true,bne_self_eq_false,cond_false]
 by_cases hm:m<0∨m>5
 ·rw [if_pos hm]
  have:(decide (m<0)||decide (m>5))=true:=by rcases hm with h | h <;> simp [h]
  rw [this,cond_true]
 rw [if_neg hm]
 have hm':0<=m/\m<=5:=by omega
 have:(decide (m<0)||decide (m>5))=false:=by simp; omega
 rw [this,cond_false]
 by_cases hca:Am f a≠0
 ·have p1:=aFi ha hca
  have e:(Am f a != 0)=true:=bne_iff_ne.2 hca
  rw [if_pos hca]
  simp only [kF p1,bL p1,cond_true,e]
 have hca:=Classical.not_not.1 hca
 have p1:=aC6 hca
 rw [if_neg (show ¬ Am f a≠0 from fun h=>h hca)]
 simp only [kF p1,bL p1,cond_true,bne_self_eq_false,cond_false]
 by_cases hcb:Am f b≠0
 ·have p2:=aFi hb hcb
  have e:(Am f b != 0)=true:=bne_iff_ne.2 hcb
  rw [if_pos hcb]
  simp only [kF p2,bL p2,cond_true,e]
 have hcb:=Classical.not_not.1 hcb
 have p2:=aC6 hcb
 rw [if_neg (show ¬ Am f b≠0 from fun h=>h hcb)]
 have n351:∀ (c:Int) (s:Bool) (n e:Int),Ya ((c,s,n,e,()),())=some ((c==1||c==0),()):=fun _ _ _ _=>rfl
 have n352:∀ (c:Int) (s:Bool) (n e:Int),Zj ((c,s,n,e,()),())=some ((c==2||c==9),()):=fun _ _ _ _=>rfl
 have n353:∀ (c:Int) (s:Bool) (n e:Int),Zr ((c,s,n,e,()),())=some ((c==5||c==6),()):=fun _ _ _ _=>rfl
 have q1:=n351 (Av f a) (sF f a) (Ad f a:Int) (Af f a)
 have q2:=n351 (Av f b) (sF f b) (Ad f b:Int) (Af f b)
 have q3:=n352 (Av f a) (sF f a) (Ad f a:Int) (Af f a)
 have q4:=n352 (Av f b) (sF f b) (Ad f b:Int) (Af f b)
 have q5:=n353 (Av f a) (sF f a) (Ad f a:Int) (Af f a)
 have q6:=n353 (Av f b) (sF f b) (Ad f b:Int) (Af f b)
 rw [G9] at q1 q2
 rw [VA] at q3 q4
 rw [X8 hf] at q5 q6
 have s:=!(sF f a==sF f b)
 have p3:=En hf
 have p4:=Vd hf (!(sF f a==sF f b))
 have p5:=MK hf (!(sF f a==sF f b))
 have ma:=FB hf a
 have mb:=FB hf b
 have xa:=FN hf a
 have xb:=FN hf b
 have hprod:Ad f a*Ad f b<2^128:=Nat.lt_of_lt_of_le (Nat.mul_lt_mul'' ma mb) (by decide)
 have p6:=sQ (x:=Ad f a) (y:=Ad f b) (Nat.lt_trans ma (by decide)) (Nat.lt_trans mb (by decide))
 have p7:=KQ hf hm' (!(sF f a==sF f b)) (Ad f a*Ad f b) hprod (Af f a+Af f b) (by omega) false (fun h=>by cases h)
 have ew:IntKind.wrap .i64 (Af f a+Af f b)=Af f a+Af f b:=As (by omega)
 simp only [kF p2,bL p2,cond_true,bne_self_eq_false,cond_false,aGd q1,aCu q1,aGd q2,aCu q2,aDw q3,aEh q3,aDw q4,aEh q4,aD6 q5,aGw q5,aD6 q6,aGw q6,Fx p3,Fp p3,Te p4,T9 p4,LE p5,Mz p5,vE p6,oV p6,ew,HA p7,Hc p7,Bool.true_or,E0]
 unfold aDP
 cases h1:nan f a||nan f b
 ·simp only [cond_false]
  cases h2:Au f a&&AM f b||AM f a&&Au f b
  ·simp only [cond_false]
   cases h3:Au f a||Au f b
   ·simp only [cond_false]
    cases h4:AM f a||AM f b
    ·simp only [cond_false]
     simp only [Bool.or_eq_false_iff] at h4
     rw [if_neg (Nat.mul_ne_zero (I1 h4.1) (I1 h4.2))]
    ·simp only [cond_true]
   ·simp only [cond_true]
  ·simp only [cond_true]
 ·simp only [cond_true]
  cases AK f a||AK f b <;> rfl
end VL
namespace VL
open Go Vx
theorem tD (n:Nat):∃ r,r*r<=n/\n<(r+1)*(r+1):=by
 induction n with
 | zero=>exact ⟨0,by decide,by decide⟩
 | succ n ih =>
  obtain ⟨r,h1,h2⟩:=ih
  by_cases h:n+1<(r+1)*(r+1)
  ·exact ⟨r,by omega,h⟩
  ·refine ⟨r+1,by omega,?_⟩
   have:(r+1+1)*(r+1+1)=(r+1)*(r+1)+2*(r+1)+1:=by
    rw [Nat.mul_add (r+1+1),Nat.add_mul (r+1) 1 (r+1)]; omega
   omega
def Az (n:Nat):Nat:=Classical.choose (tD n)
theorem gZ (n:Nat):Az n*Az n<=n:=(Classical.choose_spec (tD n)).1
theorem qE (n:Nat):n<(Az n+1)*(Az n+1):=(Classical.choose_spec (tD n)).2
theorem iS {a b:Nat} (h:a<=b):a*a<=b*b:=Nat.mul_le_mul h h
theorem mG {a b:Nat} (h:a*a<b*b):a<b:=by
 rcases Nat.lt_or_ge a b with h1 | h1
 ·exact h1
 ·exact absurd (iS h1) (by omega)
theorem aB1 {n r:Nat} (h1:r*r<=n) (h2:n<(r+1)*(r+1)):Az n=r:=by
 have h3:=gZ n
 have h4:=qE n
 have:=mG (show r*r<(Az n+1)*(Az n+1) by omega)
 have:=mG (show Az n*Az n<(r+1)*(r+1) by omega)
 omega
theorem pM {n r:Nat} (h:r*r<=n):r<=Az n:=by
 have:=mG (show r*r<(Az n+1)*(Az n+1) from Nat.lt_of_le_of_lt h (qE n))
 omega
theorem mR (r:Nat):Az (r*r)=r:=aB1 (Nat.le_refl _) (by rw [Nat.mul_add,Nat.add_mul]; omega)
theorem aL7 {n:Nat} (h:n≠0):1<=Az n:=pM (by omega)
theorem Uw (a b:Nat):(a*b)*(a*b)=a*a*(b*b):=by
 rw [Nat.mul_assoc,Nat.mul_left_comm b a b,Nat.mul_assoc]
theorem aUk (n K:Nat) (hK:0<K):Az (n*(K*K))/K=Az n:=by
 symm
 have h1:=gZ (n*(K*K))
 have h2:=qE (n*(K*K))
 generalize Az (n*(K*K))=R at *
 have hKK:=Nat.mul_pos hK hK
 apply aB1
 ·have h3:=iS (Nat.div_mul_le_self R K)
  rw [Uw] at h3
  exact Nat.le_of_mul_le_mul_right (Nat.le_trans h3 h1) hKK
 ·have h3:R+1<=(R/K+1)*K:=by
   have:=Nat.lt_div_mul_add hK (a:=R)
   rw [Nat.add_mul,Nat.one_mul]; omega
  have h4:=iS h3
  rw [Uw] at h4
  exact Nat.lt_of_mul_lt_mul_right (Nat.lt_of_lt_of_le h2 h4)
theorem aBy:∀ (k R n:Nat),R*R=n*(2^k*2^k)->∃ q,R=q*2^k/\q*q=n
 | 0,R,n,h=>⟨R,by omega,by omega⟩
 | k+1,R,n,h=>by
  have e:n*(2^(k+1)*2^(k+1))=4*(n*(2^k*2^k)):=by
   rw [Nat.pow_succ,Uw,← Nat.mul_assoc n,Nat.mul_comm]
  rw [e] at h
  have hev:R%2=0:=by
   rcases Nat.mod_two_eq_zero_or_one R with h1 | h1
   ·exact h1
   ·have h2:R=2*(R/2)+1:=by omega
    have h3:R*R%2=1:=by rw [Nat.mul_mod,h1]
    omega
  obtain ⟨S,rfl⟩:∃ S,R=2*S:=⟨R/2,by omega⟩
  rw [Uw] at h
  obtain ⟨q,h1,h2⟩:=aBy k S n (by omega)
  exact ⟨q,by rw [h1,Nat.pow_succ,Nat.mul_comm (2^k) 2,Nat.mul_left_comm],h2⟩
theorem aCo (n k:Nat):Az (n*(2^k*2^k))*Az (n*(2^k*2^k))=n*(2^k*2^k)↔Az n*Az n=n:=by
 constructor
 ·intro h
  obtain ⟨q,h1,h2⟩:=aBy k _ n h
  rw [← h2,mR]
 ·intro h
  have e:n*(2^k*2^k)=(Az n*2^k)*(Az n*2^k):=by rw [Uw,h]
  rw [e,mR]
theorem aNd {n k:Nat} (h:Az n*Az n=n):Az (n*(2^k*2^k))=Az n*2^k:=by
 have e:n*(2^k*2^k)=(Az n*2^k)*(Az n*2^k):=by rw [Uw,h]
 rw [e,mR]
theorem aCO {f m:Int} {neg:Bool} {N:Nat} {E:Int} (hf:Fm f) (hb:fP f+2<=An N):AD f m neg N E true=AD f m neg (2*N+1) (E-1) false:=by
 have hP:=Dq hf
 have e1:(2*N+1)/2^1=N:=by omega
 have e2:(2*N+1)%2^1≠0:=by omega
 have h0:N≠0:=fun h=>by
  rw [h] at hb
  have:An 0=0:=rfl
  omega
 have:=YQ (f:=f) (m:=m) (neg:=neg) (N:=2*N+1) (k:=1) (E:=E-1) hf (by rw [e1]; exact h0) (fun _=>by rw [e1]; exact hb)
 rw [e1,decide_eq_true e2,show E-1+((1:Nat):Int)=E by omega] at this
 exact this
theorem aKM {f m:Int} {neg:Bool} {N k:Nat} {E:Int} (hf:Fm f) (hb:fP f+2<=An (N/2^k)):AD f m neg (N/2^k) E true=AD f m neg (2*N+1) (E-k-1) false:=by
 have hP:=Dq hf
 have e1:(2*N+1)/2^(k+1)=N/2^k:=by
  rw [Nat.pow_succ,Nat.mul_comm (2^k),← Nat.div_div_eq_div_mul,show (2*N+1)/2=N by omega]
 have e2:(2*N+1)%2^(k+1)≠0:=by
  rw [Nat.pow_succ,Nat.mul_comm (2^k),Nat.mod_mul]; omega
 have h0:N/2^k≠0:=fun h=>by
  rw [h] at hb
  have:An 0=0:=rfl
  omega
 have:=YQ (f:=f) (m:=m) (neg:=neg) (N:=2*N+1) (k:=k+1) (E:=E-k-1) hf (by rw [e1]; exact h0) (fun _=>by rw [e1]; exact hb)
 rw [e1,decide_eq_true e2,show E-k-1+((k+1:Nat):Int)=E by omega] at this
 exact this
def H2 (f m:Int) (X:Nat) (E:Int):Nat×Nat :=
 if Az X*Az X=X then AD f m false (Az X) E false else AD f m false (2*Az X+1) (E-1) false
theorem aMJ {f m:Int} (hf:Fm f) {X:Nat} {E:Int} (hb:fP f+2<=An (Az X)):H2 f m X E=AD f m false (Az X) E (!decide (Az X*Az X=X)):=by
 unfold H2
 by_cases h:Az X*Az X=X
 ·rw [if_pos h,decide_eq_true h]; rfl
 ·rw [if_neg h,decide_eq_false h,Bool.not_false,aCO hf hb]
theorem aBs {f m:Int} (hf:Fm f) {X k:Nat} {E:Int} (h0:X≠0) (hb:fP f+2<=An (Az X)):H2 f m (X*(2^k*2^k)) (E-k)=H2 f m X E:=by
 have hpos:=aL7 h0
 have hsc:=aUk X (2^k) (Nat.two_pow_pos k)
 unfold H2
 by_cases h:Az X*Az X=X
 ·rw [if_pos h,if_pos ((aCo X k).2 h),aNd h,LV hf (by omega),show E-(k:Int)+(k:Int)=E by omega]
 ·rw [if_neg h,if_neg (fun h2=>h ((aCo X k).1 h2)),← aCO hf hb]
  have:=aKM (f:=f) (m:=m) (neg:=false) (N:=Az (X*(2^k*2^k))) (k:=k) (E:=E) hf (by rw [hsc]; exact hb)
  rw [hsc] at this
  exact this.symm
theorem aUH {X k:Nat} (h:2^(2*k)<=X):k+1<=An (Az X):=by
 apply kB
 apply pM
 rw [← Nat.pow_add,show k+k=2*k by omega]
 exact h
theorem sS {X k:Nat} (h:X<2^(2*k)):Az X<2^k:=by
 apply mG
 rw [← Nat.pow_add,show k+k=2*k by omega]
 exact Nat.lt_of_le_of_lt (gZ X) h
end VL
namespace VL
open Go Vx
theorem aQ7 (e:Int):(Int.tmod e 2 != 0)=decide (e%2=1):=by
 have:Int.tmod e 2=0↔e%2=0:=by
  rw [← Int.dvd_iff_tmod_eq_zero,Int.dvd_iff_emod_eq_zero]
 rw [Bool.eq_iff_iff,bne_iff_ne,decide_eq_true_eq]
 omega
theorem aSm (z:Int) (h:-1000000<=z/\z<=1000000):BD .i64 (2*z) 2=z:=by
 unfold BD
 rw [Int.mul_tdiv_cancel_left z (by decide)]
 exact As (by omega)
theorem aIi (n:Nat) (hn:n<2^128):Yc ((((0:Int),((0:Int),((),()))),(Wi n,())):Pat.D Gn)=some (.inl (((Az n:Int),((),())),(Wi n,()))):=by
 have hb:Az n<2^64:=sS (k:=64) hn
 have key:=Dm (aFL Dz.pre Dz.F C2.pre C2.F) (fun x=>64-x.1.1.toNat)
  (fun x=>∃ i:Nat,i<=64/\x=(((i:Int),(((Az n/2^(64-i)*2^(64-i):Nat):Int),((),()))),(Wi n,())))
  (fun _=>.inl (((Az n:Int),((),())),(Wi n,()))) ?_ _ ⟨0,by omega,by rw [Nat.div_eq_of_lt hb]⟩
 ·exact key
 intro L x hx hL
 obtain ⟨i,hi,rfl⟩:=hx
 unfold Vw
 rcases Nat.lt_or_ge i 64 with hlt | hge
 ·have e5:IntKind.wrap .i64 ((63:Int)-(i:Int))=((63-i:Nat):Int):=by rw [As (by omega)]; omega
  have e6:IntKind.wrap .i64 ((i:Int)+1)=((i+1:Nat):Int):=by rw [As (by omega)]; omega
  have e7:decide ((0:Int)<=((63-i:Nat):Int))=true:=decide_eq_true (by omega)
  have e8:decide ((i:Int)<64)=true:=decide_eq_true (by omega)
  have es:64-i=(63-i)+1:=by omega
  rw [es]
  generalize hs:63-i=s at *
  have hs63:s<=63:=by omega
  have hsh:=KT hs63
  have hp:=Nat.two_pow_pos s
  have hd:Az n/2^(s+1)=Az n/2^s/2:=by rw [Nat.pow_succ,Nat.div_div_eq_div_mul]
  have hdm:=Nat.div_add_mod (Az n) (2^s)
  have hml:=Nat.mod_lt (Az n) hp
  have hps:2^(s+1)=2^s*2:=Nat.pow_succ ..
  generalize hc:Az n/2^s=c at *
  have hcle:c*2^s<=Az n:=by rw [Nat.mul_comm]; omega
  have e1:c/2*2^(s+1)=2^s*(2*(c/2)):=by rw [hps,Nat.mul_comm,Nat.mul_assoc]
  have hw:AX .u64 ((c/2*2^(s+1):Nat):Int) ((2^s:Nat):Int)=((2^s*(2*(c/2)+1):Nat):Int):=by
   have hlt2:2^s*(2*(c/2)+1)<2^64:=by
    have h1:Az n<2^s*(c+1):=by rw [Nat.mul_add,Nat.mul_one]; omega
    have h2:2^s*(c+1)<=2^64:=by
     have e:2^64=2^s*2^(64-s):=by rw [← Nat.pow_add]; congr 1; omega
     have h3:c<2^(64-s):=by
      rw [e] at hb
      have:2^s*c<2^s*2^(64-s):=by omega
      exact Nat.lt_of_mul_lt_mul_left this
     rw [e]
     exact Nat.mul_le_mul_left _ h3
    have e2:2^64=2^(s+1)*2^(63-s):=by rw [← Nat.pow_add]; congr 1; omega
    have h4:c/2<2^(63-s):=by
     have h3:2^s*c<2^64:=by omega
     rw [e2,hps,Nat.mul_assoc] at h3
     have:=Nat.lt_of_mul_lt_mul_left h3
     omega
    have h5:2^s*(2*(c/2)+1)<2^s*(2*(c/2+1)):=Nat.mul_lt_mul_of_pos_left (by omega) hp
    have h6:2^s*(2*(c/2+1))<=2^64:=by
     rw [e2,hps,Nat.mul_assoc]
     exact Nat.mul_le_mul_left _ (Nat.mul_le_mul_left _ h4)
    omega
   have ha:c/2*2^(s+1)<2^64:=by
    rw [e1]
    have:=Nat.mul_le_mul_left (2^s) (show 2*(c/2)<=2*(c/2)+1 by omega)
    omega
   rw [Th ha (Nat.pow_lt_pow_right (by decide) (by omega))]
   congr 1
   have:=Nat.two_pow_add_eq_or_of_lt (i:=s+1) (b:=2^s) (by rw [hps]; omega) (c/2)
   rw [Nat.mul_comm (c/2),← this,hps,Nat.mul_add,Nat.mul_one,Nat.mul_assoc]
  have hW:2^s*(2*(c/2)+1)<2^64:=by
   have h3:2^s*c<2^64:=by omega
   have e:2^64=2^s*(2*2^(63-s)):=by rw [← Nat.mul_assoc,← Nat.pow_succ,← Nat.pow_add]; congr 1; omega
   rw [e] at h3 ⊢
   have h4:=Nat.lt_of_mul_lt_mul_left h3
   exact Nat.mul_lt_mul_of_pos_left (by omega) hp
  have p0:=sQ hW hW
  have p1:=aE2 (2^s*(2*(c/2)+1)*(2^s*(2*(c/2)+1))) n
  have hle:decide ((if 2^s*(2*(c/2)+1)*(2^s*(2*(c/2)+1))=n then (0:Int) else if 2^s*(2*(c/2)+1)*(2^s*(2*(c/2)+1))<n then -1 else 1)<=0)=decide (c%2=1):=by
   have h1:2^s*(2*(c/2)+1)*(2^s*(2*(c/2)+1))<=n↔c%2=1:=by
    constructor
    ·intro h
     have h2:=pM h
     have h3:2^s*(2*(c/2)+1)<2^s*(c+1):=by rw [Nat.mul_add (2^s) c,Nat.mul_one]; omega
     have:=Nat.lt_of_mul_lt_mul_left h3
     omega
    ·intro h
     have e:2*(c/2)+1=c:=by omega
     rw [e,Nat.mul_comm (2^s) c]
     exact Nat.le_trans (iS hcle) (gZ n)
   rw [Bool.eq_iff_iff,decide_eq_true_eq,decide_eq_true_eq,← h1]
   split
   ·omega
   ·split <;> omega
  dsimp only
  simp only [e5,e6,e7,e8,hd,hsh,hw,cond_true,vE p0,oV p0,aE5 p1,aDl p1,hle]
  by_cases hc1:c%2=1
  ·rw [decide_eq_true hc1,cond_true]
   have e:2*(c/2)+1=c:=by omega
   rw [e]
   exact hL _ ⟨i+1,by omega,by rw [show 64-(i+1)=s by omega,hc,Nat.mul_comm]⟩ (by simp only [Int.toNat_natCast]; omega)
  ·rw [decide_eq_false hc1,cond_false]
   have e:2*(c/2)=c:=by omega
   rw [e1,e]
   exact hL _ ⟨i+1,by omega,by rw [show 64-(i+1)=s by omega,hc,Nat.mul_comm]⟩ (by simp only [Int.toNat_natCast]; omega)
 ·have e:i=64:=by omega
  subst e
  have e8:decide (((64:Nat):Int)<64)=false:=rfl
  simp only [e8,cond_false,Nat.sub_self,Nat.pow_zero,Nat.div_one,Nat.mul_one]
theorem aOE {a b:Nat}:(((Wi a).1==(Wi b).1)&&((Wi a).2.1==(Wi b).2.1))=decide (a=b):=by
 show (((a/2^64:Nat):Int)==((b/2^64:Nat):Int)&&((a%2^64:Nat):Int)==((b%2^64:Nat):Int))=_
 rw [Hw,Hw,Bool.eq_iff_iff,Bool.and_eq_true,beq_iff_eq,beq_iff_eq,decide_eq_true_eq]
 omega
theorem aIU (n:Nat) (hn:n<2^128):Vl (Wi n,())=some ((Az n:Int),decide (Az n*Az n=n),()):=by
 have hb:Az n<2^64:=sS (k:=64) hn
 show bY Dz.pre Dz.F C2.pre C2.F Yc (Wi n)=_
 unfold bY
 have hw:=aIi n hn
 have p0:=sQ hb hb
 show Vx.A3 (Yc (((0:Int),((0:Int),((),()))),(Wi n,()))) _=_
 rw [hw]
 show (bif C2.pre ((Az n:Int),((Az n:Int),())) then some ((Az n:Int),((((C2.F ((Az n:Int),((Az n:Int),()))).1.1==(Wi n).1)&&((C2.F ((Az n:Int),((Az n:Int),()))).1.2.1==(Wi n).2.1)),())) else none)=_
 simp only [vE p0,oV p0,cond_true]
 exact congrArg (fun b:Bool=>some ((Az n:Int),(b,()))) aOE
theorem aUx {n:Nat} (hn:n<2^64):Xu (((0:Int),((n:Int),())),())=some ((An n:Int),()):=by
 show lS Bx.pre Bx.F ((0:Int),((n:Int),()))=_
 unfold lS
 have p0:=Vk n hn
 simp only [bne_self_eq_false,cond_false,UZ p0,UD p0,cond_true]
theorem aPM {f:Int} {a:Nat} (h:Am f a=0):ZQ (f,Br f,(a:Int),())=some ((Ad f a:Int),Af f a,()):=by
 obtain ⟨hf,h0⟩:=CT h
 show cH Bq.pre Bq.F f (Br f) a=_
 unfold cH
 have h1:=Dq hf
 have h2:=EC hf
 have h3:=D5 hf
 have h4:=Ho hf
 have h5:=E9 hf
 have h6:=Rp hf
 have hE:=Sf hf a
 have hM:=SE f a
 have hPp:2^(fP f-1)<=2^52:=Nat.pow_le_pow_right (by decide) (by omega)
 have p98:=Su h
 have r2:(Br f).2.1=(fP f:Int):=rfl
 have r3:(Br f).2.2.1=1-(fX f:Int):=rfl
 have e2:IntKind.wrap .i64 ((fP f:Int)-1)=((fP f-1:Nat):Int):=Bn _ (by omega)
 have e3:AT .u64 1 ((fP f-1:Nat):Int)=((2^(fP f-1):Nat):Int):=KT (by omega)
 have e4:AX .u64 (mF f a:Int) ((2^(fP f-1):Nat):Int)=((mF f a+2^(fP f-1):Nat):Int):=by
  have:=Fc (a:=mF f a) (b:=1) (k:=fP f-1) hM (by omega)
  rwa [Nat.one_mul] at this
 have hE2:eF f a<65536:=by
  have:=aGZ (f:=f) a
  have e:BG f=2*fX f+1:=by unfold BG; rw [← aGG hf]
  omega
 have e5:∀ k:Nat,k<65536->IntKind.wrap .i64 (IntKind.wrap .i64 (IntKind.wrap .i64 (IntKind.wrap .i64 (IntKind.wrap .i64 (k:Int)-1)+(1-(fX f:Int)))-(fP f:Int))+1)=(k:Int)-1+(1-(fX f:Int))-(fP f:Int)+1:=fun k hk=>by
  rw [As (n:=(k:Int)) (by omega),As (n:=(k:Int)-1) (by omega),As (n:=(k:Int)-1+_) (by omega),As (n:=(k:Int)-1+_-_) (by omega),As (by omega)]
 have e6:=e5 1 (by decide)
 rw [show ((1:Nat):Int)=1 from rfl] at e6
 dsimp only
 simp only [r2,r3,e2,AW,cond_true,RW p98,Sq p98,e3,e4,e6,e5 _ hE2,Fq]
 unfold Ad Af
 by_cases hz:eF f a=0
 ·rw [hz,if_pos rfl,if_pos rfl]
  show some ((mF f a:Int),((1:Int)-1+(1-(fX f:Int))-(fP f:Int)+1,()))=_
  rw [show (1:Int)-1+(1-(fX f:Int))-(fP f:Int)+1=1-(fX f:Int)-(fP f:Int)+1+0 by omega]
 ·have:(eF f a==0)=false:=by simpa using hz
  rw [this,cond_false,if_neg hz,if_neg hz]
  rw [show (eF f a:Int)-1+(1-(fX f:Int))-(fP f:Int)+1=1-(fX f:Int)-(fP f:Int)+1+((eF f a:Int)-1) by omega]
def Cz (f:Int) (l:List Nat):Bool:=l.all fun a=>Am f a==0
theorem TM {f:Int} (hf:Fm f) (a:Nat):Am f a=0∨Am f a=4:=by
 unfold Am
 rw [if_pos hf]
 split <;> simp
theorem aN3 {f:Int} (hf:Fm f) (l:List Nat) (hl:∀ a∈l,a<2^64) (hlen:l.length<1000) (z r:Aa (.pair (.int .i64) (.pair (.int .i64) (.pair (.int .i64) (.pair (.int .i64) (.unit)))))) :
  YO ((((l.length:Int),(Wd l,(f,((0:Int),((),((),())))))),(z,(r,()))):Pat.D GS)=some (bif Cz f l then .inl (((),((),())),(z,(r,()))) else .inr (((),((4:Int),())),(r,()))):=by
 have key:=Dm (aBr Aq.pre Aq.F Ar.pre Ar.F) (fun x=>l.length-x.1.2.2.2.1.toNat)
  (fun x=>∃ i:Nat,i<=l.length/\Cz f (l.take i)=true/\x=(((l.length:Int),(Wd l,(f,((i:Int),((),((),())))))),(z,(r,()))))
  (fun _=>bif Cz f l then .inl (((),((),())),(z,(r,()))) else .inr (((),((4:Int),())),(r,()))) ?_ _ ⟨0,Nat.zero_le _,rfl,rfl⟩
 ·exact key
 intro L x hx hL
 obtain ⟨i,hi,hok,rfl⟩:=hx
 unfold Vh
 rcases Nat.lt_or_ge i l.length with hlt | hge
 ·have hg:l.getD i 0=l[i]:=by simp [List.getD_eq_getElem?_getD,hlt]
  have hmem:l[i]∈l:=List.getElem_mem hlt
  have ha:=hl _ hmem
  have p0:=Ex f l[i] ha
  have e0:decide ((i:Int)<(l.length:Int))=true:=decide_eq_true (by omega)
  have e1:(decide ((0:Int)<=(i:Int))&&decide ((i:Int)<((Wd l).length:Int)))=true:=by rw [AA,decide_eq_true (by omega),decide_eq_true (by omega)]; rfl
  have e2:(Wd l).getD (Int.toNat (i:Int)) 0=((l[i]:Nat):Int):=by rw [Int.toNat_natCast,B9,hg]
  have e3:IntKind.wrap .i64 ((i:Int)+1)=((i+1:Nat):Int):=by rw [As (by omega)]; omega
  have htk:l.take (i+1)=l.take i++[l[i]]:=by rw [List.take_succ_eq_append_getElem hlt]
  dsimp only
  simp only [e0,e1,e2,e3,cond_true,Dv p0,Dy p0]
  by_cases hc:Am f l[i]=0
  ·rw [hc,bne_self_eq_false,cond_false]
   refine hL _ ⟨i+1,by omega,?_,rfl⟩ (by simp only [Int.toNat_natCast]; omega)
   unfold Cz at hok ⊢
   rw [htk,List.all_append,hok,List.all_cons,hc]; rfl
  ·have h4:Am f l[i]=4:=(TM hf _).resolve_left hc
   have hno:Cz f l=false:=by
    unfold Cz
    rw [List.all_eq_false]
    exact ⟨l[i],hmem,by rw [h4]; decide⟩
   rw [h4,hno]; rfl
 ·have e:i=l.length:=by omega
  subst e
  rw [List.take_length] at hok
  have e0:decide ((l.length:Int)<(l.length:Int))=false:=decide_eq_false (by omega)
  simp only [e0,cond_false]
  rw [hok]; rfl
def AR (f m:Int) (l:List Nat):Int:=if ¬ Fm f then 2 else if m<0∨m>5 then 3 else bif Cz f l then 0 else 4
theorem aP1 {f m:Int} (hf:Fm f) (l:List Nat) (hl:∀ a∈l,a<2^64) (hlen:l.length<1000):TY (f,m,Wd l,())=some (Br f,AR f m l,()):=by
 show Tx Aq.pre Aq.F Ar.pre Ar.F YO f m (Wd l)=_
 unfold Tx AR
 have p0:=FE hf
 rw [if_neg (show ¬ ¬ Fm f from fun h=>h hf)]
 simp only [Dc p0,Dg p0,cond_true,bne_self_eq_false,cond_false]
 by_cases hm:m<0∨m>5
 ·have:(decide (m<0)||decide (m>5))=true:=by rw [Bool.or_eq_true,decide_eq_true_eq,decide_eq_true_eq]; exact hm
  rw [this,if_pos hm]; rfl
 ·have:(decide (m<0)||decide (m>5))=false:=by rw [Bool.or_eq_false_iff,decide_eq_false_iff_not,decide_eq_false_iff_not]; omega
  rw [this,if_neg hm,cond_false,AA,aN3 hf l hl hlen]
  cases Cz f l <;> rfl
theorem aKJ {f m:Int} (hf:¬ Fm f) (l:List Nat):TY (f,m,Wd l,())=some ((0,0,0,0,()),2,()):=by
 show Tx Aq.pre Aq.F Ar.pre Ar.F YO f m (Wd l)=_
 unfold Tx
 have p0:=GH hf
 simp only [Dc p0,Dg p0,cond_true]
 rfl
theorem aTG {f:Int} (hf:Fm f) (c:Int):Y2 (f,c,())=some (bif c==1 then ((CE f:Int),0,true,()) else bif (c==0||c==2||c==3||c==4) then ((CE f:Int),1,true,()) else ((0:Int),0,false,())):=by
 show lD AB.pre AB.F f c=_
 unfold lD
 have p0:=En hf
 simp only [Fx p0,Fp p0,cond_true]
 cases c==1 <;> cases c==0 <;> cases c==2 <;> cases c==3 <;> cases c==4 <;> rfl
theorem aIS {f:Int} (hf:Fm f) (a:Nat):(Av f a==2||Av f a==3||Av f a==4)=(sF f a&&!AM f a&&!nan f a):=by
 have hfull:=OR hf
 unfold Av AM nan
 simp only [bne]
 cases h1:eF f a==BG f <;> cases h2:mF f a==0 <;> cases sF f a <;> cases h3:eF f a==0 <;> cases mF f a/2^(fP f-2)==0 <;> first | rfl | (exfalso; rw [beq_iff_eq] at h1 h3; omega)
theorem aTk {f:Int} (hf:Fm f) (a:Nat):(Av f a==9)=(Au f a&&!sF f a):=by
 have hfull:=OR hf
 unfold Av Au
 simp only [bne]
 cases h1:eF f a==BG f <;> cases h2:mF f a==0 <;> cases sF f a <;> cases h3:eF f a==0 <;> cases mF f a/2^(fP f-2)==0 <;> first | rfl | (exfalso; rw [beq_iff_eq] at h1 h3; omega)
def Lx (f m:Int) (n:Nat) (e:Int):Nat×Nat:=if e%2=1 then H2 f m (n*2*2^200) ((e-1)/2-100) else H2 f m (n*2^200) (e/2-100)
def MV (f m:Int) (a:Nat):Int×Int×Int×Unit :=
 if AR f m [a]≠0 then (0,0,AR f m [a],())
 else bif nan f a then ((CE f:Int),(bif AK f a then 1 else 0),0,())
 else bif sF f a&&!AM f a then ((CE f:Int),1,0,())
 else bif AM f a||Au f a then ((a:Int),0,0,())
 else (((Lx f m (Ad f a) (Af f a)).1:Int),((Lx f m (Ad f a) (Af f a)).2:Int),0,())
theorem Mt {f m:Int} {l:List Nat} (h:AR f m l=0):Fm f/\(0<=m/\m<=5)/\∀ a∈l,Am f a=0:=by
 unfold AR at h
 by_cases hf:Fm f
 ·rw [if_neg (show ¬ ¬ Fm f from fun h=>h hf)] at h
  by_cases hm:m<0∨m>5
  ·rw [if_pos hm] at h; cases h
  ·rw [if_neg hm] at h
   refine ⟨hf,by omega,?_⟩
   cases hk:Cz f l
   ·rw [hk] at h; cases h
   ·unfold Cz at hk
    rw [List.all_eq_true] at hk
    exact fun a ha=>by simpa using hk a ha
 ·rw [if_pos hf] at h; cases h
theorem aU2 {f m:Int} (hf:Fm f) {n:Nat} (h0:n≠0) (hn:n<2^64) (e:Int) (s:Nat) (hs:An n+s=126∨An n+s=127) (hpar:(e-s)%2=0) :
  Lx f m n e=H2 f m (n*2^s) ((e-s)/2)/\63<=An (Az (n*2^s))/\n*2^s<2^128:=by
 have hPl:=E9 hf
 have hb:=Et hn
 have hb1:=IZ h0
 have hle:=Ir h0
 have hlt:=G2 n
 have hlow:2^(2*62)<=n*2^s:=by
  have:2^(An n-1)*2^s<=n*2^s:=Nat.mul_le_mul_right _ hle
  rw [← Nat.pow_add] at this
  exact Nat.le_trans (Nat.pow_le_pow_right (by decide) (by omega)) this
 have hbl:=aUH hlow
 have hX0:n*2^s≠0:=fun h=>by rw [h] at hlow; exact absurd hlow (by decide)
 have hup:n*2^s<2^128:=by
  have:n*2^s<2^An n*2^s:=Nat.mul_lt_mul_of_pos_right hlt (Nat.two_pow_pos s)
  rw [← Nat.pow_add] at this
  exact Nat.lt_of_lt_of_le this (Nat.pow_le_pow_right (by decide) (by omega))
 refine ⟨?_,hbl,hup⟩
 unfold Lx
 by_cases ho:e%2=1
 ·rw [if_pos ho]
  obtain ⟨k,hk⟩:∃ k,s+2*k=201:=⟨(201-s)/2,by omega⟩
  have:=aBs (f:=f) (m:=m) (k:=k) (E:=(e-s)/2) hf hX0 (by omega)
  rw [← this]
  have e1:n*2*2^200=n*2^s*(2^k*2^k):=by
   rw [Nat.mul_assoc n 2,show 2*2^200=2^201 by decide,← hk,← Nat.pow_add,show k+k=2*k by omega,Nat.pow_add,Nat.mul_assoc]
  rw [e1,show (e-1)/2-100=(e-(s:Int))/2-(k:Int) by omega]
 ·rw [if_neg ho]
  obtain ⟨k,hk⟩:∃ k,s+2*k=200:=⟨(200-s)/2,by omega⟩
  have:=aBs (f:=f) (m:=m) (k:=k) (E:=(e-s)/2) hf hX0 (by omega)
  rw [← this]
  have e1:n*2^200=n*2^s*(2^k*2^k):=by
   rw [← hk,← Nat.pow_add,show k+k=2*k by omega,Nat.pow_add,Nat.mul_assoc]
  rw [e1,show e/2-100=(e-(s:Int))/2-(k:Int) by omega]
theorem aJT (f m:Int) {a:Nat} (ha:a<2^64):Ze (f,m,(a:Int),())=some (MV f m a):=by
 show i6 Qu.pre Qu.F AE.pre AE.F Rk.pre Rk.F ND.pre ND.F Qm.pre Qm.F AG.pre AG.F Qc.pre Qc.F A4.pre A4.F f m a=_
 unfold i6 MV
 rw [show ((a:Int)::[])=Wd [a] from rfl]
 by_cases hf:Fm f
 case neg =>
  have p0:=aKJ (m:=m) hf [a]
  have e0:AR f m [a]=2:=by unfold AR; rw [if_pos hf]
  rw [e0]
  simp only [u6 p0,pE p0,cond_true]
  rfl
 have p0:=aP1 (m:=m) hf [a] (fun b hb=>by rw [List.mem_singleton] at hb; omega) (show (1:Nat)<1000 by decide)
 by_cases hk:AR f m [a]≠0
 ·rw [if_pos hk]
  have:(AR f m [a] != 0)=true:=bne_iff_ne.2 hk
  simp only [u6 p0,pE p0,cond_true,this]
 have hk:AR f m [a]=0:=Classical.not_not.1 hk
 obtain ⟨_,hm,hc⟩:=Mt hk
 have h:=hc a (List.mem_singleton.2 rfl)
 rw [if_neg (show ¬ AR f m [a]≠0 from fun h=>h hk)]
 rw [hk] at p0
 have p1:=FR ha h
 have p2:=aTG hf (Av f a)
 have hcn:=G9 f a
 have hcs:=E0 f a
 have hcb:=aIS hf a
 have hcz:=X8 hf a
 have hcu:=aTk hf a
 simp only [u6 p0,pE p0,cond_true,bne_self_eq_false,cond_false,Dx p1,Du p1,aIn p2,aIC p2]
 cases hn:nan f a
 case true =>
  cases hs:AK f a
  ·rw [hs] at hcs
   rw [hn,hcs,Bool.or_false] at hcn
   rw [hcn]; rfl
  ·rw [hs] at hcs
   have h1:(Av f a==1)=false:=by
    rw [beq_iff_eq] at hcs
    rw [hcs]; rfl
   rw [h1,hcs]; rfl
 rw [hn,Bool.or_eq_false_iff] at hcn
 rw [hn,Bool.not_false,Bool.and_true] at hcb
 rw [hcn.1,hcn.2,Bool.false_or]
 simp only [cond_false]
 rw [hcb]
 cases hb:sF f a&&!AM f a
 case true=>rfl
 simp only [cond_false]
 have e1:((Av f a==9)||(Av f a==6)||(Av f a==5))=(AM f a||Au f a):=by
  rw [Bool.or_assoc,Bool.or_comm (Av f a==6),hcz,hcu]
  cases hz:AM f a
  ·rw [hz,Bool.not_false,Bool.and_true] at hb
   rw [hb]; cases Au f a <;> rfl
  ·rw [Bool.or_true,Bool.true_or]
 rw [e1]
 cases hzi:AM f a||Au f a
 case true=>rfl
 simp only [cond_false]
 rw [Bool.or_eq_false_iff] at hzi
 have h0:=I1 hzi.1
 have hml:=FB hf a
 have hx:=FN hf a
 have h64:Ad f a<2^64:=Nat.lt_of_lt_of_le hml (Nat.pow_le_pow_right (by decide) (by decide))
 have hbl:=Et hml
 have hbl1:=IZ h0
 have p3:=aPM h
 have p4:=aUx h64
 have hWi:((0:Int),((Ad f a:Int),()))=Wi (Ad f a):=by
  unfold Wi
  rw [Nat.div_eq_of_lt h64,Nat.mod_eq_of_lt h64]; rfl
 rw [hWi] at p4
 generalize hs:126-An (Ad f a)=s at *
 have e12:IntKind.wrap .i64 ((126:Int)-(An (Ad f a):Int))=(s:Int):=by rw [As (by omega)]; omega
 have e11:IntKind.wrap .i64 ((s:Int)+1)=((s+1:Nat):Int):=by rw [As (by omega)]; omega
 have e13:IntKind.wrap .i64 (Af f a-(s:Int))=Af f a-(s:Int):=As (by omega)
 have e14:IntKind.wrap .i64 (Af f a-((s+1:Nat):Int))=Af f a-((s+1:Nat):Int):=As (by omega)
 have go:∀ t:Nat,(An (Ad f a)+t=126∨An (Ad f a)+t=127)->(Af f a-t)%2=0 ->
   O1 (Wi (Ad f a),(t:Int),())=some (Wi (Ad f a*2^t),()) /\
   Vl (Wi (Ad f a*2^t),())=some ((Az (Ad f a*2^t):Int),decide (Az (Ad f a*2^t)*Az (Ad f a*2^t)=Ad f a*2^t),()) /\
   BD .i64 (Af f a-(t:Int)) 2=(Af f a-(t:Int))/2 /\
   SD (f,m,false,((0:Int),((Az (Ad f a*2^t):Int),())),(Af f a-(t:Int))/2,!decide (Az (Ad f a*2^t)*Az (Ad f a*2^t)=Ad f a*2^t),()) =
    some (((Lx f m (Ad f a) (Af f a)).1:Int),((Lx f m (Ad f a) (Af f a)).2:Int),0,()):=fun t ht hp=>by
  obtain ⟨r1,r2,r3⟩:=aU2 (m:=m) hf h0 h64 (Af f a) t ht hp
  have q1:=rS (Ad f a) t (Nat.lt_of_lt_of_le h64 (Nat.pow_le_pow_right (by decide) (by decide)))
  rw [Nat.mod_eq_of_lt r3] at q1
  have hq:BD .i64 (Af f a-(t:Int)) 2=(Af f a-(t:Int))/2:=by
   have:=aSm ((Af f a-(t:Int))/2) (by omega)
   rw [show 2*((Af f a-(t:Int))/2)=Af f a-(t:Int) by omega] at this
   exact this
  have hr64:Az (Ad f a*2^t)<2^64:=sS (k:=64) r3
  have hr0:Az (Ad f a*2^t)≠0:=fun h=>by
   rw [h] at r2
   have:An 0=0:=rfl
   omega
  have hPl:=E9 hf
  have q4:=KQ hf hm false (Az (Ad f a*2^t)) (Nat.lt_of_lt_of_le hr64 (Nat.pow_le_pow_right (by decide) (by decide))) ((Af f a-(t:Int))/2) (by omega) (!decide (Az (Ad f a*2^t)*Az (Ad f a*2^t)=Ad f a*2^t)) (fun _=>by omega)
  rw [if_neg hr0,← aMJ hf (by omega),← r1] at q4
  have hWr:Wi (Az (Ad f a*2^t))=((0:Int),((Az (Ad f a*2^t):Int),())):=by
   unfold Wi
   rw [Nat.div_eq_of_lt hr64,Nat.mod_eq_of_lt hr64]; rfl
  rw [hWr] at q4
  exact ⟨q1,aIU _ r3,hq,q4⟩
 simp only [aRO p3,aID p3,aLi p4,aRX p4,cond_true,e12,e11,e13,e14,aQ7,hWi]
 by_cases ho:(Af f a-(s:Int))%2=1
 ·obtain ⟨q1,q2,q3,q4⟩:=go (s+1) (by omega) (by omega)
  rw [decide_eq_true ho]
  simp only [iX q1,lL q1,zG q2,aAA q2,q3,HA q4,Hc q4,cond_true]
 ·obtain ⟨q1,q2,q3,q4⟩:=go s (by omega) (by omega)
  rw [decide_eq_false ho]
  simp only [iX q1,lL q1,zG q2,aAA q2,q3,HA q4,Hc q4,cond_true,cond_false]
end VL
end
