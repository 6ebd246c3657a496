/- Part 6 of the proof. What is proved: symbolic execution of the functions, proved sound; what each function of the program computes, and that every run ends with it; what these functions compute, in plain numbers. Conditions: each theorem bears its own. -/
import Derived.Test.YtkkidampbmfagaaGreatDoorVxG5
set_option linter.all false
set_option exponentiation.threshold 1000000
noncomputable section
namespace VL
open Go Vx
theorem B8 (a b:Nat) (h:a+b<2^62):IntKind.wrap .i64 ((a:Int)+(b:Int))=((a+b:Nat):Int):=by rw [As (by omega)]; omega
theorem BL (a:Nat) (h:a<2^62):IntKind.wrap .i64 ((a:Int)+1)=((a+1:Nat):Int):=by rw [As (by omega)]; omega
theorem BW (a:Nat) (h:a<2^56):IntKind.wrap .i64 (64*(a:Int))=((64*a:Nat):Int):=by rw [As (by omega)]; omega
theorem B0 (a:Nat) (h:a<2^56):IntKind.wrap .i64 ((a:Int)*64)=((64*a:Nat):Int):=by rw [As (by omega)]; omega
theorem BC (m n:Nat) (h:n<=m/\m<2^62):IntKind.wrap .i64 ((m:Int)-(n:Int))=((m-n:Nat):Int):=by rw [As (by omega)]; omega
theorem Bj (m:Nat) (h:1<=m/\m<2^62):IntKind.wrap .i64 ((m:Int)-1)=((m-1:Nat):Int):=by rw [As (by omega)]; omega
theorem BN (a b:Nat) (h:a<b):decide ((a:Int)<(b:Int))=true:=decide_eq_true (by omega)
theorem BO (a b:Nat) (h:b<=a):decide ((a:Int)<(b:Int))=false:=decide_eq_false (by omega)
theorem BZ (a b:Nat) (h:a<=b):decide ((a:Int)<=(b:Int))=true:=decide_eq_true (by omega)
theorem B7 (a b:Nat) (h:b<a):decide ((a:Int)<=(b:Int))=false:=decide_eq_false (by omega)
theorem BV (a b:Nat) (h:b<a):decide ((a:Int)>(b:Int))=true:=decide_eq_true (by omega)
theorem B3 (a b:Nat) (h:a<=b):decide ((a:Int)>(b:Int))=false:=decide_eq_false (by omega)
theorem B6 (a b:Nat) (h:b<=a):decide ((a:Int)>=(b:Int))=true:=decide_eq_true (by omega)
theorem B9 (a b:Nat) (h:a<b):decide ((a:Int)>=(b:Int))=false:=decide_eq_false (by omega)
theorem Cb (a:Nat) (h:0<a):decide ((0:Int)<(a:Int))=true:=decide_eq_true (by omega)
theorem BT (a:Nat) (h:a=0):decide ((0:Int)<(a:Int))=false:=decide_eq_false (by omega)
theorem BY (a:Nat) (h:0<a):decide ((a:Int)>0)=true:=decide_eq_true (by omega)
theorem BJ (a:Nat) (h:a=0):decide ((a:Int)>0)=false:=decide_eq_false (by omega)
theorem tE (a:Nat):decide ((a:Int)<0)=false:=decide_eq_false (by omega)
theorem Bv (a:Nat) (h:a=0):((a:Int)==0)=true:=by rw [FB]; simp [h]
theorem AU (a:Nat) (h:a≠0):((a:Int)==0)=false:=by rw [FB]; simp [h]
theorem Bh (a:Nat) (h:a≠0):((a:Int) != 0)=true:=by rw [Tq]; simp [h]
theorem BE (a:Nat) (h:a=0):((a:Int) != 0)=false:=by rw [Tq]; simp [h]
def pd (B:Nat):Nat->Nat->List Nat
 | 0,_=>[]
 | k+1,v=>v%B::pd B k (v/B)
theorem E6 (B:Nat):∀ k v,(pd B k v).length=k
 | 0,_=>rfl
 | k+1,v=>by simp [pd,E6 B k]
theorem SF {B:Nat} (hB:0<B):∀ k v,∀ x∈pd B k v,x<B
 | 0,_,x,hx=>by simp [pd] at hx
 | k+1,v,x,hx=>by
  simp only [pd,List.mem_cons] at hx
  rcases hx with rfl | hx
  ·exact Nat.mod_lt _ hB
  ·exact SF hB k _ x hx
theorem aHA {B:Nat} (hB:0<B):∀ (l:List Nat),(∀ x∈l,x<B)->l=pd B l.length (nv B l)
 | [],_=>rfl
 | x::r,h=>by
  have hx:=h x (by simp)
  simp only [List.length_cons,pd,nv]
  rw [Nat.add_mul_mod_self_left,Nat.mod_eq_of_lt hx,Nat.add_mul_div_left _ _ hB,Nat.div_eq_of_lt hx,Nat.zero_add,← aHA hB r fun y hy=>h y (by simp [hy])]
theorem mG {B:Nat} (hB:0<B) {l:List Nat} {k v:Nat} (h:∀ x∈l,x<B) (hl:l.length=k) (hv:nv B l=v):l=pd B k v:=by
 have:=aHA hB l h
 rw [hl,hv] at this
 exact this
theorem RN {B:Nat} (hB:0<B):∀ k v,v<B^k->nv B (pd B k v)=v
 | 0,v,h=>by simp at h; subst h; rfl
 | k+1,v,h=>by
  simp only [pd,nv]
  rw [RN hB k (v/B) (by rw [Nat.div_lt_iff_lt_mul hB,← Nat.pow_succ]; exact h)]
  exact Nat.mod_add_div v B
theorem W8 (B:Nat):∀ k v i,i<k->(pd B k v).getD i 0=v/B^i%B
 | 0,_,_,h=>by omega
 | k+1,v,0,_=>by simp [pd]
 | k+1,v,i+1,h=>by
  simp only [pd,List.getD_cons_succ]
  rw [W8 B k (v/B) i (by omega),Nat.div_div_eq_div_mul,← Nat.pow_succ']
theorem wN (B:Nat):∀ k,pd B k 0=List.replicate k 0
 | 0=>rfl
 | k+1=>by simp [pd,wN B k,List.replicate_succ]
theorem W1 (B:Nat):∀ (l:List Nat) (i x:Nat),i<l.length->nv B (l.set i x)+B^i*l.getD i 0=nv B l+B^i*x
 | [],_,_,h=>by simp at h
 | y::r,0,x,_=>by simp [nv]; omega
 | y::r,i+1,x,h=>by
  have:=W1 B r i x (by simpa using h)
  simp only [List.set_cons_succ,nv,List.getD_cons_succ,Nat.pow_succ']
  rw [Nat.mul_assoc,Nat.mul_assoc,Nat.add_assoc,Nat.add_assoc,← Nat.mul_add,← Nat.mul_add,this]
theorem aCA {B:Nat} {l:List Nat} (h:∀ x∈l,x<B) {i v:Nat} (hv:v<B):∀ x∈l.set i v,x<B:=fun x hx=>by
 rcases List.mem_or_eq_of_mem_set hx with h1 | h1
 ·exact h x h1
 ·rw [h1]; exact hv
theorem OJ {B:Nat} (hB:2<=B) (n:Nat):Ai (dg B n)=dg B n:=by
 rw [GE hB _ (F8 hB n),lJ hB]
theorem Wf (B:Nat) (l:List Nat) (i:Nat) (h:i<l.length):nv B (l.take (i+1))=nv B (l.take i)+B^i*l.getD i 0:=by
 have hs:=Ka B (l.take (i+1)) i (by simp; omega)
 rw [hs,List.take_take,Nat.min_eq_left (by omega)]
 congr 2
 rw [List.drop_take,Nat.add_sub_cancel_left,List.getD_eq_getElem?_getD]
 rw [List.drop_eq_getElem_cons h,List.getElem?_eq_getElem h]
 show l[i]+B*0=l[i]
 rw [Nat.mul_zero,Nat.add_zero]
theorem sX {x:Nat} (h:0<x):∃ t k,x=2^t*(2*k+1):=by
 induction x using Nat.strongRecOn with
 | ind x ih =>
  rcases Nat.mod_two_eq_zero_or_one x with h0 | h1
  ·obtain ⟨t,k,e⟩:=ih (x/2) (by omega) (by omega)
   refine ⟨t+1,k,?_⟩
   rw [Nat.pow_succ,Nat.mul_comm (2^t) 2,Nat.mul_assoc,← e]
   omega
  ·exact ⟨0,x/2,by simp; omega⟩
theorem aLm {t k n:Nat}:(2^t*(2*k+1))%2^n=0↔n<=t:=by
 constructor
 ·intro h
  rcases Nat.lt_or_ge t n with hlt | hge
  ·exfalso
   have e:n=t+(n-t-1)+1:=by omega
   rw [e,Nat.add_assoc,Nat.pow_add,Nat.mul_mod_mul_left,Nat.pow_succ] at h
   have hp:=Nat.two_pow_pos t
   have h2:(2*k+1)%(2^(n-t-1)*2)=0:=by
    rcases Nat.mul_eq_zero.1 h with h | h
    ·omega
    ·exact h
   have:(2*k+1)%2=0:=by
    have:=Nat.mod_mod_of_dvd (2*k+1) (show 2 ∣ 2^(n-t-1)*2 from ⟨_,Nat.mul_comm _ _⟩)
    rw [h2] at this
    omega
   omega
  ·exact hge
 ·intro h
  have e:t=n+(t-n):=by omega
  rw [e,Nat.pow_add,Nat.mul_assoc]
  exact Nat.mul_mod_right _ _
theorem aME {t k:Nat} (h:2^t*(2*k+1)<2^64):2^t*(2*k+1) &&& (2^64-2^t*(2*k+1))=2^t:=by
 have hp:=Nat.two_pow_pos t
 have ht:t<64:=by
  have:2^t*1<=2^t*(2*k+1):=Nat.mul_le_mul_left _ (by omega)
  exact (Nat.pow_lt_pow_iff_right (a:=2) (by decide)).1 (by omega)
 have hz:2^t*(2*k)+(2^t-1)+1=2^t*(2*k+1):=by rw [Nat.mul_add,Nat.mul_one]; omega
 have hb:∀ i,(2^64-2^t*(2*k+1)).testBit i=(decide (i<64)&&!(2^t*(2*k)+(2^t-1)).testBit i):=fun i=>by
  rw [← hz,Nat.testBit_two_pow_sub_succ (by omega)]
 apply Nat.eq_of_testBit_eq
 intro i
 rw [Nat.testBit_and,hb,Nat.testBit_two_pow]
 have h1:(2^t*(2*k+1)).testBit i=(decide (t<=i)&&(2*k+1).testBit (i-t)):=by
  have:=Nat.testBit_two_pow_mul_add (2*k+1) hp i
  rw [Nat.add_zero] at this
  rw [this]
  by_cases hi:i<t
  ·simp [hi]; omega
  ·simp [hi]; omega
 rw [h1,Nat.testBit_two_pow_mul_add (2*k) (show 2^t-1<2^t by omega) i]
 rcases Nat.lt_trichotomy i t with hi | hi | hi
 ·simp [show ¬ t<=i by omega,show ¬ t=i by omega]
 ·subst hi
  simp [ht]
 ·have e:i-t=(i-t-1)+1:=by omega
  simp only [show ¬ i<t by omega,if_false,show ¬ t=i by omega,decide_false]
  rw [e,Nat.testBit_succ,Nat.testBit_succ,show (2*k+1)/2=k by omega,show 2*k/2=k by omega]
  cases k.testBit (i-t-1) <;> simp
theorem aB3 {a b:Nat} (ha:a<2^64) (hb:b<2^64):AQ .u64 (a:Int) (b:Int)=((a &&& b:Nat):Int):=by
 have key:(BitVec.ofInt 64 (a:Int) &&& BitVec.ofInt 64 (b:Int)).toNat=a &&& b:=by
  rw [BitVec.toNat_and,Gv ha,Gv hb]
 show IntKind.u64.wrap (((BitVec.ofInt 64 (a:Int) &&& BitVec.ofInt 64 (b:Int)).toNat:Nat):Int)=_
 rw [key]
 have:=Nat.and_le_left (n:=a) (m:=b)
 exact D9 (by omega)
theorem Tt {a b:Nat} (ha:a<2^64) (hb:b<2^64):AW .u64 (a:Int) (b:Int)=((a ||| b:Nat):Int):=by
 have key:(BitVec.ofInt 64 (a:Int) ||| BitVec.ofInt 64 (b:Int)).toNat=a ||| b:=by
  rw [BitVec.toNat_or,Gv ha,Gv hb]
 show IntKind.u64.wrap (((BitVec.ofInt 64 (a:Int) ||| BitVec.ofInt 64 (b:Int)).toNat:Nat):Int)=_
 rw [key]
 have:=Nat.or_lt_two_pow ha hb
 exact D9 (by omega)
theorem deb:∀ t:Nat,t<64->IntKind.wrap .i64 (k_deb.getD (2^t*285870213051353865%2^64/2^58) 0)=(t:Int):=by
 have h:((List.range 64).all fun t=>decide (IntKind.wrap .i64 (k_deb.getD (2^t*285870213051353865%2^64/2^58) (0:Int))=(t:Int)))=true:=by decide +kernel
 intro t ht
 have:=List.all_eq_true.1 h t (List.mem_range.2 ht)
 simpa using this
theorem fY {t k:Nat} (h:2^t*(2*k+1)<2^64):YO (((2^t*(2*k+1):Nat):Int),())=some ((t:Int),()):=by
 have hp:=Nat.two_pow_pos t
 have h1:2^t*1<=2^t*(2*k+1):=Nat.mul_le_mul_left _ (by omega)
 have ht:t<64:=(Nat.pow_lt_pow_iff_right (a:=2) (by decide)).1 (by omega)
 have han:=aME h
 show f9 ((2^t*(2*k+1):Nat):Int)=_
 generalize hx:2^t*(2*k+1)=x at *
 unfold f9
 try dsimp only
 have e1:IntKind.wrap .u64 ((0:Int)-(x:Int))=((2^64-x:Nat):Int):=by
  have:∀ y:Int,IntKind.wrap .u64 y=y%18446744073709551616:=fun y=>by
   simp [IntKind.wrap,IntKind.bits,IntKind.signed]
  rw [this]; omega
 have e2:IntKind.wrap .u64 (((2^t:Nat):Int)*285870213051353865)=((2^t*285870213051353865%2^64:Nat):Int):=IA (2^t*285870213051353865)
 have e3:AI .u64 ((2^t*285870213051353865%2^64:Nat):Int) 58=((2^t*285870213051353865%2^64/2^58:Nat):Int):=Dy _ 58 (by decide)
 have e4:2^t*285870213051353865%2^64/2^58<64:=by omega
 have e5:(decide ((0:Int)<=((2^t*285870213051353865%2^64/2^58:Nat):Int))&&decide (((2^t*285870213051353865%2^64/2^58:Nat):Int)<(64:Nat)))=true:=by
  rw [decide_eq_true (by omega),decide_eq_true (by omega)]; rfl
 rw [e1,aB3 h (by omega),han,e2,e3,e5,aEU,cond_true,AU x (by omega),cond_false,Int.toNat_natCast,deb t ht]
end VL
namespace VL
open Go Vx
def Dw (n:Nat):List Int:=Wd (dg (2^64) n)
theorem aBW (n:Nat) (h:(dg (2^64) n).length<=1000000):Ws (dg (2^64) n):=⟨F8 (by decide) n,h⟩
theorem CZ {B:Nat} (hB:2<=B):∀ (k n:Nat),n<B^k->(dg B n).length<=k
 | 0,n,h=>by simp at h; subst h; rw [Ep]; simp
 | k+1,n,h=>by
  rcases Nat.eq_zero_or_pos n with rfl | hn
  ·rw [Ep]; simp
  ·rw [FO hB hn]
   have:=CZ hB k (n/B) (by rw [Nat.div_lt_iff_lt_mul (by omega),← Nat.pow_succ]; exact h)
   simp; omega
theorem Sw {B:Nat} (hB:2<=B) (n:Nat):n<B^(dg B n).length:=by
 have:=DR hB _ (F8 hB n)
 rwa [lJ hB] at this
theorem aPY {x i t k r n:Nat} (hx:x=2^t*(2*k+1)) (ht:t<64):((2^64)^i*(x+2^64*r))%2^n=0↔n<=64*i+t:=by
 have e:(2^64)^i*(x+2^64*r)=2^(64*i+t)*(2*(k+2^(64-t-1)*r)+1):=by
  have h1:2^64=2^t*(2^(64-t-1)*2):=by rw [← Nat.pow_succ,← Nat.pow_add]; congr 1; omega
  rw [Cw,hx,Nat.pow_add,Nat.mul_assoc]
  congr 1
  rw [h1,Nat.mul_assoc,← Nat.mul_add]
  congr 1
  rw [Nat.mul_assoc,Nat.mul_left_comm]
  omega
 rw [e]
 exact aLm
theorem aPG (a:List Nat) (ha:∀ x∈a,x<2^64) (hlen:a.length<=1000000) (n:Nat) (hn:n<=1000000000) (i:Nat) (hi:i<=a.length) (hz:nv (2^64) (a.take i)=0) :
  eB (((a.length:Int),(Wd a,((n:Int),((i:Int),())))),())=some (if nv (2^64) a=0 then .inl ((),()) else .inr ((decide (nv (2^64) a%2^n=0),()),())):=by
 have key:=Do (aCh Ag.pre Ag.F BG.pre BG.F) (fun x=>a.length-x.1.2.2.2.1.toNat)
  (fun x=>∃ i:Nat,i<=a.length/\nv (2^64) (a.take i)=0/\x=(((a.length:Int),(Wd a,((n:Int),((i:Int),())))),()))
  (fun _=>if nv (2^64) a=0 then .inl ((),()) else .inr ((decide (nv (2^64) a%2^n=0),()),())) ?_ _ ⟨i,hi,hz,rfl⟩
 ·exact key
 intro L x hx hL
 obtain ⟨i,hi,hz,rfl⟩:=hx
 unfold Ut
 rcases Nat.lt_or_ge i a.length with hlt | hge
 ·simp (disch:=omega) only [B8,BL,BW,BC,Bj,B0,BN,BO,BZ,B7,BV,B3,B6,B9,Cb,BT,BY,BJ,AX,Bv,AU,Bh,BE,Int.toNat_natCast,Int.toNat_zero,cond_true,cond_false,Bool.and_self,Bool.true_and,Bool.and_true,Bool.false_and,Bool.and_false,Bool.not_true,Bool.not_false,Bool.or_self,Bool.true_or,Bool.or_true,Bool.false_or,Bool.or_false,AA,Cc]
  have hxl:=Cq (by decide) ha i
  rcases Nat.eq_zero_or_pos (a.getD i 0) with h0 | h0
  ·simp (disch:=omega) only [B8,BL,BW,BC,Bj,B0,BN,BO,BZ,B7,BV,B3,B6,B9,Cb,BT,BY,BJ,AX,Bv,AU,Bh,BE,Int.toNat_natCast,Int.toNat_zero,cond_true,cond_false,Bool.and_self,Bool.true_and,Bool.and_true,Bool.false_and,Bool.and_false,Bool.not_true,Bool.not_false,Bool.or_self,Bool.true_or,Bool.or_true,Bool.false_or,Bool.or_false]
   refine hL _ ⟨i+1,by omega,?_,rfl⟩ (by simp only [Int.toNat_natCast]; omega)
   rw [Wf _ _ _ hlt,hz,h0,Nat.mul_zero]
  ·obtain ⟨t,k,e⟩:=sX h0
   have ht:t<64:=by
    have hp:=Nat.two_pow_pos t
    have h1:2^t*1<=2^t*(2*k+1):=Nat.mul_le_mul_left _ (by omega)
    exact (Nat.pow_lt_pow_iff_right (a:=2) (by decide)).1 (by omega)
   have p0:=fY (t:=t) (k:=k) (by omega)
   rw [← e] at p0
   have hv:nv (2^64) a=(2^64)^i*(a.getD i 0+2^64*nv (2^64) (a.drop (i+1))):=by
    rw [Ka _ a i hi,hz,Nat.zero_add,List.drop_eq_getElem_cons hlt]
    simp only [nv]
    rw [List.getD_eq_getElem?_getD,List.getElem?_eq_getElem hlt]
    rfl
   have hne:nv (2^64) a≠0:=by
    rw [hv]
    have:0<(2^64)^i:=Nat.pow_pos (by decide)
    exact Nat.ne_of_gt (Nat.mul_pos this (by omega))
   have hd:=aPY (i:=i) (r:=nv (2^64) (a.drop (i+1))) (n:=n) e ht
   rw [← hv] at hd
   simp (disch:=omega) only [B8,BL,BW,BC,Bj,B0,BN,BO,BZ,B7,BV,B3,B6,B9,Cb,BT,BY,BJ,AX,Bv,AU,Bh,BE,Int.toNat_natCast,Int.toNat_zero,cond_true,cond_false,Bool.and_self,Bool.true_and,Bool.and_true,Bool.false_and,Bool.and_false,Bool.not_true,Bool.not_false,Bool.or_self,Bool.true_or,Bool.or_true,Bool.false_or,Bool.or_false,i7 p0,Z2 p0,if_neg hne]
   have:decide (((64*i+t:Nat):Int)>=(n:Int))=decide (nv (2^64) a%2^n=0):=by
    rw [Bool.eq_iff_iff,decide_eq_true_eq,decide_eq_true_eq,hd]; omega
   rw [this]
 ·have e:i=a.length:=by omega
  subst e
  rw [List.take_length] at hz
  simp (disch:=omega) only [B8,BL,BW,BC,Bj,B0,BN,BO,BZ,B7,BV,B3,B6,B9,Cb,BT,BY,BJ,AX,Bv,AU,Bh,BE,Int.toNat_natCast,Int.toNat_zero,cond_true,cond_false,Bool.and_self,Bool.true_and,Bool.and_true,Bool.false_and,Bool.and_false,Bool.not_true,Bool.not_false,Bool.or_self,Bool.true_or,Bool.or_true,Bool.false_or,Bool.or_false,if_pos hz]
theorem aNy (l:List Nat) (hl:Ws l) (n:Nat) (hn:n<=1000000000):Ww (Wd l,(n:Int),())=some (decide (nv (2^64) l%2^n=0),()):=by
 obtain ⟨h,hlen⟩:=hl
 show eH Ag.pre Ag.F BG.pre BG.F eB (Wd l) n=_
 unfold eH
 have p0:=Eh l hlen
 have hm:∀ x∈Ai l,x<2^64:=fun x hx=>h x (RL hx)
 have hle:=(Eg l).1
 have hw:=aPG (Ai l) hm (by omega) n hn 0 (Nat.zero_le _) rfl
 rw [JT (by decide) h] at hw
 simp only [C0 p0,CV p0,cond_true,AA]
 rw [show ((0:Nat):Int)=0 from rfl] at hw
 rw [hw]
 by_cases h0:nv (2^64) l=0
 ·rw [if_pos h0,h0,Nat.zero_mod]; rfl
 ·rw [if_neg h0]
def MJ (v n:Nat):Nat:=if v%2^n=0 then v/2^n else v/2^n/2*2+1
theorem aHB (w:Nat):w ||| 1=w/2*2+1:=by
 apply Nat.eq_of_testBit_eq
 intro i
 rw [Nat.testBit_or]
 cases i with
 | zero=>simp [Nat.testBit_zero]
 | succ i =>
  rw [Nat.testBit_succ,Nat.testBit_succ,Nat.testBit_succ,show (w/2*2+1)/2=w/2 by omega,show 1/2=0 by rfl]
  simp
theorem aJg (l:List Nat) (hl:Ws l) (n:Nat) (hn:n<=100000000):TJ (Wd l,(n:Int),())=some (Dw (MJ (nv (2^64) l) n),0,()):=by
 show fQ MX.pre MX.F CT.pre CT.F OQ.pre OQ.F (Wd l) n=_
 unfold fQ
 have p0:=aN1 l hl n hn
 have p1:=aNy l hl n (by omega)
 simp only [tE,cond_false,aRf p0,aKe p0,aKy p1,aM7 p1,cond_true,AA]
 unfold MJ
 by_cases h0:nv (2^64) l%2^n=0
 ·rw [if_pos h0,decide_eq_true h0]; rfl
 ·rw [if_neg h0,decide_eq_false h0]
  generalize nv (2^64) l/2^n=q
  rcases Nat.eq_zero_or_pos q with rfl | hq
  ·have e:Dw (0/2*2+1)=[1]:=by
    show Wd (dg (2^64) 1)=[1]
    rw [FO (by decide) (by decide),Ep]; rfl
   rw [e,Ep]; rfl
  ·have hB:2<=2^64:=by decide
   have e:Dw (q/2*2+1)=Wd ((q%2^64/2*2+1)::dg (2^64) (q/2^64)):=by
    show Wd (dg (2^64) (q/2*2+1))=_
    rw [FO hB (by omega)]
    have e1:(q/2*2+1)%2^64=q%2^64/2*2+1:=by omega
    have e2:(q/2*2+1)/2^64=q/2^64:=by omega
    rw [e1,e2]
   have e2:AW .u64 ((q%2^64:Nat):Int) 1=((q%2^64/2*2+1:Nat):Int):=by
    have:=Tt (a:=q%2^64) (b:=1) (by omega) (by decide)
    rw [aHB] at this
    exact this
   rw [e,FO hB hq]
   simp (disch:=omega) only [B8,BL,BW,BC,Bj,B0,BN,BO,BZ,B7,BV,B3,B6,B9,Cb,BT,BY,BJ,AX,Bv,AU,Bh,BE,Int.toNat_natCast,Int.toNat_zero,cond_true,cond_false,Bool.and_self,Bool.true_and,Bool.and_true,Bool.false_and,Bool.and_false,Bool.not_true,Bool.not_false,Bool.or_self,Bool.true_or,Bool.or_true,Bool.false_or,Bool.or_false,List.length_cons,Cc,List.getD_cons_zero,e2,D0,List.set_cons_zero]
theorem aGD (l:List Nat) (hl:Ws l) (n:Nat) (hn:n<=100000000):On (Wd l,(n:Int),())=some (Dw (nv (2^64) l/2^n),0,()):=by
 show j5 CT.pre CT.F (Wd l) n=_
 unfold j5
 have p0:=aEB l hl n hn
 simp only [tE,cond_false,zZ p0,yC p0,cond_true]
 rfl
end VL
namespace VL
open Go Vx
theorem aCm {l:List Nat} {i j v:Nat} (h:i≠j):(l.set i v).getD j 0=l.getD j 0:=by
 rw [List.getD_eq_getElem?_getD,List.getD_eq_getElem?_getD,List.getElem?_set_ne h]
theorem aAQ {out:List Nat} {K V k s x:Nat} (hs:s<64) (ho:out=pd (2^64) K V) (hk:k+1<K) (hV:V<2^(64*k+s)) (hx:x<2^64) :
  (out.getD k 0<2^s)/\(out.getD k 0+x%2^(64-s)*2^s<2^64)/\((out.set k (out.getD k 0+x%2^(64-s)*2^s)).set (k+1) (x/2^(64-s))=pd (2^64) K (V+2^(64*k+s)*x)):=by
 have hB:0<2^64:=by decide
 have hps:=Nat.two_pow_pos s
 have hpk:=Nat.two_pow_pos (64*k)
 have hlen:out.length=K:=by rw [ho,E6]
 have hc:out.getD k 0=V/(2^64)^k%2^64:=by rw [ho,W8 _ _ _ _ (by omega)]
 have hc2:V/(2^64)^k<2^s:=by
  rw [Cw,Nat.div_lt_iff_lt_mul hpk,Nat.mul_comm,← Nat.pow_add]; exact hV
 have hc1:out.getD (k+1) 0=0:=by
  rw [ho,W8 _ _ _ _ hk,Cw]
  have:V<2^(64*(k+1)):=Nat.lt_of_lt_of_le hV (Nat.pow_le_pow_right (by decide) (by omega))
  rw [Nat.div_eq_of_lt this]
 have h64:2^64=2^(64-s)*2^s:=by rw [← Nat.pow_add]; congr 1; omega
 have hs64:2^s<=2^64:=Nat.pow_le_pow_right (by decide) (by omega)
 have hce:V/(2^64)^k%2^64=V/(2^64)^k:=Nat.mod_eq_of_lt (by omega)
 have hcl:out.getD k 0<2^s:=by rw [hc,hce]; exact hc2
 have hp1:=Nat.two_pow_pos (64-s)
 have hm:x%2^(64-s)+1<=2^(64-s):=Nat.mod_lt _ hp1
 have hm2:=Nat.mul_le_mul_right (2^s) hm
 rw [← h64,Nat.add_mul,Nat.one_mul] at hm2
 have hsum:out.getD k 0+x%2^(64-s)*2^s<2^64:=by omega
 refine ⟨hcl,hsum,?_⟩
 have hall:∀ y∈out,y<2^64:=by rw [ho]; exact SF hB _ _
 have hxd:x/2^(64-s)<2^64:=Nat.lt_of_le_of_lt (Nat.div_le_self _ _) hx
 refine mG hB (aCA (aCA hall hsum) hxd) (by simp [hlen]) ?_
 have g1:=W1 (2^64) out k (out.getD k 0+x%2^(64-s)*2^s) (by omega)
 have g2:=W1 (2^64) (out.set k (out.getD k 0+x%2^(64-s)*2^s)) (k+1) (x/2^(64-s)) (by rw [List.length_set]; omega)
 rw [aCm (by omega),hc1,Nat.mul_zero,Nat.add_zero] at g2
 have hVK:V<(2^64)^K:=by
  rw [Cw]; exact Nat.lt_of_lt_of_le hV (Nat.pow_le_pow_right (by decide) (by omega))
 have hnv:nv (2^64) out=V:=by rw [ho,RN hB _ _ hVK]
 rw [hnv,Nat.mul_add] at g1
 rw [g2]
 have hx2:2^(64*k+s)*x=(2^64)^k*(x%2^(64-s)*2^s)+(2^64)^(k+1)*(x/2^(64-s)):=by
  have hdm:=Nat.div_add_mod x (2^(64-s))
  generalize x/2^(64-s)=q at *
  generalize x%2^(64-s)=r at *
  rw [Nat.pow_add 2 (64*k) s,← Cw,show (2^64)^(k+1)=(2^64)^k*2^64 from Nat.pow_succ _ _,Nat.mul_assoc ((2^64)^k),Nat.mul_assoc ((2^64)^k),← Nat.mul_add,← hdm]
  congr 1
  rw [Nat.mul_add,Nat.mul_comm r,Nat.add_comm]
  congr 1
  rw [← Nat.mul_assoc,Nat.mul_comm (2^s),← h64]
 omega
theorem aMI (a:List Nat) (ha:∀ x∈a,x<2^64) (hlen:a.length<=1000000) (w s:Nat) (hs:s<64) (hw:w<=10000000) (i:Nat) (hi:i<=a.length) :
  iD (((a.length:Int),(Wd a,((w:Int),((s:Int),((i:Int),((),())))))),(Wd (pd (2^64) (w+a.length+1) (2^(64*w+s)*nv (2^64) (a.take i))),()))=some (.inl (((),()),(Wd (pd (2^64) (w+a.length+1) (2^(64*w+s)*nv (2^64) a)),()))):=by
 have key:=Do (aCp Ag.pre Ag.F) (fun x=>a.length-x.1.2.2.2.2.1.toNat)
  (fun x=>∃ i:Nat,i<=a.length/\x=(((a.length:Int),(Wd a,((w:Int),((s:Int),((i:Int),((),())))))),(Wd (pd (2^64) (w+a.length+1) (2^(64*w+s)*nv (2^64) (a.take i))),())))
  (fun _=>.inl (((),()),(Wd (pd (2^64) (w+a.length+1) (2^(64*w+s)*nv (2^64) a)),()))) ?_ _ ⟨i,hi,rfl⟩
 ·exact key
 intro L x hx hL
 obtain ⟨i,hi,rfl⟩:=hx
 unfold U0
 rcases Nat.lt_or_ge i a.length with hlt | hge
 ·have hxl:=Cq (by decide) ha i
  have ht:=DR (B:=2^64) (by decide) (a.take i) fun x hx=>ha x (List.mem_of_mem_take hx)
  rw [List.length_take,Nat.min_eq_left (by omega),Cw] at ht
  have hV:2^(64*w+s)*nv (2^64) (a.take i)<2^(64*(w+i)+s):=by
   have e:64*(w+i)+s=(64*w+s)+64*i:=by omega
   rw [e,Nat.pow_add _ (64*w+s)]
   exact Nat.mul_lt_mul_of_pos_left ht (Nat.two_pow_pos _)
  have hnext:=Wf (2^64) a i hlt
  have hgo:=hL (((a.length:Int),(Wd a,((w:Int),((s:Int),(((i+1:Nat):Int),((),())))))),(Wd (pd (2^64) (w+a.length+1) (2^(64*w+s)*nv (2^64) (a.take (i+1)))),())) ⟨i+1,by omega,rfl⟩ (by simp only [Int.toNat_natCast]; omega)
  rw [hnext,Nat.mul_add,← Nat.mul_assoc,show 2^(64*w+s)*(2^64)^i=2^(64*(w+i)+s) by rw [Cw,← Nat.pow_add]; congr 1; omega] at hgo
  generalize hout:pd (2^64) (w+a.length+1) (2^(64*w+s)*nv (2^64) (a.take i))=out at *
  obtain ⟨q1,q2,q3⟩:=aAQ (k:=w+i) hs hout.symm (by omega) hV hxl
  have hol:out.length=w+a.length+1:=by rw [← hout,E6]
  have g1:a.getD i 0*2^s%2^64=(a.getD i 0%2^(64-s))*2^s:=by
   have:2^64=2^(64-s)*2^s:=by rw [← Nat.pow_add]; congr 1; omega
   rw [this,Nat.mul_mod_mul_right]
  have e8:IntKind.wrap .i64 (64-(s:Int))=((64-s:Nat):Int):=Es 64 s (by omega) (by omega)
  simp (disch:=omega) only [B8,BL,BW,BC,Bj,B0,BN,BO,BZ,B7,BV,B3,B6,B9,Cb,BT,BY,BJ,AX,Bv,AU,Bh,BE,Int.toNat_natCast,Int.toNat_zero,cond_true,cond_false,Bool.and_self,Bool.true_and,Bool.and_true,Bool.false_and,Bool.and_false,Bool.not_true,Bool.not_false,Bool.or_self,Bool.true_or,Bool.or_true,Bool.false_or,Bool.or_false,AA,Cc,e8,Ek _ s (by omega),Dy _ (64-s) (by omega),g1,FJ q1 q2,D0,List.length_set,q3]
  exact hgo
 ·have e:i=a.length:=by omega
  subst e
  rw [List.take_length]
  simp (disch:=omega) only [B8,BL,BW,BC,Bj,B0,BN,BO,BZ,B7,BV,B3,B6,B9,Cb,BT,BY,BJ,AX,Bv,AU,Bh,BE,Int.toNat_natCast,Int.toNat_zero,cond_true,cond_false,Bool.and_self,Bool.true_and,Bool.and_true,Bool.false_and,Bool.and_false,Bool.not_true,Bool.not_false,Bool.or_self,Bool.true_or,Bool.or_true,Bool.false_or,Bool.or_false]
theorem rI (l:List Nat) (hl:Ws l) (n:Nat) (hn:n/64+(Ai l).length+1<=1000000):RW (Wd l,(n:Int),())=some (Dw (nv (2^64) l*2^n),()):=by
 obtain ⟨h,hlen⟩:=hl
 show lX Ag.pre Ag.F iD (Wd l) n=_
 unfold lX
 have hB:2<=2^64:=by decide
 have p0:=Eh l hlen
 have hm:∀ x∈Ai l,x<2^64:=fun x hx=>h x (RL hx)
 have hle:=(Eg l).1
 have hv:=JT hB h
 simp only [C0 p0,CV p0,cond_true,AA]
 rcases Nat.eq_zero_or_pos (Ai l).length with h0 | h0
 ·rw [h0,aFq h h0,Nat.zero_mul]
  unfold Dw
  rw [Ep]; rfl
 ·have e4:Int.tmod (n:Int) 64=((n%64:Nat):Int):=rfl
  have e3:decide (((n/64+(Ai l).length+1:Nat):Int)*8<=140737488355328)=true:=decide_eq_true (by omega)
  have hw:=aMI (Ai l) hm (by omega) (n/64) (n%64) (Nat.mod_lt _ (by decide)) (by omega) 0 (Nat.zero_le _)
  rw [show nv (2^64) ((Ai l).take 0)=0 by rfl,Nat.mul_zero,wN,show 64*(n/64)+n%64=n by omega,show ((0:Nat):Int)=0 from rfl] at hw
  simp (disch:=omega) only [B8,BL,BW,BC,Bj,B0,BN,BO,BZ,B7,BV,B3,B6,B9,Cb,BT,BY,BJ,AX,Bv,AU,Bh,BE,Int.toNat_natCast,Int.toNat_zero,cond_true,cond_false,Bool.and_self,Bool.true_and,Bool.and_true,Bool.false_and,Bool.and_false,Bool.not_true,Bool.not_false,Bool.or_self,Bool.true_or,Bool.or_true,Bool.false_or,Bool.or_false,X3 n (by omega),e4,e3,Sj,hw]
  have hV:2^n*nv (2^64) (Ai l)<(2^64)^(n/64+(Ai l).length+1):=by
   have:=DR hB (Ai l) hm
   rw [Cw] at this ⊢
   have h1:2^n*nv (2^64) (Ai l)<2^n*2^(64*(Ai l).length):=Nat.mul_lt_mul_of_pos_left this (Nat.two_pow_pos _)
   rw [← Nat.pow_add] at h1
   exact Nat.lt_of_lt_of_le h1 (Nat.pow_le_pow_right (by decide) (by omega))
  have p1:=Eh (pd (2^64) (n/64+(Ai l).length+1) (2^n*nv (2^64) (Ai l))) (by rw [E6]; omega)
  rw [GE hB _ (SF (by decide) _ _),RN (by decide) _ _ hV,hv,Nat.mul_comm (2^n)] at p1
  rw [hv,Nat.mul_comm (2^n)]
  generalize pd (2^64) (n/64+(Ai l).length+1) (nv (2^64) l*2^n)=out at *
  show (bif Ag.pre (Wd out,()) then some (Ag.F (Wd out,())) else none)=_
  rw [C0 p1,CV p1]
  rfl
theorem aJZ (ls:List (List Nat)) (hls:∀ l∈ls,l.length<=1000000) (hn:ls.length<=1000000) (i:Nat) (hi:i<=ls.length) (hz:∀ l∈ls.take i,(Ai l).length<=1024) :
  kF (((ls.length:Int),(ls.map Wd,((i:Int),()))),())=some (if (∀ l∈ls,(Ai l).length<=1024) then .inl ((),()) else .inr ((true,()),())):=by
 have key:=Do (aCf Ag.pre Ag.F) (fun x=>ls.length-x.1.2.2.1.toNat)
  (fun x=>∃ i:Nat,i<=ls.length/\(∀ l∈ls.take i,(Ai l).length<=1024)/\x=(((ls.length:Int),(ls.map Wd,((i:Int),()))),()))
  (fun _=>if (∀ l∈ls,(Ai l).length<=1024) then .inl ((),()) else .inr ((true,()),())) ?_ _ ⟨i,hi,hz,rfl⟩
 ·exact key
 intro L x hx hL
 obtain ⟨i,hi,hz,rfl⟩:=hx
 unfold VR
 rcases Nat.lt_or_ge i ls.length with hlt | hge
 ·have eg:(ls.map Wd).getD i []=Wd (ls[i]):=by
   rw [List.getD_eq_getElem?_getD,List.getElem?_map,List.getElem?_eq_getElem hlt]; rfl
  have hil:ls[i]∈ls:=List.getElem_mem hlt
  have p0:=Eh ls[i] (hls _ hil)
  simp (disch:=omega) only [B8,BL,BW,BC,Bj,B0,BN,BO,BZ,B7,BV,B3,B6,B9,Cb,BT,BY,BJ,AX,Bv,AU,Bh,BE,Int.toNat_natCast,Int.toNat_zero,cond_true,cond_false,Bool.and_self,Bool.true_and,Bool.and_true,Bool.false_and,Bool.and_false,Bool.not_true,Bool.not_false,Bool.or_self,Bool.true_or,Bool.or_true,Bool.false_or,Bool.or_false,List.length_map,eg,C0 p0,CV p0,AA]
  rcases Nat.lt_or_ge 1024 (Ai ls[i]).length with hg | hg
  ·have e:decide (((Ai ls[i]).length:Int)>1024)=true:=decide_eq_true (by omega)
   have hnot:¬ ∀ l∈ls,(Ai l).length<=1024:=fun hh=>by have:=hh _ hil; omega
   rw [e,cond_true,if_neg hnot]
  ·have e:decide (((Ai ls[i]).length:Int)>1024)=false:=decide_eq_false (by omega)
   rw [e,cond_false]
   refine hL _ ⟨i+1,by omega,?_,rfl⟩ (by simp only [Int.toNat_natCast]; omega)
   intro l hl
   rw [List.take_succ,List.getElem?_eq_getElem hlt] at hl
   rcases List.mem_append.1 hl with hl | hl
   ·exact hz l hl
   ·have:l=ls[i]:=by simpa using hl
    rw [this]; exact hg
 ·have e:i=ls.length:=by omega
  subst e
  rw [List.take_length] at hz
  simp (disch:=omega) only [B8,BL,BW,BC,Bj,B0,BN,BO,BZ,B7,BV,B3,B6,B9,Cb,BT,BY,BJ,AX,Bv,AU,Bh,BE,Int.toNat_natCast,Int.toNat_zero,cond_true,cond_false,Bool.and_self,Bool.true_and,Bool.and_true,Bool.false_and,Bool.and_false,Bool.not_true,Bool.not_false,Bool.or_self,Bool.true_or,Bool.or_true,Bool.false_or,Bool.or_false,if_pos hz]
theorem aEJ (ls:List (List Nat)) (hls:∀ l∈ls,l.length<=1000000) (hn:ls.length<=1000000) :
  Ix (ls.map Wd,())=some (!decide (∀ l∈ls,(Ai l).length<=1024),()):=by
 show bV Ag.pre Ag.F kF (ls.map Wd)=_
 unfold bV
 have hw:=aJZ ls hls hn 0 (Nat.zero_le _) (fun l hl=>by simp at hl)
 rw [show ((0:Nat):Int)=0 from rfl] at hw
 rw [List.length_map,hw]
 by_cases h:∀ l∈ls,(Ai l).length<=1024
 ·rw [if_pos h,decide_eq_true h]; rfl
 ·rw [if_neg h,decide_eq_false h]; rfl
theorem aDn (l:List Nat) (hl:l.length<=1000000):Ix ((Wd l::[]),())=some (!decide ((Ai l).length<=1024),()):=by
 have:=aEJ [l] (by simp; exact hl) (by simp)
 rw [show [l].map Wd=Wd l::[] from rfl] at this
 rw [this]
 simp
theorem aDL (l:List Nat) (hl:Ws l) (n:Nat) (hn:n<=65536) (hv:nv (2^64) l*2^n<(2^64)^1024):SS (Wd l,(n:Int),())=some (Dw (nv (2^64) l*2^n),0,()):=by
 show kD Dx.pre Dx.F Eb.pre Eb.F (Wd l) n=_
 unfold kD
 have p0:=aDn l hl.2
 have hB:2<=2^64:=by decide
 have h1:=CZ hB 1024 _ hv
 have h0:(Ai l).length<=1024:=by
  rw [GE hB _ hl.1]
  apply CZ hB
  exact Nat.lt_of_le_of_lt (Nat.le_mul_of_pos_right _ (Nat.two_pow_pos _)) hv
 have p1:=rI l hl n (by omega)
 have p2:=aDn (dg (2^64) (nv (2^64) l*2^n)) (by omega)
 rw [OJ hB] at p2
 rw [decide_eq_true h0] at p0
 rw [decide_eq_true h1] at p2
 have e2:decide ((n:Int)>65536)=false:=decide_eq_false (by omega)
 simp only [tE,e2,Bool.or_self,cond_false,WX p0,W5 p0,cond_true,Bool.not_true,tT p1,sO p1]
 unfold Dw
 simp only [WX p2,W5 p2,cond_true,Bool.not_true,cond_false]
end VL
namespace VL
open Go Vx
theorem Ev (B:Nat) (l:List Nat) (i:Nat):nv B (l.take (i+1))=nv B (l.take i)+B^i*l.getD i 0:=by
 rcases Nat.lt_or_ge i l.length with h | h
 ·exact Wf B l i h
 ·rw [List.take_of_length_le (by omega),List.take_of_length_le h,List.getD_eq_getElem?_getD,List.getElem?_eq_none h]
  simp
def Cl (a b:List Nat) (i:Nat):Nat:=nv (2^64) (a.take i)+nv (2^64) (b.take i)
def DL (a b:List Nat) (i:Nat):List Nat:=pd (2^64) i (Cl a b i%(2^64)^i)++(a++[0]).drop i
theorem XP {l:List Nat} (h:∀ x∈l,x<2^64) (i:Nat):nv (2^64) (l.take i)<(2^64)^i:=by
 have:=DR (B:=2^64) (by decide) (l.take i) fun x hx=>h x (List.mem_of_mem_take hx)
 refine Nat.lt_of_lt_of_le this (Nat.pow_le_pow_right (by decide) ?_)
 rw [List.length_take]
 exact Nat.min_le_left _ _
theorem x7 {a b:List Nat} (ha:∀ x∈a,x<2^64) (hb:∀ x∈b,x<2^64) (i:Nat):Cl a b i/(2^64)^i<=1:=by
 have h1:=XP ha i
 have h2:=XP hb i
 have hp:0<(2^64)^i:=Nat.pow_pos (by decide)
 unfold Cl
 have:(nv (2^64) (a.take i)+nv (2^64) (b.take i))/(2^64)^i<2:=by
  rw [Nat.div_lt_iff_lt_mul hp]; omega
 omega
theorem aCk (a b:List Nat) (i:Nat):Cl a b (i+1)=Cl a b i%(2^64)^i+(2^64)^i*(a.getD i 0+b.getD i 0+Cl a b i/(2^64)^i):=by
 have hdm:=Nat.div_add_mod (Cl a b i) ((2^64)^i)
 have h1:Cl a b (i+1)=Cl a b i+(2^64)^i*(a.getD i 0+b.getD i 0):=by
  unfold Cl
  rw [Ev,Ev,Nat.mul_add]
  omega
 rw [h1,Nat.mul_add ((2^64)^i) (a.getD i 0+b.getD i 0)]
 omega
theorem aIh (a b:List Nat) (i:Nat):Cl a b (i+1)/(2^64)^(i+1)=(a.getD i 0+b.getD i 0+Cl a b i/(2^64)^i)/2^64:=by
 have hp:0<(2^64)^i:=Nat.pow_pos (by decide)
 rw [aCk,Nat.pow_succ (2^64) i,← Nat.div_div_eq_div_mul,Nat.add_mul_div_left _ _ hp,Nat.div_eq_of_lt (Nat.mod_lt _ hp),Nat.zero_add]
theorem aMm (a b:List Nat) (i:Nat):Cl a b (i+1)%(2^64)^(i+1)=Cl a b i%(2^64)^i+(2^64)^i*((a.getD i 0+b.getD i 0+Cl a b i/(2^64)^i)%2^64):=by
 have hp:0<(2^64)^i:=Nat.pow_pos (by decide)
 rw [aCk a b i,Nat.pow_succ (2^64) i,Nat.mod_mul,Nat.add_mul_mod_self_left,Nat.mod_mod,Nat.add_mul_div_left _ _ hp,Nat.div_eq_of_lt (Nat.mod_lt _ hp),Nat.zero_add]
theorem zL {k r v:Nat} (hr:r<(2^64)^k) (hv:v<2^64):pd (2^64) k r++[v]=pd (2^64) (k+1) (r+(2^64)^k*v):=by
 refine mG (by decide) ?_ (by simp [E6]) ?_
 ·intro x hx
  rcases List.mem_append.1 hx with hx | hx
  ·exact SF (by decide) _ _ x hx
  ·have:x=v:=by simpa using hx
   rw [this]; exact hv
 ·rw [Sg,E6,RN (by decide) _ _ hr]
  simp [nv]
theorem aMy (a b:List Nat) (i:Nat) (hi:i<a.length):(DL a b i).set i ((a.getD i 0+b.getD i 0+Cl a b i/(2^64)^i)%2^64)=DL a b (i+1):=by
 have hp:0<(2^64)^i:=Nat.pow_pos (by decide)
 unfold DL
 rw [aMm,← zL (Nat.mod_lt _ hp) (Nat.mod_lt _ (by decide)),List.set_append_right _ _ (by rw [E6]; exact Nat.le_refl _),E6,Nat.sub_self,
  List.drop_eq_getElem_cons (l:=a++[0]) (i:=i) (by simp; omega),List.set_cons_zero,List.append_assoc]
 rfl
theorem aDe (a b:List Nat) (i:Nat) (hi:i<=a.length):(DL a b i).length=a.length+1:=by
 unfold DL; rw [List.length_append,E6]; simp; omega
theorem aN4 (a b:List Nat) (ha:∀ x∈a,x<2^64) (hb:∀ x∈b,x<2^64) (hlen:a.length<=1000000) (i:Nat) (hi:i<=a.length) :
  Yn (((a.length:Int),(Wd b,((i:Int),(Wd a,(((Cl a b i/(2^64)^i:Nat):Int),((),())))))),(Wd (DL a b i),()))=some (.inl ((Wd a,(((Cl a b a.length/(2^64)^a.length:Nat):Int),((),()))),(Wd (DL a b a.length),()))):=by
 have key:=Do (xO Ay.pre Ay.F Ag.pre Ag.F) (fun x=>a.length-x.1.2.2.1.toNat)
  (fun x=>∃ i:Nat,i<=a.length/\x=(((a.length:Int),(Wd b,((i:Int),(Wd a,(((Cl a b i/(2^64)^i:Nat):Int),((),())))))),(Wd (DL a b i),())))
  (fun _=>.inl ((Wd a,(((Cl a b a.length/(2^64)^a.length:Nat):Int),((),()))),(Wd (DL a b a.length),()))) ?_ _ ⟨i,hi,rfl⟩
 ·exact key
 intro L x hx hL
 obtain ⟨i,hi,rfl⟩:=hx
 unfold Tj
 rcases Nat.lt_or_ge i a.length with hlt | hge
 ·have hc:=x7 ha hb i
  have hol:=aDe a b i hi
  have hset:=aMy a b i hlt
  have hgo:=hL (((a.length:Int),(Wd b,(((i+1:Nat):Int),(Wd a,(((Cl a b (i+1)/(2^64)^(i+1):Nat):Int),((),())))))),(Wd (DL a b (i+1)),())) ⟨i+1,by omega,rfl⟩ (by simp only [Int.toNat_natCast]; omega)
  rw [aIh,← hset] at hgo
  have hF:∀ x y c:Nat,Ay.F ((x:Int),((y:Int),((c:Int),())))=(((((x+y+c)%2^64:Nat):Int)),((((x+y+c)/2^64:Nat):Int)),()):=fun x y c=>rfl
  have hP:∀ (x y:Int) (c:Nat),c<=1->Ay.pre (x,(y,((c:Int),())))=true:=fun x y c h=>by
   show (decide ((0:Int)<=(c:Int))&&decide ((c:Int)<=1))=true
   rw [decide_eq_true (by omega),decide_eq_true (by omega)]; rfl
  generalize Cl a b i/(2^64)^i=c at *
  generalize DL a b i=out at *
  rcases Nat.lt_or_ge i b.length with hbl | hbl
  ·simp (disch:=omega) only [B8,BL,BW,BC,Bj,B0,BN,BO,BZ,B7,BV,B3,B6,B9,Cb,BT,BY,BJ,AX,Bv,AU,Bh,BE,Int.toNat_natCast,Int.toNat_zero,cond_true,cond_false,Bool.and_self,Bool.true_and,Bool.and_true,Bool.false_and,Bool.and_false,Bool.not_true,Bool.not_false,Bool.or_self,Bool.true_or,Bool.or_true,Bool.false_or,Bool.or_false,AA,Cc,hP _ _ c hc,hF,D0]
   exact hgo
  ·have hbz:b.getD i 0=0:=by rw [List.getD_eq_getElem?_getD,List.getElem?_eq_none hbl]; rfl
   have hF0:Ay.F (((a.getD i 0:Nat):Int),((0:Int),((c:Int),())))=((((a.getD i 0+b.getD i 0+c)%2^64:Nat):Int),(((a.getD i 0+b.getD i 0+c)/2^64:Nat):Int),()):=by rw [hbz]; rfl
   simp (disch:=omega) only [B8,BL,BW,BC,Bj,B0,BN,BO,BZ,B7,BV,B3,B6,B9,Cb,BT,BY,BJ,AX,Bv,AU,Bh,BE,Int.toNat_natCast,Int.toNat_zero,cond_true,cond_false,Bool.and_self,Bool.true_and,Bool.and_true,Bool.false_and,Bool.and_false,Bool.not_true,Bool.not_false,Bool.or_self,Bool.true_or,Bool.or_true,Bool.false_or,Bool.or_false,AA,Cc,hP _ _ c hc,hF0,D0]
   exact hgo
 ·have e:i=a.length:=by omega
  subst e
  simp (disch:=omega) only [B8,BL,BW,BC,Bj,B0,BN,BO,BZ,B7,BV,B3,B6,B9,Cb,BT,BY,BJ,AX,Bv,AU,Bh,BE,Int.toNat_natCast,Int.toNat_zero,cond_true,cond_false,Bool.and_self,Bool.true_and,Bool.and_true,Bool.false_and,Bool.and_false,Bool.not_true,Bool.not_false,Bool.or_self,Bool.true_or,Bool.or_true,Bool.false_or,Bool.or_false]
theorem aOq (a b:List Nat) (ha:∀ x∈a,x<2^64) (hb:∀ x∈b,x<2^64) (hab:b.length<=a.length) :
  (DL a b a.length).set a.length (Cl a b a.length/(2^64)^a.length)=pd (2^64) (a.length+1) (nv (2^64) a+nv (2^64) b)/\nv (2^64) a+nv (2^64) b<(2^64)^(a.length+1):=by
 have hp:0<(2^64)^a.length:=Nat.pow_pos (by decide)
 have hc:=x7 ha hb a.length
 have hs:Cl a b a.length=nv (2^64) a+nv (2^64) b:=by
  unfold Cl; rw [List.take_length,List.take_of_length_le hab]
 have hdm:=Nat.div_add_mod (Cl a b a.length) ((2^64)^a.length)
 refine ⟨?_,?_⟩
 ·have hd:(a++[0]).drop a.length=[0]:=by simp
  unfold DL
  rw [hd,List.set_append_right _ _ (by rw [E6]; exact Nat.le_refl _),E6,Nat.sub_self,List.set_cons_zero,zL (Nat.mod_lt _ hp) (by omega),Nat.add_comm (Cl a b a.length%(2^64)^a.length),hdm,hs]
 ·rw [← hs]
  have h1:=XP ha a.length
  have h2:=XP hb a.length
  unfold Cl
  rw [Nat.pow_succ (2^64) a.length]
  omega
theorem aLO {a:List Nat}:List.take (List.replicate (a.length+1) (0:Int)).length (Wd a)++List.drop a.length (List.replicate (a.length+1) (0:Int))=Wd (DL a ([]:List Nat) 0):=by
 rw [List.length_replicate,List.drop_replicate,Nat.add_sub_cancel_left,List.take_of_length_le (by rw [AA]; omega)]
 unfold DL
 simp [Wd,pd]
theorem aMX (a b c:List Nat):DL a b 0=DL a c 0:=by unfold DL; simp [pd]
theorem yH (a b:List Nat) (ha:∀ x∈a,x<2^64) (hb:∀ x∈b,x<2^64) (hlen:a.length+1<=1000000) (hab:b.length<=a.length) :
  (bif decide (0<=IntKind.wrap .i64 ((a.length:Int)+1))&&decide (IntKind.wrap .i64 ((a.length:Int)+1)*8<=140737488355328) then
   A1 (Yn (((a.length:Int),(Wd b,((0:Int),(Wd a,((0:Int),((),())))))),(List.take (List.replicate (Int.toNat (IntKind.wrap .i64 ((a.length:Int)+1))) (0:Int)).length (Wd a)++List.drop a.length (List.replicate (Int.toNat (IntKind.wrap .i64 ((a.length:Int)+1))) (0:Int)),()))) fun y4 =>
    A6 y4 (fun y5=>bif decide (0<=((y5.1.1.length:Nat):Int))&&decide (((y5.1.1.length:Nat):Int)<((y5.2.1.length:Nat):Int)) then
     (bif Ag.pre ((y5.2.1.set (Int.toNat ((y5.1.1.length:Nat):Int)) y5.1.2.1),()) then some (Ag.F ((y5.2.1.set (Int.toNat ((y5.1.1.length:Nat):Int)) y5.1.2.1),())) else none) else none) fun _=>none
  else none:Option (DenS GU))=some (Dw (nv (2^64) a+nv (2^64) b),()):=by
 have hw:=aN4 a b ha hb (by omega) 0 (Nat.zero_le _)
 have h0:Cl a b 0/(2^64)^0=0:=by unfold Cl; simp [nv]
 rw [h0,show ((0:Nat):Int)=0 from rfl,aMX a b [],← aLO] at hw
 have e3:decide (((a.length+1:Nat):Int)*8<=140737488355328)=true:=decide_eq_true (by omega)
 rw [BL _ (by omega),e3,AX,Int.toNat_natCast,hw]
 obtain ⟨g1,g2⟩:=aOq a b ha hb hab
 have hol:=aDe a b a.length (Nat.le_refl _)
 have p1:=Eh (pd (2^64) (a.length+1) (nv (2^64) a+nv (2^64) b)) (by rw [E6]; exact hlen)
 rw [GE (by decide) _ (SF (by decide) _ _),RN (by decide) _ _ g2,← g1,← D0] at p1
 generalize Cl a b a.length/(2^64)^a.length=c at *
 generalize DL a b a.length=out at *
 show (bif decide (0<=(((Wd a).length:Nat):Int))&&decide ((((Wd a).length:Nat):Int)<(((Wd out).length:Nat):Int)) then
     (bif Ag.pre ((Wd out).set (Wd a).length (c:Int),()) then some (Ag.F ((Wd out).set (Wd a).length (c:Int),())) else none) else none)=_
 simp (disch:=omega) only [B8,BL,BW,BC,Bj,B0,BN,BO,BZ,B7,BV,B3,B6,B9,Cb,BT,BY,BJ,AX,Bv,AU,Bh,BE,Int.toNat_natCast,Int.toNat_zero,cond_true,cond_false,Bool.and_self,Bool.true_and,Bool.and_true,Bool.false_and,Bool.and_false,Bool.not_true,Bool.not_false,Bool.or_self,Bool.true_or,Bool.or_true,Bool.false_or,Bool.or_false,AA,C0 p1,CV p1]
 rfl
theorem aFi (l m:List Nat) (hl:Ws l) (hm:Ws m) (hl2:(Ai l).length<1000000) (hm2:(Ai m).length<1000000):RP (Wd l,Wd m,())=some (Dw (nv (2^64) l+nv (2^64) m),()):=by
 show iN Ay.pre Ay.F Ag.pre Ag.F Yn (Wd l) (Wd m)=_
 unfold iN
 have p0:=Eh l hl.2
 have p1:=Eh m hm.2
 have h1:∀ x∈Ai l,x<2^64:=fun x hx=>hl.1 x (RL hx)
 have h2:∀ x∈Ai m,x<2^64:=fun x hx=>hm.1 x (RL hx)
 simp only [C0 p0,CV p0,C0 p1,CV p1,cond_true]
 rcases Nat.lt_or_ge (Ai l).length (Ai m).length with h | h
 ·rw [AA,AA,BN _ _ h,cond_true]
  have:=yH (Ai m) (Ai l) h2 h1 hm2 (by omega)
  rw [JT (by decide) hl.1,JT (by decide) hm.1,Nat.add_comm] at this
  exact this
 ·rw [AA,AA,BO _ _ h,cond_false]
  have:=yH (Ai l) (Ai m) h1 h2 hl2 (by omega)
  rw [JT (by decide) hl.1,JT (by decide) hm.1] at this
  exact this
theorem aIf (l:List Nat) (hl:Ws l):ZU (Wd l,())=some (Dw (nv (2^64) l),()):=by
 show aF Ag.pre Ag.F (Wd l)=_
 unfold aF
 have p0:=Eh l hl.2
 have hle:=(Eg l).1
 have h2:=hl.2
 have e3:decide ((((Ai l).length:Nat):Int)*8<=140737488355328)=true:=decide_eq_true (by omega)
 simp (disch:=omega) only [B8,BL,BW,BC,Bj,B0,BN,BO,BZ,B7,BV,B3,B6,B9,Cb,BT,BY,BJ,AX,Bv,AU,Bh,BE,Int.toNat_natCast,Int.toNat_zero,cond_true,cond_false,Bool.and_self,Bool.true_and,Bool.and_true,Bool.false_and,Bool.and_false,Bool.not_true,Bool.not_false,Bool.or_self,Bool.true_or,Bool.or_true,Bool.false_or,Bool.or_false,C0 p0,CV p0,AA,e3,List.length_replicate,List.drop_replicate,Nat.sub_self]
 rw [List.take_of_length_le (by rw [AA]; exact Nat.le_refl _),List.replicate_zero,List.append_nil,GE (by decide) l hl.1]
 rfl
theorem XN (l:List Nat) (hl:Ws l):SM (Wd l,())=some (Dw (nv (2^64) l),()):=by
 show mE CU.pre CU.F (Wd l)=_
 unfold mE
 have p0:=aIf l hl
 simp only [aKC p0,aNB p0,cond_true]
end VL
namespace VL
open Go Vx
def Wi (n:Nat):Aa (.pair (.int .u64) (.pair (.int .u64) .unit)):=(((n/2^64:Nat):Int),(((n%2^64:Nat):Int),()))
theorem aBJ (k:Nat) (h:0<k):decide ((k:Int)<=0)=false:=decide_eq_false (by omega)
theorem aJ6 {A q R P:Nat} (g1:A%2^64=R) (g2:q<P) (g4:R+P<=2^64):(A+q)%2^64=q+R:=by omega
theorem aLS {X Y r:Nat} (h:X%2^64=Y) (hr:r<2^64):(2^64*X+r)%2^128=2^64*Y+r:=by omega
theorem aPM {X h q R P:Nat} (e:X=2^64*h+R+q) (g2:q<P) (g4:R+P<=2^64):X/2^64=h/\X%2^64=q+R:=by omega
theorem qE (n k:Nat) (hn:n<2^128):Qw (Wi n,(k:Int),())=some (Wi (n*2^k%2^128),()):=by
 show fH (Wi n) k=_
 unfold fH
 rcases Nat.eq_zero_or_pos k with rfl | hk
 ·have e:n*2^0%2^128=n:=by rw [Nat.pow_zero,Nat.mul_one,Nat.mod_eq_of_lt hn]
  rw [e]; rfl
 rw [aBJ k hk,cond_false]
 rcases Nat.lt_or_ge k 128 with h128 | h128
 ·rw [show decide ((k:Int)>=128)=false from decide_eq_false (by omega),cond_false]
  have hlo:(n%2^64)<2^64:=Nat.mod_lt _ (by decide)
  have hhi:n/2^64<2^64:=by omega
  have hsplit:n=2^64*(n/2^64)+n%2^64:=(Nat.div_add_mod n (2^64)).symm
  rcases Nat.lt_or_ge k 64 with h64 | h64
  ·have e8:IntKind.wrap .i64 (64-(k:Int))=((64-k:Nat):Int):=Es 64 k (by omega) (by omega)
   rw [show decide ((k:Int)>=64)=false from decide_eq_false (by omega),cond_false,AX,cond_true,e8,AX,cond_true,cond_true]
   show some ((AW .u64 (AT .u64 ((n/2^64:Nat):Int) k) (AI .u64 ((n%2^64:Nat):Int) ((64-k:Nat):Int)),(AT .u64 ((n%2^64:Nat):Int) k,())),())=_
   rw [Ek _ k (by omega),Ek _ k (by omega),Dy _ (64-k) (by omega)]
   have hp:=Nat.two_pow_pos k
   have hp2:=Nat.two_pow_pos (64-k)
   have h2:2^64=2^(64-k)*2^k:=by rw [← Nat.pow_add]; congr 1; omega
   generalize n/2^64=hi at *
   generalize n%2^64=lo at *
   have g1:hi*2^k%2^64=(hi%2^(64-k))*2^k:=by rw [h2,Nat.mul_mod_mul_right]
   have g2:lo/2^(64-k)<2^k:=by rw [Nat.div_lt_iff_lt_mul hp2,Nat.mul_comm,← h2]; exact hlo
   have g3:hi%2^(64-k)+1<=2^(64-k):=Nat.mod_lt _ hp2
   have g4:=Nat.mul_le_mul_right (2^k) g3
   rw [← h2,Nat.add_mul,Nat.one_mul] at g4
   have hor:AW .u64 ((hi*2^k%2^64:Nat):Int) ((lo/2^(64-k):Nat):Int)=((lo/2^(64-k)+(hi%2^(64-k))*2^k:Nat):Int):=by
    have:=FJ g2 (b:=hi%2^(64-k)) (by omega)
    rw [g1]
    have hc:∀ a b:Nat,a<2^64->b<2^64->AW .u64 (a:Int) (b:Int)=AW .u64 (b:Int) (a:Int):=fun a b ha hb=>by
     rw [Tt ha hb,Tt hb ha,Nat.or_comm]
    rw [hc _ _ (by omega) (by omega)]
    exact this
   rw [hor]
   have hdm:=Nat.div_add_mod lo (2^(64-k))
   have v1:n*2^k=2^64*(hi*2^k+lo/2^(64-k))+lo*2^k%2^64:=by
    have g5:lo*2^k%2^64=(lo%2^(64-k))*2^k:=by rw [h2,Nat.mul_mod_mul_right]
    have g6:2^64*(lo/2^(64-k))=2^(64-k)*(lo/2^(64-k))*2^k:=by
     rw [Nat.mul_right_comm,← h2]
    rw [hsplit,Nat.add_mul,Nat.mul_add,Nat.mul_assoc,Nat.add_assoc,g6,g5,← Nat.add_mul,hdm]
   have v2:n*2^k%2^128=2^64*(lo/2^(64-k)+(hi%2^(64-k))*2^k)+lo*2^k%2^64:=by
    rw [v1]
    have hlo2:lo*2^k%2^64<2^64:=Nat.mod_lt _ (by decide)
    exact aLS (aJ6 g1 g2 g4) hlo2
   have hlo2:lo*2^k%2^64<2^64:=Nat.mod_lt _ (by decide)
   have e1:n*2^k%2^128/2^64=lo/2^(64-k)+(hi%2^(64-k))*2^k:=by rw [v2]; omega
   have e2:n*2^k%2^128%2^64=lo*2^k%2^64:=by rw [v2]; omega
   unfold Wi
   rw [e1,e2]
  ·have e8:IntKind.wrap .i64 ((k:Int)-64)=((k-64:Nat):Int):=Es k 64 (by omega) (by omega)
   rw [show decide ((k:Int)>=64)=true from decide_eq_true (by omega),cond_true,e8,AX,cond_true]
   show some ((AT .u64 ((n%2^64:Nat):Int) ((k-64:Nat):Int),((0:Int),())),())=_
   rw [Ek _ (k-64) (by omega)]
   have v1:n*2^k%2^128=2^64*(n%2^64*2^(k-64)%2^64):=by
    have h2:2^k=2^(k-64)*2^64:=by rw [← Nat.pow_add]; congr 1; omega
    rw [h2,← Nat.mul_assoc,show 2^128=2^64*2^64 by decide,Nat.mul_mod_mul_right,Nat.mul_comm _ (2^64),Nat.mul_mod n (2^(k-64)),Nat.mul_mod (n%2^64) (2^(k-64)),Nat.mod_mod]
   have e1:n*2^k%2^128/2^64=n%2^64*2^(k-64)%2^64:=by rw [v1]; omega
   have e2:n*2^k%2^128%2^64=0:=by rw [v1]; omega
   unfold Wi
   rw [e1,e2]
   rfl
 ·rw [show decide ((k:Int)>=128)=true from decide_eq_true (by omega),cond_true]
  have e:n*2^k%2^128=0:=by
   rw [show k=(k-128)+128 by omega,Nat.pow_add,← Nat.mul_assoc]
   exact Nat.mul_mod_left _ _
  rw [e]
  rfl
theorem aKl (n k:Nat) (hn:n<2^128):VG (Wi n,(k:Int),())=some (Wi (n/2^k),()):=by
 show aG (Wi n) k=_
 unfold aG
 rcases Nat.eq_zero_or_pos k with rfl | hk
 ·have e:n/2^0=n:=by rw [Nat.pow_zero,Nat.div_one]
  rw [e]; rfl
 rw [aBJ k hk,cond_false]
 rcases Nat.lt_or_ge k 128 with h128 | h128
 ·rw [show decide ((k:Int)>=128)=false from decide_eq_false (by omega),cond_false]
  have hlo:(n%2^64)<2^64:=Nat.mod_lt _ (by decide)
  have hhi:n/2^64<2^64:=by omega
  rcases Nat.lt_or_ge k 64 with h64 | h64
  ·have e8:IntKind.wrap .i64 (64-(k:Int))=((64-k:Nat):Int):=Es 64 k (by omega) (by omega)
   rw [show decide ((k:Int)>=64)=false from decide_eq_false (by omega),cond_false,AX,cond_true,e8,AX,cond_true,cond_true]
   show some ((AI .u64 ((n/2^64:Nat):Int) k,(AW .u64 (AI .u64 ((n%2^64:Nat):Int) k) (AT .u64 ((n/2^64:Nat):Int) ((64-k:Nat):Int)),())),())=_
   rw [Ek _ (64-k) (by omega),Dy _ k (by omega),Dy _ k (by omega)]
   have hp:=Nat.two_pow_pos k
   have hp2:=Nat.two_pow_pos (64-k)
   have h2:2^64=2^k*2^(64-k):=by rw [← Nat.pow_add]; congr 1; omega
   have hsplit:n=2^64*(n/2^64)+n%2^64:=(Nat.div_add_mod n (2^64)).symm
   generalize n/2^64=hi at *
   generalize n%2^64=lo at *
   have g1:hi*2^(64-k)%2^64=(hi%2^k)*2^(64-k):=by rw [h2,Nat.mul_mod_mul_right]
   have g2:lo/2^k<2^(64-k):=by rw [Nat.div_lt_iff_lt_mul hp,Nat.mul_comm,← h2]; exact hlo
   have g3:hi%2^k+1<=2^k:=Nat.mod_lt _ hp
   have g4:=Nat.mul_le_mul_right (2^(64-k)) g3
   rw [← h2,Nat.add_mul,Nat.one_mul] at g4
   rw [g1,FJ g2 (by omega)]
   have v1:n/2^k=hi*2^(64-k)+lo/2^k:=by
    have:n=lo+2^k*(hi*2^(64-k)):=by rw [hsplit,h2,Nat.mul_assoc,Nat.mul_comm hi]; omega
    rw [this,Nat.add_mul_div_left _ _ hp,Nat.add_comm]
   have hdm:=Nat.div_add_mod hi (2^k)
   have v2:hi*2^(64-k)=2^64*(hi/2^k)+(hi%2^k)*2^(64-k):=by
    rw [h2,Nat.mul_right_comm,← Nat.add_mul,hdm]
   rw [v2] at v1
   obtain ⟨e1,e2⟩:=aPM v1 g2 g4
   unfold Wi
   rw [e1,e2]
  ·have e8:IntKind.wrap .i64 ((k:Int)-64)=((k-64:Nat):Int):=Es k 64 (by omega) (by omega)
   rw [show decide ((k:Int)>=64)=true from decide_eq_true (by omega),cond_true,e8,AX,cond_true]
   show some (((0:Int),(AI .u64 ((n/2^64:Nat):Int) ((k-64:Nat):Int),())),())=_
   rw [Dy _ (k-64) (by omega)]
   have v1:n/2^k=n/2^64/2^(k-64):=by
    rw [Nat.div_div_eq_div_mul,← Nat.pow_add]; congr 2; omega
   have hs:n/2^k<2^64:=by
    rw [v1]; exact Nat.lt_of_le_of_lt (Nat.div_le_self _ _) hhi
   have e1:n/2^k/2^64=0:=Nat.div_eq_of_lt hs
   have e2:n/2^k%2^64=n/2^64/2^(k-64):=by rw [← v1]; exact Nat.mod_eq_of_lt hs
   unfold Wi
   rw [e1,e2]
   rfl
 ·rw [show decide ((k:Int)>=128)=true from decide_eq_true (by omega),cond_true]
  have e:n/2^k=0:=Nat.div_eq_of_lt (Nat.lt_of_lt_of_le hn (Nat.pow_le_pow_right (by decide) h128))
  rw [e]
  rfl
theorem PL (x y c:Nat):Ay.F ((x:Int),((y:Int),((c:Int),())))=(((((x+y+c)%2^64:Nat):Int)),((((x+y+c)/2^64:Nat):Int)),()):=rfl
theorem N7 (x y:Int) (c:Nat) (h:c<=1):Ay.pre (x,(y,((c:Int),())))=true:=by
 show (decide ((0:Int)<=(c:Int))&&decide ((c:Int)<=1))=true
 rw [decide_eq_true (by omega),decide_eq_true (by omega)]; rfl
theorem WJ (x y c:Nat) (h:c<=1) (hx:x<2^64) (hy:y<2^64):A5.F ((x:Int),((y:Int),((c:Int),())))=(((((x+2^64-y-c)%2^64:Nat):Int)),((if x<y+c then 1 else 0:Nat):Int),()):=by
 show ((((x:Int)-y-c)%18446744073709551616:Int),((if (x:Int)<y+c then 1 else 0:Int)),())=_
 have e1:((x:Int)-y-c)%18446744073709551616=((x+2^64-y-c)%2^64:Nat):=by omega
 rw [e1]
 by_cases h:x<y+c
 ·rw [if_pos h,if_pos (by omega)]; rfl
 ·rw [if_neg h,if_neg (by omega)]; rfl
theorem Ym (x y:Int) (c:Nat) (h:c<=1):A5.pre (x,(y,((c:Int),())))=true:=by
 show (decide ((0:Int)<=(c:Int))&&decide ((c:Int)<=1))=true
 rw [decide_eq_true (by omega),decide_eq_true (by omega)]; rfl
theorem aSh (n m:Nat) (h:n+m<2^128):Yj (Wi n,Wi m,())=some (Wi (n+m),0,()):=by
 show iX Ay.pre Ay.F (Wi n) (Wi m)=_
 unfold iX
 have c1:(n%2^64+m%2^64+0)/2^64<=1:=by omega
 have p1:Ay.pre ((Wi n).2.1,((Wi m).2.1,((0:Int),())))=true:=N7 _ _ 0 (by decide)
 have q1:Ay.F ((Wi n).2.1,((Wi m).2.1,((0:Int),())))=_:=PL (n%2^64) (m%2^64) 0
 rw [p1,q1,cond_true]
 have p2:Ay.pre ((Wi n).1,((Wi m).1,((((n%2^64+m%2^64+0)/2^64:Nat):Int),())))=true:=N7 _ _ _ c1
 have q2:Ay.F ((Wi n).1,((Wi m).1,((((n%2^64+m%2^64+0)/2^64:Nat):Int),())))=_:=PL (n/2^64) (m/2^64) ((n%2^64+m%2^64+0)/2^64)
 dsimp only
 rw [p2,q2,cond_true]
 have e1:(n/2^64+m/2^64+(n%2^64+m%2^64+0)/2^64)%2^64=(n+m)/2^64:=by omega
 have e2:(n%2^64+m%2^64+0)%2^64=(n+m)%2^64:=by omega
 have e3:(n/2^64+m/2^64+(n%2^64+m%2^64+0)/2^64)/2^64=0:=by omega
 rw [e1,e2,e3]
 rfl
theorem r8 (n m:Nat) (hn:n<2^128) (h:m<=n):WT (Wi n,Wi m,())=some (Wi (n-m),0,()):=by
 show mO A5.pre A5.F (Wi n) (Wi m)=_
 unfold mO
 have p1:A5.pre ((Wi n).2.1,((Wi m).2.1,((0:Int),())))=true:=Ym _ _ 0 (by decide)
 have q1:A5.F ((Wi n).2.1,((Wi m).2.1,((0:Int),())))=_:=WJ (n%2^64) (m%2^64) 0 (by decide) (by omega) (by omega)
 rw [p1,q1,cond_true]
 have c1:(if n%2^64<m%2^64+0 then 1 else 0)<=1:=by split <;> omega
 have p2:A5.pre ((Wi n).1,((Wi m).1,(((if n%2^64<m%2^64+0 then 1 else 0:Nat):Int),())))=true:=Ym _ _ _ c1
 have q2:A5.F ((Wi n).1,((Wi m).1,(((if n%2^64<m%2^64+0 then 1 else 0:Nat):Int),())))=_:=WJ (n/2^64) (m/2^64) _ c1 (by omega) (by omega)
 dsimp only
 rw [p2,q2,cond_true]
 have e2:(n%2^64+2^64-m%2^64-0)%2^64=(n-m)%2^64:=by omega
 rw [e2]
 by_cases hb:n%2^64<m%2^64+0
 ·rw [if_pos hb,if_neg (by omega)]
  have e1:(n/2^64+2^64-m/2^64-1)%2^64=(n-m)/2^64:=by omega
  rw [e1]
  rfl
 ·rw [if_neg hb,if_neg (by omega)]
  have e1:(n/2^64+2^64-m/2^64-0)%2^64=(n-m)/2^64:=by omega
  rw [e1]
  rfl
theorem aG3 (n m:Nat):XK (Wi n,Wi m,())=some (if n=m then 0 else if n<m then -1 else 1,()):=by
 show mK (Wi n) (Wi m)=_
 unfold mK
 show (bif (((n/2^64:Nat):Int)==((m/2^64:Nat):Int)&&((n%2^64:Nat):Int)==((m%2^64:Nat):Int)) then some ((0:Int),())
  else bif (decide (((n/2^64:Nat):Int)<((m/2^64:Nat):Int))||(((n/2^64:Nat):Int)==((m/2^64:Nat):Int)&&decide (((n%2^64:Nat):Int)<((m%2^64:Nat):Int)))) then some ((-1:Int),()) else some ((1:Int),()):Option (Int×Unit))=_
 rw [Il,Il,sS,sS]
 rcases Nat.lt_trichotomy n m with h | h | h
 ·have e1:(n/2^64==m/2^64&&n%2^64==m%2^64)=false:=by
   rw [Bool.and_eq_false_iff,beq_eq_false_iff_ne,beq_eq_false_iff_ne]; omega
  have e2:(decide (n/2^64<m/2^64)||(n/2^64==m/2^64&&decide (n%2^64<m%2^64)))=true:=by
   rw [Bool.or_eq_true,Bool.and_eq_true,decide_eq_true_eq,decide_eq_true_eq,beq_iff_eq]; omega
  rw [e1,e2,if_neg (by omega),if_pos h]; rfl
 ·subst h
  rw [if_pos rfl]
  simp
 ·have e1:(n/2^64==m/2^64&&n%2^64==m%2^64)=false:=by
   rw [Bool.and_eq_false_iff,beq_eq_false_iff_ne,beq_eq_false_iff_ne]; omega
  have e2:(decide (n/2^64<m/2^64)||(n/2^64==m/2^64&&decide (n%2^64<m%2^64)))=false:=by
   rw [Bool.or_eq_false_iff,Bool.and_eq_false_iff,decide_eq_false_iff_not,decide_eq_false_iff_not,beq_eq_false_iff_ne]; omega
  rw [e1,e2,if_neg (by omega),if_neg (by omega)]; rfl
end VL
namespace VL
open Go Vx
def Cu (m:Int) (neg odd:Bool) (rest:Nat):Bool :=
 if m=4 then neg else if m=3 then !neg else if m=0 then (if rest=2 then odd else decide (2<=rest)) else if m=1 then decide (2<=rest) else if m=5 then !odd else false
theorem In (a b:Int) (h:a≠b):(a==b)=false:=by simp [h]
theorem TF (m:Int) (neg odd:Bool) (rest:Nat):R2 (m,neg,odd,(rest:Int),())=some (Cu m neg odd rest,()):=by
 show j1 m neg odd (rest:Int)=_
 have e2:decide ((rest:Int)>=2)=decide (2<=rest):=by rw [Bool.eq_iff_iff,decide_eq_true_eq,decide_eq_true_eq]; omega
 have e3:((rest:Int)==2)=decide (rest=2):=by rw [Bool.eq_iff_iff,decide_eq_true_eq,beq_iff_eq]; omega
 unfold j1 Cu
 rw [e2,e3]
 by_cases h4:m=4
 ·subst h4; cases neg <;> rfl
 rw [In m 4 h4,cond_false,if_neg h4]
 by_cases h3:m=3
 ·subst h3; rfl
 rw [In m 3 h3,cond_false,if_neg h3]
 by_cases h0:m=0
 ·subst h0
  by_cases hr:rest=2
  ·subst hr; rfl
  ·rw [decide_eq_false hr,if_pos rfl,if_neg hr]; rfl
 rw [In m 0 h0,cond_false,if_neg h0]
 by_cases h1:m=1
 ·subst h1; rfl
 rw [In m 1 h1,cond_false,if_neg h1]
 by_cases h5:m=5
 ·subst h5; rfl
 rw [In m 5 h5,cond_false,if_neg h5]
def DW (n:Nat) (e q:Int):Nat:=if q<=e then n*2^(e-q).toNat else n/2^(q-e).toNat
def Cx (r s:Nat):Nat:=if r=0 then 0 else if r<2^(s-1) then 1 else if r=2^(s-1) then 2 else 3
def Hh (n:Nat) (e q:Int):Nat:=if q<=e then 0 else Cx (n%2^(q-e).toNat) (q-e).toNat
def j4 (n:Nat) (e q:Int):Nat:=if 2<=q-e then MJ n (q-e-2).toNat else n*2^(2-(q-e)).toNat
theorem aR4 (n:Nat) (e q:Int):j4 n e q/4=DW n e q/\j4 n e q%4=Hh n e q:=by
 unfold j4 DW Hh
 by_cases h2:2<=q-e
 ·rw [if_pos h2,if_neg (by omega),if_neg (by omega)]
  have es:(q-e).toNat=(q-e-2).toNat+2:=by omega
  rw [es]
  generalize (q-e-2).toNat=s
  have hp:=Nat.two_pow_pos s
  have e1:2^(s+2)=2^s*4:=by rw [Nat.pow_add]
  have e2:2^(s+2-1)=2^s*2:=by rw [show s+2-1=s+1 by omega,Nat.pow_succ]
  unfold MJ Cx
  rw [e2,e1,← Nat.div_div_eq_div_mul,Nat.mod_mul]
  have hr:=Nat.mod_lt n hp
  generalize n%2^s=r at *
  generalize n/2^s=u at *
  have h4:u%4=0∨u%4=1∨u%4=2∨u%4=3:=by omega
  constructor
  ·split <;> omega
  ·rcases h4 with h | h | h | h <;> rw [h] <;> by_cases hz:r=0
   ·rw [if_pos hz,if_pos (by omega)]; exact h
   ·rw [if_neg hz,if_neg (by omega),if_pos (by omega)]; omega
   ·rw [if_pos hz,if_neg (by omega),if_pos (by omega)]; exact h
   ·rw [if_neg hz,if_neg (by omega),if_pos (by omega)]; omega
   ·rw [if_pos hz,if_neg (by omega),if_neg (by omega),if_pos (by omega)]; exact h
   ·rw [if_neg hz,if_neg (by omega),if_neg (by omega),if_neg (by omega)]; omega
   ·rw [if_pos hz,if_neg (by omega),if_neg (by omega),if_neg (by omega)]; exact h
   ·rw [if_neg hz,if_neg (by omega),if_neg (by omega),if_neg (by omega)]; omega
 ·rw [if_neg h2]
  by_cases h1:q<=e
  ·rw [if_pos h1,if_pos h1,show (2-(q-e)).toNat=(e-q).toNat+2 by omega,Nat.pow_add,← Nat.mul_assoc]
   generalize n*2^(e-q).toNat=x
   omega
  ·rw [if_neg h1,if_neg h1,show (2-(q-e)).toNat=1 by omega,show (q-e).toNat=1 by omega]
   unfold Cx
   rcases Nat.mod_two_eq_zero_or_one n with h | h
   ·rw [show n%2^1=0 from h,if_pos rfl]; omega
   ·rw [show n%2^1=1 from h,if_neg (by omega),if_neg (by decide),if_pos (by decide)]; omega
def CK (n:Nat) (e q:Int) (more:Bool):Nat:=if more then Hh n e q/2*2+1 else Hh n e q
def BH (m:Int) (neg:Bool) (n:Nat) (e q:Int) (more:Bool):Nat :=
 if CK n e q more≠0/\Cu m neg (decide (DW n e q%2=1)) (CK n e q more)=true then DW n e q+1 else DW n e q
theorem DB:Dw 0=[]:=by unfold Dw; rw [Ep]; rfl
theorem Jl {n:Nat} (h:n≠0):0<(Dw n).length:=by
 unfold Dw; rw [AA,FO (by decide) (by omega)]; simp
theorem Nf {n:Nat} (h:n≠0):decide ((((Dw n).length:Nat):Int)>0)=true:=decide_eq_true (by have:=Jl h; omega)
theorem S3 {n:Nat} (h:n≠0):decide ((0:Int)<(((Dw n).length:Nat):Int))=true:=decide_eq_true (by have:=Jl h; omega)
theorem Kx (n:Nat):(Dw n).getD 0 0=((n%2^64:Nat):Int):=by
 unfold Dw; rw [Cc]
 rcases Nat.eq_zero_or_pos n with rfl | h
 ·rw [Ep]; rfl
 ·rw [FO (by decide) h]; rfl
theorem aJk:Dw 1=(1:Int)::[]:=by
 unfold Dw; rw [FO (by decide) (by decide),Ep]; rfl
theorem Pu (n:Nat):(decide ((0:Int)<(((Dw n).length:Nat):Int))||!decide ((((Dw n).length:Nat):Int)>0))=true:=by
 by_cases h:0<(Dw n).length
 ·rw [decide_eq_true (by omega)]; rfl
 ·rw [decide_eq_false (p:=(((Dw n).length:Nat):Int)>0) (by omega)]; simp
theorem dH (n:Nat):AQ .u64 ((n%2^64:Nat):Int) 3=((n%4:Nat):Int):=by
 have:=U4 (m:=n%2^64) (n:=2) (Nat.mod_lt _ (by decide)) (by decide)
 rw [show n%2^64%2^2=n%4 by omega] at this
 exact this
theorem aJK (n:Nat):AQ .u64 ((n%2^64:Nat):Int) 1=((n%2:Nat):Int):=by
 have:=U4 (m:=n%2^64) (n:=1) (Nat.mod_lt _ (by decide)) (by decide)
 rw [show n%2^64%2^1=n%2 by omega] at this
 exact this
theorem or1 (n:Nat) (h:n<2^64):AW .u64 (n:Int) 1=((n/2*2+1:Nat):Int):=by
 have:=Tt (a:=n) (b:=1) h (by decide)
 rw [aHB] at this
 exact this
theorem aAs:AW .u64 0 1=1:=by decide
theorem TZ (u:Nat):(decide ((((Dw u).length:Nat):Int)>0)&&(AQ .u64 ((Dw u).getD 0 0) 1==1))=decide (u%2=1):=by
 rw [Kx,aJK]
 rcases Nat.eq_zero_or_pos u with rfl | h
 ·rw [DB]; rfl
 ·rw [Nf (by omega),Bool.true_and,Bool.eq_iff_iff,decide_eq_true_eq,beq_iff_eq]; omega
theorem Ds {n:Nat} (h:n<(2^64)^5000):Ws (dg (2^64) n):=by
 have:=CZ (B:=2^64) (by decide) 5000 n h
 exact aBW n (by omega)
theorem Cd (n:Nat):nv (2^64) (dg (2^64) n)=n:=lJ (by decide) n
theorem aDS {j:Nat} (hj:Ws (dg (2^64) j)):On (Dw j,(2:Int),())=some (Dw (j/4),0,()):=by
 have:=aGD (dg (2^64) j) hj 2 (by decide)
 rw [Cd] at this
 exact this
theorem aGe {u:Nat} (hu:Ws (dg (2^64) u)) (hl:(dg (2^64) u).length<1000000):RP (Dw u,((1:Int)::[]),())=some (Dw (u+1),()):=by
 have:=aFi (dg (2^64) u) [1] hu ⟨by simp,by simp⟩ (by rw [OJ (by decide)]; exact hl) (by simp [Ai])
 rw [Cd,show nv (2^64) [1]=1 by rfl] at this
 exact this
end VL
namespace VL
open Go Vx
theorem dM:decide ((0:Int)>0)=false:=rfl
theorem aLj (m:Int) (neg:Bool) (n:Nat) (e q:Int) (more:Bool) (hn:n<(2^64)^2000) (hq:q-e<=10000000) (he:-1000000000<=e/\e<=1000000000) (hqb:-1000000000<=q/\q<=1000000000)
  (hs:q-e<2->2-(q-e)<=65536/\n*2^(2-(q-e)).toNat<(2^64)^1024) :
  Tv ((neg,Dw n,e,more,()),m,q,())=some (Dw (BH m neg n e q more),decide (CK n e q more≠0),()):=by
 show bE _ _ _ _ _ _ _ _ _ _ (neg,Dw n,e,more,()) m q=_
 unfold bE
 have hnw:Ws (dg (2^64) n):=Ds (Nat.lt_trans hn (Nat.pow_lt_pow_right (by decide) (by decide)))
 have e0:IntKind.wrap .i64 (q-e)=q-e:=As (by omega)
 have hj4:=aR4 n e q
 dsimp only
 rw [e0]
 by_cases h2:2<=q-e
 ·rw [show decide (q-e>=2)=true from decide_eq_true h2,cond_true]
  obtain ⟨s,hs⟩:=Int.eq_ofNat_of_zero_le (show 0<=q-e-2 by omega)
  have e1:IntKind.wrap .i64 (q-e-2)=(s:Int):=by rw [As (by omega)]; exact hs
  have hj:j4 n e q=MJ n s:=by unfold j4; rw [if_pos h2]; congr 1; omega
  rw [hj] at hj4
  have hjn:MJ n s<=n+1:=by
   unfold MJ
   have:=Nat.div_le_self n (2^s)
   split <;> omega
  have p0:=aJg (dg (2^64) n) hnw s (by omega)
  rw [Cd] at p0
  have hjl:MJ n s<(2^64)^5000:=by
   have h1:(2^64)^2000<(2^64)^5000:=Nat.pow_lt_pow_right (by decide) (by decide)
   generalize (2^64)^2000=A at *
   generalize (2^64)^5000=B at *
   omega
  clear hj
  generalize MJ n s=j at *
  have hj:Ws (dg (2^64) j):=Ds hjl
  rw [e1]
  have p0:TJ (Dw n,(s:Int),())=some (Dw j,0,()):=p0
  have p1:=aDS hj
  have hu:Ws (dg (2^64) (j/4)):=Ds (Nat.lt_of_le_of_lt (Nat.div_le_self _ _) hjl)
  have hul:=CZ (B:=2^64) (by decide) 5000 (j/4) (Nat.lt_of_le_of_lt (Nat.div_le_self _ _) hjl)
  have p3:=aGe hu (by omega)
  have h4:j%4<4:=Nat.mod_lt _ (by decide)
  unfold BH CK
  rw [← hj4.1,← hj4.2]
  rcases Nat.eq_zero_or_pos j with hj0 | hj0
  ·subst hj0
   have pz:On ([],(2:Int),())=some (Dw (0/4),0,()):=by rw [← DB]; exact p1
   cases more with
   | true =>
    have p2:R2 (m,neg,decide (0/4%2=1),(1:Int),())=some (Cu m neg (decide (0/4%2=1)) 1,()):=TF m neg _ 1
    simp only [cW p0,dX p0,cond_true,DB,List.length_nil,BJ,Int.natCast_zero,cond_false,Int.toNat_zero,dM,aAs,Lh pz,KB pz,Pu,TZ,Uu p2,Vp p2,Bool.true_or,Bool.or_true,Bool.true_and]
    cases hf:Cu m neg (decide (0/4%2=1)) 1 with
    | true=>simp only [cond_true,JA p3,Io p3]; have hf:Cu m neg false 1=true:=hf; simp [hf]
    | false=>simp only [cond_false]; have hf:Cu m neg false 1=false:=hf; simp [hf]
   | false =>
    simp only [cW p0,dX p0,cond_true,DB,List.length_nil,Int.natCast_zero,cond_false,Int.toNat_zero,dM,Lh pz,KB pz,Pu,Bool.or_true]
    simp
  ·have hjn:j≠0:=by omega
   cases more with
   | true =>
    have p2:=TF m neg (decide (j/4%2=1)) (j%4/2*2+1)
    have hr:j%4/2*2+1≠0:=by omega
    simp only [cW p0,dX p0,cond_true,Nf hjn,S3 hjn,Int.toNat_zero,Kx j,dH,or1 (j%4) (by omega),Lh p1,KB p1,Pu,TZ,Uu p2,Vp p2,Bool.true_or,Bool.or_true,Bh _ hr,Bool.true_and]
    cases hf:Cu m neg (decide (j/4%2=1)) (j%4/2*2+1) with
    | true=>simp only [cond_true,JA p3,Io p3]; simp [hf]
    | false=>simp only [cond_false]; simp [hf]
   | false =>
    have p2:=TF m neg (decide (j/4%2=1)) (j%4)
    simp only [cW p0,dX p0,cond_true,cond_false,Nf hjn,S3 hjn,Int.toNat_zero,Kx j,dH,Lh p1,KB p1,Pu,TZ,Uu p2,Vp p2,Bool.true_or,Bool.or_true]
    rcases Nat.eq_zero_or_pos (j%4) with hz | hz
    ·rw [BE _ hz,Bool.false_and,cond_false]
     simp [hz]
    ·have hr:j%4≠0:=by omega
     rw [Bh _ hr,Bool.true_and]
     cases hf:Cu m neg (decide (j/4%2=1)) (j%4) with
     | true=>simp only [cond_true,JA p3,Io p3]; simp [hf,hr]
     | false=>simp only [cond_false]; simp [hf,hr]
 ·rw [show decide (q-e>=2)=false from decide_eq_false h2,cond_false]
  obtain ⟨s,hse⟩:=Int.eq_ofNat_of_zero_le (show 0<=2-(q-e) by omega)
  have e1:IntKind.wrap .i64 (2-(q-e))=(s:Int):=by rw [As (by omega)]; exact hse
  have hj:j4 n e q=n*2^s:=by unfold j4; rw [if_neg h2]; congr 2; omega
  rw [hj] at hj4
  obtain ⟨hs1,hs2⟩:=hs (by omega)
  rw [show (2-(q-e)).toNat=s by omega] at hs2
  have p0:=aDL (dg (2^64) n) hnw s (by omega) (by rw [Cd]; exact hs2)
  rw [Cd] at p0
  have hjl:n*2^s<(2^64)^5000:=Nat.lt_trans hs2 (Nat.pow_lt_pow_right (by decide) (by decide))
  clear hj
  generalize n*2^s=j at *
  have hj:Ws (dg (2^64) j):=Ds hjl
  rw [e1]
  have p0:SS (Dw n,(s:Int),())=some (Dw j,0,()):=p0
  have p1:=aDS hj
  have hu:Ws (dg (2^64) (j/4)):=Ds (Nat.lt_of_le_of_lt (Nat.div_le_self _ _) hjl)
  have hul:=CZ (B:=2^64) (by decide) 5000 (j/4) (Nat.lt_of_le_of_lt (Nat.div_le_self _ _) hjl)
  have p3:=aGe hu (by omega)
  have h4:j%4<4:=Nat.mod_lt _ (by decide)
  unfold BH CK
  rw [← hj4.1,← hj4.2]
  rcases Nat.eq_zero_or_pos j with hj0 | hj0
  ·subst hj0
   have pz:On ([],(2:Int),())=some (Dw (0/4),0,()):=by rw [← DB]; exact p1
   cases more with
   | true =>
    have p2:R2 (m,neg,decide (0/4%2=1),(1:Int),())=some (Cu m neg (decide (0/4%2=1)) 1,()):=TF m neg _ 1
    simp only [VZ p0,YX p0,cond_true,DB,List.length_nil,BJ,Int.natCast_zero,cond_false,Int.toNat_zero,dM,aAs,Lh pz,KB pz,Pu,TZ,Uu p2,Vp p2,Bool.true_or,Bool.or_true,Bool.true_and]
    cases hf:Cu m neg (decide (0/4%2=1)) 1 with
    | true=>simp only [cond_true,JA p3,Io p3]; have hf:Cu m neg false 1=true:=hf; simp [hf]
    | false=>simp only [cond_false]; have hf:Cu m neg false 1=false:=hf; simp [hf]
   | false =>
    simp only [VZ p0,YX p0,cond_true,DB,List.length_nil,Int.natCast_zero,cond_false,Int.toNat_zero,dM,Lh pz,KB pz,Pu,Bool.or_true]
    simp
  ·have hjn:j≠0:=by omega
   cases more with
   | true =>
    have p2:=TF m neg (decide (j/4%2=1)) (j%4/2*2+1)
    have hr:j%4/2*2+1≠0:=by omega
    simp only [VZ p0,YX p0,cond_true,Nf hjn,S3 hjn,Int.toNat_zero,Kx j,dH,or1 (j%4) (by omega),Lh p1,KB p1,Pu,TZ,Uu p2,Vp p2,Bool.true_or,Bool.or_true,Bh _ hr,Bool.true_and]
    cases hf:Cu m neg (decide (j/4%2=1)) (j%4/2*2+1) with
    | true=>simp only [cond_true,JA p3,Io p3]; simp [hf]
    | false=>simp only [cond_false]; simp [hf]
   | false =>
    have p2:=TF m neg (decide (j/4%2=1)) (j%4)
    simp only [VZ p0,YX p0,cond_true,cond_false,Nf hjn,S3 hjn,Int.toNat_zero,Kx j,dH,Lh p1,KB p1,Pu,TZ,Uu p2,Vp p2,Bool.true_or,Bool.or_true]
    rcases Nat.eq_zero_or_pos (j%4) with hz | hz
    ·rw [BE _ hz,Bool.false_and,cond_false]
     simp [hz]
    ·have hr:j%4≠0:=by omega
     rw [Bh _ hr,Bool.true_and]
     cases hf:Cu m neg (decide (j/4%2=1)) (j%4) with
     | true=>simp only [cond_true,JA p3,Io p3]; simp [hf,hr]
     | false=>simp only [cond_false]; simp [hf,hr]
end VL
namespace VL
open Go Vx
def Co (f:Int) (neg:Bool):Nat:=if neg then 2^(fW f-1) else 0
def F3 (f:Int) (neg:Bool):Nat:=(2^(fW f-fP f)-1)*2^(fP f-1)+Co f neg
def rF (m:Int) (neg:Bool):Bool:=((m==0||m==1)||(m==3&&!neg))||(m==4&&neg)
def WE (f m:Int) (neg:Bool):Nat:=if rF m neg then F3 f neg else F3 f neg-1
theorem VT {f:Int} (h:Fm f) (neg:Bool):Xx (f,neg,())=some ((F3 f neg:Int),0,()):=by
 rcases C4 h with rfl | rfl | rfl | rfl <;> cases neg <;> kernel_rfl
theorem aLP {f:Int} (h:Fm f) (neg:Bool):YY (f,neg,())=some (((F3 f neg-1:Nat):Int),0,()):=by
 rcases C4 h with rfl | rfl | rfl | rfl <;> cases neg <;> kernel_rfl
theorem Kj {f:Int} (h:Fm f) (neg:Bool):Ze (f,neg,())=some ((Co f neg:Int),0,()):=by
 rcases C4 h with rfl | rfl | rfl | rfl <;> cases neg <;> kernel_rfl
theorem aJL {f:Int} (h:Fm f) (m:Int) (neg:Bool):ZO (f,m,neg,())=some ((WE f m neg:Int),()):=by
 show iY B4.pre B4.F Ja.pre Ja.F f m neg=_
 have p0:=VT h neg
 have p1:=aLP h neg
 unfold iY WE
 show (bif rF m neg then (bif B4.pre (f,neg,()) then some ((B4.F (f,neg,())).1,()) else none) else (bif Ja.pre (f,neg,()) then some ((Ja.F (f,neg,())).1,()) else none))=_
 rw [UR p0,UJ p0,aP0 p1,aMf p1]
 cases rF m neg <;> rfl
def AE (n:Nat) (e:Int):Int:=e+(An n:Int)-1
theorem En {n k:Nat} (h:n<2^k):An n<=k:=by
 rcases Nat.eq_zero_or_pos n with rfl | hn
 ·exact Nat.zero_le _
 ·have:=Ji (n:=n) (by omega)
  have:An n-1<k:=(Nat.pow_lt_pow_iff_right (a:=2) (by decide)).1 (Nat.lt_of_le_of_lt this h)
  omega
theorem Jp {n:Nat} (h:n≠0):1<=An n:=by unfold An; rw [if_neg h]; omega
theorem fR {n:Nat} (h:n<(2^64)^2000):An n<=128000:=by
 apply En
 rw [Cw] at h
 exact h
theorem Sy {n:Nat} (h:n<(2^64)^5000):Th (Dw n,())=some ((An n:Int),()):=by
 have:=aJ9 _ (Ds h)
 rw [Cd] at this
 exact this
theorem K9 {n:Nat} (h:n<(2^64)^2000):n<(2^64)^5000:=Nat.lt_trans h (Nat.pow_lt_pow_right (by decide) (by decide))
theorem aKx (neg:Bool) (n:Nat) (e:Int) (more:Bool) (hn:n<(2^64)^2000) (he:-1000000<=e/\e<=1000000):Zs ((neg,Dw n,e,more,()),())=some (AE n e,()):=by
 show lB Ci.pre Ci.F (neg,Dw n,e,more,())=_
 unfold lB
 have p0:=Sy (K9 hn)
 have hb:=fR hn
 simp only [Si p0,S5 p0,cond_true]
 rw [As (n:=e+(An n:Int)) (by omega),As (by omega)]
 rfl
theorem aIB {n:Nat} {e q:Int} {p:Nat} (h:AE n e-p+1<=q):DW n e q<2^p:=by
 unfold AE at h
 unfold DW
 have hb:=Gq n
 by_cases hq:q<=e
 ·rw [if_pos hq]
  have h1:n*2^(e-q).toNat<2^An n*2^(e-q).toNat:=Nat.mul_lt_mul_of_pos_right hb (Nat.two_pow_pos _)
  rw [← Nat.pow_add] at h1
  exact Nat.lt_of_lt_of_le h1 (Nat.pow_le_pow_right (by decide) (by omega))
 ·rw [if_neg hq,Nat.div_lt_iff_lt_mul (Nat.two_pow_pos _),← Nat.pow_add]
  exact Nat.lt_of_lt_of_le hb (Nat.pow_le_pow_right (by decide) (by omega))
theorem tK {m:Int} {neg:Bool} {n:Nat} {e q:Int} {more:Bool} {p:Nat} (h:AE n e-p+1<=q):BH m neg n e q more<=2^p:=by
 have:=aIB h
 unfold BH
 split <;> omega
theorem aHU (m:Int) (neg:Bool) (n:Nat) (e q:Int) (more:Bool) (hn:n<(2^64)^2000) (he:-1000000<=e/\e<=1000000) {p:Nat} (hp:p<=60) (h1:AE n e-p+1<=q) (h2:q<=AE n e∨q<=1000) :
  Tv ((neg,Dw n,e,more,()),m,q,())=some (Dw (BH m neg n e q more),decide (CK n e q more≠0),()):=by
 have hb:=fR hn
 unfold AE at h1 h2
 refine aLj m neg n e q more hn (by omega) (by omega) (by omega) fun hs=>?_
 refine ⟨by omega,?_⟩
 have hl:=Gq n
 have h3:n*2^(2-(q-e)).toNat<2^An n*2^(2-(q-e)).toNat:=Nat.mul_lt_mul_of_pos_right hl (Nat.two_pow_pos _)
 rw [← Nat.pow_add] at h3
 rw [Cw]
 exact Nat.lt_of_lt_of_le h3 (Nat.pow_le_pow_right (by decide) (by omega))
theorem aTd (neg:Bool) (n:Nat) (e:Int) (more:Bool) (f m:Int) (hf:Fm f) (hn:n<(2^64)^2000) (he:-1000000<=e/\e<=1000000) :
  ZX ((neg,Dw n,e,more,()),Bp f,m,AE n e,())=some (decide (AE n e<1-(fX f:Int)/\AE n e-fP f+An (BH m neg n e (AE n e-fP f+1) more)<1-(fX f:Int)),()):=by
 show jG HQ.pre HQ.F Ci.pre Ci.F (neg,Dw n,e,more,()) ((fW f:Int),((fP f:Int),((1-(fX f:Int)),((fX f:Int),())))) m (AE n e)=_
 unfold jG
 have hb:=fR hn
 have hp:=ES hf
 have hw:=Ei hf
 have hx:=HK hf
 have hp8:=Dr hf
 have ht:AE n e=e+(An n:Int)-1:=rfl
 have p0:=aHU m neg n e (AE n e-fP f+1) more hn he (p:=fP f) (by omega) (by omega) (by omega)
 have hc:=tK (m:=m) (neg:=neg) (more:=more) (n:=n) (e:=e) (q:=AE n e-fP f+1) (p:=fP f) (by omega)
 generalize BH m neg n e (AE n e-fP f+1) more=u at *
 have hu:u<(2^64)^5000:=by
  rw [Cw]
  exact Nat.lt_of_le_of_lt hc (Nat.pow_lt_pow_right (by decide) (by omega))
 have hub:An u<=fP f+1:=En (Nat.lt_of_le_of_lt hc (Nat.pow_lt_pow_right (by decide) (by omega)))
 have p1:=Sy hu
 have e1:IntKind.wrap .i64 (AE n e-(fP f:Int))=AE n e-(fP f:Int):=As (by omega)
 have e2:IntKind.wrap .i64 (AE n e-(fP f:Int)+1)=AE n e-(fP f:Int)+1:=As (by omega)
 have e3:IntKind.wrap .i64 (AE n e-(fP f:Int)+(An u:Int))=AE n e-(fP f:Int)+(An u:Int):=As (by omega)
 dsimp only
 rw [e1,e2]
 by_cases h:AE n e>=1-(fX f:Int)
 ·rw [decide_eq_true h,cond_true,decide_eq_false (by omega)]
 ·rw [decide_eq_false h,cond_false]
  simp only [aDs p0,aGj p0,cond_true,Si p1,S5 p1,e3]
  have:(AE n e<1-(fX f:Int)):=by omega
  simp only [this,true_and]
end VL
namespace VL
open Go Vx
def Dj (f:Int) (t:Int):Int:=(if 1-(fX f:Int)>t then 1-(fX f:Int) else t)-fP f+1
def Fe (f m:Int) (neg:Bool) (n:Nat) (e:Int) (more:Bool):Prop:=AE n e<1-(fX f:Int)/\AE n e-fP f+An (BH m neg n e (AE n e-fP f+1) more)<1-(fX f:Int)
instance (f m:Int) (neg:Bool) (n:Nat) (e:Int) (more:Bool):Decidable (Fe f m neg n e more):=by unfold Fe; infer_instance
def AD (f m:Int) (neg:Bool) (n:Nat) (e:Int) (more:Bool):Nat×Nat :=
 if AE n e>fX f then (WE f m neg,20)
 else
  let q:=Dj f (AE n e)
  let u:=BH m neg n e q more
  if q+An u-1>fX f then (WE f m neg,20)
  else ((q-(1-(fX f:Int)-fP f+1)).toNat*2^(fP f-1)+u+Co f neg,
   if CK n e q more=0 then 0 else if Fe f m neg n e more then 24 else 16)
theorem aT0 {f:Int} (hf:Fm f):(2*fX f-1)*2^(fP f-1)+2^fP f+2^(fP f-1)=2^(fW f-1):=by
 rcases C4 hf with rfl | rfl | rfl | rfl <;> decide
theorem Qk {f:Int} (hf:Fm f):15<=fX f:=by
 rcases C4 hf with rfl | rfl | rfl | rfl <;> decide
theorem qF (neg:Bool) (n:Nat) (e:Int) (more:Bool) (f m:Int) (hf:Fm f) (hn:n<(2^64)^2000) (he:-1000000<=e/\e<=1000000) :
  Za ((neg,Dw n,e,more,()),f,Bp f,m,())=some (((AD f m neg n e more).1:Int),((AD f m neg n e more).2:Int),()):=by
 show jY _ _ _ _ _ _ _ _ _ _ (neg,Dw n,e,more,()) f ((fW f:Int),((fP f:Int),((1-(fX f:Int)),((fX f:Int),())))) m=_
 unfold jY AD
 have hb:=fR hn
 have hp:=ES hf
 have hp8:=Dr hf
 have hw:=Ei hf
 have hx:=HK hf
 have hx15:=Qk hf
 have ht:AE n e=e+(An n:Int)-1:=rfl
 have pt:=aKx neg n e more hn he
 have pb:=aJL hf m neg
 have py:=aTd neg n e more f m hf hn he
 have hrow:Bp f=((fW f:Int),((fP f:Int),((1-(fX f:Int)),((fX f:Int),())))):=rfl
 rw [hrow] at py
 simp only [aSq pt,aRA pt,cond_true]
 by_cases h1:AE n e>(fX f:Int)
 ·rw [if_pos h1,decide_eq_true h1,cond_true]
  simp only [vV pb,rY pb,cond_true]
  rfl
 rw [if_neg h1,decide_eq_false h1,cond_false]
 have hM:∃ M:Int,(if 1-(fX f:Int)>AE n e then 1-(fX f:Int) else AE n e)=M/\AE n e<=M/\1-(fX f:Int)<=M/\M<=fX f/\(M=AE n e∨M=1-(fX f:Int)):=by
  refine ⟨_,rfl,?_⟩
  split <;> omega
 obtain ⟨M,hMe,m1,m2,m3,m4⟩:=hM
 have hq:Dj f (AE n e)=M-fP f+1:=by unfold Dj; rw [hMe]
 simp only [hMe,hq]
 have e1:IntKind.wrap .i64 (M-(fP f:Int))=M-(fP f:Int):=As (by omega)
 have e2:IntKind.wrap .i64 (M-(fP f:Int)+1)=M-(fP f:Int)+1:=As (by omega)
 simp only [e1,e2]
 have p0:=aHU m neg n e (M-(fP f:Int)+1) more hn he (p:=fP f) (by omega) (by omega) (by omega)
 have hc:=tK (m:=m) (neg:=neg) (more:=more) (n:=n) (e:=e) (q:=M-(fP f:Int)+1) (p:=fP f) (by omega)
 generalize BH m neg n e (M-(fP f:Int)+1) more=u at *
 generalize CK n e (M-(fP f:Int)+1) more=r at *
 have hP60:2^fP f<=2^60:=Nat.pow_le_pow_right (by decide) (by omega)
 have hu:u<(2^64)^5000:=by
  rw [Cw]
  exact Nat.lt_of_le_of_lt hc (Nat.pow_lt_pow_right (by decide) (by omega))
 have hub:An u<=fP f+1:=En (Nat.lt_of_le_of_lt hc (Nat.pow_lt_pow_right (by decide) (by omega)))
 have p1:=Sy hu
 have e3:IntKind.wrap .i64 ((fP f:Int)-1)=((fP f-1:Nat):Int):=Bj _ (by omega)
 have e4:IntKind.wrap .i64 ((fW f:Int)-1)=((fW f-1:Nat):Int):=Bj _ (by omega)
 have e5:IntKind.wrap .i64 (M-(fP f:Int)+1+(An u:Int))=M-(fP f:Int)+1+(An u:Int):=As (by omega)
 have e6:IntKind.wrap .i64 (M-(fP f:Int)+1+(An u:Int)-1)=M-(fP f:Int)+1+(An u:Int)-1:=As (by omega)
 have e7:IntKind.wrap .i64 (1-(fX f:Int)-(fP f:Int))=1-(fX f:Int)-(fP f:Int):=As (by omega)
 have e8:IntKind.wrap .i64 (1-(fX f:Int)-(fP f:Int)+1)=1-(fX f:Int)-(fP f:Int)+1:=As (by omega)
 obtain ⟨k,hk⟩:=Int.eq_ofNat_of_zero_le (show 0<=M-(fP f:Int)+1-(1-(fX f:Int)-(fP f:Int)+1) by omega)
 have e9:IntKind.wrap .i64 (M-(fP f:Int)+1-(1-(fX f:Int)-(fP f:Int)+1))=(k:Int):=by rw [As (by omega)]; exact hk
 have e10:IntKind.wrap .u64 (k:Int)=(k:Int):=D9 (by omega)
 have hkn:(M-(fP f:Int)+1-(1-(fX f:Int)-(fP f:Int)+1)).toNat=k:=by omega
 have hhalf:=aT0 hf
 have hk2:k<=2*fX f-1:=by omega
 have hk3:=Nat.mul_le_mul_right (2^(fP f-1)) hk2
 have hW64:2^(fW f-1)<=2^63:=Nat.pow_le_pow_right (by decide) (by omega)
 have hpp:=Nat.two_pow_pos (fP f-1)
 have e11:AT .u64 (k:Int) ((fP f-1:Nat):Int)=((k*2^(fP f-1):Nat):Int):=by
  rw [Ek _ _ (by omega),Nat.mod_eq_of_lt (by omega)]
 have e12:AT .u64 1 ((fW f-1:Nat):Int)=((1*2^(fW f-1):Nat):Int):=by rw [JZ (by omega),Nat.one_mul]
 generalize hA:k*2^(fP f-1)=A at *
 have hbits:A+u<2^(fW f-1):=by omega
 have e13:IntKind.wrap .u64 ((A:Int)+((u%2^64:Nat):Int))=((A+u:Nat):Int):=by
  rw [Nat.mod_eq_of_lt (by omega),D9 (by omega)]; omega
 have hor:∀ b:Nat,b<2^(fW f-1)->AW .u64 (b:Int) ((1*2^(fW f-1):Nat):Int)=((b+2^(fW f-1):Nat):Int):=fun b hb=>by
  have:=FJ (a:=b) (b:=1) (k:=fW f-1) hb (by omega)
  rw [Nat.one_mul] at this ⊢
  exact this
 have hsg:Co f neg=if neg then 2^(fW f-1) else 0:=rfl
 have htd:decide (AE n e<1-(fX f:Int)/\AE n e-fP f+An (BH m neg n e (AE n e-fP f+1) more)<1-(fX f:Int))=decide (Fe f m neg n e more):=by
  unfold Fe; rfl
 rw [htd] at py
 simp only [aDs p0,aGj p0,cond_true,e3,AX,Si p1,S5 p1,e5,e6,e7,e8,e9,e10,e11,e4,e12,hkn,hA]
 rcases Nat.eq_zero_or_pos u with hu0 | hu0
 ·subst hu0
  have hl0:decide ((((Dw 0).length:Nat):Int)>0)=false:=by rw [DB]; rfl
  rw [hl0,cond_false]
  by_cases h2:M-(fP f:Int)+1+(An 0:Int)-1>(fX f:Int)
  ·rw [decide_eq_true h2,cond_true,if_pos h2]
   simp only [vV pb,rY pb,cond_true]
   rfl
  ·rw [decide_eq_false h2,cond_false,if_neg h2]
   have hbi:=hor (A) (by omega)
   rw [hbi]
   by_cases hr:r=0
   ·rw [if_pos hr,decide_eq_false (p:=r≠0) (by omega)]
    simp only [Bool.not_false,cond_true]
    cases neg <;> rfl
   ·rw [if_neg hr,decide_eq_true (p:=r≠0) hr]
    simp only [Bool.not_true,cond_false,aCG py,aGY py,cond_true]
    by_cases hti:Fe f m neg n e more
    ·rw [if_pos hti,decide_eq_true hti]
     cases neg <;> rfl
    ·rw [if_neg hti,decide_eq_false hti]
     cases neg <;> rfl
 ·have hun:u≠0:=by omega
  simp only [Nf hun,S3 hun,cond_true,Int.toNat_zero,Kx,e13]
  by_cases h2:M-(fP f:Int)+1+(An u:Int)-1>(fX f:Int)
  ·rw [decide_eq_true h2,cond_true,if_pos h2]
   simp only [vV pb,rY pb,cond_true]
   rfl
  ·rw [decide_eq_false h2,cond_false,if_neg h2]
   have hbi:=hor (A+u) (by omega)
   rw [hbi]
   by_cases hr:r=0
   ·rw [if_pos hr,decide_eq_false (p:=r≠0) (by omega)]
    simp only [Bool.not_false,cond_true]
    cases neg <;> rfl
   ·rw [if_neg hr,decide_eq_true (p:=r≠0) hr]
    simp only [Bool.not_true,cond_false,aCG py,aGY py,cond_true]
    by_cases hti:Fe f m neg n e more
    ·rw [if_pos hti,decide_eq_true hti]
     cases neg <;> rfl
    ·rw [if_neg hti,decide_eq_false hti]
     cases neg <;> rfl
theorem pK {f m:Int} (hf:Fm f) (hm:0<=m/\m<=5):YN (f,m,())=some (Bp f,0,()):=by
 show Z4 Aq.pre Aq.F OE.pre OE.F f m=_
 unfold Z4
 have p0:=Fd hf
 have p1:Yl (m,())=some (0,()):=by
  show kN m=_
  unfold kN
  rw [decide_eq_false (show ¬ m<0 by omega),decide_eq_false (show ¬ m>5 by omega)]; rfl
 simp only [Dh p0,C8 p0,cond_true,aNg p1,aUw p1]
 rfl
theorem aJE {f:Int} (h:Fm f) (neg:Bool):Wv (f,neg,())=some ((Co f neg:Int),0,0,()):=by
 show gR A3.pre A3.F f neg=_
 unfold gR
 have p0:=Kj h neg
 simp only [Lo p0,K1 p0,cond_true]
theorem aMb (s:Nat) (hs:s<2^128):(Wi s).2.1::(Wi s).1::[]=Wd [s%2^64,s/2^64]/\Ws [s%2^64,s/2^64]/\nv (2^64) [s%2^64,s/2^64]=s:=by
 refine ⟨rfl,⟨?_,by simp⟩,?_⟩
 ·intro x hx
  have:x=s%2^64∨x=s/2^64:=by simpa using hx
  omega
 ·simp only [nv]; omega
theorem LQ {f m:Int} (hf:Fm f) (hm:0<=m/\m<=5) (neg:Bool) (s:Nat) (hs:s<2^128) (e:Int) (he:-40000<=e/\e<=40000) (more:Bool) (hmore:more=true->fP f+2<=An s) :
  Ss (f,m,neg,Wi s,e,more,())=some (if s=0 then ((Co f neg:Int),0,0,()) else (((AD f m neg s e more).1:Int),((AD f m neg s e more).2:Int),0,())):=by
 show kC _ _ _ _ _ _ _ _ _ _ f m neg (Wi s) e more=_
 unfold kC
 obtain ⟨w1,w2,w3⟩:=aMb s hs
 have hP:=ES hf
 have hW:=Ei hf
 have p0:=pK hf hm
 have p1:=XN _ w2
 rw [← w1,w3] at p1
 have hs2:s<(2^64)^2000:=by
  rw [Cw]
  exact Nat.lt_of_lt_of_le hs (Nat.pow_le_pow_right (by decide) (by decide))
 have p2:=Sy (K9 hs2)
 have p3:=aJE hf neg
 have p4:=qF neg s e more f m hf hs2 (by omega)
 have e1:decide (e < -40000)=false:=decide_eq_false (by omega)
 have e2:decide (e>40000)=false:=decide_eq_false (by omega)
 have e3:IntKind.wrap .i64 ((Bp f).2.1+2)=((fP f+2:Nat):Int):=by
  show IntKind.wrap .i64 ((fP f:Int)+2)=_
  rw [As (by omega)]; rfl
 have e4:(more&&decide ((An s:Int)<((fP f+2:Nat):Int)))=false:=by
  cases more with
  | false=>rfl
  | true=>rw [decide_eq_false (by have:=hmore rfl; omega)]; rfl
 have z0:((0:Int) != 0)=false:=rfl
 simp only [vO p0,pD p0,cond_true,z0,cond_false,Vc p1,TX p1,e1,e2,Bool.or_self,Si p2,S5 p2,Bool.true_or,e3,e4]
 by_cases h0:s=0
 ·rw [if_pos h0]
  subst h0
  rw [show ((((Dw 0).length:Nat):Int)==0)=true by rw [DB]; rfl,cond_true]
  simp only [aNM p3,aJz p3,cond_true]
 ·rw [if_neg h0,AU _ (by have:=Jl h0; omega),cond_false]
  simp only [oV p4,o8 p4,cond_true]
end VL
namespace VL
open Go Vx
theorem aPH {r k s ρ:Nat} (hρ:0<ρ) (hρ2:ρ<2^k) (hs:1<=s):Cx (ρ+2^k*r) (k+s)=Cx r s/2*2+1:=by
 unfold Cx
 have hp:2^(k+s-1)=2^k*2^(s-1):=by rw [← Nat.pow_add]; congr 1; omega
 rw [hp]
 have hh:=Nat.two_pow_pos (s-1)
 generalize 2^(s-1)=h at *
 generalize 2^k=K at *
 rw [if_neg (by omega)]
 rcases Nat.lt_trichotomy r h with h1 | h1 | h1
 ·have:K*(r+1)<=K*h:=Nat.mul_le_mul_left _ h1
  rw [Nat.mul_add,Nat.mul_one] at this
  rw [if_pos (by omega)]
  by_cases hr:r=0
  ·rw [if_pos hr]
  ·rw [if_neg hr,if_pos h1]
 ·subst h1
  rw [if_neg (by omega),if_neg (by omega),if_neg (by omega),if_neg (by omega),if_pos rfl]
 ·have:K*(h+1)<=K*r:=Nat.mul_le_mul_left _ h1
  rw [Nat.mul_add,Nat.mul_one] at this
  rw [if_neg (by omega),if_neg (by omega),if_neg (by omega),if_neg (by omega),if_neg (by omega)]
theorem aQd {r k s:Nat} (hs:1<=s):Cx (2^k*r) (k+s)=Cx r s:=by
 unfold Cx
 have hp:2^(k+s-1)=2^k*2^(s-1):=by rw [← Nat.pow_add]; congr 1; omega
 rw [hp]
 have hk:=Nat.two_pow_pos k
 generalize 2^(s-1)=h at *
 generalize 2^k=K at *
 have h1:K*r=0↔r=0:=by
  constructor
  ·intro h; rcases Nat.mul_eq_zero.1 h with h | h <;> omega
  ·intro h; rw [h,Nat.mul_zero]
 have h2:K*r<K*h↔r<h:=Nat.mul_lt_mul_left hk
 have h3:K*r=K*h↔r=h:=Nat.mul_right_inj (by omega)
 simp only [h1,h2,h3]
theorem aUg (N k s:Nat):N%2^(k+s)=N%2^k+2^k*(N/2^k%2^s):=by
 rw [Nat.pow_add,Nat.mod_mul]
theorem aCz {n:Nat} {e q:Int} (h:q<=e):DW n e q=n*2^(e-q).toNat:=if_pos h
theorem cS {n:Nat} {e q:Int} (h:e<q):DW n e q=n/2^(q-e).toNat:=if_neg (by omega)
theorem aFL {n:Nat} {e q:Int} (h:q<=e):Hh n e q=0:=if_pos h
theorem kP {n:Nat} {e q:Int} (h:e<q):Hh n e q=Cx (n%2^(q-e).toNat) (q-e).toNat:=if_neg (by omega)
theorem XH (n:Nat) (e q:Int):CK n e q false=Hh n e q:=rfl
theorem aR6 (n:Nat) (e q:Int):CK n e q true=Hh n e q/2*2+1:=rfl
theorem r6 {N k:Nat} {E q:Int} (hq:N%2^k≠0->E+k<q) :
  DW (N/2^k) (E+k) q=DW N E q/\CK (N/2^k) (E+k) q (decide (N%2^k≠0))=CK N E q false:=by
 have hk:=Nat.two_pow_pos k
 have hdm:=Nat.div_add_mod N (2^k)
 by_cases h1:E+k<q
 ·have es:(q-E).toNat=k+(q-(E+k)).toNat:=by omega
  have hs:1<=(q-(E+k)).toNat:=by omega
  rw [cS h1,cS (by omega),XH,kP (e:=E) (by omega),es]
  have hrs:=kP (n:=N/2^k) h1
  generalize (q-(E+k)).toNat=s at *
  refine ⟨by rw [Nat.div_div_eq_div_mul,← Nat.pow_add],?_⟩
  rw [aUg]
  by_cases hr:N%2^k=0
  ·rw [hr,Nat.zero_add,aQd hs,show decide ((0:Nat)≠0)=false by decide,XH,hrs]
  ·have hρ:0<N%2^k:=by omega
   rw [aPH hρ (Nat.mod_lt _ hk) hs,decide_eq_true hr,aR6,hrs]
 ·have hr:N%2^k=0:=by
   by_cases h:N%2^k=0
   ·exact h
   ·exact absurd (hq h) h1
  rw [hr,Nat.add_zero] at hdm
  rw [hr]
  clear hq hr
  generalize N/2^k=n at *
  subst hdm
  have hz:decide ((0:Nat)≠0)=false:=by decide
  rw [hz,aCz (by omega),XH,XH,aFL (by omega)]
  by_cases h2:q<=E
  ·rw [aCz h2,aFL h2,show (E+k-q).toNat=k+(E-q).toNat by omega,Nat.pow_add,Nat.mul_comm (2^k) n,Nat.mul_assoc]
   exact ⟨rfl,rfl⟩
  ·rw [cS (by omega),kP (by omega)]
   have ek:k=(q-E).toNat+(E+k-q).toNat:=by omega
   generalize (q-E).toNat=s at *
   generalize (E+k-q).toNat=t at *
   have:2^k*n=2^s*(2^t*n):=by rw [ek,Nat.pow_add,Nat.mul_assoc]
   rw [this,Nat.mul_div_cancel_left _ (Nat.two_pow_pos s),Nat.mul_mod_right]
   exact ⟨Nat.mul_comm _ _,rfl⟩
theorem bO {m:Int} {neg:Bool} {N k:Nat} {E q:Int} (hq:N%2^k≠0->E+k<q):BH m neg (N/2^k) (E+k) q (decide (N%2^k≠0))=BH m neg N E q false:=by
 obtain ⟨h1,h2⟩:=r6 hq
 unfold BH
 rw [h1,h2]
theorem yF {N k:Nat} {E:Int} (hn:N/2^k≠0):AE (N/2^k) (E+k)=AE N E:=by
 have hk:=Nat.two_pow_pos k
 have h1:2^k<=N:=by
  rcases Nat.lt_or_ge N (2^k) with h | h
  ·exact absurd (Nat.div_eq_of_lt h) hn
  ·exact h
 have:=tA h1
 unfold AE
 omega
theorem Zn {f m:Int} {neg:Bool} {N k:Nat} {E:Int} (hf:Fm f) (hn:N/2^k≠0) (hm:N%2^k≠0->fP f+2<=An (N/2^k)):AD f m neg (N/2^k) (E+k) (decide (N%2^k≠0))=AD f m neg N E false:=by
 have ht:=yF (E:=E) hn
 have htd:AE (N/2^k) (E+k)=E+k+(An (N/2^k):Int)-1:=rfl
 have hq1:N%2^k≠0->E+k<Dj f (AE N E):=fun h=>by
  have:=hm h
  unfold Dj
  split <;> omega
 have hq2:N%2^k≠0->E+k<AE N E-fP f+1:=fun h=>by
  have:=hm h
  omega
 have hti:Fe f m neg (N/2^k) (E+k) (decide (N%2^k≠0))=Fe f m neg N E false:=by
  unfold Fe
  rw [ht,bO hq2]
 unfold AD
 simp only [ht,bO hq1,(r6 hq1).2,hti]
theorem KZ {f m:Int} {neg:Bool} (hf:Fm f) {n:Nat} (hn:n≠0) (k:Nat) (e:Int):AD f m neg (n*2^k) e false=AD f m neg n (e+k) false:=by
 have hk:=Nat.two_pow_pos k
 have:=Zn (f:=f) (m:=m) (neg:=neg) (N:=n*2^k) (k:=k) (E:=e) hf (by rw [Nat.mul_div_cancel _ hk]; exact hn) (by rw [Nat.mul_mod_left]; omega)
 rw [Nat.mul_div_cancel _ hk,Nat.mul_mod_left] at this
 exact this.symm
end VL
namespace VL
open Go Vx
def Ua (f m:Int) (nx:Bool) (X ex:Int) (ny:Bool) (Y ey:Int):Option (DenS Jk) :=
 bif (AG.pre (((0:Int),(X,())),((if ((70:Int)<(IntKind.wrap .i64 (ex-ey))) then (70:Int) else (IntKind.wrap .i64 (ex-ey))),()))) then
  (bif (AM.pre (((0:Int),(Y,())),((IntKind.wrap .i64 ((IntKind.wrap .i64 (ex-(if ((70:Int)<(IntKind.wrap .i64 (ex-ey))) then (70:Int) else (IntKind.wrap .i64 (ex-ey)))))-ey)),()))) then
   (bif (AG.pre ((AM.F (((0:Int),(Y,())),((IntKind.wrap .i64 ((IntKind.wrap .i64 (ex-(if ((70:Int)<(IntKind.wrap .i64 (ex-ey))) then (70:Int) else (IntKind.wrap .i64 (ex-ey)))))-ey)),()))).1,((IntKind.wrap .i64 ((IntKind.wrap .i64 (ex-(if ((70:Int)<(IntKind.wrap .i64 (ex-ey))) then (70:Int) else (IntKind.wrap .i64 (ex-ey)))))-ey)),()))) then
    (bif (AM.pre (((0:Int),(Y,())),((IntKind.wrap .i64 ((IntKind.wrap .i64 (ex-(if ((70:Int)<(IntKind.wrap .i64 (ex-ey))) then (70:Int) else (IntKind.wrap .i64 (ex-ey)))))-ey)),()))) then
     (bif (nx==ny) then
      (bif (Mg.pre ((AG.F (((0:Int),(X,())),((if ((70:Int)<(IntKind.wrap .i64 (ex-ey))) then (70:Int) else (IntKind.wrap .i64 (ex-ey))),()))).1,(AM.F (((0:Int),(Y,())),((IntKind.wrap .i64 ((IntKind.wrap .i64 (ex-(if ((70:Int)<(IntKind.wrap .i64 (ex-ey))) then (70:Int) else (IntKind.wrap .i64 (ex-ey)))))-ey)),()))))) then
       (bif (A4.pre (f,(m,(nx,((Mg.F ((AG.F (((0:Int),(X,())),((if ((70:Int)<(IntKind.wrap .i64 (ex-ey))) then (70:Int) else (IntKind.wrap .i64 (ex-ey))),()))).1,(AM.F (((0:Int),(Y,())),((IntKind.wrap .i64 ((IntKind.wrap .i64 (ex-(if ((70:Int)<(IntKind.wrap .i64 (ex-ey))) then (70:Int) else (IntKind.wrap .i64 (ex-ey)))))-ey)),()))))).1,((IntKind.wrap .i64 (ex-(if ((70:Int)<(IntKind.wrap .i64 (ex-ey))) then (70:Int) else (IntKind.wrap .i64 (ex-ey))))),(((!(((AG.F ((AM.F (((0:Int),(Y,())),((IntKind.wrap .i64 ((IntKind.wrap .i64 (ex-(if ((70:Int)<(IntKind.wrap .i64 (ex-ey))) then (70:Int) else (IntKind.wrap .i64 (ex-ey)))))-ey)),()))).1,((IntKind.wrap .i64 ((IntKind.wrap .i64 (ex-(if ((70:Int)<(IntKind.wrap .i64 (ex-ey))) then (70:Int) else (IntKind.wrap .i64 (ex-ey)))))-ey)),()))).1.1==(0:Int))&&((AG.F ((AM.F (((0:Int),(Y,())),((IntKind.wrap .i64 ((IntKind.wrap .i64 (ex-(if ((70:Int)<(IntKind.wrap .i64 (ex-ey))) then (70:Int) else (IntKind.wrap .i64 (ex-ey)))))-ey)),()))).1,((IntKind.wrap .i64 ((IntKind.wrap .i64 (ex-(if ((70:Int)<(IntKind.wrap .i64 (ex-ey))) then (70:Int) else (IntKind.wrap .i64 (ex-ey)))))-ey)),()))).1.2.1==Y)))||((decide ((IntKind.wrap .i64 ((IntKind.wrap .i64 (ex-(if ((70:Int)<(IntKind.wrap .i64 (ex-ey))) then (70:Int) else (IntKind.wrap .i64 (ex-ey)))))-ey))>(63:Int)))&&(Y != (0:Int)))),()))))))) then
        (some (A4.F (f,(m,(nx,((Mg.F ((AG.F (((0:Int),(X,())),((if ((70:Int)<(IntKind.wrap .i64 (ex-ey))) then (70:Int) else (IntKind.wrap .i64 (ex-ey))),()))).1,(AM.F (((0:Int),(Y,())),((IntKind.wrap .i64 ((IntKind.wrap .i64 (ex-(if ((70:Int)<(IntKind.wrap .i64 (ex-ey))) then (70:Int) else (IntKind.wrap .i64 (ex-ey)))))-ey)),()))))).1,((IntKind.wrap .i64 (ex-(if ((70:Int)<(IntKind.wrap .i64 (ex-ey))) then (70:Int) else (IntKind.wrap .i64 (ex-ey))))),(((!(((AG.F ((AM.F (((0:Int),(Y,())),((IntKind.wrap .i64 ((IntKind.wrap .i64 (ex-(if ((70:Int)<(IntKind.wrap .i64 (ex-ey))) then (70:Int) else (IntKind.wrap .i64 (ex-ey)))))-ey)),()))).1,((IntKind.wrap .i64 ((IntKind.wrap .i64 (ex-(if ((70:Int)<(IntKind.wrap .i64 (ex-ey))) then (70:Int) else (IntKind.wrap .i64 (ex-ey)))))-ey)),()))).1.1==(0:Int))&&((AG.F ((AM.F (((0:Int),(Y,())),((IntKind.wrap .i64 ((IntKind.wrap .i64 (ex-(if ((70:Int)<(IntKind.wrap .i64 (ex-ey))) then (70:Int) else (IntKind.wrap .i64 (ex-ey)))))-ey)),()))).1,((IntKind.wrap .i64 ((IntKind.wrap .i64 (ex-(if ((70:Int)<(IntKind.wrap .i64 (ex-ey))) then (70:Int) else (IntKind.wrap .i64 (ex-ey)))))-ey)),()))).1.2.1==Y)))||((decide ((IntKind.wrap .i64 ((IntKind.wrap .i64 (ex-(if ((70:Int)<(IntKind.wrap .i64 (ex-ey))) then (70:Int) else (IntKind.wrap .i64 (ex-ey)))))-ey))>(63:Int)))&&(Y != (0:Int)))),()))))))))
       else none)
      else none)
     else bif (Dt.pre ((AG.F (((0:Int),(X,())),((if ((70:Int)<(IntKind.wrap .i64 (ex-ey))) then (70:Int) else (IntKind.wrap .i64 (ex-ey))),()))).1,(AM.F (((0:Int),(Y,())),((IntKind.wrap .i64 ((IntKind.wrap .i64 (ex-(if ((70:Int)<(IntKind.wrap .i64 (ex-ey))) then (70:Int) else (IntKind.wrap .i64 (ex-ey)))))-ey)),()))))) then
      (bif (decide ((Dt.F ((AG.F (((0:Int),(X,())),((if ((70:Int)<(IntKind.wrap .i64 (ex-ey))) then (70:Int) else (IntKind.wrap .i64 (ex-ey))),()))).1,(AM.F (((0:Int),(Y,())),((IntKind.wrap .i64 ((IntKind.wrap .i64 (ex-(if ((70:Int)<(IntKind.wrap .i64 (ex-ey))) then (70:Int) else (IntKind.wrap .i64 (ex-ey)))))-ey)),()))))).1<(0:Int))) then
       (bif (BI.pre ((AM.F (((0:Int),(Y,())),((IntKind.wrap .i64 ((IntKind.wrap .i64 (ex-(if ((70:Int)<(IntKind.wrap .i64 (ex-ey))) then (70:Int) else (IntKind.wrap .i64 (ex-ey)))))-ey)),()))).1,(AG.F (((0:Int),(X,())),((if ((70:Int)<(IntKind.wrap .i64 (ex-ey))) then (70:Int) else (IntKind.wrap .i64 (ex-ey))),()))))) then
        (bif ((!(((AG.F ((AM.F (((0:Int),(Y,())),((IntKind.wrap .i64 ((IntKind.wrap .i64 (ex-(if ((70:Int)<(IntKind.wrap .i64 (ex-ey))) then (70:Int) else (IntKind.wrap .i64 (ex-ey)))))-ey)),()))).1,((IntKind.wrap .i64 ((IntKind.wrap .i64 (ex-(if ((70:Int)<(IntKind.wrap .i64 (ex-ey))) then (70:Int) else (IntKind.wrap .i64 (ex-ey)))))-ey)),()))).1.1==(0:Int))&&((AG.F ((AM.F (((0:Int),(Y,())),((IntKind.wrap .i64 ((IntKind.wrap .i64 (ex-(if ((70:Int)<(IntKind.wrap .i64 (ex-ey))) then (70:Int) else (IntKind.wrap .i64 (ex-ey)))))-ey)),()))).1,((IntKind.wrap .i64 ((IntKind.wrap .i64 (ex-(if ((70:Int)<(IntKind.wrap .i64 (ex-ey))) then (70:Int) else (IntKind.wrap .i64 (ex-ey)))))-ey)),()))).1.2.1==Y)))||((decide ((IntKind.wrap .i64 ((IntKind.wrap .i64 (ex-(if ((70:Int)<(IntKind.wrap .i64 (ex-ey))) then (70:Int) else (IntKind.wrap .i64 (ex-ey)))))-ey))>(63:Int)))&&(Y != (0:Int)))) then
         (bif (BI.pre ((BI.F ((AM.F (((0:Int),(Y,())),((IntKind.wrap .i64 ((IntKind.wrap .i64 (ex-(if ((70:Int)<(IntKind.wrap .i64 (ex-ey))) then (70:Int) else (IntKind.wrap .i64 (ex-ey)))))-ey)),()))).1,(AG.F (((0:Int),(X,())),((if ((70:Int)<(IntKind.wrap .i64 (ex-ey))) then (70:Int) else (IntKind.wrap .i64 (ex-ey))),()))))).1,(((0:Int),((1:Int),())),()))) then
          (bif ((((BI.F ((BI.F ((AM.F (((0:Int),(Y,())),((IntKind.wrap .i64 ((IntKind.wrap .i64 (ex-(if ((70:Int)<(IntKind.wrap .i64 (ex-ey))) then (70:Int) else (IntKind.wrap .i64 (ex-ey)))))-ey)),()))).1,(AG.F (((0:Int),(X,())),((if ((70:Int)<(IntKind.wrap .i64 (ex-ey))) then (70:Int) else (IntKind.wrap .i64 (ex-ey))),()))))).1,(((0:Int),((1:Int),())),()))).1.1==(0:Int))&&((BI.F ((BI.F ((AM.F (((0:Int),(Y,())),((IntKind.wrap .i64 ((IntKind.wrap .i64 (ex-(if ((70:Int)<(IntKind.wrap .i64 (ex-ey))) then (70:Int) else (IntKind.wrap .i64 (ex-ey)))))-ey)),()))).1,(AG.F (((0:Int),(X,())),((if ((70:Int)<(IntKind.wrap .i64 (ex-ey))) then (70:Int) else (IntKind.wrap .i64 (ex-ey))),()))))).1,(((0:Int),((1:Int),())),()))).1.2.1==(0:Int)))&&(!((!(((AG.F ((AM.F (((0:Int),(Y,())),((IntKind.wrap .i64 ((IntKind.wrap .i64 (ex-(if ((70:Int)<(IntKind.wrap .i64 (ex-ey))) then (70:Int) else (IntKind.wrap .i64 (ex-ey)))))-ey)),()))).1,((IntKind.wrap .i64 ((IntKind.wrap .i64 (ex-(if ((70:Int)<(IntKind.wrap .i64 (ex-ey))) then (70:Int) else (IntKind.wrap .i64 (ex-ey)))))-ey)),()))).1.1==(0:Int))&&((AG.F ((AM.F (((0:Int),(Y,())),((IntKind.wrap .i64 ((IntKind.wrap .i64 (ex-(if ((70:Int)<(IntKind.wrap .i64 (ex-ey))) then (70:Int) else (IntKind.wrap .i64 (ex-ey)))))-ey)),()))).1,((IntKind.wrap .i64 ((IntKind.wrap .i64 (ex-(if ((70:Int)<(IntKind.wrap .i64 (ex-ey))) then (70:Int) else (IntKind.wrap .i64 (ex-ey)))))-ey)),()))).1.2.1==Y)))||((decide ((IntKind.wrap .i64 ((IntKind.wrap .i64 (ex-(if ((70:Int)<(IntKind.wrap .i64 (ex-ey))) then (70:Int) else (IntKind.wrap .i64 (ex-ey)))))-ey))>(63:Int)))&&(Y != (0:Int)))))) then
           (bif (A3.pre (f,((m==(4:Int)),()))) then
            (some ((A3.F (f,((m==(4:Int)),()))).1,((0:Int),((0:Int),()))))
           else none)
          else bif (A4.pre (f,(m,(ny,((BI.F ((BI.F ((AM.F (((0:Int),(Y,())),((IntKind.wrap .i64 ((IntKind.wrap .i64 (ex-(if ((70:Int)<(IntKind.wrap .i64 (ex-ey))) then (70:Int) else (IntKind.wrap .i64 (ex-ey)))))-ey)),()))).1,(AG.F (((0:Int),(X,())),((if ((70:Int)<(IntKind.wrap .i64 (ex-ey))) then (70:Int) else (IntKind.wrap .i64 (ex-ey))),()))))).1,(((0:Int),((1:Int),())),()))).1,((IntKind.wrap .i64 (ex-(if ((70:Int)<(IntKind.wrap .i64 (ex-ey))) then (70:Int) else (IntKind.wrap .i64 (ex-ey))))),(((!(((AG.F ((AM.F (((0:Int),(Y,())),((IntKind.wrap .i64 ((IntKind.wrap .i64 (ex-(if ((70:Int)<(IntKind.wrap .i64 (ex-ey))) then (70:Int) else (IntKind.wrap .i64 (ex-ey)))))-ey)),()))).1,((IntKind.wrap .i64 ((IntKind.wrap .i64 (ex-(if ((70:Int)<(IntKind.wrap .i64 (ex-ey))) then (70:Int) else (IntKind.wrap .i64 (ex-ey)))))-ey)),()))).1.1==(0:Int))&&((AG.F ((AM.F (((0:Int),(Y,())),((IntKind.wrap .i64 ((IntKind.wrap .i64 (ex-(if ((70:Int)<(IntKind.wrap .i64 (ex-ey))) then (70:Int) else (IntKind.wrap .i64 (ex-ey)))))-ey)),()))).1,((IntKind.wrap .i64 ((IntKind.wrap .i64 (ex-(if ((70:Int)<(IntKind.wrap .i64 (ex-ey))) then (70:Int) else (IntKind.wrap .i64 (ex-ey)))))-ey)),()))).1.2.1==Y)))||((decide ((IntKind.wrap .i64 ((IntKind.wrap .i64 (ex-(if ((70:Int)<(IntKind.wrap .i64 (ex-ey))) then (70:Int) else (IntKind.wrap .i64 (ex-ey)))))-ey))>(63:Int)))&&(Y != (0:Int)))),()))))))) then
           (some (A4.F (f,(m,(ny,((BI.F ((BI.F ((AM.F (((0:Int),(Y,())),((IntKind.wrap .i64 ((IntKind.wrap .i64 (ex-(if ((70:Int)<(IntKind.wrap .i64 (ex-ey))) then (70:Int) else (IntKind.wrap .i64 (ex-ey)))))-ey)),()))).1,(AG.F (((0:Int),(X,())),((if ((70:Int)<(IntKind.wrap .i64 (ex-ey))) then (70:Int) else (IntKind.wrap .i64 (ex-ey))),()))))).1,(((0:Int),((1:Int),())),()))).1,((IntKind.wrap .i64 (ex-(if ((70:Int)<(IntKind.wrap .i64 (ex-ey))) then (70:Int) else (IntKind.wrap .i64 (ex-ey))))),(((!(((AG.F ((AM.F (((0:Int),(Y,())),((IntKind.wrap .i64 ((IntKind.wrap .i64 (ex-(if ((70:Int)<(IntKind.wrap .i64 (ex-ey))) then (70:Int) else (IntKind.wrap .i64 (ex-ey)))))-ey)),()))).1,((IntKind.wrap .i64 ((IntKind.wrap .i64 (ex-(if ((70:Int)<(IntKind.wrap .i64 (ex-ey))) then (70:Int) else (IntKind.wrap .i64 (ex-ey)))))-ey)),()))).1.1==(0:Int))&&((AG.F ((AM.F (((0:Int),(Y,())),((IntKind.wrap .i64 ((IntKind.wrap .i64 (ex-(if ((70:Int)<(IntKind.wrap .i64 (ex-ey))) then (70:Int) else (IntKind.wrap .i64 (ex-ey)))))-ey)),()))).1,((IntKind.wrap .i64 ((IntKind.wrap .i64 (ex-(if ((70:Int)<(IntKind.wrap .i64 (ex-ey))) then (70:Int) else (IntKind.wrap .i64 (ex-ey)))))-ey)),()))).1.2.1==Y)))||((decide ((IntKind.wrap .i64 ((IntKind.wrap .i64 (ex-(if ((70:Int)<(IntKind.wrap .i64 (ex-ey))) then (70:Int) else (IntKind.wrap .i64 (ex-ey)))))-ey))>(63:Int)))&&(Y != (0:Int)))),()))))))))
          else none)
         else none)
        else bif ((((BI.F ((AM.F (((0:Int),(Y,())),((IntKind.wrap .i64 ((IntKind.wrap .i64 (ex-(if ((70:Int)<(IntKind.wrap .i64 (ex-ey))) then (70:Int) else (IntKind.wrap .i64 (ex-ey)))))-ey)),()))).1,(AG.F (((0:Int),(X,())),((if ((70:Int)<(IntKind.wrap .i64 (ex-ey))) then (70:Int) else (IntKind.wrap .i64 (ex-ey))),()))))).1.1==(0:Int))&&((BI.F ((AM.F (((0:Int),(Y,())),((IntKind.wrap .i64 ((IntKind.wrap .i64 (ex-(if ((70:Int)<(IntKind.wrap .i64 (ex-ey))) then (70:Int) else (IntKind.wrap .i64 (ex-ey)))))-ey)),()))).1,(AG.F (((0:Int),(X,())),((if ((70:Int)<(IntKind.wrap .i64 (ex-ey))) then (70:Int) else (IntKind.wrap .i64 (ex-ey))),()))))).1.2.1==(0:Int)))&&(!((!(((AG.F ((AM.F (((0:Int),(Y,())),((IntKind.wrap .i64 ((IntKind.wrap .i64 (ex-(if ((70:Int)<(IntKind.wrap .i64 (ex-ey))) then (70:Int) else (IntKind.wrap .i64 (ex-ey)))))-ey)),()))).1,((IntKind.wrap .i64 ((IntKind.wrap .i64 (ex-(if ((70:Int)<(IntKind.wrap .i64 (ex-ey))) then (70:Int) else (IntKind.wrap .i64 (ex-ey)))))-ey)),()))).1.1==(0:Int))&&((AG.F ((AM.F (((0:Int),(Y,())),((IntKind.wrap .i64 ((IntKind.wrap .i64 (ex-(if ((70:Int)<(IntKind.wrap .i64 (ex-ey))) then (70:Int) else (IntKind.wrap .i64 (ex-ey)))))-ey)),()))).1,((IntKind.wrap .i64 ((IntKind.wrap .i64 (ex-(if ((70:Int)<(IntKind.wrap .i64 (ex-ey))) then (70:Int) else (IntKind.wrap .i64 (ex-ey)))))-ey)),()))).1.2.1==Y)))||((decide ((IntKind.wrap .i64 ((IntKind.wrap .i64 (ex-(if ((70:Int)<(IntKind.wrap .i64 (ex-ey))) then (70:Int) else (IntKind.wrap .i64 (ex-ey)))))-ey))>(63:Int)))&&(Y != (0:Int)))))) then
         (bif (A3.pre (f,((m==(4:Int)),()))) then
          (some ((A3.F (f,((m==(4:Int)),()))).1,((0:Int),((0:Int),()))))
         else none)
        else bif (A4.pre (f,(m,(ny,((BI.F ((AM.F (((0:Int),(Y,())),((IntKind.wrap .i64 ((IntKind.wrap .i64 (ex-(if ((70:Int)<(IntKind.wrap .i64 (ex-ey))) then (70:Int) else (IntKind.wrap .i64 (ex-ey)))))-ey)),()))).1,(AG.F (((0:Int),(X,())),((if ((70:Int)<(IntKind.wrap .i64 (ex-ey))) then (70:Int) else (IntKind.wrap .i64 (ex-ey))),()))))).1,((IntKind.wrap .i64 (ex-(if ((70:Int)<(IntKind.wrap .i64 (ex-ey))) then (70:Int) else (IntKind.wrap .i64 (ex-ey))))),(((!(((AG.F ((AM.F (((0:Int),(Y,())),((IntKind.wrap .i64 ((IntKind.wrap .i64 (ex-(if ((70:Int)<(IntKind.wrap .i64 (ex-ey))) then (70:Int) else (IntKind.wrap .i64 (ex-ey)))))-ey)),()))).1,((IntKind.wrap .i64 ((IntKind.wrap .i64 (ex-(if ((70:Int)<(IntKind.wrap .i64 (ex-ey))) then (70:Int) else (IntKind.wrap .i64 (ex-ey)))))-ey)),()))).1.1==(0:Int))&&((AG.F ((AM.F (((0:Int),(Y,())),((IntKind.wrap .i64 ((IntKind.wrap .i64 (ex-(if ((70:Int)<(IntKind.wrap .i64 (ex-ey))) then (70:Int) else (IntKind.wrap .i64 (ex-ey)))))-ey)),()))).1,((IntKind.wrap .i64 ((IntKind.wrap .i64 (ex-(if ((70:Int)<(IntKind.wrap .i64 (ex-ey))) then (70:Int) else (IntKind.wrap .i64 (ex-ey)))))-ey)),()))).1.2.1==Y)))||((decide ((IntKind.wrap .i64 ((IntKind.wrap .i64 (ex-(if ((70:Int)<(IntKind.wrap .i64 (ex-ey))) then (70:Int) else (IntKind.wrap .i64 (ex-ey)))))-ey))>(63:Int)))&&(Y != (0:Int)))),()))))))) then
         (some (A4.F (f,(m,(ny,((BI.F ((AM.F (((0:Int),(Y,())),((IntKind.wrap .i64 ((IntKind.wrap .i64 (ex-(if ((70:Int)<(IntKind.wrap .i64 (ex-ey))) then (70:Int) else (IntKind.wrap .i64 (ex-ey)))))-ey)),()))).1,(AG.F (((0:Int),(X,())),((if ((70:Int)<(IntKind.wrap .i64 (ex-ey))) then (70:Int) else (IntKind.wrap .i64 (ex-ey))),()))))).1,((IntKind.wrap .i64 (ex-(if ((70:Int)<(IntKind.wrap .i64 (ex-ey))) then (70:Int) else (IntKind.wrap .i64 (ex-ey))))),(((!(((AG.F ((AM.F (((0:Int),(Y,())),((IntKind.wrap .i64 ((IntKind.wrap .i64 (ex-(if ((70:Int)<(IntKind.wrap .i64 (ex-ey))) then (70:Int) else (IntKind.wrap .i64 (ex-ey)))))-ey)),()))).1,((IntKind.wrap .i64 ((IntKind.wrap .i64 (ex-(if ((70:Int)<(IntKind.wrap .i64 (ex-ey))) then (70:Int) else (IntKind.wrap .i64 (ex-ey)))))-ey)),()))).1.1==(0:Int))&&((AG.F ((AM.F (((0:Int),(Y,())),((IntKind.wrap .i64 ((IntKind.wrap .i64 (ex-(if ((70:Int)<(IntKind.wrap .i64 (ex-ey))) then (70:Int) else (IntKind.wrap .i64 (ex-ey)))))-ey)),()))).1,((IntKind.wrap .i64 ((IntKind.wrap .i64 (ex-(if ((70:Int)<(IntKind.wrap .i64 (ex-ey))) then (70:Int) else (IntKind.wrap .i64 (ex-ey)))))-ey)),()))).1.2.1==Y)))||((decide ((IntKind.wrap .i64 ((IntKind.wrap .i64 (ex-(if ((70:Int)<(IntKind.wrap .i64 (ex-ey))) then (70:Int) else (IntKind.wrap .i64 (ex-ey)))))-ey))>(63:Int)))&&(Y != (0:Int)))),()))))))))
        else none)
       else none)
      else bif (BI.pre ((AG.F (((0:Int),(X,())),((if ((70:Int)<(IntKind.wrap .i64 (ex-ey))) then (70:Int) else (IntKind.wrap .i64 (ex-ey))),()))).1,(AM.F (((0:Int),(Y,())),((IntKind.wrap .i64 ((IntKind.wrap .i64 (ex-(if ((70:Int)<(IntKind.wrap .i64 (ex-ey))) then (70:Int) else (IntKind.wrap .i64 (ex-ey)))))-ey)),()))))) then
       (bif ((!(((AG.F ((AM.F (((0:Int),(Y,())),((IntKind.wrap .i64 ((IntKind.wrap .i64 (ex-(if ((70:Int)<(IntKind.wrap .i64 (ex-ey))) then (70:Int) else (IntKind.wrap .i64 (ex-ey)))))-ey)),()))).1,((IntKind.wrap .i64 ((IntKind.wrap .i64 (ex-(if ((70:Int)<(IntKind.wrap .i64 (ex-ey))) then (70:Int) else (IntKind.wrap .i64 (ex-ey)))))-ey)),()))).1.1==(0:Int))&&((AG.F ((AM.F (((0:Int),(Y,())),((IntKind.wrap .i64 ((IntKind.wrap .i64 (ex-(if ((70:Int)<(IntKind.wrap .i64 (ex-ey))) then (70:Int) else (IntKind.wrap .i64 (ex-ey)))))-ey)),()))).1,((IntKind.wrap .i64 ((IntKind.wrap .i64 (ex-(if ((70:Int)<(IntKind.wrap .i64 (ex-ey))) then (70:Int) else (IntKind.wrap .i64 (ex-ey)))))-ey)),()))).1.2.1==Y)))||((decide ((IntKind.wrap .i64 ((IntKind.wrap .i64 (ex-(if ((70:Int)<(IntKind.wrap .i64 (ex-ey))) then (70:Int) else (IntKind.wrap .i64 (ex-ey)))))-ey))>(63:Int)))&&(Y != (0:Int)))) then
        (bif (BI.pre ((BI.F ((AG.F (((0:Int),(X,())),((if ((70:Int)<(IntKind.wrap .i64 (ex-ey))) then (70:Int) else (IntKind.wrap .i64 (ex-ey))),()))).1,(AM.F (((0:Int),(Y,())),((IntKind.wrap .i64 ((IntKind.wrap .i64 (ex-(if ((70:Int)<(IntKind.wrap .i64 (ex-ey))) then (70:Int) else (IntKind.wrap .i64 (ex-ey)))))-ey)),()))))).1,(((0:Int),((1:Int),())),()))) then
         (bif ((((BI.F ((BI.F ((AG.F (((0:Int),(X,())),((if ((70:Int)<(IntKind.wrap .i64 (ex-ey))) then (70:Int) else (IntKind.wrap .i64 (ex-ey))),()))).1,(AM.F (((0:Int),(Y,())),((IntKind.wrap .i64 ((IntKind.wrap .i64 (ex-(if ((70:Int)<(IntKind.wrap .i64 (ex-ey))) then (70:Int) else (IntKind.wrap .i64 (ex-ey)))))-ey)),()))))).1,(((0:Int),((1:Int),())),()))).1.1==(0:Int))&&((BI.F ((BI.F ((AG.F (((0:Int),(X,())),((if ((70:Int)<(IntKind.wrap .i64 (ex-ey))) then (70:Int) else (IntKind.wrap .i64 (ex-ey))),()))).1,(AM.F (((0:Int),(Y,())),((IntKind.wrap .i64 ((IntKind.wrap .i64 (ex-(if ((70:Int)<(IntKind.wrap .i64 (ex-ey))) then (70:Int) else (IntKind.wrap .i64 (ex-ey)))))-ey)),()))))).1,(((0:Int),((1:Int),())),()))).1.2.1==(0:Int)))&&(!((!(((AG.F ((AM.F (((0:Int),(Y,())),((IntKind.wrap .i64 ((IntKind.wrap .i64 (ex-(if ((70:Int)<(IntKind.wrap .i64 (ex-ey))) then (70:Int) else (IntKind.wrap .i64 (ex-ey)))))-ey)),()))).1,((IntKind.wrap .i64 ((IntKind.wrap .i64 (ex-(if ((70:Int)<(IntKind.wrap .i64 (ex-ey))) then (70:Int) else (IntKind.wrap .i64 (ex-ey)))))-ey)),()))).1.1==(0:Int))&&((AG.F ((AM.F (((0:Int),(Y,())),((IntKind.wrap .i64 ((IntKind.wrap .i64 (ex-(if ((70:Int)<(IntKind.wrap .i64 (ex-ey))) then (70:Int) else (IntKind.wrap .i64 (ex-ey)))))-ey)),()))).1,((IntKind.wrap .i64 ((IntKind.wrap .i64 (ex-(if ((70:Int)<(IntKind.wrap .i64 (ex-ey))) then (70:Int) else (IntKind.wrap .i64 (ex-ey)))))-ey)),()))).1.2.1==Y)))||((decide ((IntKind.wrap .i64 ((IntKind.wrap .i64 (ex-(if ((70:Int)<(IntKind.wrap .i64 (ex-ey))) then (70:Int) else (IntKind.wrap .i64 (ex-ey)))))-ey))>(63:Int)))&&(Y != (0:Int)))))) then
          (bif (A3.pre (f,((m==(4:Int)),()))) then
           (some ((A3.F (f,((m==(4:Int)),()))).1,((0:Int),((0:Int),()))))
          else none)
         else bif (A4.pre (f,(m,(nx,((BI.F ((BI.F ((AG.F (((0:Int),(X,())),((if ((70:Int)<(IntKind.wrap .i64 (ex-ey))) then (70:Int) else (IntKind.wrap .i64 (ex-ey))),()))).1,(AM.F (((0:Int),(Y,())),((IntKind.wrap .i64 ((IntKind.wrap .i64 (ex-(if ((70:Int)<(IntKind.wrap .i64 (ex-ey))) then (70:Int) else (IntKind.wrap .i64 (ex-ey)))))-ey)),()))))).1,(((0:Int),((1:Int),())),()))).1,((IntKind.wrap .i64 (ex-(if ((70:Int)<(IntKind.wrap .i64 (ex-ey))) then (70:Int) else (IntKind.wrap .i64 (ex-ey))))),(((!(((AG.F ((AM.F (((0:Int),(Y,())),((IntKind.wrap .i64 ((IntKind.wrap .i64 (ex-(if ((70:Int)<(IntKind.wrap .i64 (ex-ey))) then (70:Int) else (IntKind.wrap .i64 (ex-ey)))))-ey)),()))).1,((IntKind.wrap .i64 ((IntKind.wrap .i64 (ex-(if ((70:Int)<(IntKind.wrap .i64 (ex-ey))) then (70:Int) else (IntKind.wrap .i64 (ex-ey)))))-ey)),()))).1.1==(0:Int))&&((AG.F ((AM.F (((0:Int),(Y,())),((IntKind.wrap .i64 ((IntKind.wrap .i64 (ex-(if ((70:Int)<(IntKind.wrap .i64 (ex-ey))) then (70:Int) else (IntKind.wrap .i64 (ex-ey)))))-ey)),()))).1,((IntKind.wrap .i64 ((IntKind.wrap .i64 (ex-(if ((70:Int)<(IntKind.wrap .i64 (ex-ey))) then (70:Int) else (IntKind.wrap .i64 (ex-ey)))))-ey)),()))).1.2.1==Y)))||((decide ((IntKind.wrap .i64 ((IntKind.wrap .i64 (ex-(if ((70:Int)<(IntKind.wrap .i64 (ex-ey))) then (70:Int) else (IntKind.wrap .i64 (ex-ey)))))-ey))>(63:Int)))&&(Y != (0:Int)))),()))))))) then
          (some (A4.F (f,(m,(nx,((BI.F ((BI.F ((AG.F (((0:Int),(X,())),((if ((70:Int)<(IntKind.wrap .i64 (ex-ey))) then (70:Int) else (IntKind.wrap .i64 (ex-ey))),()))).1,(AM.F (((0:Int),(Y,())),((IntKind.wrap .i64 ((IntKind.wrap .i64 (ex-(if ((70:Int)<(IntKind.wrap .i64 (ex-ey))) then (70:Int) else (IntKind.wrap .i64 (ex-ey)))))-ey)),()))))).1,(((0:Int),((1:Int),())),()))).1,((IntKind.wrap .i64 (ex-(if ((70:Int)<(IntKind.wrap .i64 (ex-ey))) then (70:Int) else (IntKind.wrap .i64 (ex-ey))))),(((!(((AG.F ((AM.F (((0:Int),(Y,())),((IntKind.wrap .i64 ((IntKind.wrap .i64 (ex-(if ((70:Int)<(IntKind.wrap .i64 (ex-ey))) then (70:Int) else (IntKind.wrap .i64 (ex-ey)))))-ey)),()))).1,((IntKind.wrap .i64 ((IntKind.wrap .i64 (ex-(if ((70:Int)<(IntKind.wrap .i64 (ex-ey))) then (70:Int) else (IntKind.wrap .i64 (ex-ey)))))-ey)),()))).1.1==(0:Int))&&((AG.F ((AM.F (((0:Int),(Y,())),((IntKind.wrap .i64 ((IntKind.wrap .i64 (ex-(if ((70:Int)<(IntKind.wrap .i64 (ex-ey))) then (70:Int) else (IntKind.wrap .i64 (ex-ey)))))-ey)),()))).1,((IntKind.wrap .i64 ((IntKind.wrap .i64 (ex-(if ((70:Int)<(IntKind.wrap .i64 (ex-ey))) then (70:Int) else (IntKind.wrap .i64 (ex-ey)))))-ey)),()))).1.2.1==Y)))||((decide ((IntKind.wrap .i64 ((IntKind.wrap .i64 (ex-(if ((70:Int)<(IntKind.wrap .i64 (ex-ey))) then (70:Int) else (IntKind.wrap .i64 (ex-ey)))))-ey))>(63:Int)))&&(Y != (0:Int)))),()))))))))
         else none)
        else none)
       else bif ((((BI.F ((AG.F (((0:Int),(X,())),((if ((70:Int)<(IntKind.wrap .i64 (ex-ey))) then (70:Int) else (IntKind.wrap .i64 (ex-ey))),()))).1,(AM.F (((0:Int),(Y,())),((IntKind.wrap .i64 ((IntKind.wrap .i64 (ex-(if ((70:Int)<(IntKind.wrap .i64 (ex-ey))) then (70:Int) else (IntKind.wrap .i64 (ex-ey)))))-ey)),()))))).1.1==(0:Int))&&((BI.F ((AG.F (((0:Int),(X,())),((if ((70:Int)<(IntKind.wrap .i64 (ex-ey))) then (70:Int) else (IntKind.wrap .i64 (ex-ey))),()))).1,(AM.F (((0:Int),(Y,())),((IntKind.wrap .i64 ((IntKind.wrap .i64 (ex-(if ((70:Int)<(IntKind.wrap .i64 (ex-ey))) then (70:Int) else (IntKind.wrap .i64 (ex-ey)))))-ey)),()))))).1.2.1==(0:Int)))&&(!((!(((AG.F ((AM.F (((0:Int),(Y,())),((IntKind.wrap .i64 ((IntKind.wrap .i64 (ex-(if ((70:Int)<(IntKind.wrap .i64 (ex-ey))) then (70:Int) else (IntKind.wrap .i64 (ex-ey)))))-ey)),()))).1,((IntKind.wrap .i64 ((IntKind.wrap .i64 (ex-(if ((70:Int)<(IntKind.wrap .i64 (ex-ey))) then (70:Int) else (IntKind.wrap .i64 (ex-ey)))))-ey)),()))).1.1==(0:Int))&&((AG.F ((AM.F (((0:Int),(Y,())),((IntKind.wrap .i64 ((IntKind.wrap .i64 (ex-(if ((70:Int)<(IntKind.wrap .i64 (ex-ey))) then (70:Int) else (IntKind.wrap .i64 (ex-ey)))))-ey)),()))).1,((IntKind.wrap .i64 ((IntKind.wrap .i64 (ex-(if ((70:Int)<(IntKind.wrap .i64 (ex-ey))) then (70:Int) else (IntKind.wrap .i64 (ex-ey)))))-ey)),()))).1.2.1==Y)))||((decide ((IntKind.wrap .i64 ((IntKind.wrap .i64 (ex-(if ((70:Int)<(IntKind.wrap .i64 (ex-ey))) then (70:Int) else (IntKind.wrap .i64 (ex-ey)))))-ey))>(63:Int)))&&(Y != (0:Int)))))) then
        (bif (A3.pre (f,((m==(4:Int)),()))) then
         (some ((A3.F (f,((m==(4:Int)),()))).1,((0:Int),((0:Int),()))))
        else none)
       else bif (A4.pre (f,(m,(nx,((BI.F ((AG.F (((0:Int),(X,())),((if ((70:Int)<(IntKind.wrap .i64 (ex-ey))) then (70:Int) else (IntKind.wrap .i64 (ex-ey))),()))).1,(AM.F (((0:Int),(Y,())),((IntKind.wrap .i64 ((IntKind.wrap .i64 (ex-(if ((70:Int)<(IntKind.wrap .i64 (ex-ey))) then (70:Int) else (IntKind.wrap .i64 (ex-ey)))))-ey)),()))))).1,((IntKind.wrap .i64 (ex-(if ((70:Int)<(IntKind.wrap .i64 (ex-ey))) then (70:Int) else (IntKind.wrap .i64 (ex-ey))))),(((!(((AG.F ((AM.F (((0:Int),(Y,())),((IntKind.wrap .i64 ((IntKind.wrap .i64 (ex-(if ((70:Int)<(IntKind.wrap .i64 (ex-ey))) then (70:Int) else (IntKind.wrap .i64 (ex-ey)))))-ey)),()))).1,((IntKind.wrap .i64 ((IntKind.wrap .i64 (ex-(if ((70:Int)<(IntKind.wrap .i64 (ex-ey))) then (70:Int) else (IntKind.wrap .i64 (ex-ey)))))-ey)),()))).1.1==(0:Int))&&((AG.F ((AM.F (((0:Int),(Y,())),((IntKind.wrap .i64 ((IntKind.wrap .i64 (ex-(if ((70:Int)<(IntKind.wrap .i64 (ex-ey))) then (70:Int) else (IntKind.wrap .i64 (ex-ey)))))-ey)),()))).1,((IntKind.wrap .i64 ((IntKind.wrap .i64 (ex-(if ((70:Int)<(IntKind.wrap .i64 (ex-ey))) then (70:Int) else (IntKind.wrap .i64 (ex-ey)))))-ey)),()))).1.2.1==Y)))||((decide ((IntKind.wrap .i64 ((IntKind.wrap .i64 (ex-(if ((70:Int)<(IntKind.wrap .i64 (ex-ey))) then (70:Int) else (IntKind.wrap .i64 (ex-ey)))))-ey))>(63:Int)))&&(Y != (0:Int)))),()))))))) then
        (some (A4.F (f,(m,(nx,((BI.F ((AG.F (((0:Int),(X,())),((if ((70:Int)<(IntKind.wrap .i64 (ex-ey))) then (70:Int) else (IntKind.wrap .i64 (ex-ey))),()))).1,(AM.F (((0:Int),(Y,())),((IntKind.wrap .i64 ((IntKind.wrap .i64 (ex-(if ((70:Int)<(IntKind.wrap .i64 (ex-ey))) then (70:Int) else (IntKind.wrap .i64 (ex-ey)))))-ey)),()))))).1,((IntKind.wrap .i64 (ex-(if ((70:Int)<(IntKind.wrap .i64 (ex-ey))) then (70:Int) else (IntKind.wrap .i64 (ex-ey))))),(((!(((AG.F ((AM.F (((0:Int),(Y,())),((IntKind.wrap .i64 ((IntKind.wrap .i64 (ex-(if ((70:Int)<(IntKind.wrap .i64 (ex-ey))) then (70:Int) else (IntKind.wrap .i64 (ex-ey)))))-ey)),()))).1,((IntKind.wrap .i64 ((IntKind.wrap .i64 (ex-(if ((70:Int)<(IntKind.wrap .i64 (ex-ey))) then (70:Int) else (IntKind.wrap .i64 (ex-ey)))))-ey)),()))).1.1==(0:Int))&&((AG.F ((AM.F (((0:Int),(Y,())),((IntKind.wrap .i64 ((IntKind.wrap .i64 (ex-(if ((70:Int)<(IntKind.wrap .i64 (ex-ey))) then (70:Int) else (IntKind.wrap .i64 (ex-ey)))))-ey)),()))).1,((IntKind.wrap .i64 ((IntKind.wrap .i64 (ex-(if ((70:Int)<(IntKind.wrap .i64 (ex-ey))) then (70:Int) else (IntKind.wrap .i64 (ex-ey)))))-ey)),()))).1.2.1==Y)))||((decide ((IntKind.wrap .i64 ((IntKind.wrap .i64 (ex-(if ((70:Int)<(IntKind.wrap .i64 (ex-ey))) then (70:Int) else (IntKind.wrap .i64 (ex-ey)))))-ey))>(63:Int)))&&(Y != (0:Int)))),()))))))))
       else none)
      else none)
     else none)
    else none)
   else none)
  else none)
 else none
theorem aJ7 (f m:Int) (nx:Bool) (X ex:Int) (ny:Bool) (Y ey:Int):VE (f,m,(nx,X,ex,()),(ny,Y,ey,()),()) =
 (bif ((X==0)&&(Y==0))&&(nx==ny) then (bif A3.pre (f,nx,()) then some ((A3.F (f,nx,())).1,0,0,()) else none)
 else bif (X==0)||((Y != 0)&&decide (ex<ey)) then (bif X==0 then Ua f m ny Y ey nx X ey else Ua f m ny Y ey nx X ex)
 else bif Y==0 then Ua f m nx X ex ny Y ex else Ua f m nx X ex ny Y ey):=by kernel_rfl
theorem aEH {n:Nat} (h:n<2^64):((0:Int),((n:Int),()))=Wi n:=by
 unfold Wi
 rw [Nat.div_eq_of_lt h,Nat.mod_eq_of_lt h]; rfl
theorem aP2:((0:Int),((1:Int),()))=Wi 1:=rfl
theorem yL {n:Nat} (h:n<2^128):(((Wi n).1==0)&&((Wi n).2.1==0))=decide (n=0):=by
 show (((n/2^64:Nat):Int)==0&&((n%2^64:Nat):Int)==0)=_
 rw [FB,FB,Bool.eq_iff_iff,Bool.and_eq_true,beq_iff_eq,beq_iff_eq,decide_eq_true_eq]
 omega
theorem aRM {Y dn:Nat} (hY:Y<2^64):((!(((Wi (Y/2^dn*2^dn)).1==0)&&((Wi (Y/2^dn*2^dn)).2.1==(Y:Int))))||(decide ((dn:Int)>63)&&((Y:Int) != 0)))=decide (Y%2^dn≠0):=by
 have hdm:=Nat.div_add_mod Y (2^dn)
 rw [Nat.mul_comm] at hdm
 generalize hL:Y/2^dn*2^dn=L at *
 show ((!(((L/2^64:Nat):Int)==0&&((L%2^64:Nat):Int)==(Y:Int)))||(decide ((dn:Int)>63)&&((Y:Int) != 0)))=_
 rw [FB,Il,Tq]
 by_cases h:Y%2^dn=0
 ·rw [decide_eq_false (p:=Y%2^dn≠0) (by omega)]
  rw [show (L/2^64==0)=true by rw [beq_iff_eq]; omega,show (L%2^64==Y)=true by rw [beq_iff_eq]; omega]
  by_cases hy:Y=0
  ·rw [hy]; simp
  ·have:¬ (dn:Int)>63:=fun hd=>by
    have h1:Y<2^dn:=Nat.lt_of_lt_of_le hY (Nat.pow_le_pow_right (by decide) (by omega))
    rw [Nat.mod_eq_of_lt h1] at h
    exact hy h
   rw [decide_eq_false this]; rfl
 ·rw [decide_eq_true (p:=Y%2^dn≠0) h]
  rw [show (L%2^64==Y)=false by rw [beq_eq_false_iff_ne]; omega]
  simp
theorem kI {n k:Nat} (h:2^k<=n):k+1<=An n:=by
 have h1:=Gq n
 have:k<An n:=(Nat.pow_lt_pow_iff_right (a:=2) (by decide)).1 (Nat.lt_of_le_of_lt h h1)
 omega
def Et (f m:Int) (nx:Bool) (X:Nat) (ex:Int) (ny:Bool) (Y:Nat) (ey:Int):Nat×Nat :=
 let e:=if ex<=ey then ex else ey
 let a:=X*2^(ex-e).toNat
 let b:=Y*2^(ey-e).toNat
 if nx=ny then (if a+b=0 then (Co f nx,0) else AD f m nx (a+b) e false)
 else if a=b then (Co f (m==4),0) else if b<a then AD f m nx (a-b) e false else AD f m ny (b-a) e false
theorem oS {f m:Int} {nx:Bool} {X:Nat} {ey:Int} {ny:Bool} {Y:Nat} (D:Nat) :
  Et f m nx X (ey+D) ny Y ey=if nx=ny then (if X*2^D+Y=0 then (Co f nx,0) else AD f m nx (X*2^D+Y) ey false)
   else if X*2^D=Y then (Co f (m==4),0) else if Y<X*2^D then AD f m nx (X*2^D-Y) ey false else AD f m ny (Y-X*2^D) ey false:=by
 unfold Et
 have he:(if ey+(D:Int)<=ey then ey+(D:Int) else ey)=ey:=by split <;> omega
 simp only [he]
 rw [show (ey+(D:Int)-ey).toNat=D by omega,show (ey-ey).toNat=0 by omega,Nat.pow_zero,Nat.mul_one]
theorem oR (f m:Int) (nx:Bool) (X:Nat) (ex:Int) (ny:Bool) (Y:Nat) (ey:Int):Et f m nx X ex ny Y ey=Et f m ny Y ey nx X ex:=by
 unfold Et
 have he:(if ex<=ey then ex else ey)=(if ey<=ex then ey else ex):=by split <;> split <;> omega
 simp only [he]
 generalize (if ey<=ex then ey else ex)=e
 generalize X*2^(ex-e).toNat=a
 generalize Y*2^(ey-e).toNat=b
 by_cases hn:nx=ny
 ·subst hn
  rw [if_pos rfl,if_pos rfl,Nat.add_comm]
 ·rw [if_neg hn,if_neg (Ne.symm hn)]
  rcases Nat.lt_trichotomy a b with h | h | h
  ·rw [if_neg (by omega),if_neg (by omega),if_neg (by omega),if_pos h]
  ·rw [if_pos h,if_pos h.symm]
  ·rw [if_neg (by omega),if_pos h,if_neg (by omega),if_neg (by omega)]
theorem X0 {f m:Int} (hf:Fm f) (nx:Bool) (X:Nat) (ex:Int) (ny:Bool) (ey:Int):Et f m nx X ex ny 0 ey=if X=0 then (if nx=ny then (Co f nx,0) else (Co f (m==4),0)) else AD f m nx X ex false:=by
 rcases Int.le_total ex ey with h | h
 ·obtain ⟨D,hD⟩:=Int.eq_ofNat_of_zero_le (show 0<=ey-ex by omega)
  have:ey=ex+D:=by omega
  subst this
  rw [oR,oS,Nat.zero_mul,Nat.zero_add]
  by_cases hn:nx=ny
  ·subst hn
   simp only [↓reduceIte]
  ·rw [if_neg (Ne.symm hn),if_neg hn]
   by_cases hx:X=0
   ·subst hx
    simp only [↓reduceIte]
   ·rw [if_neg (by omega),if_neg (by omega),if_neg hx,Nat.sub_zero]
 ·obtain ⟨D,hD⟩:=Int.eq_ofNat_of_zero_le (show 0<=ex-ey by omega)
  have:ex=ey+D:=by omega
  subst this
  rw [oS,Nat.add_zero]
  by_cases hx:X=0
  ·subst hx
   rw [if_pos rfl,Nat.zero_mul,if_pos rfl,if_pos rfl]
  ·have hp:=Nat.two_pow_pos D
   have hpos:0<X*2^D:=Nat.mul_pos (by omega) hp
   rw [if_neg hx]
   by_cases hn:nx=ny
   ·rw [if_pos hn,if_neg (by omega),KZ hf hx]
   ·rw [if_neg hn,if_neg (by omega),if_pos hpos,Nat.sub_zero,KZ hf hx]
theorem kE {f m:Int} (hf:Fm f) (hm:0<=m/\m<=5) (nx:Bool) (X D:Nat) (ny:Bool) (Y:Nat) (ey:Int) (hX:X<2^53) (hY:Y<2^53) (he:-2000<=ey/\ey+D<=2000) (h0:X≠0∨(Y=0/\nx≠ny)) :
  Ua f m nx X (ey+D) ny Y ey=some (((Et f m nx X (ey+D) ny Y ey).1:Int),((Et f m nx X (ey+D) ny Y ey).2:Int),0,()):=by
 rw [oS]
 have hW:=Ei hf
 have hP:=ES hf
 have hU:∃ U dn:Nat,(if (70:Int)<(D:Int) then (70:Int) else (D:Int))=(U:Int)/\D=U+dn/\U<=70/\(dn≠0->U=70):=by
  by_cases h:70<D
  ·exact ⟨70,D-70,by rw [if_pos (by omega)]; rfl,by omega,by omega,fun _=>rfl⟩
  ·exact ⟨D,0,by rw [if_neg (by omega)],by omega,by omega,fun h=>absurd rfl h⟩
 obtain ⟨U,dn,hU1,hU2,hU3,hU4⟩:=hU
 have e1:IntKind.wrap .i64 (ey+(D:Int)-ey)=(D:Int):=by rw [As (by omega)]; omega
 have e2:IntKind.wrap .i64 (ey+(D:Int)-(U:Int))=ey+(dn:Int):=by rw [As (by omega)]; omega
 have e3:IntKind.wrap .i64 (ey+(dn:Int)-ey)=(dn:Int):=by rw [As (by omega)]; omega
 have hpU:=Nat.two_pow_pos U
 have hpd:=Nat.two_pow_pos dn
 have hU70:2^U<=2^70:=Nat.pow_le_pow_right (by decide) hU3
 have hH:X*2^U<2^123:=by
  have h1:X*2^U<=X*2^70:=Nat.mul_le_mul_left _ hU70
  have h2:X*2^70<2^53*2^70:=Nat.mul_lt_mul_of_pos_right hX (by decide)
  omega
 have hXD:X*2^D=X*2^U*2^dn:=by rw [hU2,Nat.pow_add,Nat.mul_assoc]
 have hbig:Y%2^dn≠0->2^70<=X*2^U/\X≠0:=fun h=>by
  have hd:dn≠0:=fun h1=>by rw [h1,Nat.pow_zero,Nat.mod_one] at h; exact h rfl
  have hy:Y≠0:=fun h1=>by rw [h1,Nat.zero_mod] at h; exact h rfl
  have hx:X≠0:=by
   rcases h0 with h | h
   ·exact h
   ·exact absurd h.1 hy
  refine ⟨?_,hx⟩
  rw [hU4 hd]
  exact Nat.le_mul_of_pos_left _ (by omega)
 have hYL:Y/2^dn<=Y:=Nat.div_le_self _ _
 have hLd:Y/2^dn*2^dn<=Y:=Nat.div_mul_le_self _ _
 have p1:Qw (((0:Int),((X:Int),())),((U:Int),()))=some (Wi (X*2^U),()):=by
  rw [aEH (by omega),qE _ _ (by omega),Nat.mod_eq_of_lt (by omega)]
 have p2:VG (((0:Int),((Y:Int),())),((dn:Int),()))=some (Wi (Y/2^dn),()):=by
  rw [aEH (by omega),aKl _ _ (by omega)]
 have p3:Qw (Wi (Y/2^dn),((dn:Int),()))=some (Wi (Y/2^dn*2^dn),()):=by
  rw [qE _ _ (by omega),Nat.mod_eq_of_lt (by omega)]
 have p4:=aSh (X*2^U) (Y/2^dn) (by omega)
 have p5:=aG3 (X*2^U) (Y/2^dn)
 have pz:=Kj hf (m==4)
 unfold Ua
 simp only [e1,hU1,e2,e3,lI p1,aQ p1,aLh p2,aI1 p2,lI p3,aQ p3,cond_true,aN7 p4,aRb p4,aEq p5,aCt p5,aRM (show Y<2^64 by omega)]
 have hdm:=Nat.div_add_mod Y (2^dn)
 have hml:=Nat.mod_lt Y hpd
 have hX0H:X=0->X*2^U=0:=fun h=>by rw [h,Nat.zero_mul]
 have hXb:X≠0->dn≠0->2^70<=X*2^U:=fun h1 h2=>by rw [hU4 h2]; exact Nat.le_mul_of_pos_left _ (by omega)
 have hHp:X≠0->0<X*2^U:=fun h=>Nat.mul_pos (by omega) hpU
 clear e1 e2 e3 p1 p2 p3
 rw [Nat.mul_comm] at hdm
 generalize hHe:X*2^U=H at *
 generalize hLe:Y/2^dn=L at *
 generalize hRe:Y%2^dn=R at *
 by_cases hn:nx=ny
 ·subst hn
  rw [if_pos rfl,show (nx==nx)=true by cases nx <;> rfl,cond_true]
  have hX0:X≠0:=by
   rcases h0 with h | h
   ·exact h
   ·exact absurd rfl h.2
  have hHp:=hHp hX0
  have hN:X*2^D+Y=Y+H*2^dn:=by rw [hXD,Nat.add_comm]
  have hNd:(X*2^D+Y)/2^dn=H+L:=by rw [hN,Nat.add_mul_div_right _ _ hpd,hLe,Nat.add_comm]
  have hNm:(X*2^D+Y)%2^dn=R:=by rw [hN,Nat.add_mul_mod_self_right,hRe]
  have hbl:R≠0->fP f+2<=An (H+L):=fun h=>by
   have h1:=(hbig h).1
   have:=kI (n:=H+L) (k:=70) (by omega)
   omega
  have p6:=LQ hf hm nx (H+L) (by omega) (ey+(dn:Int)) (by omega) (decide (R≠0)) (fun h=>hbl (by simpa using h))
  rw [if_neg (by omega)] at p6
  simp only [HR p6,Hz p6,cond_true]
  have htr:=Zn (f:=f) (m:=m) (neg:=nx) (N:=X*2^D+Y) (k:=dn) (E:=ey) hf (by rw [hNd]; omega) (by rw [hNd,hNm]; exact hbl)
  rw [hNd,hNm] at htr
  have hpp:0<H*2^dn:=Nat.mul_pos hHp hpd
  rw [htr,if_neg (by rw [hXD]; omega)]
 ·rw [if_neg hn,show (nx==ny)=false by cases nx <;> cases ny <;> first | rfl | exact absurd rfl hn,cond_false]
  by_cases hlt:H<L
  ·-- low is the greater: nothing is lost
   have hm0:R=0:=by
    by_cases h:R=0
    ·exact h
    ·have:=(hbig h).1; omega
   have hdn:dn=0:=by
    by_cases h:dn=0
    ·exact h
    ·exfalso
     rcases h0 with h1 | h1
     ·have h2:=hXb h1 h
      omega
     ·have:=h1.1; omega
   subst hdn
   have hY1:Y=L:=by rw [← hLe]; simp
   subst hY1
   have hXD1:X*2^D=H:=by rw [hXD]; simp
   rw [hm0,hXD1]
   have p7:=r8 Y H (by omega) (by omega)
   have p6:=LQ hf hm ny (Y-H) (by omega) (ey+((0:Nat):Int)) (by omega) false (fun h=>by cases h)
   rw [if_neg (by omega)] at p6
   have z1:decide ((if H=Y then (0:Int) else if H<Y then -1 else 1)<0)=true:=by
    rw [if_neg (by omega),if_pos hlt]; rfl
   have z2:decide ((0:Nat)≠0)=false:=by decide
   have z3:=yL (n:=Y-H) (by omega)
   rw [decide_eq_false (p:=Y-H=0) (by omega)] at z3
   simp only [z1,z2,cond_true,cond_false,sH p7,vX p7,z3,Bool.false_and,HR p6,Hz p6]
   rw [if_neg (by omega),if_neg (by omega),Int.natCast_zero,Int.add_zero]
  ·have hge:L<=H:=by omega
   have p7:=r8 H L (by omega) hge
   have z1:decide ((if H=L then (0:Int) else if H<L then -1 else 1)<0)=false:=by
    by_cases h:H=L
    ·rw [if_pos h]; rfl
    ·rw [if_neg h,if_neg hlt]; rfl
   simp only [z1,cond_false,sH p7,vX p7,cond_true]
   by_cases hm0:R=0
   ·rw [hm0,show decide ((0:Nat)≠0)=false by decide,cond_false]
    have hYe:Y=L*2^dn:=by omega
    have z3:=yL (n:=H-L) (by omega)
    rw [z3]
    by_cases hz:H-L=0
    ·have heq:X*2^D=Y:=by rw [hXD,hYe,show H=L by omega]
     rw [decide_eq_true hz,if_pos heq]
     simp only [Bool.not_false,Bool.and_self,cond_true,Lo pz,K1 pz]
     rfl
    ·rw [decide_eq_false hz]
     have p6:=LQ hf hm nx (H-L) (by omega) (ey+(dn:Int)) (by omega) false (fun h=>by cases h)
     rw [if_neg hz] at p6
     simp only [Bool.false_and,cond_false,HR p6,Hz p6,cond_true]
     have hN:X*2^D-Y=(H-L)*2^dn:=by rw [hXD,Nat.sub_mul,← hYe]
     have hpp:0<(H-L)*2^dn:=Nat.mul_pos (by omega) hpd
     have hlt2:Y<X*2^D:=by omega
     rw [if_neg (by omega),if_pos hlt2,hN,KZ hf hz]
   ·rw [decide_eq_true (p:=R≠0) hm0,cond_true]
    obtain ⟨hb1,hX0⟩:=hbig hm0
    have p8:=r8 (H-L) 1 (by omega) (by omega)
    rw [← aP2] at p8
    have hbl:fP f+2<=An (H-L-1):=by
     have:=kI (n:=H-L-1) (k:=69) (by omega)
     omega
    have p6:=LQ hf hm nx (H-L-1) (by omega) (ey+(dn:Int)) (by omega) true (fun _=>hbl)
    rw [if_neg (by omega)] at p6
    simp only [sH p8,vX p8,cond_true,Bool.not_true,Bool.and_false,cond_false,HR p6,Hz p6]
    have h2:(L+1+(H-L-1))*2^dn=H*2^dn:=by rw [show L+1+(H-L-1)=H by omega]
    rw [Nat.add_mul,Nat.add_mul,Nat.one_mul] at h2
    have hN:X*2^D-Y=(2^dn-R)+(H-L-1)*2^dn:=by rw [hXD]; omega
    have hlt2:Y<X*2^D:=by omega
    have hNd:(X*2^D-Y)/2^dn=H-L-1:=by
     rw [hN,Nat.add_mul_div_right _ _ hpd,Nat.div_eq_of_lt (by omega),Nat.zero_add]
    have hNm:(X*2^D-Y)%2^dn=2^dn-R:=by
     rw [hN,Nat.add_mul_mod_self_right,Nat.mod_eq_of_lt (by omega)]
    have htr:=Zn (f:=f) (m:=m) (neg:=nx) (N:=X*2^D-Y) (k:=dn) (E:=ey) hf (by rw [hNd]; omega) (fun _=>by rw [hNd]; exact hbl)
    rw [hNd,hNm,decide_eq_true (p:=2^dn-R≠0) (by omega)] at htr
    rw [htr,if_neg (by omega),if_pos hlt2]
theorem aRm {f m:Int} (hf:Fm f) (hm:0<=m/\m<=5) (nx:Bool) (X:Nat) (ex:Int) (ny:Bool) (Y:Nat) (ey:Int) (hX:X<2^53) (hY:Y<2^53) (hex:-2000<=ex/\ex<=2000) (hey:-2000<=ey/\ey<=2000) :
  VE (f,m,(nx,(X:Int),ex,()),(ny,(Y:Int),ey,()),())=some (((Et f m nx X ex ny Y ey).1:Int),((Et f m nx X ex ny Y ey).2:Int),0,()):=by
 rw [aJ7]
 by_cases hX0:X=0
 ·subst hX0
  by_cases hYn:Y=0/\nx=ny
  ·obtain ⟨rfl,rfl⟩:=hYn
   have p0:=Kj hf nx
   rw [show ((((0:Nat):Int)==0)&&(((0:Nat):Int)==0)&&(nx==nx))=true by cases nx <;> rfl,cond_true]
   simp only [Lo p0,K1 p0,cond_true]
   rw [X0 hf,if_pos rfl,if_pos rfl]
   rfl
  ·have hg:((((0:Nat):Int)==0)&&(((Y:Nat):Int)==0)&&(nx==ny))=false:=by
    by_cases hy:Y=0
    ·have:nx≠ny:=fun h=>hYn ⟨hy,h⟩
     subst hy
     cases nx <;> cases ny <;> first | rfl | exact absurd rfl this
    ·rw [AU Y hy,Bool.and_false,Bool.false_and]
   have h1:(((0:Nat):Int)==0)=true:=rfl
   rw [hg,cond_false,h1,Bool.true_or,cond_true,cond_true]
   have ht:=kE hf hm ny Y 0 nx 0 ey hY hX (by omega) (by
    by_cases hy:Y=0
    ·exact .inr ⟨rfl,fun h=>hYn ⟨hy,h.symm⟩⟩
    ·exact .inl hy)
   rw [Int.natCast_zero,Int.add_zero] at ht
   rw [Int.natCast_zero,ht,oR f m nx 0 ex,X0 hf,X0 hf]
 ·have hx0:((X:Int)==0)=false:=AU _ hX0
  rw [hx0,Bool.false_and,Bool.false_and,cond_false,Bool.false_or,cond_false]
  by_cases hY0:Y=0
  ·subst hY0
   have ht:=kE hf hm nx X 0 ny 0 ex hX hY (by omega) (.inl hX0)
   rw [Int.natCast_zero,Int.add_zero] at ht
   rw [show (((0:Nat):Int) != 0)=false by rfl,Bool.false_and,cond_false,show (((0:Nat):Int)==0)=true by rfl,cond_true,Int.natCast_zero,ht,X0 hf,X0 hf]
  ·rw [Bh _ hY0,Bool.true_and,AU _ hY0,cond_false]
   by_cases hlt:ex<ey
   ·rw [decide_eq_true hlt,cond_true]
    obtain ⟨D,hD⟩:=Int.eq_ofNat_of_zero_le (show 0<=ey-ex by omega)
    have hee:ey=ex+D:=by omega
    subst hee
    rw [kE hf hm ny Y D nx X ex hY hX (by omega) (.inl hY0),oR f m ny Y]
   ·rw [decide_eq_false hlt,cond_false]
    obtain ⟨D,hD⟩:=Int.eq_ofNat_of_zero_le (show 0<=ex-ey by omega)
    have hee:ex=ey+D:=by omega
    subst hee
    rw [kE hf hm nx X D ny Y ey hX hY (by omega) (.inl hX0)]
end VL
namespace VL
open Go Vx
def Hs (l:List Nat):Prop:=(∀ x∈l,x<2^32)/\l.length<=1000000
theorem Hs.dg {n:Nat} (h:n<2^100000):Hs (dg (2^32) n):=by
 refine ⟨F8 (by decide) n,?_⟩
 have:n<(2^32)^3125:=by rw [← Nat.pow_mul]; exact h
 have:=CZ (B:=2^32) (by decide) 3125 n this
 omega
theorem dC (n:Nat) (h:n<2^64):IntKind.wrap .u64 (n:Int)=(n:Int):=D9 (by omega)
theorem oD (a b:Nat) (h:a*b<2^64):IntKind.wrap .u64 ((a:Int)*(b:Int))=((a*b:Nat):Int):=by
 rw [← Int.natCast_mul,dC _ h]
theorem UL (a b:Nat) (h:a+b<2^64):IntKind.wrap .u64 ((a:Int)+(b:Int))=((a+b:Nat):Int):=by
 rw [← Int.natCast_add,dC _ h]
theorem Y4 {B:Nat} {l:List Nat} {v:Nat} (h:∀ x∈l,x<B) (hv:v<B):∀ x∈l++[v],x<B:=fun x hx=>by
 rcases List.mem_append.1 hx with hx | hx
 ·exact h x hx
 ·have:x=v:=by simpa using hx
  rw [this]; exact hv
theorem Wt (B:Nat) (l:List Nat) (v:Nat):nv B (l++[v])=nv B l+B^l.length*v:=by
 rw [Sg]; simp [nv]
theorem aFt (B n:Nat):nv B (List.replicate n 0)=0:=by
 induction n with
 | zero=>rfl
 | succ n ih=>rw [List.replicate_succ]; simp [nv,ih]
end VL
namespace VL
open Go Vx
theorem To (B:Nat) (l:List Nat) (i:Nat) (h:i<l.length):nv B (l.drop i)=l.getD i 0+B*nv B (l.drop (i+1)):=by
 rw [List.drop_eq_getElem_cons h,List.getD_eq_getElem?_getD,List.getElem?_eq_getElem h]; rfl
theorem aLb {B:Nat} (hB:2<=B) {l:List Nat} (h:∀ x∈l,x<B) (i:Nat):nv B (l.take i)<B^i:=by
 have:=DR hB (l.take i) fun x hx=>h x (List.mem_of_mem_take hx)
 refine Nat.lt_of_lt_of_le this (Nat.pow_le_pow_right (by omega) ?_)
 rw [List.length_take]
 exact Nat.min_le_left _ _
theorem aPN {P A A' X Y:Nat} (h:A<P) (hxy:X<Y):A+P*X<A'+P*Y:=by
 have:P*(X+1)<=P*Y:=Nat.mul_le_mul_left _ hxy
 rw [Nat.mul_add,Nat.mul_one] at this
 omega
theorem Nw {B:Nat} (hB:2<=B) {a b:List Nat} (ha:∀ x∈a,x<B) {i:Nat} (hia:i<a.length) (hib:i<b.length) (hd:nv B (a.drop (i+1))=nv B (b.drop (i+1))) (h:a.getD i 0<b.getD i 0):nv B a<nv B b:=by
 rw [Ka B a i (by omega),Ka B b i (by omega),To B a i hia,To B b i hib,hd]
 exact aPN (aLb hB ha i) (by omega)
theorem vH {B:Nat} (hB:2<=B) {x y:Nat} (h:(dg B x).length<(dg B y).length):x<y:=by
 have h1:=Sw hB x
 rcases Nat.lt_or_ge x y with h2 | h2
 ·exact h2
 ·have:=CZ hB (dg B x).length y (by omega)
  omega
theorem aMQ {P B A A' O a b c c' v:Nat} (h:A+P*c=A'+O) (h2:a+B*c'=b+c+v):A+P*a+P*B*c'=A'+P*b+(O+P*v):=by
 have h3:P*(a+B*c')=P*(b+c+v):=by rw [h2]
 rw [Nat.mul_add,Nat.mul_add,Nat.mul_add,← Nat.mul_assoc] at h3
 omega
theorem aHS {B:Nat} (hB:2<=B) {x y:Nat} (h:y<=x):(dg B y).length<=(dg B x).length:=by
 rcases Nat.lt_or_ge (dg B x).length (dg B y).length with h1 | h1
 ·have:=vH hB h1; omega
 ·exact h1
theorem Hs.len {n:Nat} (h:n<2^100000):(VL.dg (2^32) n).length<=3125:=by
 have:n<(2^32)^3125:=by rw [← Nat.pow_mul]; exact h
 exact CZ (B:=2^32) (by decide) 3125 n this
theorem aJo (x:Nat):Int.tmod (x:Int) 2=((x%2:Nat):Int):=rfl
theorem Wj (x m:Nat) (h:x<2^64) (hm:0<m):Bz .u64 (x:Int) (m:Int)=((x/m:Nat):Int):=by
 unfold Bz
 have e:(x:Int).tdiv (m:Int)=((x/m:Nat):Int):=rfl
 have:=Nat.div_le_self x m
 generalize x/m=q at *
 rw [e,D9 (by omega)]
end VL
namespace VL
open Go Vx
theorem E7 {f:Int} (hf:Fm f):fP f<=53:=by
 rcases C4 hf with rfl | rfl | rfl | rfl <;> decide
theorem aKm {f m:Int} (hf:Fm f) {neg:Bool} {n:Nat} {e q:Int} (h:AE n e-fP f+1<=q):BH m neg n e q false<=2^fP f:=tK h
end VL
namespace VL
open Go Vx
def CL (nx:Bool) (X:Nat) (ex:Int) (ny:Bool) (Y:Nat) (ey:Int):Bool×Nat×Int :=
 if X=0 then (ny,Y,ey) else if Y=0 then (nx,X,ex) else
 let e:=if ey<ex then ey else ex
 let a:=X*2^(ex-e).toNat
 let b:=Y*2^(ey-e).toNat
 if nx=ny then (nx,a+b,e) else if b<=a then (nx,a-b,e) else (ny,b-a,e)
def Ad (f:Int) (a:Nat):Nat:=if eF f a=0 then mF f a else mF f a+2^(fP f-1)
def Af (f:Int) (a:Nat):Int:=1-(fX f:Int)-(fP f:Int)+1+(if eF f a=0 then 0 else (eF f a:Int)-1)
theorem Sd (f:Int) (a:Nat):mF f a<2^(fP f-1):=Nat.mod_lt _ (Nat.two_pow_pos _)
theorem Fs {f:Int} (hf:Fm f) (a:Nat):Ad f a<2^53:=by
 have h1:=Sd f a
 have h2:=Dr hf
 have h3:=ES hf
 have h4:=Ei hf
 have h5:2^(fP f-1)<=2^52:=Nat.pow_le_pow_right (by decide) (by rcases C4 hf with rfl | rfl | rfl | rfl <;> decide)
 unfold Ad
 split <;> omega
theorem R7 {f:Int} (hf:Fm f) (a:Nat):eF f a<2048:=by
 have:2^(fW f-fP f)<=2^11:=Nat.pow_le_pow_right (by decide) (by rcases C4 hf with rfl | rfl | rfl | rfl <;> decide)
 have h:eF f a<2^(fW f-fP f):=Nat.mod_lt _ (Nat.two_pow_pos _)
 omega
theorem Gl {f:Int} (hf:Fm f) (a:Nat):-2000<=Af f a/\Af f a<=2000:=by
 have h1:=R7 hf a
 have h2:=HK hf
 have h3:=E7 hf
 have h4:=Qk hf
 have h5:=Dr hf
 have h6:(eF f a:Int)<=2*fX f+1:=by
  have:eF f a<2^(fW f-fP f):=Nat.mod_lt _ (Nat.two_pow_pos _)
  have:=aHG hf
  omega
 unfold Af
 split <;> omega
def Au (f:Int) (a:Nat):Bool:=eF f a==BF f&&mF f a==0
def aAq (f m:Int) (a b:Nat):Int×Int×Int×Unit :=
 bif AJ f a||AJ f b then ((CH f:Int),1,0,())
 else bif nan f a||nan f b then ((CH f:Int),0,0,())
 else bif (Au f a&&Au f b)&&!(sF f a==sF f b) then ((CH f:Int),1,0,())
 else bif Au f a then ((a:Int),0,0,())
 else bif Au f b then ((b:Int),0,0,())
 else (((Et f m (sF f a) (Ad f a) (Af f a) (sF f b) (Ad f b) (Af f b)).1:Int),((Et f m (sF f a) (Ad f a) (Af f a) (sF f b) (Ad f b) (Af f b)).2:Int),0,())
def NU (f m:Int) (a b:Nat):Int×Int×Int×Unit :=
 if Fm f then (if 0<=m/\m<=5 then (if Am f a=0/\Am f b=0 then aAq f m a b else (0,0,4,())) else (0,0,3,())) else (0,0,2,())
def g9 (f m:Int) (a b:Nat):Int×Int×Int×Unit:=NU f m a (if Am f b=0 then Ib f b else b)
theorem aKI {f:Int} {b:Nat} (h:Am f b=0):Ib f b<2^64:=KK (aOa (CR h).1 b)
end VL
namespace VL
open Go Vx
theorem SJ {f:Int} {a:Nat} (h:Am f a=0):Wm (f,(a:Int),())=some (sF f a,(eF f a:Int),(mF f a:Int),0,()):=by
 obtain ⟨hf,h0⟩:=CR h
 have ha:=KK h
 show bM Ar.pre Ar.F Dn.pre Dn.F f a=_
 unfold bM
 have p0:=Eq f a ha
 have p2:=eD hf a ha
 have hr1:decide (0<=f)=true:=decide_eq_true hf.1
 have hr2:decide (f<((4:Nat):Int))=true:=decide_eq_true hf.2
 simp only [jP hf,hr1,hr2,DC p0,DD p0,jA p2,mM p2,h,cond_true,bne_self_eq_false,cond_false]
theorem aF4 {f:Int} {a:Nat} (h:Am f a=0):Xf (f,Bp f,(a:Int),())=some ((sF f a,(Ad f a:Int),Af f a,()),()):=by
 obtain ⟨hf,h0⟩:=CR h
 show fO Bo.pre Bo.F f (Bp f) a=_
 unfold fO
 have h1:=Dr hf
 have h3:=E7 hf
 have h4:=HK hf
 have hE:=R7 hf a
 have hM:=Sd f a
 have hPp:2^(fP f-1)<=2^52:=Nat.pow_le_pow_right (by decide) (by omega)
 have p0:=SJ h
 have r1:(Bp f).2.1=(fP f:Int):=rfl
 have r2:(Bp f).2.2.1=1-(fX f:Int):=rfl
 have e0:IntKind.wrap .i64 ((fP f:Int)-1)=((fP f-1:Nat):Int):=Bj _ (by omega)
 have e1:IntKind.wrap .i64 (IntKind.wrap .i64 ((1-(fX f:Int))-(fP f:Int))+1)=1-(fX f:Int)-(fP f:Int)+1:=by
  rw [As (n:=_-(fP f:Int)) (by omega),As (by omega)]
 have e2:IntKind.wrap .i64 (eF f a:Int)=(eF f a:Int):=As (by omega)
 have e3:AT .u64 1 ((fP f-1:Nat):Int)=((2^(fP f-1):Nat):Int):=JZ (by omega)
 have e4:AW .u64 (mF f a:Int) ((2^(fP f-1):Nat):Int)=((mF f a+2^(fP f-1):Nat):Int):=by
  have:=FJ (a:=mF f a) (b:=1) (k:=fP f-1) hM (by omega)
  rwa [Nat.one_mul] at this
 simp only [Sn p0,R8 p0,cond_true,r1,r2,e0,e1,e2,e3,e4,AX]
 by_cases hz:eF f a=0
 ·have hg:decide ((eF f a:Int)>0)=false:=decide_eq_false (by omega)
  have hm:Ad f a=mF f a:=by unfold Ad; rw [if_pos hz]
  have hx:Af f a=1-(fX f:Int)-(fP f:Int)+1:=by unfold Af; rw [if_pos hz,Int.add_zero]
  rw [hg,cond_false,hm,hx]
 ·have hg:decide ((eF f a:Int)>0)=true:=decide_eq_true (by omega)
  have hm:Ad f a=mF f a+2^(fP f-1):=by unfold Ad; rw [if_neg hz]
  have hx:IntKind.wrap .i64 ((1-(fX f:Int)-(fP f:Int)+1)+IntKind.wrap .i64 ((eF f a:Int)-1))=Af f a:=by
   unfold Af; rw [if_neg hz,As (n:=(eF f a:Int)-1) (by omega),As (by omega)]
  rw [hg,cond_true,hm,hx]
theorem Uk (f:Int) (a:Nat):(Av f a==2||Av f a==9)=Au f a:=by
 unfold Av Au
 cases eF f a==BF f <;> cases eF f a==0 <;> cases mF f a==0 <;> cases sF f a <;> cases mF f a/2^(fP f-2) != 0 <;> rfl
theorem aIr (f:Int) (a b:Nat):((Au f a&&Au f b)&&(Av f a != Av f b))=((Au f a&&Au f b)&&!(sF f a==sF f b)):=by
 unfold Av Au
 cases eF f a==BF f <;> cases mF f a==0 <;> cases eF f b==BF f <;> cases mF f b==0 <;> first | rfl | (cases sF f a <;> cases sF f b <;> rfl)
theorem pV (f m:Int) {a b:Nat} (ha:a<2^64) (hb:b<2^64):Wo (f,m,(a:Int),(b:Int),())=some (NU f m a b):=by
 show j7 Aq.pre Aq.F AF.pre AF.F AB.pre AB.F Rw.pre Rw.F Nh.pre Nh.F f m a b=_
 unfold j7 NU
 by_cases hf:Fm f
 ·rw [if_pos hf]
  have p0:=Fd hf
  simp only [Dh p0,C8 p0,cond_true,bne_self_eq_false,cond_false]
  by_cases hm:0<=m/\m<=5
  ·have hmm:(decide (m<0)||decide (m>5))=false:=by
    rw [decide_eq_false (p:=m<0) (by omega),decide_eq_false (p:=m>5) (by omega)]; rfl
   rw [if_pos hm,hmm,cond_false]
   have c4:∀ x:Nat,Am f x≠0->Am f x=4:=fun x h=>by
    unfold Am at h ⊢
    rw [if_pos hf] at h ⊢
    split at h
    ·exact absurd rfl h
    ·rename_i h1; rw [if_neg h1]
   by_cases hca:Am f a=0
   ·have p1:=F7 ha hca
    by_cases hcb:Am f b=0
    ·have p2:=F7 hb hcb
     rw [if_pos ⟨hca,hcb⟩]
     have p3:=Ew hf
     have p4:=aF4 hca
     have p5:=aF4 hcb
     have p6:=aRm hf hm (sF f a) (Ad f a) (Af f a) (sF f b) (Ad f b) (Af f b) (Fs hf a) (Fs hf b) (Gl hf a) (Gl hf b)
     simp only [Du p1,DA p1,Du p2,DA p2,cond_true,bne_self_eq_false,cond_false,FE p3,Fo p3,aE4 p4,aEb p4,aE4 p5,aEb p5,aL2 p6,aJ1 p6,Uk,aIr]
     unfold aAq
     rw [← E9,← E9,← GW,← GW]
     generalize ((Au f a&&Au f b)&&!(sF f a==sF f b))=w1
     generalize Au f a=w2
     generalize Au f b=w3
     generalize (Av f a==0)=x1
     generalize (Av f b==0)=x2
     generalize (Av f a==1)=x3
     generalize (Av f b==1)=x4
     cases x1 <;> cases x2 <;> cases x3 <;> cases x4 <;> cases w1 <;> cases w2 <;> cases w3 <;> rfl
    ·have p2:=SU hb hcb
     rw [if_neg (fun h=>hcb h.2)]
     have hne:(Am f b != 0)=true:=by simpa using hcb
     simp only [Du p1,DA p1,Du p2,DA p2,cond_true,bne_self_eq_false,cond_false,hne]
     rw [c4 b hcb]
   ·have p1:=SU ha hca
    rw [if_neg (fun h=>hca h.1)]
    have hne:(Am f a != 0)=true:=by simpa using hca
    simp only [Du p1,DA p1,cond_true,hne]
    rw [c4 a hca]
  ·rw [if_neg hm]
   have:(decide (m<0)||decide (m>5))=true:=by
    by_cases h:m<0
    ·rw [decide_eq_true h]; rfl
    ·rw [decide_eq_true (p:=m>5) (by omega),Bool.or_true]
   rw [this]; rfl
 ·rw [if_neg hf]
  have p0:=GO hf
  simp only [Dh p0,C8 p0]
  rfl
theorem aP5 (f m:Int) {a b:Nat} (ha:a<2^64) (hb:b<2^64):XJ (f,m,(a:Int),(b:Int),())=some (g9 f m a b):=by
 show eP Ar.pre Ar.F DN.pre DN.F Fb.pre Fb.F f m a b=_
 unfold eP g9
 have p0:=Eq f b hb
 by_cases h:Am f b=0
 ·have p1:=sL h
  have p2:=pV f m ha (aKI h)
  rw [if_pos h]
  simp only [DC p0,DD p0,h,beq_self_eq_true,cond_true,t7 p1,r7 p1,nI p2,nN p2]
 ·have p2:=pV f m ha hb
  have hne:(Am f b==0)=false:=by simpa using h
  rw [if_neg h]
  simp only [DC p0,DD p0,cond_true,hne,cond_false,nI p2,nN p2]
end VL
namespace VL
open Go Vx
def qm (f:Int):Int:=1-(fX f:Int)-(fP f:Int)+1
theorem aPU {f:Int} (hf:Fm f):2^fP f=2*2^(fP f-1):=by
 have hP:=Dr hf
 rw [← Nat.pow_succ',Nat.succ_eq_add_one,Nat.sub_add_cancel (by omega)]
end VL
namespace VL
open Go Vx
def vI (f:Int) (neg:Bool) (X:Nat) (e:Int):Int:=bif neg then -((X*2^(e-qm f).toNat:Nat):Int) else ((X*2^(e-qm f).toNat:Nat):Int)
end VL
namespace VL
open Go Vx
theorem aI5 (f:Int) (a:Nat):qm f<=Af f a:=by
 unfold Af qm
 split <;> omega
def sl (V:Nat->Int) (i:Nat):List Int:=[if 0<i then V 0 else 0,if 1<i then V 1 else 0,if 2<i then V 2 else 0,if 3<i then V 3 else 0,if 4<i then V 4 else 0,if 5<i then V 5 else 0]
end VL
namespace VL
open Go Vx
def vA (f:Int) (a:Nat):Int:=vI f (sF f a) (Ad f a) (Af f a)
end VL
namespace VL
open Go Vx
def tz (n:Nat):Nat:=if n=0 then 0 else if n%2=1 then 0 else tz (n/2)+1
termination_by n
decreasing_by omega
theorem Yg:∀ (t k:Nat),tz (2^t*(2*k+1))=t
 | 0,k=>by
  rw [tz,Nat.pow_zero,Nat.one_mul,if_neg (by omega),if_pos (by omega)]
 | t+1,k=>by
  have e:2^(t+1)*(2*k+1)=2*(2^t*(2*k+1)):=by rw [Nat.pow_succ,Nat.mul_comm (2^t) 2,Nat.mul_assoc]
  have hp:0<2^t*(2*k+1):=Nat.mul_pos (Nat.two_pow_pos t) (by omega)
  have ih:=Yg t k
  rw [e]
  generalize 2^t*(2*k+1)=n at *
  rw [tz,if_neg (by omega),if_neg (by omega),show 2*n/2=n by omega,ih]
theorem Uf {n:Nat} (h:n≠0):∃ k,n=2^tz n*(2*k+1):=by
 obtain ⟨t,k,e⟩:=sX (x:=n) (by omega)
 refine ⟨k,?_⟩
 have:=Yg t k
 rw [← e] at this
 rw [this]; exact e
theorem aLn {x i t k r:Nat} (hx:x=2^t*(2*k+1)) (ht:t<64):(2^64)^i*(x+2^64*r)=2^(64*i+t)*(2*(k+2^(64-t-1)*r)+1):=by
 have h1:2^64=2^t*(2^(64-t-1)*2):=by rw [← Nat.pow_succ,← Nat.pow_add]; congr 1; omega
 rw [Cw,hx,Nat.pow_add,Nat.mul_assoc]
 congr 1
 rw [h1,Nat.mul_assoc,← Nat.mul_add]
 congr 1
 rw [Nat.mul_assoc,Nat.mul_left_comm]
 omega
abbrev iI:=Aa (.pair (.bool) (.pair (.slice (.int .u64)) (.pair (.int .i64) (.unit))))
def dy (s:Bool) (n:Nat) (e:Int):iI:=(s,Dw n,e,())
theorem aAl:dy false 0 0=(false,[],0,()):=by unfold dy; rw [DB]
theorem nJ (i:Nat) (h:i<=1000000):Bz .i64 ((64*i:Nat):Int) 64=(i:Int):=by
 rw [X3 _ (by omega),show 64*i/64=i by omega]
theorem aH8 (n:Nat) (h0:n≠0) (hl:(dg (2^64) n).length<=1000000) (M:RY Gn.mem) :
  Ys (((0:Int),(Dw n,((),((),())))),M)=some (.inl ((((64*(tz n/64):Nat):Int),(Dw n,((),((),())))),M)):=by
 have key:=Do (aA4 Bg.pre Bg.F BG.pre BG.F DS.pre DS.F) (fun x=>(dg (2^64) n).length-x.1.1.toNat/64)
  (fun x=>∃ i:Nat,i<=(dg (2^64) n).length/\nv (2^64) ((dg (2^64) n).take i)=0/\x=((((64*i:Nat):Int),(Dw n,((),((),())))),M))
  (fun _=>.inl ((((64*(tz n/64):Nat):Int),(Dw n,((),((),())))),M)) ?_ (((0:Int),(Dw n,((),((),())))),M) ⟨0,Nat.zero_le _,rfl,rfl⟩
 ·exact key
 intro L x hx hL
 obtain ⟨i,hi,hz,rfl⟩:=hx
 have hnv:=Cd n
 have ha:=F8 (B:=2^64) (by decide) n
 have hlt:i<(dg (2^64) n).length:=by
  rcases Nat.lt_or_ge i (dg (2^64) n).length with h | h
  ·exact h
  ·rw [List.take_of_length_le h,hnv] at hz; exact absurd hz h0
 unfold VP
 have e64:IntKind.wrap .i64 (((64*i:Nat):Int)+64)=((64*(i+1):Nat):Int):=by rw [As (by omega)]; omega
 have hxl:=Cq (by decide) ha i
 unfold Dw at hL ⊢
 rcases Nat.eq_zero_or_pos ((dg (2^64) n).getD i 0) with hw | hw
 ·simp (disch:=omega) only [nJ,B8,BL,BW,BC,Bj,B0,BN,BO,BZ,B7,BV,B3,B6,B9,Cb,BT,BY,BJ,AX,Bv,AU,Bh,BE,Int.toNat_natCast,Int.toNat_zero,cond_true,cond_false,Bool.and_self,Bool.true_and,Bool.and_true,Bool.false_and,Bool.and_false,Bool.not_true,Bool.not_false,Bool.or_self,Bool.true_or,Bool.or_true,Bool.false_or,Bool.or_false,AA,Cc,e64]
  refine hL _ ⟨i+1,by omega,?_,rfl⟩ (by simp only [Int.toNat_natCast]; omega)
  rw [Wf _ _ _ hlt,hz,hw,Nat.mul_zero]
 ·simp (disch:=omega) only [nJ,B8,BL,BW,BC,Bj,B0,BN,BO,BZ,B7,BV,B3,B6,B9,Cb,BT,BY,BJ,AX,Bv,AU,Bh,BE,Int.toNat_natCast,Int.toNat_zero,cond_true,cond_false,Bool.and_self,Bool.true_and,Bool.and_true,Bool.false_and,Bool.and_false,Bool.not_true,Bool.not_false,Bool.or_self,Bool.true_or,Bool.or_true,Bool.false_or,Bool.or_false,AA,Cc]
  obtain ⟨t,k,e⟩:=sX hw
  have ht:t<64:=by
   have h1:2^t*1<=2^t*(2*k+1):=Nat.mul_le_mul_left _ (by omega)
   exact (Nat.pow_lt_pow_iff_right (a:=2) (by decide)).1 (by omega)
  have hv:n=(2^64)^i*((dg (2^64) n).getD i 0+2^64*nv (2^64) ((dg (2^64) n).drop (i+1))):=by
   have h1:=Ka (2^64) (dg (2^64) n) i hi
   rw [hnv,hz,Nat.zero_add,To _ _ _ hlt] at h1
   exact h1
  rw [aLn e ht] at hv
  have htz:tz n=64*i+t:=by rw [hv]; exact Yg _ _
  rw [htz,show (64*i+t)/64=i by omega]
theorem aOi (s:Bool) (l:List Nat) (hl:Ws l) (e:Int) (he:-100000000<=e/\e<=100000000) :
  E5 ((s,Wd l,e,()),())=some (if nv (2^64) l=0 then dy false 0 0 else dy s (nv (2^64) l/2^tz (nv (2^64) l)) (e+tz (nv (2^64) l)),()):=by
 show dA Bg.pre Bg.F BG.pre BG.F DS.pre DS.F Ys (s,Wd l,e,())=_
 unfold dA
 dsimp only
 have p0:=XN l hl
 simp only [Vc p0,TX p0,cond_true]
 have hlt:=DR (B:=2^64) (by decide) l hl.1
 have hll:=hl.2
 generalize hn:nv (2^64) l=n at *
 have hdl:(dg (2^64) n).length<=1000000:=Nat.le_trans (CZ (by decide) _ _ hlt) hll
 by_cases h0:n=0
 ·subst h0
  rw [DB,if_pos rfl,aAl]; rfl
 ·have hlen:(((Dw n).length:Int)==0)=false:=AU _ (by have:=Jl h0; omega)
  rw [hlen,cond_false,if_neg h0]
  have hw:=aH8 n h0 hdl ((s,Wd l,e,()),(false,[],0,()),())
  rw [show Ys (((0:Int),(Dw n,((),((),())))),((s,Wd l,e,()),((false,([],((0:Int),()))),())))=_ from hw]
  dsimp only [A1,A6]
  obtain ⟨k,hk⟩:=Uf h0
  have htl:tz n/64<(dg (2^64) n).length:=by
   rcases Nat.lt_or_ge (tz n/64) (dg (2^64) n).length with h | h
   ·exact h
   ·exfalso
    have h1:=Sw (B:=2^64) (by decide) n
    rw [Cw] at h1
    have h2:2^(64*(dg (2^64) n).length)<=2^tz n:=Nat.pow_le_pow_right (by decide) (by omega)
    have h3:2^tz n*1<=2^tz n*(2*k+1):=Nat.mul_le_mul_left _ (by omega)
    omega
  have hword:∃ k',(dg (2^64) n).getD (tz n/64) 0=2^(tz n%64)*(2*k'+1):=by
   have h1:(dg (2^64) n).getD (tz n/64) 0=n/(2^64)^(tz n/64)%2^64:=by
    have h2:dg (2^64) n=pd (2^64) (dg (2^64) n).length n:=mG (by decide) (F8 (by decide) n) rfl (Cd n)
    rw [h2,W8 _ _ _ _ htl]
   have h3:n/(2^64)^(tz n/64)=2^(tz n%64)*(2*k+1):=by
    have h4:2^tz n=(2^64)^(tz n/64)*2^(tz n%64):=by rw [Cw,← Nat.pow_add]; congr 1; omega
    have h5:n=(2^64)^(tz n/64)*(2^(tz n%64)*(2*k+1)):=by rw [← Nat.mul_assoc,← h4]; exact hk
    have h6:=Nat.mul_div_cancel_left (2^(tz n%64)*(2*k+1)) (show 0<(2^64)^(tz n/64) from Nat.pow_pos (by decide))
    rw [← h5] at h6
    exact h6
   rw [h1,h3]
   have hr:tz n%64<64:=Nat.mod_lt _ (by decide)
   generalize tz n%64=r at *
   have h6:2^64=2^r*(2^(64-r-1)*2):=by rw [← Nat.pow_succ,← Nat.pow_add]; congr 1; omega
   rw [h6,Nat.mul_mod_mul_left]
   refine ⟨(2*k+1)%(2^(64-r-1)*2)/2,?_⟩
   congr 1
   have h7:(2*k+1)%(2^(64-r-1)*2)%2=(2*k+1)%2:=Nat.mod_mod_of_dvd _ ⟨_,Nat.mul_comm _ _⟩
   omega
  obtain ⟨k',hk'⟩:=hword
  have hwl:=Cq (B:=2^64) (by decide) (F8 (by decide) n) (tz n/64)
  have p1:=fY (t:=tz n%64) (k:=k') (by rw [← hk']; exact hwl)
  rw [← hk'] at p1
  have p2:=aGD (dg (2^64) n) (aBW n hdl) (tz n) (by omega)
  rw [Cd] at p2
  have e1:IntKind.wrap .i64 (((64*(tz n/64):Nat):Int)+((tz n%64:Nat):Int))=(tz n:Int):=by rw [As (by omega)]; omega
  have e2:IntKind.wrap .i64 (e+(tz n:Int))=e+(tz n:Int):=As (by omega)
  have hg:decide (((tz n/64:Nat):Int)<((dg (2^64) n).length:Int))=true:=decide_eq_true (by omega)
  unfold Dw at *
  simp (disch:=omega) only [nJ,B8,BL,BW,BC,Bj,B0,BN,BO,BZ,B7,BV,B3,B6,B9,Cb,BT,BY,BJ,AX,Bv,AU,Bh,BE,Int.toNat_natCast,Int.toNat_zero,cond_true,cond_false,Bool.and_self,Bool.true_and,Bool.and_true,Bool.false_and,Bool.and_false,Bool.not_true,Bool.not_false,Bool.or_self,Bool.true_or,Bool.or_true,Bool.false_or,Bool.or_false,AA,Cc,i7 p1,Z2 p1,e1,Lh p2,KB p2,e2]
  rfl
theorem YI (s:Bool) {n:Nat} (hn:n<(2^64)^5000) (e:Int) (he:-100000000<=e/\e<=100000000) :
  E5 (dy s n e,())=some (if n=0 then dy false 0 0 else dy s (n/2^tz n) (e+tz n),()):=by
 have:=aOi s (dg (2^64) n) (Ds hn) e he
 rw [Cd] at this
 exact this
theorem aB7 (k:Nat):tz (2*k+1)=0:=by have:=Yg 0 k; rwa [Nat.pow_zero,Nat.one_mul] at this
theorem aIe {l:List Nat} {i:Nat} (h:i<l.length):l.set i (l.getD i 0)=l:=by
 rw [List.getD_eq_getElem?_getD,List.getElem?_eq_getElem h]
 exact List.set_getElem_self h
theorem aJR (a:List Nat) (ha:∀ x∈a,x<2^64) (hlen:a.length<=1000000) (w s:Nat) (hs:s<64) (hw:w<=10000000) (i:Nat) (hi:i<=a.length) :
  aE (((a.length:Int),(Wd a,((w:Int),((s:Int),((i:Int),((),())))))),(Wd (pd (2^64) (w+a.length+1) (2^(64*w+s)*nv (2^64) (a.take i))),()))=some (.inl (((),()),(Wd (pd (2^64) (w+a.length+1) (2^(64*w+s)*nv (2^64) a)),()))):=by
 have key:=Do (aEa Bg.pre Bg.F) (fun x=>a.length-x.1.2.2.2.2.1.toNat)
  (fun x=>∃ i:Nat,i<=a.length/\x=(((a.length:Int),(Wd a,((w:Int),((s:Int),((i:Int),((),())))))),(Wd (pd (2^64) (w+a.length+1) (2^(64*w+s)*nv (2^64) (a.take i))),())))
  (fun _=>.inl (((),()),(Wd (pd (2^64) (w+a.length+1) (2^(64*w+s)*nv (2^64) a)),()))) ?_ _ ⟨i,hi,rfl⟩
 ·exact key
 intro L x hx hL
 obtain ⟨i,hi,rfl⟩:=hx
 unfold UH
 rcases Nat.lt_or_ge i a.length with hlt | hge
 ·have hxl:=Cq (by decide) ha i
  have ht:=DR (B:=2^64) (by decide) (a.take i) fun x hx=>ha x (List.mem_of_mem_take hx)
  rw [List.length_take,Nat.min_eq_left (by omega),Cw] at ht
  have hV:2^(64*w+s)*nv (2^64) (a.take i)<2^(64*(w+i)+s):=by
   have e:64*(w+i)+s=(64*w+s)+64*i:=by omega
   rw [e,Nat.pow_add _ (64*w+s)]
   exact Nat.mul_lt_mul_of_pos_left ht (Nat.two_pow_pos _)
  have hnext:=Wf (2^64) a i hlt
  have hgo:=hL (((a.length:Int),(Wd a,((w:Int),((s:Int),(((i+1:Nat):Int),((),())))))),(Wd (pd (2^64) (w+a.length+1) (2^(64*w+s)*nv (2^64) (a.take (i+1)))),())) ⟨i+1,by omega,rfl⟩ (by simp only [Int.toNat_natCast]; omega)
  rw [hnext,Nat.mul_add,← Nat.mul_assoc,show 2^(64*w+s)*(2^64)^i=2^(64*(w+i)+s) by rw [Cw,← Nat.pow_add]; congr 1; omega] at hgo
  have hz1:(pd (2^64) (w+a.length+1) (2^(64*w+s)*nv (2^64) (a.take i))).getD (w+i+1) 0=0:=by
   rw [W8 _ _ _ _ (by omega),Cw]
   have h64:2^(64*(w+i)+s)<=2^(64*(w+i+1)):=Nat.pow_le_pow_right (by decide) (by omega)
   rw [Nat.div_eq_of_lt (by omega)]
  generalize hout:pd (2^64) (w+a.length+1) (2^(64*w+s)*nv (2^64) (a.take i))=out at *
  obtain ⟨q1,q2,q3⟩:=aAQ (k:=w+i) hs hout.symm (by omega) hV hxl
  have hol:out.length=w+a.length+1:=by rw [← hout,E6]
  have g1:a.getD i 0*2^s%2^64=(a.getD i 0%2^(64-s))*2^s:=by
   have:2^64=2^(64-s)*2^s:=by rw [← Nat.pow_add]; congr 1; omega
   rw [this,Nat.mul_mod_mul_right]
  have e8:IntKind.wrap .u64 (64-(s:Int))=((64-s:Nat):Int):=by rw [D9 (by omega)]; omega
  rcases Nat.eq_zero_or_pos s with hs0 | hs0
  ·have hq:out.set (w+i) (out.getD (w+i) 0+a.getD i 0%2^(64-s)*2^s)=pd (2^64) (w+a.length+1) (2^(64*w+s)*nv (2^64) (a.take i)+2^(64*(w+i)+s)*a.getD i 0):=by
    rw [← q3]
    have hd:a.getD i 0/2^(64-s)=0:=by rw [hs0]; exact Nat.div_eq_of_lt hxl
    have hg:(out.set (w+i) (out.getD (w+i) 0+a.getD i 0%2^(64-s)*2^s)).getD (w+i+1) 0=0:=by rw [aCm (by omega)]; exact hz1
    rw [hd]
    have:=aIe (l:=out.set (w+i) (out.getD (w+i) 0+a.getD i 0%2^(64-s)*2^s)) (i:=w+i+1) (by rw [List.length_set]; omega)
    rw [hg] at this
    exact this.symm
   simp (disch:=omega) only [B8,BL,BW,BC,Bj,B0,BN,BO,BZ,B7,BV,B3,B6,B9,Cb,BT,BY,BJ,AX,Bv,AU,Bh,BE,Int.toNat_natCast,Int.toNat_zero,cond_true,cond_false,Bool.and_self,Bool.true_and,Bool.and_true,Bool.false_and,Bool.and_false,Bool.not_true,Bool.not_false,Bool.or_self,Bool.true_or,Bool.or_true,Bool.false_or,Bool.or_false,AA,Cc,Ek _ s (by omega),g1,FJ q1 q2,D0,hq]
   exact hgo
  ·simp (disch:=omega) only [B8,BL,BW,BC,Bj,B0,BN,BO,BZ,B7,BV,B3,B6,B9,Cb,BT,BY,BJ,AX,Bv,AU,Bh,BE,Int.toNat_natCast,Int.toNat_zero,cond_true,cond_false,Bool.and_self,Bool.true_and,Bool.and_true,Bool.false_and,Bool.and_false,Bool.not_true,Bool.not_false,Bool.or_self,Bool.true_or,Bool.or_true,Bool.false_or,Bool.or_false,AA,Cc,e8,Ek _ s (by omega),Dy _ (64-s) (by omega),g1,FJ q1 q2,D0,List.length_set,q3]
   exact hgo
 ·have e:i=a.length:=by omega
  subst e
  rw [List.take_length]
  simp (disch:=omega) only [B8,BL,BW,BC,Bj,B0,BN,BO,BZ,B7,BV,B3,B6,B9,Cb,BT,BY,BJ,AX,Bv,AU,Bh,BE,Int.toNat_natCast,Int.toNat_zero,cond_true,cond_false,Bool.and_self,Bool.true_and,Bool.and_true,Bool.false_and,Bool.and_false,Bool.not_true,Bool.not_false,Bool.or_self,Bool.true_or,Bool.or_true,Bool.false_or,Bool.or_false]
theorem zT {x:Nat} (hx:x<(2^64)^5000) (n:Nat) (hn:n<=1000000):V0 (Dw x,(n:Int),())=some (Dw (x*2^n),()):=by
 show aC Bg.pre Bg.F aE (Dw x) n=_
 unfold aC
 have hws:=Ds hx
 have hl:(dg (2^64) x).length<=5000:=CZ (by decide) _ _ hx
 have hv:=Cd x
 by_cases h0:x=0
 ·subst h0
  rw [DB,Nat.zero_mul,DB]; rfl
 ·have hlen:(((Dw x).length:Int)==0)=false:=AU _ (by have:=Jl h0; omega)
  rw [hlen,cond_false]
  have e4:Int.tmod (n:Int) 64=((n%64:Nat):Int):=rfl
  have e5:IntKind.wrap .u64 ((n%64:Nat):Int)=((n%64:Nat):Int):=dC _ (by omega)
  have hw:=aJR (dg (2^64) x) hws.1 (by omega) (n/64) (n%64) (Nat.mod_lt _ (by decide)) (by omega) 0 (Nat.zero_le _)
  rw [show nv (2^64) ((dg (2^64) x).take 0)=0 by rfl,Nat.mul_zero,wN,show 64*(n/64)+n%64=n by omega,show ((0:Nat):Int)=0 from rfl,hv] at hw
  have e3:decide (((n/64+(dg (2^64) x).length+1:Nat):Int)*8<=140737488355328)=true:=decide_eq_true (by omega)
  have hV:2^n*x<(2^64)^(n/64+(dg (2^64) x).length+1):=by
   have:=Sw (B:=2^64) (by decide) x
   rw [Cw] at this ⊢
   have h1:2^n*x<2^n*2^(64*(dg (2^64) x).length):=Nat.mul_lt_mul_of_pos_left this (Nat.two_pow_pos _)
   rw [← Nat.pow_add] at h1
   exact Nat.lt_of_lt_of_le h1 (Nat.pow_le_pow_right (by decide) (by omega))
  have p1:=XN (pd (2^64) (n/64+(dg (2^64) x).length+1) (2^n*x)) ⟨SF (by decide) _ _,by rw [E6]; omega⟩
  rw [RN (by decide) _ _ hV,Nat.mul_comm (2^n)] at p1
  rw [Nat.mul_comm (2^n)] at hw
  unfold Dw at *
  simp (disch:=omega) only [B8,BL,BW,BC,Bj,B0,BN,BO,BZ,B7,BV,B3,B6,B9,Cb,BT,BY,BJ,AX,Bv,AU,Bh,BE,Int.toNat_natCast,Int.toNat_zero,cond_true,cond_false,Bool.and_self,Bool.true_and,Bool.and_true,Bool.false_and,Bool.and_false,Bool.not_true,Bool.not_false,Bool.or_self,Bool.true_or,Bool.or_true,Bool.false_or,Bool.or_false,AA,X3 n (by omega),e4,e5,e3,Sj,hw]
  generalize pd (2^64) (n/64+(dg (2^64) x).length+1) (x*2^n)=out at *
  show (bif Bg.pre (Wd out,()) then some (Bg.F (Wd out,())) else none)=_
  rw [Vc p1,TX p1]
  rfl
end VL
namespace VL
open Go Vx
theorem aT1 (a b:List Nat) (ha:∀ x∈a,x<2^64) (hb:∀ x∈b,x<2^64) (hla:a.length<=1000000) (hab:a.length=b.length) :
  dB ((Wd a,(Wd b,((a.length:Int)-1,()))),())=some (if nv (2^64) a=nv (2^64) b then .inl ((),()) else .inr (((if nv (2^64) a<nv (2^64) b then (-1:Int) else 1),()),())):=by
 have key:=Do (aEC Ag.pre Ag.F) (fun x=>(x.1.2.2.1+1).toNat)
  (fun x=>∃ j:Nat,j<=a.length/\nv (2^64) (a.drop j)=nv (2^64) (b.drop j)/\x=((Wd a,(Wd b,((j:Int)-1,()))),()))
  (fun _=>if nv (2^64) a=nv (2^64) b then .inl ((),()) else .inr (((if nv (2^64) a<nv (2^64) b then (-1:Int) else 1),()),())) ?_ ((Wd a,(Wd b,((a.length:Int)-1,()))),())
  ⟨a.length,Nat.le_refl _,by rw [List.drop_length,hab,List.drop_length],rfl⟩
 ·exact key
 intro L x hx hL
 obtain ⟨j,hj,hd,rfl⟩:=hx
 unfold VX
 rcases j with _ | i
 ·have e1:decide ((((0:Nat):Int)-1)>=0)=false:=rfl
  rw [List.drop_zero,List.drop_zero] at hd
  simp only [e1,cond_false,if_pos hd]
 ·have e0:(((i+1:Nat):Int)-1)=(i:Int):=by omega
  have e2:IntKind.wrap .i64 ((i:Int)-1)=(i:Int)-1:=As (by omega)
  have e3:decide ((i:Int)>=0)=true:=decide_eq_true (by omega)
  simp (disch:=omega) only [e0,e2,e3,B8,BL,BW,BC,Bj,B0,BN,BO,BZ,B7,BV,B3,B6,B9,Cb,BT,BY,BJ,AX,Bv,AU,Bh,BE,Int.toNat_natCast,Int.toNat_zero,cond_true,cond_false,Bool.and_self,Bool.true_and,Bool.and_true,Bool.false_and,Bool.and_false,Bool.not_true,Bool.not_false,Bool.or_self,Bool.true_or,Bool.or_true,Bool.false_or,Bool.or_false,AA,Cc]
  rcases Nat.lt_trichotomy (a.getD i 0) (b.getD i 0) with h | h | h
  ·have hr:=Nw (by decide) ha (by omega) (by omega) hd h
   simp (disch:=omega) only [B8,BL,BW,BC,Bj,B0,BN,BO,BZ,B7,BV,B3,B6,B9,Cb,BT,BY,BJ,AX,Bv,AU,Bh,BE,Int.toNat_natCast,Int.toNat_zero,cond_true,cond_false,Bool.and_self,Bool.true_and,Bool.and_true,Bool.false_and,Bool.and_false,Bool.not_true,Bool.not_false,Bool.or_self,Bool.true_or,Bool.or_true,Bool.false_or,Bool.or_false]
   rw [if_neg (by omega),if_pos hr]
  ·simp (disch:=omega) only [B8,BL,BW,BC,Bj,B0,BN,BO,BZ,B7,BV,B3,B6,B9,Cb,BT,BY,BJ,AX,Bv,AU,Bh,BE,Int.toNat_natCast,Int.toNat_zero,cond_true,cond_false,Bool.and_self,Bool.true_and,Bool.and_true,Bool.false_and,Bool.and_false,Bool.not_true,Bool.not_false,Bool.or_self,Bool.true_or,Bool.or_true,Bool.false_or,Bool.or_false]
   refine hL _ ⟨i,by omega,?_,rfl⟩ (by simp only [Int.toNat_natCast]; omega)
   rw [To _ a i (by omega),To _ b i (by omega),hd,h]
  ·have hr:=Nw (by decide) hb (by omega) (by omega) hd.symm h
   simp (disch:=omega) only [B8,BL,BW,BC,Bj,B0,BN,BO,BZ,B7,BV,B3,B6,B9,Cb,BT,BY,BJ,AX,Bv,AU,Bh,BE,Int.toNat_natCast,Int.toNat_zero,cond_true,cond_false,Bool.and_self,Bool.true_and,Bool.and_true,Bool.false_and,Bool.and_false,Bool.not_true,Bool.not_false,Bool.or_self,Bool.true_or,Bool.or_true,Bool.false_or,Bool.or_false]
   rw [if_neg (by omega),if_neg (by omega)]
theorem Nn {x:Nat} (hx:x<(2^64)^5000):Sa (Dw x,())=some (Dw x,()):=by
 have:=Eh (dg (2^64) x) (Ds hx).2
 rw [OJ (by decide)] at this
 exact this
theorem aI {x y:Nat} (hx:x<(2^64)^5000) (hy:y<(2^64)^5000):V9 (Dw x,Dw y,())=some (if x=y then 0 else if x<y then -1 else 1,()):=by
 show kX Ag.pre Ag.F dB (Dw x) (Dw y)=_
 unfold kX
 have p0:=Nn hx
 have p1:=Nn hy
 have hX:=Ds hx
 have hY:=Ds hy
 have hlx:=hX.2
 simp only [C0 p0,CV p0,C0 p1,CV p1,cond_true]
 clear p0 p1
 rcases Nat.lt_trichotomy (dg (2^64) x).length (dg (2^64) y).length with h | h | h
 ·have hr:=vH (by decide) h
  unfold Dw
  simp (disch:=omega) only [B8,BL,BW,BC,Bj,B0,BN,BO,BZ,B7,BV,B3,B6,B9,Cb,BT,BY,BJ,AX,Bv,AU,Bh,BE,Int.toNat_natCast,Int.toNat_zero,cond_true,cond_false,Bool.and_self,Bool.true_and,Bool.and_true,Bool.false_and,Bool.and_false,Bool.not_true,Bool.not_false,Bool.or_self,Bool.true_or,Bool.or_true,Bool.false_or,Bool.or_false,AA]
  rw [if_neg (by omega),if_pos hr]
 ·have hw:=aT1 _ _ hX.1 hY.1 hlx h
  rw [Cd,Cd] at hw
  have e2:IntKind.wrap .i64 (((dg (2^64) x).length:Int)-1)=((dg (2^64) x).length:Int)-1:=As (by omega)
  unfold Dw
  simp (disch:=omega) only [B8,BL,BW,BC,Bj,B0,BN,BO,BZ,B7,BV,B3,B6,B9,Cb,BT,BY,BJ,AX,Bv,AU,Bh,BE,Int.toNat_natCast,Int.toNat_zero,cond_true,cond_false,Bool.and_self,Bool.true_and,Bool.and_true,Bool.false_and,Bool.and_false,Bool.not_true,Bool.not_false,Bool.or_self,Bool.true_or,Bool.or_true,Bool.false_or,Bool.or_false,AA,e2,hw]
  by_cases he:x=y
  ·rw [if_pos he,if_pos he]; first | rfl | skip
  ·rw [if_neg he,if_neg he]; first | rfl | skip
 ·have hr:=vH (by decide) h
  unfold Dw
  simp (disch:=omega) only [B8,BL,BW,BC,Bj,B0,BN,BO,BZ,B7,BV,B3,B6,B9,Cb,BT,BY,BJ,AX,Bv,AU,Bh,BE,Int.toNat_natCast,Int.toNat_zero,cond_true,cond_false,Bool.and_self,Bool.true_and,Bool.and_true,Bool.false_and,Bool.and_false,Bool.not_true,Bool.not_false,Bool.or_self,Bool.true_or,Bool.or_true,Bool.false_or,Bool.or_false,AA]
  rw [if_neg (by omega),if_neg (by omega)]
theorem Yz {out a:List Nat} {i v:Nat} (hol:out.length=i) (h:i<a.length):(out++a.drop i).set i v=(out++[v])++a.drop (i+1):=by
 rw [List.set_append_right _ _ (by omega),hol,Nat.sub_self,List.drop_eq_getElem_cons h,List.set_cons_zero,List.append_assoc]
 rfl
theorem aLX {out a:List Nat} {i:Nat} (hol:out.length=i):(out++a.drop i).getD i 0=a.getD i 0:=by
 rw [List.getD_eq_getElem?_getD,List.getElem?_append_right (by omega),hol,Nat.sub_self,List.getElem?_drop,Nat.add_zero,← List.getD_eq_getElem?_getD]
theorem aU2 (a b:List Nat) (ha:∀ x∈a,x<2^64) (hb:∀ x∈b,x<2^64) (hla:a.length<=1000000) (hba:b.length<=a.length) (hv:nv (2^64) b<=nv (2^64) a) :
  ZM (((a.length:Int),(Wd b,((0:Int),((0:Int),((),()))))),(Wd a,()))=some (.inl (((),()),(Wd (pd (2^64) a.length (nv (2^64) a-nv (2^64) b)),()))):=by
 have key:=Do (aGb Cf.pre Cf.F A5.pre A5.F Ag.pre Ag.F) (fun x=>a.length-x.1.2.2.2.1.toNat)
  (fun x=>∃ (i:Nat) (out:List Nat) (c:Nat),i<=a.length/\out.length=i/\(∀ x∈out,x<2^64)/\c<=1/\nv (2^64) (a.take i)+(2^64)^i*c=nv (2^64) (b.take i)+nv (2^64) out /\
   x=(((a.length:Int),(Wd b,((c:Int),((i:Int),((),()))))),(Wd (out++a.drop i),())))
  (fun _=>.inl (((),()),(Wd (pd (2^64) a.length (nv (2^64) a-nv (2^64) b)),()))) ?_ (((a.length:Int),(Wd b,((0:Int),((0:Int),((),()))))),(Wd a,()))
  ⟨0,[],0,Nat.zero_le _,rfl,(fun x hx=>by simp at hx),by decide,by simp [nv],rfl⟩
 ·exact key
 intro L x hx hL
 obtain ⟨i,out,c,hi,hol,hod,hc,hov,rfl⟩:=hx
 unfold VD
 rcases Nat.lt_or_ge i a.length with hlt | hge
 ·have hxa:=Cq (by decide) ha i
  have hxb:=Cq (by decide) hb i
  have hna:=Ev (2^64) a i
  have hnb:=Ev (2^64) b i
  have hzb:b.length<=i->b.getD i 0=0:=fun h=>by rw [List.getD_eq_getElem?_getD,List.getElem?_eq_none h]; rfl
  have hset:=fun v=>Yz (v:=v) hol hlt
  have hlen:(out++a.drop i).length=a.length:=by simp; omega
  have hget:=aLX (a:=a) hol
  generalize hda:a.getD i 0=da at *
  generalize hdb:b.getD i 0=db at *
  have hgo:∀ c' v:Nat,c'<=1->v<2^64->da+2^64*c'=db+c+v->L (((a.length:Int),(Wd b,((c':Int),(((i+1:Nat):Int),((),()))))),(Wd (out++[v]++a.drop (i+1)),()))=_:=fun c' v h1 h2 h3 =>
   hL _ ⟨i+1,out++[v],c',by omega,by simp; omega,Y4 hod h2,h1,by
    rw [hna,hnb,Wt,hol,Nat.pow_succ]
    exact aMQ hov h3,rfl⟩ (by simp only [Int.toNat_natCast]; omega)
  have hgo2:=hgo (if da<db+c then 1 else 0) ((da+2^64-db-c)%2^64) (by split <;> omega) (Nat.mod_lt _ (by decide)) (by split <;> omega)
  have hF:=WJ da db c hc hxa hxb
  have hP:=Ym (da:Int) (db:Int) c hc
  rcases Nat.lt_or_ge i b.length with hib | hib
  ·simp (disch:=omega) only [B8,BL,BW,BC,Bj,B0,BN,BO,BZ,B7,BV,B3,B6,B9,Cb,BT,BY,BJ,AX,Bv,AU,Bh,BE,Int.toNat_natCast,Int.toNat_zero,cond_true,cond_false,Bool.and_self,Bool.true_and,Bool.and_true,Bool.false_and,Bool.and_false,Bool.not_true,Bool.not_false,Bool.or_self,Bool.true_or,Bool.or_true,Bool.false_or,Bool.or_false,AA,Cc,hdb,hget,hF,hP,hlen,D0,hset]
   exact hgo2
  ·have h0:=hzb hib
   rw [h0] at hF hP
   simp (disch:=omega) only [B8,BL,BW,BC,Bj,B0,BN,BO,BZ,B7,BV,B3,B6,B9,Cb,BT,BY,BJ,AX,Bv,AU,Bh,BE,Int.toNat_natCast,Int.toNat_zero,cond_true,cond_false,Bool.and_self,Bool.true_and,Bool.and_true,Bool.false_and,Bool.and_false,Bool.not_true,Bool.not_false,Bool.or_self,Bool.true_or,Bool.or_true,Bool.false_or,Bool.or_false,AA,Cc,hget]
   have hF':A5.F ((da:Int),((0:Int),((c:Int),())))=_:=hF
   have hP':A5.pre ((da:Int),((0:Int),((c:Int),())))=true:=hP
   rw [h0] at hgo2
   simp (disch:=omega) only [B8,BL,BW,BC,Bj,B0,BN,BO,BZ,B7,BV,B3,B6,B9,Cb,BT,BY,BJ,AX,Bv,AU,Bh,BE,Int.toNat_natCast,Int.toNat_zero,cond_true,cond_false,Bool.and_self,Bool.true_and,Bool.and_true,Bool.false_and,Bool.and_false,Bool.not_true,Bool.not_false,Bool.or_self,Bool.true_or,Bool.or_true,Bool.false_or,Bool.or_false,hF',hP',hlen,D0,hset]
   exact hgo2
 ·have e:i=a.length:=by omega
  subst e
  rw [List.take_length,List.take_of_length_le hba] at hov
  have hlt:=DR (B:=2^64) (by decide) out hod
  rw [hol] at hlt
  have hc0:(2^64)^a.length*c=0:=by
   rcases (show c=0∨c=1 by omega) with h | h
   ·rw [h,Nat.mul_zero]
   ·rw [h,Nat.mul_one] at hov; omega
  have ho:=mG (B:=2^64) (v:=nv (2^64) a-nv (2^64) b) (by decide) hod hol (by omega)
  rw [List.drop_length,List.append_nil]
  simp (disch:=omega) only [B8,BL,BW,BC,Bj,B0,BN,BO,BZ,B7,BV,B3,B6,B9,Cb,BT,BY,BJ,AX,Bv,AU,Bh,BE,Int.toNat_natCast,Int.toNat_zero,cond_true,cond_false,Bool.and_self,Bool.true_and,Bool.and_true,Bool.false_and,Bool.and_false,Bool.not_true,Bool.not_false,Bool.or_self,Bool.true_or,Bool.or_true,Bool.false_or,Bool.or_false,AA]
  rw [← ho]
theorem aCZ (l:List Nat) (hl:Ws l):RO (Wd l,())=some (Dw (nv (2^64) l),()):=by
 show dS Ag.pre Ag.F (Wd l)=_
 unfold dS
 have p0:=Eh l hl.2
 have hle:=(Eg l).1
 have h2:=hl.2
 have e3:decide ((((Ai l).length:Nat):Int)*8<=140737488355328)=true:=decide_eq_true (by omega)
 simp (disch:=omega) only [B8,BL,BW,BC,Bj,B0,BN,BO,BZ,B7,BV,B3,B6,B9,Cb,BT,BY,BJ,AX,Bv,AU,Bh,BE,Int.toNat_natCast,Int.toNat_zero,cond_true,cond_false,Bool.and_self,Bool.true_and,Bool.and_true,Bool.false_and,Bool.and_false,Bool.not_true,Bool.not_false,Bool.or_self,Bool.true_or,Bool.or_true,Bool.false_or,Bool.or_false,C0 p0,CV p0,AA,e3,List.length_replicate,List.drop_replicate,Nat.sub_self]
 rw [List.take_of_length_le (by rw [AA]; exact Nat.le_refl _),List.replicate_zero,List.append_nil,GE (by decide) l hl.1]
 rfl
theorem n4 {x y:Nat} (hx:x<(2^64)^5000) (h:y<=x):W3 (Dw x,Dw y,())=some (Dw (x-y),0,()):=by
 show iF M9.pre M9.F Dz.pre Dz.F Bm.pre Bm.F CU.pre CU.F Ag.pre Ag.F VH.pre VH.F (Dw x) (Dw y)=_
 unfold iF
 have hy:y<(2^64)^5000:=Nat.lt_of_le_of_lt h hx
 have p0:=aI hx hy
 have p1:=aCZ (dg (2^64) x) (Ds hx)
 rw [Cd] at p1
 have p1:RO (Dw x,())=some (Dw x,()):=p1
 have p2:=Nn hy
 have z1:decide ((if x=y then (0:Int) else if x<y then -1 else 1)<0)=false:=by
  by_cases he:x=y
  ·rw [if_pos he]; rfl
  ·rw [if_neg he,if_neg (by omega)]; rfl
 have hX:=Ds hx
 have hY:=Ds hy
 have hlx:=hX.2
 have p3:XD (Dw x,Dw y,())=some (Dw (x-y),()):=by
  show aN Cf.pre Cf.F A5.pre A5.F Ag.pre Ag.F ZM (Dw x) (Dw y)=_
  unfold aN
  have hw:=aU2 (dg (2^64) x) (dg (2^64) y) hX.1 hY.1 hlx (aHS (by decide) h) (by rw [Cd,Cd]; exact h)
  rw [Cd,Cd] at hw
  have q1:=aBi (pd (2^64) (dg (2^64) x).length (x-y)) (by rw [E6]; exact hlx)
  have hlt:=Sw (B:=2^64) (by decide) x
  rw [GE (by decide) _ (SF (by decide) _ _),RN (by decide) _ _ (by omega)] at q1
  rw [show (Dw x).length=(dg (2^64) x).length from AA _]
  rw [show ZM ((((dg (2^64) x).length:Int),(Dw y,((0:Int),((0:Int),((),()))))),(Dw x,()))=_ from hw]
  show (bif Cf.pre (Wd (pd (2^64) (dg (2^64) x).length (x-y)),()) then some (Cf.F (Wd (pd (2^64) (dg (2^64) x).length (x-y)),())) else none)=_
  simp only [aBf q1,yG q1,cond_true]
  rfl
 simp only [Zf p0,Wn p0,cond_true,z1,cond_false,qR p1,uL p1,C0 p2,CV p2,aUN p3,aLT p3]
def od (s:Bool) (n:Nat) (e:Int):Bool×Nat×Int:=if n=0 then (false,0,0) else (s,n/2^tz n,e+tz n)
def Ce (t:Bool×Nat×Int):iI:=dy t.1 t.2.1 t.2.2
theorem Xn (s:Bool) (n:Nat) (e:Int):(if n=0 then dy false 0 0 else dy s (n/2^tz n) (e+tz n))=Ce (od s n e):=by
 unfold od Ce
 split <;> rfl
theorem Em (s:Bool) (n:Nat) (e:Int):(od s n e=(false,0,0)/\n=0)∨((od s n e).1=s/\(od s n e).2.1%2=1/\n≠0/\n=2^tz n*(od s n e).2.1/\(od s n e).2.2=e+tz n):=by
 unfold od
 by_cases h:n=0
 ·rw [if_pos h]; exact .inl ⟨rfl,h⟩
 ·right
  rw [if_neg h]
  obtain ⟨k,hk⟩:=Uf h
  have hd:n/2^tz n=2*k+1:=by
   have:=Nat.mul_div_cancel_left (2*k+1) (Nat.two_pow_pos (tz n))
   rw [← hk] at this
   exact this
  dsimp only
  rw [hd]
  exact ⟨rfl,by omega,h,hk,rfl⟩
theorem TW {n k:Nat} (h:n<2^k) (h0:n≠0):tz n<k:=by
 obtain ⟨j,hj⟩:=Uf h0
 have h1:2^tz n*1<=2^tz n*(2*j+1):=Nat.mul_le_mul_left _ (by omega)
 exact (Nat.pow_lt_pow_iff_right (a:=2) (by decide)).1 (by omega)
theorem aOM (s:Bool) {n k:Nat} (e:Int) (hn:n<2^k) (he:-20000<=e/\e<=20000):(od s n e).2.1<2^k/\-20000<=(od s n e).2.2/\(od s n e).2.2<=20000+k:=by
 rcases Em s n e with ⟨h,_⟩ | ⟨_,h2,h3,h4,h5⟩
 ·rw [h]; exact ⟨Nat.two_pow_pos _,by dsimp only; omega,by dsimp only; omega⟩
 ·have hle:(od s n e).2.1<=n:=by
   have:=Nat.le_mul_of_pos_left (od s n e).2.1 (Nat.two_pow_pos (tz n))
   omega
  have:=TW hn h3
  refine ⟨by omega,by omega,by omega⟩
theorem LF {n k:Nat} (h:n<2^k) (hk:k<=64*2000):n<(2^64)^2000:=by
 rw [Cw]
 exact Nat.lt_of_lt_of_le h (Nat.pow_le_pow_right (by decide) hk)
theorem aB1 {n k:Nat} (h:n<2^k) (hk:k<=64*1000):(Dw n).length<=1000:=by
 unfold Dw; rw [AA]
 refine CZ (by decide) _ _ ?_
 rw [Cw]
 exact Nat.lt_of_lt_of_le h (Nat.pow_le_pow_right (by decide) hk)
theorem eI (s:Bool) {n k:Nat} (h:n<2^k) (hk:k<=64*1000) (e:Int) (he:-40000<=e/\e<=40000):H9 (dy s n e,())=some (0,()):=by
 show aZ (s,Dw n,e,())=_
 unfold aZ
 have:=aB1 h hk
 dsimp only
 rw [decide_eq_false (p:=((Dw n).length:Int)>1024) (by omega),decide_eq_false (p:=e < -40000) (by omega),decide_eq_false (p:=e>40000) (by omega)]
 rfl
theorem pC (s:Bool) {n:Nat} (h:n<2^6000) (e:Int) (he:-20000<=e/\e<=20000):PI (dy s n e,())=some (Ce (od s n e),0,()):=by
 show kA CN.pre CN.F (s,Dw n,e,())=_
 unfold kA
 have p0:=YI s (K9 (LF h (by decide))) e (by omega)
 rw [Xn] at p0
 have p0:E5 ((s,Dw n,e,()),())=some (Ce (od s n e),()):=p0
 have hb:=aOM s e h he
 have hl:=aB1 hb.1 (by decide)
 have e1:decide ((((Ce (od s n e)).2.1.length:Nat):Int)>1024)=false:=decide_eq_false (by
  show ¬ ((((Dw (od s n e).2.1).length:Nat):Int)>1024)
  omega)
 have e2:decide ((Ce (od s n e)).2.2.1 < -40000)=false:=decide_eq_false (by
  show ¬ ((od s n e).2.2 < -40000)
  omega)
 have e3:decide ((Ce (od s n e)).2.2.1>40000)=false:=decide_eq_false (by
  show ¬ ((od s n e).2.2>40000)
  omega)
 simp only [Nv p0,NY p0,cond_true,e1,e2,e3,cond_false,Bool.or_self]
theorem eW {x y:Nat} (hx:x<(2^64)^5000) (hy:y<(2^64)^5000):RP (Dw x,Dw y,())=some (Dw (x+y),()):=by
 have h1:(dg (2^64) x).length<=5000:=CZ (by decide) _ _ hx
 have h2:(dg (2^64) y).length<=5000:=CZ (by decide) _ _ hy
 have:=aFi (dg (2^64) x) (dg (2^64) y) (Ds hx) (Ds hy) (by rw [OJ (by decide)]; omega) (by rw [OJ (by decide)]; omega)
 rw [Cd,Cd] at this
 exact this
end VL
namespace VL
open Go Vx
theorem dN {x:Nat} (h0:x≠0) (h:x<2^64):Dw x=(x:Int)::[]:=by
 unfold Dw
 rw [FO (by decide) (by omega),Nat.mod_eq_of_lt h,Nat.div_eq_of_lt h,Ep]; rfl
theorem SX {f:Int} {a:Nat} (h:Am f a=0) (hfin:eF f a≠BF f):SD (f,(a:Int),())=some (Ce (od (sF f a) (Ad f a) (Af f a)),0,()):=by
 obtain ⟨hf,h0⟩:=CR h
 have ha:=KK h
 show Tf Ar.pre Ar.F Dn.pre Dn.F Br.pre Br.F BG.pre BG.F f a=_
 unfold Tf
 have h1:=Dr hf
 have h2:=ES hf
 have h3:=Ei hf
 have h4:=HK hf
 have h5:=E7 hf
 have h6:=Qk hf
 have hE:=R7 hf a
 have hM:=Sd f a
 have hPp:2^(fP f-1)<=2^52:=Nat.pow_le_pow_right (by decide) (by omega)
 have hpp:=Nat.two_pow_pos (fP f-1)
 have p0:=Eq f a ha
 have p1:=Zw (fW f-fP f) (by omega)
 have p2:=eD hf a ha
 have hr1:decide (0<=f)=true:=decide_eq_true hf.1
 have hr2:decide (f<((4:Nat):Int))=true:=decide_eq_true hf.2
 have r1:(Bp f).1=(fW f:Int):=rfl
 have r2:(Bp f).2.1=(fP f:Int):=rfl
 have r3:(Bp f).2.2.1=1-(fX f:Int):=rfl
 have e1:IntKind.wrap .i64 ((fW f:Int)-(fP f:Int))=((fW f-fP f:Nat):Int):=BC _ _ (by omega)
 have e2:IntKind.wrap .i64 ((fP f:Int)-1)=((fP f-1:Nat):Int):=Bj _ (by omega)
 have e3:AT .u64 1 ((fP f-1:Nat):Int)=((2^(fP f-1):Nat):Int):=JZ (by omega)
 have e4:AW .u64 (mF f a:Int) ((2^(fP f-1):Nat):Int)=((mF f a+2^(fP f-1):Nat):Int):=by
  have:=FJ (a:=mF f a) (b:=1) (k:=fP f-1) hM (by omega)
  rwa [Nat.one_mul] at this
 have hfl:(((eF f a:Nat):Int)==((2^(fW f-fP f)-1:Nat):Int))=false:=by
  rw [Il]; exact beq_eq_false_iff_ne.2 hfin
 have ew:∀ z:Int,-1000000<=z/\z<=1000000->IntKind.wrap .i64 z=z:=fun z hz=>As (by omega)
 simp only [jP hf,r1,r2,r3,hr1,hr2,DC p0,DD p0,jA p2,mM p2,h,cond_true,bne_self_eq_false,cond_false,e1,e2,e3,e4,XT p1,Xs p1,hfl,AX]
 by_cases hz:eF f a=0
 ·have hg:(((eF f a:Nat):Int)==0)=true:=Bv _ hz
  have hm:Ad f a=mF f a:=by unfold Ad; rw [if_pos hz]
  have hx:Af f a=1-(fX f:Int)-(fP f:Int)+1:=by unfold Af; rw [if_pos hz,Int.add_zero]
  rw [hg,cond_true,hm,hx]
  by_cases hm0:mF f a=0
  ·rw [Bv _ hm0,cond_true]
   unfold od Ce
   rw [if_pos hm0,aAl]
  ·obtain ⟨k,hk⟩:=Uf hm0
   have htl:=TW (n:=mF f a) (k:=53) (by omega) hm0
   have p3:=fY (t:=tz (mF f a)) (k:=k) (by omega)
   rw [← hk] at p3
   have hq:mF f a/2^tz (mF f a)≠0:=by
    have:=Nat.mul_div_cancel_left (2*k+1) (Nat.two_pow_pos (tz (mF f a)))
    rw [← hk] at this
    omega
   have hql:=Nat.div_le_self (mF f a) (2^tz (mF f a))
   rw [AU _ hm0,cond_false]
   simp only [i7 p3,Z2 p3,cond_true,AX,Dy (mF f a) (tz (mF f a)) (by omega)]
   rw [← dN hq (by omega)]
   unfold od Ce dy
   rw [if_neg hm0]
   rw [ew 1 (by omega),ew (1-1) (by omega),ew (1-1+_) (by omega),ew (1-1+_-_) (by omega),ew (1-1+_-_+1) (by omega),ew _ (by omega)]
   rw [show (1:Int)-1+(1-(fX f:Int))-(fP f:Int)+1+(tz (mF f a):Int)=1-(fX f:Int)-(fP f:Int)+1+(tz (mF f a):Int) by omega]
 ·have hg:(((eF f a:Nat):Int)==0)=false:=AU _ hz
  have hm:Ad f a=mF f a+2^(fP f-1):=by unfold Ad; rw [if_neg hz]
  have hx:Af f a=1-(fX f:Int)-(fP f:Int)+1+((eF f a:Int)-1):=by unfold Af; rw [if_neg hz]
  rw [hg,cond_false,hm,hx]
  have hm0:mF f a+2^(fP f-1)≠0:=by omega
  have hml:mF f a+2^(fP f-1)<2^54:=by omega
  generalize mF f a+2^(fP f-1)=n at *
  obtain ⟨k,hk⟩:=Uf hm0
  have htl:=TW hml hm0
  have p3:=fY (t:=tz n) (k:=k) (by rw [← hk]; omega)
  rw [← hk] at p3
  have hq:n/2^tz n≠0:=by
   have:=Nat.mul_div_cancel_left (2*k+1) (Nat.two_pow_pos (tz n))
   rw [← hk] at this
   omega
  have hql:=Nat.div_le_self n (2^tz n)
  rw [AU _ hm0,cond_false]
  simp only [i7 p3,Z2 p3,cond_true,AX,Dy n (tz n) (by omega)]
  rw [← dN hq (by omega)]
  unfold od Ce dy
  rw [if_neg hm0]
  rw [ew (eF f a:Int) (by omega),ew ((eF f a:Int)-1) (by omega),ew ((eF f a:Int)-1+_) (by omega),ew ((eF f a:Int)-1+_-_) (by omega),ew ((eF f a:Int)-1+_-_+1) (by omega),ew _ (by omega)]
  rw [show (eF f a:Int)-1+(1-(fX f:Int))-(fP f:Int)+1+(tz n:Int)=1-(fX f:Int)-(fP f:Int)+1+((eF f a:Int)-1)+(tz n:Int) by omega]
theorem aBC (s:Bool) (n:Nat) (e:Int):od (od s n e).1 (od s n e).2.1 (od s n e).2.2=od s n e:=by
 rcases Em s n e with ⟨h,_⟩ | ⟨_,h2,_,_,_⟩
 ·rw [h]; rfl
 ·obtain ⟨k,hk⟩:∃ k,(od s n e).2.1=2*k+1:=⟨(od s n e).2.1/2,by omega⟩
  generalize hD:od s n e=D at *
  obtain ⟨d1,d2,d3⟩:=D
  simp only at hk h2 ⊢
  subst hk
  unfold od
  rw [if_neg (by omega),aB7,Nat.pow_zero,Nat.div_one,Int.natCast_zero,Int.add_zero]
theorem Yq (s:Bool) {n:Nat} (e:Int) (hn:n<2^53) (he:-2000<=e/\e<=2000):(od s n e).2.1<2^53/\-2500<=(od s n e).2.2/\(od s n e).2.2<=2500:=by
 rcases Em s n e with ⟨h,_⟩ | ⟨_,h2,h3,h4,h5⟩
 ·rw [h]; exact ⟨Nat.two_pow_pos _,by dsimp only; omega,by dsimp only; omega⟩
 ·have hle:(od s n e).2.1<=n:=by
   have:=Nat.le_mul_of_pos_left (od s n e).2.1 (Nat.two_pow_pos (tz n))
   omega
  have:=TW hn h3
  refine ⟨by omega,by omega,by omega⟩
end VL
namespace VL
open Go Vx
theorem yZ {f:Int} (hf:Fm f):qm f<=0:=by
 have:=Qk hf
 have:=Dr hf
 unfold qm; omega
theorem aQy (f:Int) (s:Bool) (e:Int):vI f s 0 e=0:=by
 unfold vI; rw [Nat.zero_mul]; cases s <;> rfl
theorem aNO (s:Bool) {n:Nat} (hn:n<(2^64)^5000) (e:Int):VC (dy s n e,())=some (if n=0 then 0 else if s=true then -1 else 1,()):=by
 show bB Bg.pre Bg.F (s,Dw n,e,())=_
 unfold bB
 have p0:=XN (dg (2^64) n) (Ds hn)
 rw [Cd] at p0
 have p0:SM (Dw n,())=some (Dw n,()):=p0
 dsimp only
 simp only [Vc p0,TX p0,cond_true]
 by_cases h:n=0
 ·rw [if_pos h,h,DB]; rfl
 ·have hlen:(((Dw n).length:Int)==0)=false:=AU _ (by have:=Jl h; omega)
  rw [if_neg h,hlen,cond_false]
  cases s <;> rfl
theorem vL {f m:Int} (hf:Fm f) (hm:0<=m/\m<=5) (s:Bool) {n:Nat} (hn:n<2^6000) (h0:n≠0) (hodd:n%2=1) (e:Int) (he:-20000<=e/\e<=20000) :
  Nb (f,m,dy s n e,())=some (((AD f m s n e false).1:Int),((AD f m s n e false).2:Int),0,()):=by
 show cI EI.pre EI.F NX.pre NX.F EV.pre EV.F f m (s,Dw n,e,())=_
 unfold cI
 have p0:=pK hf hm
 have q1:=eI s hn (by decide) e (by omega)
 have q2:=pC s hn e he
 have hod:od s n e=(s,n,e):=by
  obtain ⟨k,rfl⟩:∃ k,n=2*k+1:=⟨n/2,by omega⟩
  unfold od
  rw [if_neg (by omega),aB7,Nat.pow_zero,Nat.div_one,Int.natCast_zero,Int.add_zero]
 rw [hod] at q2
 have p1:YH ((s,Dw n,e,()),())=some ((s,Dw n,e,()),0,()):=by
  show k9 E8.pre E8.F D4.pre D4.F (s,Dw n,e,())=_
  unfold k9
  have q1:H9 ((s,Dw n,e,()),())=some (0,()):=q1
  have q2:PI ((s,Dw n,e,()),())=some ((s,Dw n,e,()),0,()):=q2
  simp only [WM q1,Yo q1,pS q2,pM q2,cond_true,bne_self_eq_false,cond_false]
 have p2:=qF s n e false f m hf (LF hn (by decide)) (by omega)
 have hlen:(((Dw n).length:Int)==0)=false:=AU _ (by have:=Jl h0; omega)
 simp only [vO p0,pD p0,cond_true,bne_self_eq_false,cond_false,aSw p1,aPy p1,hlen,oV p2,o8 p2]
end VL
namespace VL
open Go Vx
def cd (f:Int) (S:Int):iI:=Ce (od (decide (S<0)) S.natAbs (qm f))
theorem aDD {n:Nat} (h:n≠0) (d:Nat):tz (n*2^d)=tz n+d:=by
 obtain ⟨k,hk⟩:=Uf h
 have e:n*2^d=2^(tz n+d)*(2*k+1):=by
  rw [Nat.pow_add,Nat.mul_assoc,Nat.mul_comm (2^d),← Nat.mul_assoc,← hk]
 rw [e]; exact Yg _ _
theorem aUH {f:Int} (s:Bool) (n:Nat) {e:Int} (he:qm f<=e):Ce (od s n e)=cd f (vI f s n e):=by
 unfold cd
 congr 1
 by_cases h0:n=0
 ·subst h0
  rw [aQy]; rfl
 ·have hp:=Nat.two_pow_pos (e-qm f).toNat
  have hpos:0<n*2^(e-qm f).toNat:=Nat.mul_pos (by omega) hp
  have hs:decide (vI f s n e<0)=s:=by
   unfold vI
   generalize n*2^(e-qm f).toNat=N at *
   cases s <;> simp only [cond_true,cond_false]
   ·exact decide_eq_false (by omega)
   ·exact decide_eq_true (by omega)
  have hn:(vI f s n e).natAbs=n*2^(e-qm f).toNat:=by
   unfold vI
   cases s
   ·exact Int.natAbs_natCast _
   ·exact (Int.natAbs_neg _).trans (Int.natAbs_natCast _)
  rw [hs,hn]
  unfold od
  rw [if_neg h0,if_neg (by omega),aDD h0]
  have hd:n*2^(e-qm f).toNat/2^(tz n+(e-qm f).toNat)=n/2^tz n:=by
   rw [Nat.pow_add,Nat.mul_div_mul_right _ _ hp]
  rw [hd]
  congr 2
  omega
def Bd (f:Int) (n:Nat) (e:Int):Prop:=qm f<=e/\e<=6000/\n*2^(e-qm f).toNat<2^5000
theorem Bd.lt {f:Int} {n:Nat} {e:Int} (h:Bd f n e):n<2^5000:=by
 have:=Nat.le_mul_of_pos_right n (Nat.two_pow_pos (e-qm f).toNat)
 exact Nat.lt_of_le_of_lt this h.2.2
theorem Bd.od {f:Int} (hf:Fm f) {n:Nat} {e:Int} (s:Bool) (h:Bd f n e):Bd f (VL.od s n e).2.1 (VL.od s n e).2.2:=by
 rcases Em s n e with ⟨hz,_⟩ | ⟨_,h2,h3,h4,h5⟩
 ·rw [hz]
  exact ⟨yZ hf,by dsimp only; omega,by dsimp only; rw [Nat.zero_mul]; exact Nat.two_pow_pos _⟩
 ·have hle:2^(tz n+(e-qm f).toNat)<=n*2^(e-qm f).toNat:=by
   rw [Nat.pow_add]
   refine Nat.mul_le_mul_right _ ?_
   have:=Nat.le_mul_of_pos_right (2^tz n) (show 0<(VL.od s n e).2.1 by omega)
   omega
  have hlt:=(Nat.pow_lt_pow_iff_right (a:=2) (by decide)).1 (Nat.lt_of_le_of_lt hle h.2.2)
  have hq:=yZ hf
  have h1:=h.1
  refine ⟨by omega,by omega,?_⟩
  have e1:(VL.od s n e).2.1*2^((VL.od s n e).2.2-qm f).toNat=n*2^(e-qm f).toNat:=by
   rw [h5,show (e+(tz n:Int)-qm f).toNat=tz n+(e-qm f).toNat by omega,Nat.pow_add,← Nat.mul_assoc,Nat.mul_comm _ (2^tz n),← h4]
  rw [e1]; exact h.2.2
theorem Bd.sft {f:Int} {X:Nat} {ex e:Int} (h:Bd f X ex) (h1:e<=ex) (h2:qm f<=e):X*2^(ex-e).toNat<2^5000:=by
 have e1:X*2^(ex-qm f).toNat=X*2^(ex-e).toNat*2^(e-qm f).toNat:=by
  rw [Nat.mul_assoc,← Nat.pow_add]; congr 2; omega
 have:=Nat.le_mul_of_pos_right (X*2^(ex-e).toNat) (Nat.two_pow_pos (e-qm f).toNat)
 rw [← e1] at this
 exact Nat.lt_of_le_of_lt this h.2.2
theorem aHZ (k:Nat):(2:Nat)^k+2^k=2^(k+1):=by rw [Nat.pow_succ]; omega
end VL
namespace VL
open Go Vx
theorem aIq {f:Int} (hf:Fm f) (a:Nat):Ad f a<2^fP f:=by
 have h1:=Sd f a
 have h2:=aPU hf
 have hpp:=Nat.two_pow_pos (fP f-1)
 unfold Ad
 split <;> omega
theorem aUj {f:Int} (hf:Fm f) (a:Nat):(Af f a-qm f).toNat<=2047:=by
 have h1:=R7 hf a
 unfold Af qm
 split <;> omega
theorem aHh (f:Int) (a:Nat):(vA f a).natAbs=Ad f a*2^(Af f a-qm f).toNat:=by
 unfold vA vI
 cases sF f a
 ·exact Int.natAbs_natCast _
 ·exact (Int.natAbs_neg _).trans (Int.natAbs_natCast _)
theorem aTw {f:Int} (hf:Fm f) (a:Nat):(vA f a).natAbs<2^2100:=by
 rw [aHh]
 have h1:Ad f a*2^(Af f a-qm f).toNat<2^53*2^(Af f a-qm f).toNat:=Nat.mul_lt_mul_of_pos_right (Fs hf a) (Nat.two_pow_pos _)
 rw [← Nat.pow_add] at h1
 have:=aUj hf a
 exact Nat.lt_of_lt_of_le h1 (Nat.pow_le_pow_right (by decide) (by omega))
end VL
namespace VL
open Go Vx
structure Hid (p:Prop):Prop where
 out:p
end VL
namespace VL
open Go Vx
theorem aRv {f:Int} {a:Nat} (h:Am f a=0) (hfull:eF f a=BF f):SD (f,(a:Int),())=some ((false,[],0,()),40,()):=by
 obtain ⟨hf,h0⟩:=CR h
 have ha:=KK h
 show Tf Ar.pre Ar.F Dn.pre Dn.F Br.pre Br.F BG.pre BG.F f a=_
 unfold Tf
 have h2:=ES hf
 have h3:=Ei hf
 have h4:=Dr hf
 have h5:=E7 hf
 have p0:=Eq f a ha
 have p1:=Zw (fW f-fP f) (by omega)
 have p2:=eD hf a ha
 have hr1:decide (0<=f)=true:=decide_eq_true hf.1
 have hr2:decide (f<((4:Nat):Int))=true:=decide_eq_true hf.2
 have r1:(Bp f).1=(fW f:Int):=rfl
 have r2:(Bp f).2.1=(fP f:Int):=rfl
 have e1:IntKind.wrap .i64 ((fW f:Int)-(fP f:Int))=((fW f-fP f:Nat):Int):=BC _ _ (by omega)
 have hfl:(((eF f a:Nat):Int)==((2^(fW f-fP f)-1:Nat):Int))=true:=by
  rw [Il]; exact beq_iff_eq.2 hfull
 simp only [jP hf,r1,r2,hr1,hr2,DC p0,DD p0,jA p2,mM p2,h,cond_true,bne_self_eq_false,cond_false,e1,XT p1,Xs p1,hfl]
end VL
namespace VL
open Go Vx
theorem rA {l:List Nat} {j v:Nat} (hj:j<l.length) (h:l.getD j 0=v):l.set j v=l:=by
 rw [List.getD_eq_getElem?_getD,List.getElem?_eq_getElem hj,Option.getD_some] at h
 subst h
 exact List.set_getElem_self hj
end VL
namespace VL
open Go Vx
theorem Ia {n k:Nat} (h:n<2^k) (hk:k<=64*5000):n<(2^64)^5000:=by
 rw [Cw]
 exact Nat.lt_of_lt_of_le h (Nat.pow_le_pow_right (by decide) hk)
theorem aPl (n:Nat):((((Dw n).length:Nat):Int)==0)=decide (n=0):=by
 by_cases h:n=0
 ·subst h; rw [DB]; rfl
 ·rw [decide_eq_false h]; exact AU _ (by have:=Jl h; omega)
end VL
namespace VL
open Go Vx
def CO (far n:Int):Int:=if (if far<n then far else n)>-far then (if far<n then far else n) else -far
theorem aPf {far:Int} (h:0<=far) (n:Int):-far<=CO far n/\CO far n<=far:=by
 unfold CO; split <;> split <;> omega
theorem aGy {f:Int} (hf:Fm f) (m:Int) (neg:Bool) {N:Nat} (h0:N≠0) (hN:N<2^100) {e:Int} (he:e<=-2500) :
  AD f m neg N e false=((if Cu m neg false 1=true then 1 else 0)+Co f neg,24):=by
 have hP:=Dr hf
 have hPl:=E7 hf
 have hX:=HK hf
 have hX15:=Qk hf
 have hbl:=En hN
 have hbl1:=Jp h0
 have htop:AE N e=e+(An N:Int)-1:=rfl
 have hq:Dj f (AE N e)=1-(fX f:Int)-(fP f:Int)+1:=by unfold Dj; rw [if_pos (by omega)]
 obtain ⟨d,hd⟩:=Int.eq_ofNat_of_zero_le (show 0<=1-(fX f:Int)-(fP f:Int)+1-e by omega)
 have hN2:N<2^(d-1):=Nat.lt_of_lt_of_le hN (Nat.pow_le_pow_right (by decide) (by omega))
 have hN3:N<2^d:=Nat.lt_of_lt_of_le hN (Nat.pow_le_pow_right (by decide) (by omega))
 have hquo:DW N e (1-(fX f:Int)-(fP f:Int)+1)=0:=by
  rw [cS (by omega),hd,Int.toNat_natCast,Nat.div_eq_of_lt hN3]
 have hrst:CK N e (1-(fX f:Int)-(fP f:Int)+1) false=1:=by
  rw [XH,kP (by omega),hd,Int.toNat_natCast,Nat.mod_eq_of_lt hN3]
  unfold Cx
  rw [if_neg h0,if_pos hN2]
 have hcut:BH m neg N e (1-(fX f:Int)-(fP f:Int)+1) false=(if Cu m neg false 1=true then 1 else 0):=by
  unfold BH
  rw [hquo,hrst]
  by_cases h:Cu m neg false 1=true
  ·rw [if_pos h,if_pos ⟨by decide,h⟩]
  ·rw [if_neg h,if_neg (fun h2=>h h2.2)]
 have hb1:An (if Cu m neg false 1=true then 1 else 0)<=1:=by split <;> decide
 have hc2:=aKm (m:=m) (neg:=neg) (n:=N) (e:=e) hf (Int.le_refl (AE N e-(fP f:Int)+1))
 have hb2:=En (Nat.lt_of_le_of_lt hc2 (Nat.pow_lt_pow_right (by decide) (Nat.lt_succ_self (fP f))))
 have htiny:Fe f m neg N e false:=⟨by omega,by omega⟩
 unfold AD
 dsimp only
 rw [hq,hcut,hrst,if_neg (by omega),if_neg (by omega),if_neg (show ¬ (1:Nat)=0 by decide),if_pos htiny,Int.sub_self,Int.toNat_zero,Nat.zero_mul,Nat.zero_add]
theorem aDv {f:Int} (hf:Fm f) (m:Int) (neg:Bool) {N:Nat} (h0:N≠0) {e:Int} (he:2500<=e) :
  AD f m neg N e false=(WE f m neg,20):=by
 have hX:=HK hf
 have hbl1:=Jp h0
 have htop:AE N e=e+(An N:Int)-1:=rfl
 unfold AD
 rw [if_pos (by omega)]
theorem aPi {f:Int} (hf:Fm f) (m:Int) (neg:Bool) {N:Nat} (h0:N≠0) (hN:N<2^100) {e:Int} (he:-2000<=e/\e<=2000) (n:Int) :
  AD f m neg N (e+CO 10000 n) false=AD f m neg N (e+CO 5000 n) false:=by
 by_cases h1:n>5000
 ·have a1:5000<=CO 10000 n:=by unfold CO; split <;> split <;> omega
  have a2:5000<=CO 5000 n:=by unfold CO; split <;> split <;> omega
  rw [aDv hf m neg h0 (by omega),aDv hf m neg h0 (by omega)]
 ·by_cases h2:n < -5000
  ·have a1:CO 10000 n<=-5000:=by unfold CO; split <;> split <;> omega
   have a2:CO 5000 n<=-5000:=by unfold CO; split <;> split <;> omega
   rw [aGy hf m neg h0 hN (by omega),aGy hf m neg h0 hN (by omega)]
  ·have a1:CO 10000 n=CO 5000 n:=by
    have b1:CO 10000 n=n:=by unfold CO; rw [if_neg (show ¬ (10000:Int)<n by omega),if_pos (by omega)]
    have b2:CO 5000 n=n:=by
     unfold CO
     rw [if_neg (show ¬ (5000:Int)<n by omega)]
     split <;> omega
    rw [b1,b2]
   rw [a1]
def Rh (f m:Int) (a:Nat) (n:Int):DenS KE :=
 if ¬ Fm f then (0,0,2,())
 else if m<0∨m>5 then (0,0,3,())
 else if Am f a≠0 then (0,0,Am f a,())
 else bif nan f a then ((CH f:Int),(bif AJ f a then 1 else 0),0,())
 else if eF f a=BF f∨Bx f a=0 then ((a:Int),0,0,())
 else (((AD f m (sF f a) (Ad f a) (Af f a+CO 5000 n) false).1:Int),((AD f m (sF f a) (Ad f a) (Af f a+CO 5000 n) false).2:Int),0,())
theorem aSA (f:Int) (a:Nat):(At f a==0)=decide (Bx f a=0):=by
 rw [Bool.eq_iff_iff,beq_iff_eq,decide_eq_true_eq]
 unfold At
 cases sF f a <;> simp only [cond_true,cond_false] <;> omega
theorem aUo (f m:Int) {a:Nat} (ha:a<2^64) (n:Int):Xc (f,m,(a:Int),n,())=some (Rh f m a n):=by
 show fD Aq.pre Aq.F DH.pre DH.F CB.pre CB.F AB.pre AB.F CC.pre CC.F CA.pre CA.F Dm.pre Dm.F f m a n=_
 unfold fD Rh
 try dsimp only
 rw [show (if ((if ((10000:Int)<n) then (10000:Int) else n)>(-(10000:Int))) then (if ((10000:Int)<n) then (10000:Int) else n) else (-(10000:Int)))=CO 10000 n from rfl]
 by_cases hf:¬ Fm f
 ·have p0:=GO hf
  rw [if_pos hf]
  simp only [Dh p0,C8 p0,cond_true]
  rfl
 have hf:=Classical.not_not.1 hf
 have p0:=Fd hf
 rw [if_neg (show ¬ ¬ Fm f from fun h=>h hf)]
 simp only [Dh p0,C8 p0,cond_true,bne_self_eq_false,cond_false]
 by_cases hm:m<0∨m>5
 ·rw [if_pos hm]
  have:(decide (m<0)||decide (m>5))=true:=by rcases hm with h | h <;> simp [h]
  rw [this,cond_true]
 rw [if_neg hm]
 have hmm:(decide (m<0)||decide (m>5))=false:=by
  rw [decide_eq_false (by omega),decide_eq_false (by omega)]; rfl
 rw [hmm,cond_false]
 by_cases hc:Am f a≠0
 ·have p1:=cY ha hc
  rw [if_pos hc]
  simp only [L9 p1,J5 p1,cond_true,bne_iff_ne.2 hc]
 have hc:Am f a=0:=Classical.not_not.1 hc
 have p1:=WF ha hc
 rw [if_neg (show ¬ Am f a≠0 from fun h=>h hc)]
 have p2:=La (Av f a,At f a,())
 have p3:=Kp (Av f a,At f a,()) (Av f a,At f a,())
 have p4:=Ew hf
 rw [show ((Av f a,At f a,()):Int×Int×Unit).1=Av f a from rfl,GW] at p2
 rw [show ((Av f a,At f a,()):Int×Int×Unit).1=Av f a from rfl,E9,Bool.or_self] at p3
 simp only [L9 p1,J5 p1,cond_true,bne_self_eq_false,cond_false,Y7 p2,X6 p2,Xk p3,ZF p3,FE p4,Fo p4]
 cases hn:nan f a with
 | true=>rfl
 | false =>
  simp only [cond_false]
  by_cases hi:eF f a=BF f
  ·have p5:=aRv hc hi
   rw [if_pos (.inl hi)]
   simp only [Px p5,Nl p5,cond_true]
   rfl
  have p5:=SX hc hi
  simp only [Px p5,Nl p5,cond_true,bne_self_eq_false,Bool.false_or,aSA]
  by_cases hz:Bx f a=0
  ·rw [if_pos (.inr hz),decide_eq_true hz,cond_true]
  rw [if_neg (by rintro (h | h) <;> contradiction),decide_eq_false hz,cond_false]
  have hml:=Fs hf a
  have hxb:=Gl hf a
  have hmn:Ad f a≠0:=by
   intro h
   have hz0:=(wL hf a).2
   unfold Ad at h
   have hpp:=Nat.two_pow_pos (fP f-1)
   split at h
   ·rename_i h2; exact hz (hz0 ⟨h2,h⟩)
   ·omega
  have hcb:=aPf (far:=10000) (by decide) n
  rcases Em (sF f a) (Ad f a) (Af f a) with ⟨_,h⟩ | ⟨o1,o2,o3,o4,o5⟩
  ·exact absurd h hmn
  have htz:=TW hml hmn
  have e1:(Ce (od (sF f a) (Ad f a) (Af f a))).2.2.1=Af f a+tz (Ad f a):=by
   show (od (sF f a) (Ad f a) (Af f a)).2.2=_
   exact o5
  have e2:(Ce (od (sF f a) (Ad f a) (Af f a))).1=sF f a:=by
   show (od (sF f a) (Ad f a) (Af f a)).1=_
   exact o1
  have e3:(Ce (od (sF f a) (Ad f a) (Af f a))).2.1=Dw (od (sF f a) (Ad f a) (Af f a)).2.1:=rfl
  rw [e1,e2,e3,As (n:=Af f a+_+_) (by omega)]
  generalize (od (sF f a) (Ad f a) (Af f a)).2.1=k at *
  have hk0:k≠0:=by omega
  have hkl:k<=Ad f a:=by
   have:=Nat.le_mul_of_pos_left k (Nat.two_pow_pos (tz (Ad f a)))
   omega
  have p6:=vL hf (m:=m) (by omega) (sF f a) (n:=k) (Nat.lt_trans (Nat.lt_of_le_of_lt hkl hml) (Nat.pow_lt_pow_right (by decide) (by decide))) hk0 o2 (Af f a+tz (Ad f a)+CO 10000 n) (by omega)
  have hsc:=KZ (f:=f) (m:=m) (neg:=sF f a) hf hk0 (tz (Ad f a)) (Af f a+CO 10000 n)
  rw [Nat.mul_comm,← o4,show Af f a+CO 10000 n+(tz (Ad f a):Int)=Af f a+tz (Ad f a)+CO 10000 n by omega] at hsc
  rw [← hsc,aPi hf m (sF f a) hmn (Nat.lt_trans hml (Nat.pow_lt_pow_right (by decide) (by decide))) ⟨hxb.1,hxb.2⟩ n] at p6
  have p6:Nb (f,m,(sF f a,Dw k,Af f a+tz (Ad f a)+CO 10000 n,()),())=_:=p6
  simp only [sV p6,oM p6,cond_true]
end VL
namespace VL
open Go Vx
theorem Xh {x:Nat} (h:x<2^64):AQ .u64 (x:Int) 4294967295=((x%2^32:Nat):Int):=U4 (n:=32) h (by decide)
theorem Sv (x:Nat):AI .u64 (x:Int) 32=((x/2^32:Nat):Int):=by
 have h:=aDk (a:=(x:Int)) 32 (by decide)
 rw [show ((32:Nat):Int)=32 from rfl] at h
 rw [h]; norm_cast
theorem aJO {x0 x1 y0 y1:Nat} (h0:x0<2^32) (h1:x1<2^32) (k0:y0<2^32) (k1:y1<2^32) :
  ((x1*y1%2^64+(x1*y0%2^64+x0*y0%2^64/2^32)%2^64/2^32)%2^64+((x1*y0%2^64+x0*y0%2^64/2^32)%2^64%2^32+x0*y1%2^64)%2^64/2^32)%2^64=(x0+2^32*x1)*(y0+2^32*y1)/2^64:=by
 have b00:x0*y0<=(2^32-1)*(2^32-1):=Nat.mul_le_mul (by omega) (by omega)
 have b01:x0*y1<=(2^32-1)*(2^32-1):=Nat.mul_le_mul (by omega) (by omega)
 have b10:x1*y0<=(2^32-1)*(2^32-1):=Nat.mul_le_mul (by omega) (by omega)
 have b11:x1*y1<=(2^32-1)*(2^32-1):=Nat.mul_le_mul (by omega) (by omega)
 have e1:x0*(2^32*y1)=2^32*(x0*y1):=Nat.mul_left_comm _ _ _
 have e2:2^32*x1*y0=2^32*(x1*y0):=Nat.mul_assoc _ _ _
 have e3:2^32*x1*(2^32*y1)=2^64*(x1*y1):=by
  rw [Nat.mul_assoc,Nat.mul_left_comm x1,← Nat.mul_assoc]
 rw [Nat.add_mul,Nat.mul_add,Nat.mul_add,e1,e2,e3]
 generalize x0*y0=a at *
 generalize x0*y1=b at *
 generalize x1*y0=c at *
 generalize x1*y1=d at *
 have ha:a%2^64=a:=Nat.mod_eq_of_lt (by omega)
 have hb:b%2^64=b:=Nat.mod_eq_of_lt (by omega)
 have hc:c%2^64=c:=Nat.mod_eq_of_lt (by omega)
 have hd:d%2^64=d:=Nat.mod_eq_of_lt (by omega)
 rw [ha,hb,hc,hd]
 have ht:(c+a/2^32)%2^64=c+a/2^32:=Nat.mod_eq_of_lt (by omega)
 rw [ht]
 generalize hT:c+a/2^32=t
 have hw:(t%2^32+b)%2^64=t%2^32+b:=Nat.mod_eq_of_lt (by omega)
 rw [hw]
 have hq:(d+t/2^32)%2^64=d+t/2^32:=Nat.mod_eq_of_lt (by omega)
 rw [hq]
 omega
theorem lE {x y:Nat} (hx:x<2^64) (hy:y<2^64):Zk ((x:Int),(y:Int),())=some (((x*y/2^64:Nat):Int),((x*y%2^64:Nat):Int),()):=by
 show gX (x:Int) (y:Int)=_
 unfold gX
 dsimp only
 rw [Xh hx,Xh hy,Sv x,Sv y]
 have hm:∀ z:Nat,z%2^64<2^64:=fun z=>Nat.mod_lt _ (by decide)
 have am:∀ z:Nat,AQ .u64 ((z%2^64:Nat):Int) 4294967295=((z%2^64%2^32:Nat):Int):=fun z=>Xh (hm z)
 have wm:∀ a b:Nat,IntKind.wrap .u64 ((a:Int)*(b:Int))=((a*b%2^64:Nat):Int):=fun a b=>by rw [← Int.natCast_mul]; exact IA _
 have wa:∀ a b:Nat,IntKind.wrap .u64 ((a:Int)+(b:Int))=(((a+b)%2^64:Nat):Int):=fun a b=>by rw [← Int.natCast_add]; exact IA _
 simp only [wm,wa,Sv,am]
 have e:=aJO (x0:=x%2^32) (x1:=x/2^32) (y0:=y%2^32) (y1:=y/2^32) (by omega) (by omega) (by omega) (by omega)
 rw [Nat.mod_add_div,Nat.mod_add_div] at e
 rw [e]
theorem nH {x y:Nat} (hx:x<2^64) (hy:y<2^64):ZQ ((x:Int),(y:Int),())=some (Wi (x*y),()):=by
 show gH AP.pre AP.F (x:Int) (y:Int)=_
 unfold gH
 have p:=lE hx hy
 simp only [jI p,jL p,cond_true]
 rfl
def AN (f:Int) (a:Nat):Bool:=eF f a==0&&mF f a==0
theorem X7 {f:Int} (hf:Fm f) (a:Nat):(Av f a==5||Av f a==6)=AN f a:=by
 have hp:=NG hf
 have hne:(eF f a==BF f&&eF f a==0)=false:=by
  cases h:eF f a==BF f
  ·rfl
  ·have:=beq_iff_eq.1 h
   rw [Bool.true_and,this]
   exact beq_eq_false_iff_ne.2 (by omega)
 unfold Av AN
 cases h1:eF f a==BF f <;> cases h2:eF f a==0 <;> rw [h1,h2] at hne <;> cases mF f a==0 <;> cases sF f a <;> cases mF f a/2^(fP f-2) != 0 <;> first | rfl | cases hne
theorem aUx {f:Int} (hf:Fm f) {a:Nat} (h:eF f a=0) :
  IntKind.wrap .i64 (IntKind.wrap .i64 (IntKind.wrap .i64 (IntKind.wrap .i64 (IntKind.wrap .i64 (1:Int)-1)+(1-(fX f:Int)))-(fP f:Int))+1)=Af f a:=by
 have h3:=E7 hf
 have h4:=HK hf
 unfold Af
 rw [if_pos h,show IntKind.wrap .i64 (1:Int)=1 from rfl,As (n:=(1:Int)-1) (by omega),As (n:=(1:Int)-1+(1-(fX f:Int))) (by omega),As (n:=(1:Int)-1+(1-(fX f:Int))-(fP f:Int)) (by omega),As (by omega)]
 omega
theorem aKU {f:Int} (hf:Fm f) {a:Nat} (h:eF f a≠0) :
  IntKind.wrap .i64 (IntKind.wrap .i64 (IntKind.wrap .i64 (IntKind.wrap .i64 (IntKind.wrap .i64 (eF f a:Int)-1)+(1-(fX f:Int)))-(fP f:Int))+1)=Af f a:=by
 have h3:=E7 hf
 have h4:=HK hf
 have hE:=R7 hf a
 unfold Af
 rw [if_neg h,As (n:=(eF f a:Int)) (by omega),As (n:=(eF f a:Int)-1) (by omega),As (n:=(eF f a:Int)-1+(1-(fX f:Int))) (by omega),As (n:=(eF f a:Int)-1+(1-(fX f:Int))-(fP f:Int)) (by omega),As (by omega)]
 omega
theorem aOS {f:Int} (hf:Fm f) (a:Nat):AW .u64 (mF f a:Int) (AT .u64 1 (IntKind.wrap .i64 ((fP f:Int)-1)))=((mF f a+2^(fP f-1):Nat):Int):=by
 have h1:=Dr hf
 have h3:=E7 hf
 have hM:=Sd f a
 have hPp:2^(fP f-1)<=2^52:=Nat.pow_le_pow_right (by decide) (by omega)
 have e0:IntKind.wrap .i64 ((fP f:Int)-1)=((fP f-1:Nat):Int):=Bj _ (by omega)
 have e3:AT .u64 1 ((fP f-1:Nat):Int)=((2^(fP f-1):Nat):Int):=JZ (by omega)
 rw [e0,e3]
 have:=FJ (a:=mF f a) (b:=1) (k:=fP f-1) hM (by omega)
 rwa [Nat.one_mul] at this
theorem aD4 {f:Int} {a:Nat} (h:Am f a=0):Tg (f,Bp f,(a:Int),())=some ((Av f a,sF f a,(Ad f a:Int),Af f a,()),0,()):=by
 obtain ⟨hf,h0⟩:=CR h
 have ha:=KK h
 show UU AF.pre AF.F Bo.pre Bo.F f (Bp f) a=_
 unfold UU
 have p1:=F7 ha h
 have p2:=SJ h
 have h1:=Dr hf
 have h3:=E7 hf
 have r1:(Bp f).2.1=(fP f:Int):=rfl
 have r2:(Bp f).2.2.1=1-(fX f:Int):=rfl
 have e0:decide (0<=IntKind.wrap .i64 ((fP f:Int)-1))=true:=by
  rw [Bj _ (by omega)]; exact AX _
 simp only [Du p1,DA p1,Sn p2,R8 p2,cond_true,bne_self_eq_false,cond_false,r1,r2,e0]
 by_cases hz:eF f a=0
 ·rw [Bv _ hz,cond_true,aUx hf hz]
  have hm:Ad f a=mF f a:=by unfold Ad; rw [if_pos hz]
  rw [hm]
 ·rw [AU _ hz,cond_false,aKU hf hz,aOS hf]
  have hm:Ad f a=mF f a+2^(fP f-1):=by unfold Ad; rw [if_neg hz]
  rw [hm]
theorem aCO {f:Int} {a:Nat} (ha:a<2^64) (h:Am f a≠0):Tg (f,Bp f,(a:Int),())=some ((0,false,0,0,()),Am f a,()):=by
 show UU AF.pre AF.F Bo.pre Bo.F f (Bp f) a=_
 unfold UU
 have p1:=SU ha h
 have e:(Am f a != 0)=true:=bne_iff_ne.2 h
 simp only [Du p1,DA p1,cond_true,e]
def aET (f m:Int) (a b:Nat):Int×Int×Int×Unit :=
 bif nan f a||nan f b then ((CH f:Int),(bif AJ f a||AJ f b then 1 else 0),0,())
 else bif (Au f a&&AN f b)||(AN f a&&Au f b) then ((CH f:Int),1,0,())
 else bif Au f a||Au f b then ((F3 f (!(sF f a==sF f b)):Int),0,0,())
 else bif AN f a||AN f b then ((Co f (!(sF f a==sF f b)):Int),0,0,())
 else (((AD f m (!(sF f a==sF f b)) (Ad f a*Ad f b) (Af f a+Af f b) false).1:Int),((AD f m (!(sF f a==sF f b)) (Ad f a*Ad f b) (Af f a+Af f b) false).2:Int),0,())
def RX (f m:Int) (a b:Nat):Int×Int×Int×Unit :=
 if ¬ Fm f then (0,0,2,())
 else if m<0∨m>5 then (0,0,3,())
 else if Am f a≠0 then (0,0,Am f a,())
 else if Am f b≠0 then (0,0,Am f b,())
 else aET f m a b
theorem JW {f:Int} {a:Nat} (h:AN f a=false):Ad f a≠0:=by
 unfold AN at h
 unfold Ad
 by_cases hz:eF f a=0
 ·rw [if_pos hz]
  intro hm
  rw [hz,hm] at h
  cases h
 ·rw [if_neg hz]
  have:=Nat.two_pow_pos (fP f-1)
  omega
theorem aVb (f m:Int) {a b:Nat} (ha:a<2^64) (hb:b<2^64):ZP (f,m,(a:Int),(b:Int),())=some (RX f m a b):=by
 show Z7 Aq.pre Aq.F M8.pre M8.F P5.pre P5.F AB.pre AB.F N1.pre N1.F B4.pre B4.F Om.pre Om.F A3.pre A3.F C7.pre C7.F A4.pre A4.F f m a b=_
 unfold Z7 RX
 dsimp only
 by_cases hf:¬ Fm f
 ·have p0:=GO hf
  rw [if_pos hf]
  simp only [Dh p0,C8 p0,cond_true]
  rfl
 have hf:=Classical.not_not.1 hf
 have p0:=Fd hf
 rw [if_neg (show ¬ ¬ Fm f from fun h=>h hf)]
 simp only [Dh p0,C8 p0,cond_true,bne_self_eq_false,cond_false]
 by_cases hm:m<0∨m>5
 ·rw [if_pos hm]
  have:(decide (m<0)||decide (m>5))=true:=by rcases hm with h | h <;> simp [h]
  rw [this,cond_true]
 rw [if_neg hm]
 have hm':0<=m/\m<=5:=by omega
 have:(decide (m<0)||decide (m>5))=false:=by simp; omega
 rw [this,cond_false]
 by_cases hca:Am f a≠0
 ·have p1:=aCO ha hca
  have e:(Am f a != 0)=true:=bne_iff_ne.2 hca
  rw [if_pos hca]
  simp only [Z9 p1,iQ p1,cond_true,e]
 have hca:=Classical.not_not.1 hca
 have p1:=aD4 hca
 rw [if_neg (show ¬ Am f a≠0 from fun h=>h hca)]
 simp only [Z9 p1,iQ p1,cond_true,bne_self_eq_false,cond_false]
 by_cases hcb:Am f b≠0
 ·have p2:=aCO hb hcb
  have e:(Am f b != 0)=true:=bne_iff_ne.2 hcb
  rw [if_pos hcb]
  simp only [Z9 p2,iQ p2,cond_true,e]
 have hcb:=Classical.not_not.1 hcb
 have p2:=aD4 hcb
 rw [if_neg (show ¬ Am f b≠0 from fun h=>h hcb)]
 have n351:∀ (c:Int) (s:Bool) (n e:Int),V2 ((c,s,n,e,()),())=some ((c==1||c==0),()):=fun _ _ _ _=>rfl
 have n352:∀ (c:Int) (s:Bool) (n e:Int),Xg ((c,s,n,e,()),())=some ((c==2||c==9),()):=fun _ _ _ _=>rfl
 have n353:∀ (c:Int) (s:Bool) (n e:Int),WG ((c,s,n,e,()),())=some ((c==5||c==6),()):=fun _ _ _ _=>rfl
 have q1:=n351 (Av f a) (sF f a) (Ad f a:Int) (Af f a)
 have q2:=n351 (Av f b) (sF f b) (Ad f b:Int) (Af f b)
 have q3:=n352 (Av f a) (sF f a) (Ad f a:Int) (Af f a)
 have q4:=n352 (Av f b) (sF f b) (Ad f b:Int) (Af f b)
 have q5:=n353 (Av f a) (sF f a) (Ad f a:Int) (Af f a)
 have q6:=n353 (Av f b) (sF f b) (Ad f b:Int) (Af f b)
 rw [GW] at q1 q2
 rw [Uk] at q3 q4
 rw [X7 hf] at q5 q6
 have s:=!(sF f a==sF f b)
 have p3:=Ew hf
 have p4:=VT hf (!(sF f a==sF f b))
 have p5:=Kj hf (!(sF f a==sF f b))
 have ma:=Fs hf a
 have mb:=Fs hf b
 have xa:=Gl hf a
 have xb:=Gl hf b
 have hprod:Ad f a*Ad f b<2^128:=Nat.lt_of_lt_of_le (Nat.mul_lt_mul'' ma mb) (by decide)
 have p6:=nH (x:=Ad f a) (y:=Ad f b) (Nat.lt_trans ma (by decide)) (Nat.lt_trans mb (by decide))
 have p7:=LQ hf hm' (!(sF f a==sF f b)) (Ad f a*Ad f b) hprod (Af f a+Af f b) (by omega) false (fun h=>by cases h)
 have ew:IntKind.wrap .i64 (Af f a+Af f b)=Af f a+Af f b:=As (by omega)
 simp only [Z9 p2,iQ p2,cond_true,bne_self_eq_false,cond_false,aC0 q1,xG q1,aC0 q2,xG q2,aD7 q3,zU q3,aD7 q4,zU q4,yD q5,aGx q5,yD q6,aGx q6,FE p3,Fo p3,UR p4,UJ p4,Lo p5,K1 p5,nM p6,vK p6,ew,HR p7,Hz p7,Bool.true_or,E9]
 unfold aET
 cases h1:nan f a||nan f b
 ·simp only [cond_false]
  cases h2:Au f a&&AN f b||AN f a&&Au f b
  ·simp only [cond_false]
   cases h3:Au f a||Au f b
   ·simp only [cond_false]
    cases h4:AN f a||AN f b
    ·simp only [cond_false]
     simp only [Bool.or_eq_false_iff] at h4
     rw [if_neg (Nat.mul_ne_zero (JW h4.1) (JW h4.2))]
    ·simp only [cond_true]
   ·simp only [cond_true]
  ·simp only [cond_true]
 ·simp only [cond_true]
  cases AJ f a||AJ f b <;> rfl
end VL
namespace VL
open Go Vx
theorem uM (n:Nat):∃ r,r*r<=n/\n<(r+1)*(r+1):=by
 induction n with
 | zero=>exact ⟨0,by decide,by decide⟩
 | succ n ih =>
  obtain ⟨r,h1,h2⟩:=ih
  by_cases h:n+1<(r+1)*(r+1)
  ·exact ⟨r,by omega,h⟩
  ·refine ⟨r+1,by omega,?_⟩
   have:(r+1+1)*(r+1+1)=(r+1)*(r+1)+2*(r+1)+1:=by
    rw [Nat.mul_add (r+1+1),Nat.add_mul (r+1) 1 (r+1)]; omega
   omega
def Az (n:Nat):Nat:=Classical.choose (uM n)
theorem lR (n:Nat):Az n*Az n<=n:=(Classical.choose_spec (uM n)).1
theorem uE (n:Nat):n<(Az n+1)*(Az n+1):=(Classical.choose_spec (uM n)).2
theorem gK {a b:Nat} (h:a<=b):a*a<=b*b:=Nat.mul_le_mul h h
theorem eK {a b:Nat} (h:a*a<b*b):a<b:=by
 rcases Nat.lt_or_ge a b with h1 | h1
 ·exact h1
 ·exact absurd (gK h1) (by omega)
theorem aAE {n r:Nat} (h1:r*r<=n) (h2:n<(r+1)*(r+1)):Az n=r:=by
 have h3:=lR n
 have h4:=uE n
 have:=eK (show r*r<(Az n+1)*(Az n+1) by omega)
 have:=eK (show Az n*Az n<(r+1)*(r+1) by omega)
 omega
theorem nY {n r:Nat} (h:r*r<=n):r<=Az n:=by
 have:=eK (show r*r<(Az n+1)*(Az n+1) from Nat.lt_of_le_of_lt h (uE n))
 omega
theorem o9 (r:Nat):Az (r*r)=r:=aAE (Nat.le_refl _) (by rw [Nat.mul_add,Nat.add_mul]; omega)
theorem aRz {n:Nat} (h:n≠0):1<=Az n:=nY (by omega)
theorem Tb (a b:Nat):(a*b)*(a*b)=a*a*(b*b):=by
 rw [Nat.mul_assoc,Nat.mul_left_comm b a b,Nat.mul_assoc]
theorem aNQ (n K:Nat) (hK:0<K):Az (n*(K*K))/K=Az n:=by
 symm
 have h1:=lR (n*(K*K))
 have h2:=uE (n*(K*K))
 generalize Az (n*(K*K))=R at *
 have hKK:=Nat.mul_pos hK hK
 apply aAE
 ·have h3:=gK (Nat.div_mul_le_self R K)
  rw [Tb] at h3
  exact Nat.le_of_mul_le_mul_right (Nat.le_trans h3 h1) hKK
 ·have h3:R+1<=(R/K+1)*K:=by
   have:=Nat.lt_div_mul_add hK (a:=R)
   rw [Nat.add_mul,Nat.one_mul]; omega
  have h4:=gK h3
  rw [Tb] at h4
  exact Nat.lt_of_mul_lt_mul_right (Nat.lt_of_lt_of_le h2 h4)
theorem wS:∀ (k R n:Nat),R*R=n*(2^k*2^k)->∃ q,R=q*2^k/\q*q=n
 | 0,R,n,h=>⟨R,by omega,by omega⟩
 | k+1,R,n,h=>by
  have e:n*(2^(k+1)*2^(k+1))=4*(n*(2^k*2^k)):=by
   rw [Nat.pow_succ,Tb,← Nat.mul_assoc n,Nat.mul_comm]
  rw [e] at h
  have hev:R%2=0:=by
   rcases Nat.mod_two_eq_zero_or_one R with h1 | h1
   ·exact h1
   ·have h2:R=2*(R/2)+1:=by omega
    have h3:R*R%2=1:=by rw [Nat.mul_mod,h1]
    omega
  obtain ⟨S,rfl⟩:∃ S,R=2*S:=⟨R/2,by omega⟩
  rw [Tb] at h
  obtain ⟨q,h1,h2⟩:=wS k S n (by omega)
  exact ⟨q,by rw [h1,Nat.pow_succ,Nat.mul_comm (2^k) 2,Nat.mul_left_comm],h2⟩
theorem aDZ (n k:Nat):Az (n*(2^k*2^k))*Az (n*(2^k*2^k))=n*(2^k*2^k)↔Az n*Az n=n:=by
 constructor
 ·intro h
  obtain ⟨q,h1,h2⟩:=wS k _ n h
  rw [← h2,o9]
 ·intro h
  have e:n*(2^k*2^k)=(Az n*2^k)*(Az n*2^k):=by rw [Tb,h]
  rw [e,o9]
theorem aI0 {n k:Nat} (h:Az n*Az n=n):Az (n*(2^k*2^k))=Az n*2^k:=by
 have e:n*(2^k*2^k)=(Az n*2^k)*(Az n*2^k):=by rw [Tb,h]
 rw [e,o9]
theorem aFg {f m:Int} {neg:Bool} {N:Nat} {E:Int} (hf:Fm f) (hb:fP f+2<=An N):AD f m neg N E true=AD f m neg (2*N+1) (E-1) false:=by
 have hP:=Dr hf
 have e1:(2*N+1)/2^1=N:=by omega
 have e2:(2*N+1)%2^1≠0:=by omega
 have h0:N≠0:=fun h=>by
  rw [h] at hb
  have:An 0=0:=rfl
  omega
 have:=Zn (f:=f) (m:=m) (neg:=neg) (N:=2*N+1) (k:=1) (E:=E-1) hf (by rw [e1]; exact h0) (fun _=>by rw [e1]; exact hb)
 rw [e1,decide_eq_true e2,show E-1+((1:Nat):Int)=E by omega] at this
 exact this
theorem aSm {f m:Int} {neg:Bool} {N k:Nat} {E:Int} (hf:Fm f) (hb:fP f+2<=An (N/2^k)):AD f m neg (N/2^k) E true=AD f m neg (2*N+1) (E-k-1) false:=by
 have hP:=Dr hf
 have e1:(2*N+1)/2^(k+1)=N/2^k:=by
  rw [Nat.pow_succ,Nat.mul_comm (2^k),← Nat.div_div_eq_div_mul,show (2*N+1)/2=N by omega]
 have e2:(2*N+1)%2^(k+1)≠0:=by
  rw [Nat.pow_succ,Nat.mul_comm (2^k),Nat.mod_mul]; omega
 have h0:N/2^k≠0:=fun h=>by
  rw [h] at hb
  have:An 0=0:=rfl
  omega
 have:=Zn (f:=f) (m:=m) (neg:=neg) (N:=2*N+1) (k:=k+1) (E:=E-k-1) hf (by rw [e1]; exact h0) (fun _=>by rw [e1]; exact hb)
 rw [e1,decide_eq_true e2,show E-k-1+((k+1:Nat):Int)=E by omega] at this
 exact this
def Hk (f m:Int) (X:Nat) (E:Int):Nat×Nat :=
 if Az X*Az X=X then AD f m false (Az X) E false else AD f m false (2*Az X+1) (E-1) false
theorem aR2 {f m:Int} (hf:Fm f) {X:Nat} {E:Int} (hb:fP f+2<=An (Az X)):Hk f m X E=AD f m false (Az X) E (!decide (Az X*Az X=X)):=by
 unfold Hk
 by_cases h:Az X*Az X=X
 ·rw [if_pos h,decide_eq_true h]; rfl
 ·rw [if_neg h,decide_eq_false h,Bool.not_false,aFg hf hb]
theorem aCn {f m:Int} (hf:Fm f) {X k:Nat} {E:Int} (h0:X≠0) (hb:fP f+2<=An (Az X)):Hk f m (X*(2^k*2^k)) (E-k)=Hk f m X E:=by
 have hpos:=aRz h0
 have hsc:=aNQ X (2^k) (Nat.two_pow_pos k)
 unfold Hk
 by_cases h:Az X*Az X=X
 ·rw [if_pos h,if_pos ((aDZ X k).2 h),aI0 h,KZ hf (by omega),show E-(k:Int)+(k:Int)=E by omega]
 ·rw [if_neg h,if_neg (fun h2=>h ((aDZ X k).1 h2)),← aFg hf hb]
  have:=aSm (f:=f) (m:=m) (neg:=false) (N:=Az (X*(2^k*2^k))) (k:=k) (E:=E) hf (by rw [hsc]; exact hb)
  rw [hsc] at this
  exact this.symm
theorem aRU {X k:Nat} (h:2^(2*k)<=X):k+1<=An (Az X):=by
 apply kI
 apply nY
 rw [← Nat.pow_add,show k+k=2*k by omega]
 exact h
theorem pH {X k:Nat} (h:X<2^(2*k)):Az X<2^k:=by
 apply eK
 rw [← Nat.pow_add,show k+k=2*k by omega]
 exact Nat.lt_of_le_of_lt (lR X) h
end VL
namespace VL
open Go Vx
theorem aPZ (e:Int):(Int.tmod e 2 != 0)=decide (e%2=1):=by
 have:Int.tmod e 2=0↔e%2=0:=by
  rw [← Int.dvd_iff_tmod_eq_zero,Int.dvd_iff_emod_eq_zero]
 rw [Bool.eq_iff_iff,bne_iff_ne,decide_eq_true_eq]
 omega
theorem aKh (z:Int) (h:-1000000<=z/\z<=1000000):Bz .i64 (2*z) 2=z:=by
 unfold Bz
 rw [Int.mul_tdiv_cancel_left z (by decide)]
 exact As (by omega)
theorem aKG (n:Nat) (hn:n<2^128):Wq ((((0:Int),((0:Int),((),()))),(Wi n,())):Pat.D G2)=some (.inl (((Az n:Int),((),())),(Wi n,()))):=by
 have hb:Az n<2^64:=pH (k:=64) hn
 have key:=Do (aGv Dt.pre Dt.F C7.pre C7.F) (fun x=>64-x.1.1.toNat)
  (fun x=>∃ i:Nat,i<=64/\x=(((i:Int),(((Az n/2^(64-i)*2^(64-i):Nat):Int),((),()))),(Wi n,())))
  (fun _=>.inl (((Az n:Int),((),())),(Wi n,()))) ?_ _ ⟨0,by omega,by rw [Nat.div_eq_of_lt hb]⟩
 ·exact key
 intro L x hx hL
 obtain ⟨i,hi,rfl⟩:=hx
 unfold Vf
 rcases Nat.lt_or_ge i 64 with hlt | hge
 ·have e5:IntKind.wrap .i64 ((63:Int)-(i:Int))=((63-i:Nat):Int):=by rw [As (by omega)]; omega
  have e6:IntKind.wrap .i64 ((i:Int)+1)=((i+1:Nat):Int):=by rw [As (by omega)]; omega
  have e7:decide ((0:Int)<=((63-i:Nat):Int))=true:=decide_eq_true (by omega)
  have e8:decide ((i:Int)<64)=true:=decide_eq_true (by omega)
  have es:64-i=(63-i)+1:=by omega
  rw [es]
  generalize hs:63-i=s at *
  have hs63:s<=63:=by omega
  have hsh:=JZ hs63
  have hp:=Nat.two_pow_pos s
  have hd:Az n/2^(s+1)=Az n/2^s/2:=by rw [Nat.pow_succ,Nat.div_div_eq_div_mul]
  have hdm:=Nat.div_add_mod (Az n) (2^s)
  have hml:=Nat.mod_lt (Az n) hp
  have hps:2^(s+1)=2^s*2:=Nat.pow_succ ..
  generalize hc:Az n/2^s=c at *
  have hcle:c*2^s<=Az n:=by rw [Nat.mul_comm]; omega
  have e1:c/2*2^(s+1)=2^s*(2*(c/2)):=by rw [hps,Nat.mul_comm,Nat.mul_assoc]
  have hw:AW .u64 ((c/2*2^(s+1):Nat):Int) ((2^s:Nat):Int)=((2^s*(2*(c/2)+1):Nat):Int):=by
   have hlt2:2^s*(2*(c/2)+1)<2^64:=by
    have h1:Az n<2^s*(c+1):=by rw [Nat.mul_add,Nat.mul_one]; omega
    have h2:2^s*(c+1)<=2^64:=by
     have e:2^64=2^s*2^(64-s):=by rw [← Nat.pow_add]; congr 1; omega
     have h3:c<2^(64-s):=by
      rw [e] at hb
      have:2^s*c<2^s*2^(64-s):=by omega
      exact Nat.lt_of_mul_lt_mul_left this
     rw [e]
     exact Nat.mul_le_mul_left _ h3
    have e2:2^64=2^(s+1)*2^(63-s):=by rw [← Nat.pow_add]; congr 1; omega
    have h4:c/2<2^(63-s):=by
     have h3:2^s*c<2^64:=by omega
     rw [e2,hps,Nat.mul_assoc] at h3
     have:=Nat.lt_of_mul_lt_mul_left h3
     omega
    have h5:2^s*(2*(c/2)+1)<2^s*(2*(c/2+1)):=Nat.mul_lt_mul_of_pos_left (by omega) hp
    have h6:2^s*(2*(c/2+1))<=2^64:=by
     rw [e2,hps,Nat.mul_assoc]
     exact Nat.mul_le_mul_left _ (Nat.mul_le_mul_left _ h4)
    omega
   have ha:c/2*2^(s+1)<2^64:=by
    rw [e1]
    have:=Nat.mul_le_mul_left (2^s) (show 2*(c/2)<=2*(c/2)+1 by omega)
    omega
   rw [Tt ha (Nat.pow_lt_pow_right (by decide) (by omega))]
   congr 1
   have:=Nat.two_pow_add_eq_or_of_lt (i:=s+1) (b:=2^s) (by rw [hps]; omega) (c/2)
   rw [Nat.mul_comm (c/2),← this,hps,Nat.mul_add,Nat.mul_one,Nat.mul_assoc]
  have hW:2^s*(2*(c/2)+1)<2^64:=by
   have h3:2^s*c<2^64:=by omega
   have e:2^64=2^s*(2*2^(63-s)):=by rw [← Nat.mul_assoc,← Nat.pow_succ,← Nat.pow_add]; congr 1; omega
   rw [e] at h3 ⊢
   have h4:=Nat.lt_of_mul_lt_mul_left h3
   exact Nat.mul_lt_mul_of_pos_left (by omega) hp
  have p0:=nH hW hW
  have p1:=aG3 (2^s*(2*(c/2)+1)*(2^s*(2*(c/2)+1))) n
  have hle:decide ((if 2^s*(2*(c/2)+1)*(2^s*(2*(c/2)+1))=n then (0:Int) else if 2^s*(2*(c/2)+1)*(2^s*(2*(c/2)+1))<n then -1 else 1)<=0)=decide (c%2=1):=by
   have h1:2^s*(2*(c/2)+1)*(2^s*(2*(c/2)+1))<=n↔c%2=1:=by
    constructor
    ·intro h
     have h2:=nY h
     have h3:2^s*(2*(c/2)+1)<2^s*(c+1):=by rw [Nat.mul_add (2^s) c,Nat.mul_one]; omega
     have:=Nat.lt_of_mul_lt_mul_left h3
     omega
    ·intro h
     have e:2*(c/2)+1=c:=by omega
     rw [e,Nat.mul_comm (2^s) c]
     exact Nat.le_trans (gK hcle) (lR n)
   rw [Bool.eq_iff_iff,decide_eq_true_eq,decide_eq_true_eq,← h1]
   split
   ·omega
   ·split <;> omega
  dsimp only
  simp only [e5,e6,e7,e8,hd,hsh,hw,cond_true,nM p0,vK p0,aEq p1,aCt p1,hle]
  by_cases hc1:c%2=1
  ·rw [decide_eq_true hc1,cond_true]
   have e:2*(c/2)+1=c:=by omega
   rw [e]
   exact hL _ ⟨i+1,by omega,by rw [show 64-(i+1)=s by omega,hc,Nat.mul_comm]⟩ (by simp only [Int.toNat_natCast]; omega)
  ·rw [decide_eq_false hc1,cond_false]
   have e:2*(c/2)=c:=by omega
   rw [e1,e]
   exact hL _ ⟨i+1,by omega,by rw [show 64-(i+1)=s by omega,hc,Nat.mul_comm]⟩ (by simp only [Int.toNat_natCast]; omega)
 ·have e:i=64:=by omega
  subst e
  have e8:decide (((64:Nat):Int)<64)=false:=rfl
  simp only [e8,cond_false,Nat.sub_self,Nat.pow_zero,Nat.div_one,Nat.mul_one]
theorem aMJ {a b:Nat}:(((Wi a).1==(Wi b).1)&&((Wi a).2.1==(Wi b).2.1))=decide (a=b):=by
 show (((a/2^64:Nat):Int)==((b/2^64:Nat):Int)&&((a%2^64:Nat):Int)==((b%2^64:Nat):Int))=_
 rw [Il,Il,Bool.eq_iff_iff,Bool.and_eq_true,beq_iff_eq,beq_iff_eq,decide_eq_true_eq]
 omega
theorem aPv (n:Nat) (hn:n<2^128):U8 (Wi n,())=some ((Az n:Int),decide (Az n*Az n=n),()):=by
 have hb:Az n<2^64:=pH (k:=64) hn
 show lV Dt.pre Dt.F C7.pre C7.F Wq (Wi n)=_
 unfold lV
 have hw:=aKG n hn
 have p0:=nH hb hb
 show Vx.A1 (Wq (((0:Int),((0:Int),((),()))),(Wi n,()))) _=_
 rw [hw]
 show (bif C7.pre ((Az n:Int),((Az n:Int),())) then some ((Az n:Int),((((C7.F ((Az n:Int),((Az n:Int),()))).1.1==(Wi n).1)&&((C7.F ((Az n:Int),((Az n:Int),()))).1.2.1==(Wi n).2.1)),())) else none)=_
 simp only [nM p0,vK p0,cond_true]
 exact congrArg (fun b:Bool=>some ((Az n:Int),(b,()))) aMJ
theorem aKw {n:Nat} (hn:n<2^64):Wg (((0:Int),((n:Int),())),())=some ((An n:Int),()):=by
 show iC Bw.pre Bw.F ((0:Int),((n:Int),()))=_
 unfold iC
 have p0:=UK n hn
 simp only [bne_self_eq_false,cond_false,VI p0,UN p0,cond_true]
theorem aIk {f:Int} {a:Nat} (h:Am f a=0):Yf (f,Bp f,(a:Int),())=some ((Ad f a:Int),Af f a,()):=by
 obtain ⟨hf,h0⟩:=CR h
 show gE Bo.pre Bo.F f (Bp f) a=_
 unfold gE
 have h1:=Dr hf
 have h2:=ES hf
 have h3:=Ei hf
 have h4:=HK hf
 have h5:=E7 hf
 have h6:=Qk hf
 have hE:=R7 hf a
 have hM:=Sd f a
 have hPp:2^(fP f-1)<=2^52:=Nat.pow_le_pow_right (by decide) (by omega)
 have p98:=SJ h
 have r2:(Bp f).2.1=(fP f:Int):=rfl
 have r3:(Bp f).2.2.1=1-(fX f:Int):=rfl
 have e2:IntKind.wrap .i64 ((fP f:Int)-1)=((fP f-1:Nat):Int):=Bj _ (by omega)
 have e3:AT .u64 1 ((fP f-1:Nat):Int)=((2^(fP f-1):Nat):Int):=JZ (by omega)
 have e4:AW .u64 (mF f a:Int) ((2^(fP f-1):Nat):Int)=((mF f a+2^(fP f-1):Nat):Int):=by
  have:=FJ (a:=mF f a) (b:=1) (k:=fP f-1) hM (by omega)
  rwa [Nat.one_mul] at this
 have hE2:eF f a<65536:=by
  have:=aBl (f:=f) a
  have e:BF f=2*fX f+1:=by unfold BF; rw [← aHG hf]
  omega
 have e5:∀ k:Nat,k<65536->IntKind.wrap .i64 (IntKind.wrap .i64 (IntKind.wrap .i64 (IntKind.wrap .i64 (IntKind.wrap .i64 (k:Int)-1)+(1-(fX f:Int)))-(fP f:Int))+1)=(k:Int)-1+(1-(fX f:Int))-(fP f:Int)+1:=fun k hk=>by
  rw [As (n:=(k:Int)) (by omega),As (n:=(k:Int)-1) (by omega),As (n:=(k:Int)-1+_) (by omega),As (n:=(k:Int)-1+_-_) (by omega),As (by omega)]
 have e6:=e5 1 (by decide)
 rw [show ((1:Nat):Int)=1 from rfl] at e6
 dsimp only
 simp only [r2,r3,e2,AX,cond_true,Sn p98,R8 p98,e3,e4,e6,e5 _ hE2,FB]
 unfold Ad Af
 by_cases hz:eF f a=0
 ·rw [hz,if_pos rfl,if_pos rfl]
  show some ((mF f a:Int),((1:Int)-1+(1-(fX f:Int))-(fP f:Int)+1,()))=_
  rw [show (1:Int)-1+(1-(fX f:Int))-(fP f:Int)+1=1-(fX f:Int)-(fP f:Int)+1+0 by omega]
 ·have:(eF f a==0)=false:=by simpa using hz
  rw [this,cond_false,if_neg hz,if_neg hz]
  rw [show (eF f a:Int)-1+(1-(fX f:Int))-(fP f:Int)+1=1-(fX f:Int)-(fP f:Int)+1+((eF f a:Int)-1) by omega]
def CE (f:Int) (l:List Nat):Bool:=l.all fun a=>Am f a==0
theorem TB {f:Int} (hf:Fm f) (a:Nat):Am f a=0∨Am f a=4:=by
 unfold Am
 rw [if_pos hf]
 split <;> simp
theorem aTq {f:Int} (hf:Fm f) (l:List Nat) (hl:∀ a∈l,a<2^64) (hlen:l.length<1000) (z r:Aa (.pair (.int .i64) (.pair (.int .i64) (.pair (.int .i64) (.pair (.int .i64) (.unit)))))) :
  ZI ((((l.length:Int),(Wd l,(f,((0:Int),((),((),())))))),(z,(r,()))):Pat.D G5)=some (bif CE f l then .inl (((),((),())),(z,(r,()))) else .inr (((),((4:Int),())),(r,()))):=by
 have key:=Do (aBm Aq.pre Aq.F Ar.pre Ar.F) (fun x=>l.length-x.1.2.2.2.1.toNat)
  (fun x=>∃ i:Nat,i<=l.length/\CE f (l.take i)=true/\x=(((l.length:Int),(Wd l,(f,((i:Int),((),((),())))))),(z,(r,()))))
  (fun _=>bif CE f l then .inl (((),((),())),(z,(r,()))) else .inr (((),((4:Int),())),(r,()))) ?_ _ ⟨0,Nat.zero_le _,rfl,rfl⟩
 ·exact key
 intro L x hx hL
 obtain ⟨i,hi,hok,rfl⟩:=hx
 unfold TL
 rcases Nat.lt_or_ge i l.length with hlt | hge
 ·have hg:l.getD i 0=l[i]:=by simp [List.getD_eq_getElem?_getD,hlt]
  have hmem:l[i]∈l:=List.getElem_mem hlt
  have ha:=hl _ hmem
  have p0:=Eq f l[i] ha
  have e0:decide ((i:Int)<(l.length:Int))=true:=decide_eq_true (by omega)
  have e1:(decide ((0:Int)<=(i:Int))&&decide ((i:Int)<((Wd l).length:Int)))=true:=by rw [AA,decide_eq_true (by omega),decide_eq_true (by omega)]; rfl
  have e2:(Wd l).getD (Int.toNat (i:Int)) 0=((l[i]:Nat):Int):=by rw [Int.toNat_natCast,Cc,hg]
  have e3:IntKind.wrap .i64 ((i:Int)+1)=((i+1:Nat):Int):=by rw [As (by omega)]; omega
  have htk:l.take (i+1)=l.take i++[l[i]]:=by rw [List.take_succ_eq_append_getElem hlt]
  dsimp only
  simp only [e0,e1,e2,e3,cond_true,DC p0,DD p0]
  by_cases hc:Am f l[i]=0
  ·rw [hc,bne_self_eq_false,cond_false]
   refine hL _ ⟨i+1,by omega,?_,rfl⟩ (by simp only [Int.toNat_natCast]; omega)
   unfold CE at hok ⊢
   rw [htk,List.all_append,hok,List.all_cons,hc]; rfl
  ·have h4:Am f l[i]=4:=(TB hf _).resolve_left hc
   have hno:CE f l=false:=by
    unfold CE
    rw [List.all_eq_false]
    exact ⟨l[i],hmem,by rw [h4]; decide⟩
   rw [h4,hno]; rfl
 ·have e:i=l.length:=by omega
  subst e
  rw [List.take_length] at hok
  have e0:decide ((l.length:Int)<(l.length:Int))=false:=decide_eq_false (by omega)
  simp only [e0,cond_false]
  rw [hok]; rfl
def AR (f m:Int) (l:List Nat):Int:=if ¬ Fm f then 2 else if m<0∨m>5 then 3 else bif CE f l then 0 else 4
theorem aNo {f m:Int} (hf:Fm f) (l:List Nat) (hl:∀ a∈l,a<2^64) (hlen:l.length<1000):VJ (f,m,Wd l,())=some (Bp f,AR f m l,()):=by
 show Vj Aq.pre Aq.F Ar.pre Ar.F ZI f m (Wd l)=_
 unfold Vj AR
 have p0:=Fd hf
 rw [if_neg (show ¬ ¬ Fm f from fun h=>h hf)]
 simp only [Dh p0,C8 p0,cond_true,bne_self_eq_false,cond_false]
 by_cases hm:m<0∨m>5
 ·have:(decide (m<0)||decide (m>5))=true:=by rw [Bool.or_eq_true,decide_eq_true_eq,decide_eq_true_eq]; exact hm
  rw [this,if_pos hm]; rfl
 ·have:(decide (m<0)||decide (m>5))=false:=by rw [Bool.or_eq_false_iff,decide_eq_false_iff_not,decide_eq_false_iff_not]; omega
  rw [this,if_neg hm,cond_false,AA,aTq hf l hl hlen]
  cases CE f l <;> rfl
theorem aJQ {f m:Int} (hf:¬ Fm f) (l:List Nat):VJ (f,m,Wd l,())=some ((0,0,0,0,()),2,()):=by
 show Vj Aq.pre Aq.F Ar.pre Ar.F ZI f m (Wd l)=_
 unfold Vj
 have p0:=GO hf
 simp only [Dh p0,C8 p0,cond_true]
 rfl
theorem aUp {f:Int} (hf:Fm f) (c:Int):Zc (f,c,())=some (bif c==1 then ((CH f:Int),0,true,()) else bif (c==0||c==2||c==3||c==4) then ((CH f:Int),1,true,()) else ((0:Int),0,false,())):=by
 show mJ AB.pre AB.F f c=_
 unfold mJ
 have p0:=Ew hf
 simp only [FE p0,Fo p0,cond_true]
 cases c==1 <;> cases c==0 <;> cases c==2 <;> cases c==3 <;> cases c==4 <;> rfl
theorem aNm {f:Int} (hf:Fm f) (a:Nat):(Av f a==2||Av f a==3||Av f a==4)=(sF f a&&!AN f a&&!nan f a):=by
 have hfull:=NG hf
 unfold Av AN nan
 simp only [bne]
 cases h1:eF f a==BF f <;> cases h2:mF f a==0 <;> cases sF f a <;> cases h3:eF f a==0 <;> cases mF f a/2^(fP f-2)==0 <;> first | rfl | (exfalso; rw [beq_iff_eq] at h1 h3; omega)
theorem aLw {f:Int} (hf:Fm f) (a:Nat):(Av f a==9)=(Au f a&&!sF f a):=by
 have hfull:=NG hf
 unfold Av Au
 simp only [bne]
 cases h1:eF f a==BF f <;> cases h2:mF f a==0 <;> cases sF f a <;> cases h3:eF f a==0 <;> cases mF f a/2^(fP f-2)==0 <;> first | rfl | (exfalso; rw [beq_iff_eq] at h1 h3; omega)
def KP (f m:Int) (n:Nat) (e:Int):Nat×Nat:=if e%2=1 then Hk f m (n*2*2^200) ((e-1)/2-100) else Hk f m (n*2^200) (e/2-100)
def Qi (f m:Int) (a:Nat):Int×Int×Int×Unit :=
 if AR f m [a]≠0 then (0,0,AR f m [a],())
 else bif nan f a then ((CH f:Int),(bif AJ f a then 1 else 0),0,())
 else bif sF f a&&!AN f a then ((CH f:Int),1,0,())
 else bif AN f a||Au f a then ((a:Int),0,0,())
 else (((KP f m (Ad f a) (Af f a)).1:Int),((KP f m (Ad f a) (Af f a)).2:Int),0,())
theorem LW {f m:Int} {l:List Nat} (h:AR f m l=0):Fm f/\(0<=m/\m<=5)/\∀ a∈l,Am f a=0:=by
 unfold AR at h
 by_cases hf:Fm f
 ·rw [if_neg (show ¬ ¬ Fm f from fun h=>h hf)] at h
  by_cases hm:m<0∨m>5
  ·rw [if_pos hm] at h; cases h
  ·rw [if_neg hm] at h
   refine ⟨hf,by omega,?_⟩
   cases hk:CE f l
   ·rw [hk] at h; cases h
   ·unfold CE at hk
    rw [List.all_eq_true] at hk
    exact fun a ha=>by simpa using hk a ha
 ·rw [if_pos hf] at h; cases h
theorem aS7 {f m:Int} (hf:Fm f) {n:Nat} (h0:n≠0) (hn:n<2^64) (e:Int) (s:Nat) (hs:An n+s=126∨An n+s=127) (hpar:(e-s)%2=0) :
  KP f m n e=Hk f m (n*2^s) ((e-s)/2)/\63<=An (Az (n*2^s))/\n*2^s<2^128:=by
 have hPl:=E7 hf
 have hb:=En hn
 have hb1:=Jp h0
 have hle:=Ji h0
 have hlt:=Gq n
 have hlow:2^(2*62)<=n*2^s:=by
  have:2^(An n-1)*2^s<=n*2^s:=Nat.mul_le_mul_right _ hle
  rw [← Nat.pow_add] at this
  exact Nat.le_trans (Nat.pow_le_pow_right (by decide) (by omega)) this
 have hbl:=aRU hlow
 have hX0:n*2^s≠0:=fun h=>by rw [h] at hlow; exact absurd hlow (by decide)
 have hup:n*2^s<2^128:=by
  have:n*2^s<2^An n*2^s:=Nat.mul_lt_mul_of_pos_right hlt (Nat.two_pow_pos s)
  rw [← Nat.pow_add] at this
  exact Nat.lt_of_lt_of_le this (Nat.pow_le_pow_right (by decide) (by omega))
 refine ⟨?_,hbl,hup⟩
 unfold KP
 by_cases ho:e%2=1
 ·rw [if_pos ho]
  obtain ⟨k,hk⟩:∃ k,s+2*k=201:=⟨(201-s)/2,by omega⟩
  have:=aCn (f:=f) (m:=m) (k:=k) (E:=(e-s)/2) hf hX0 (by omega)
  rw [← this]
  have e1:n*2*2^200=n*2^s*(2^k*2^k):=by
   rw [Nat.mul_assoc n 2,show 2*2^200=2^201 by decide,← hk,← Nat.pow_add,show k+k=2*k by omega,Nat.pow_add,Nat.mul_assoc]
  rw [e1,show (e-1)/2-100=(e-(s:Int))/2-(k:Int) by omega]
 ·rw [if_neg ho]
  obtain ⟨k,hk⟩:∃ k,s+2*k=200:=⟨(200-s)/2,by omega⟩
  have:=aCn (f:=f) (m:=m) (k:=k) (E:=(e-s)/2) hf hX0 (by omega)
  rw [← this]
  have e1:n*2^200=n*2^s*(2^k*2^k):=by
   rw [← hk,← Nat.pow_add,show k+k=2*k by omega,Nat.pow_add,Nat.mul_assoc]
  rw [e1,show e/2-100=(e-(s:Int))/2-(k:Int) by omega]
theorem aNT (f m:Int) {a:Nat} (ha:a<2^64):WV (f,m,(a:Int),())=some (Qi f m a):=by
 show fG QC.pre QC.F AF.pre AF.F Nk.pre Nk.F Ri.pre Ri.F Ql.pre Ql.F AG.pre AG.F QN.pre QN.F A4.pre A4.F f m a=_
 unfold fG Qi
 rw [show ((a:Int)::[])=Wd [a] from rfl]
 by_cases hf:Fm f
 case neg =>
  have p0:=aJQ (m:=m) hf [a]
  have e0:AR f m [a]=2:=by unfold AR; rw [if_pos hf]
  rw [e0]
  simp only [t9 p0,qT p0,cond_true]
  rfl
 have p0:=aNo (m:=m) hf [a] (fun b hb=>by rw [List.mem_singleton] at hb; omega) (show (1:Nat)<1000 by decide)
 by_cases hk:AR f m [a]≠0
 ·rw [if_pos hk]
  have:(AR f m [a] != 0)=true:=bne_iff_ne.2 hk
  simp only [t9 p0,qT p0,cond_true,this]
 have hk:AR f m [a]=0:=Classical.not_not.1 hk
 obtain ⟨_,hm,hc⟩:=LW hk
 have h:=hc a (List.mem_singleton.2 rfl)
 rw [if_neg (show ¬ AR f m [a]≠0 from fun h=>h hk)]
 rw [hk] at p0
 have p1:=F7 ha h
 have p2:=aUp hf (Av f a)
 have hcn:=GW f a
 have hcs:=E9 f a
 have hcb:=aNm hf a
 have hcz:=X7 hf a
 have hcu:=aLw hf a
 simp only [t9 p0,qT p0,cond_true,bne_self_eq_false,cond_false,Du p1,DA p1,aS4 p2,aPa p2]
 cases hn:nan f a
 case true =>
  cases hs:AJ f a
  ·rw [hs] at hcs
   rw [hn,hcs,Bool.or_false] at hcn
   rw [hcn]; rfl
  ·rw [hs] at hcs
   have h1:(Av f a==1)=false:=by
    rw [beq_iff_eq] at hcs
    rw [hcs]; rfl
   rw [h1,hcs]; rfl
 rw [hn,Bool.or_eq_false_iff] at hcn
 rw [hn,Bool.not_false,Bool.and_true] at hcb
 rw [hcn.1,hcn.2,Bool.false_or]
 simp only [cond_false]
 rw [hcb]
 cases hb:sF f a&&!AN f a
 case true=>rfl
 simp only [cond_false]
 have e1:((Av f a==9)||(Av f a==6)||(Av f a==5))=(AN f a||Au f a):=by
  rw [Bool.or_assoc,Bool.or_comm (Av f a==6),hcz,hcu]
  cases hz:AN f a
  ·rw [hz,Bool.not_false,Bool.and_true] at hb
   rw [hb]; cases Au f a <;> rfl
  ·rw [Bool.or_true,Bool.true_or]
 rw [e1]
 cases hzi:AN f a||Au f a
 case true=>rfl
 simp only [cond_false]
 rw [Bool.or_eq_false_iff] at hzi
 have h0:=JW hzi.1
 have hml:=Fs hf a
 have hx:=Gl hf a
 have h64:Ad f a<2^64:=Nat.lt_of_lt_of_le hml (Nat.pow_le_pow_right (by decide) (by decide))
 have hbl:=En hml
 have hbl1:=Jp h0
 have p3:=aIk h
 have p4:=aKw h64
 have hWi:((0:Int),((Ad f a:Int),()))=Wi (Ad f a):=by
  unfold Wi
  rw [Nat.div_eq_of_lt h64,Nat.mod_eq_of_lt h64]; rfl
 rw [hWi] at p4
 generalize hs:126-An (Ad f a)=s at *
 have e12:IntKind.wrap .i64 ((126:Int)-(An (Ad f a):Int))=(s:Int):=by rw [As (by omega)]; omega
 have e11:IntKind.wrap .i64 ((s:Int)+1)=((s+1:Nat):Int):=by rw [As (by omega)]; omega
 have e13:IntKind.wrap .i64 (Af f a-(s:Int))=Af f a-(s:Int):=As (by omega)
 have e14:IntKind.wrap .i64 (Af f a-((s+1:Nat):Int))=Af f a-((s+1:Nat):Int):=As (by omega)
 have go:∀ t:Nat,(An (Ad f a)+t=126∨An (Ad f a)+t=127)->(Af f a-t)%2=0 ->
   Qw (Wi (Ad f a),(t:Int),())=some (Wi (Ad f a*2^t),()) /\
   U8 (Wi (Ad f a*2^t),())=some ((Az (Ad f a*2^t):Int),decide (Az (Ad f a*2^t)*Az (Ad f a*2^t)=Ad f a*2^t),()) /\
   Bz .i64 (Af f a-(t:Int)) 2=(Af f a-(t:Int))/2 /\
   Ss (f,m,false,((0:Int),((Az (Ad f a*2^t):Int),())),(Af f a-(t:Int))/2,!decide (Az (Ad f a*2^t)*Az (Ad f a*2^t)=Ad f a*2^t),()) =
    some (((KP f m (Ad f a) (Af f a)).1:Int),((KP f m (Ad f a) (Af f a)).2:Int),0,()):=fun t ht hp=>by
  obtain ⟨r1,r2,r3⟩:=aS7 (m:=m) hf h0 h64 (Af f a) t ht hp
  have q1:=qE (Ad f a) t (Nat.lt_of_lt_of_le h64 (Nat.pow_le_pow_right (by decide) (by decide)))
  rw [Nat.mod_eq_of_lt r3] at q1
  have hq:Bz .i64 (Af f a-(t:Int)) 2=(Af f a-(t:Int))/2:=by
   have:=aKh ((Af f a-(t:Int))/2) (by omega)
   rw [show 2*((Af f a-(t:Int))/2)=Af f a-(t:Int) by omega] at this
   exact this
  have hr64:Az (Ad f a*2^t)<2^64:=pH (k:=64) r3
  have hr0:Az (Ad f a*2^t)≠0:=fun h=>by
   rw [h] at r2
   have:An 0=0:=rfl
   omega
  have hPl:=E7 hf
  have q4:=LQ hf hm false (Az (Ad f a*2^t)) (Nat.lt_of_lt_of_le hr64 (Nat.pow_le_pow_right (by decide) (by decide))) ((Af f a-(t:Int))/2) (by omega) (!decide (Az (Ad f a*2^t)*Az (Ad f a*2^t)=Ad f a*2^t)) (fun _=>by omega)
  rw [if_neg hr0,← aR2 hf (by omega),← r1] at q4
  have hWr:Wi (Az (Ad f a*2^t))=((0:Int),((Az (Ad f a*2^t):Int),())):=by
   unfold Wi
   rw [Nat.div_eq_of_lt hr64,Nat.mod_eq_of_lt hr64]; rfl
  rw [hWr] at q4
  exact ⟨q1,aPv _ r3,hq,q4⟩
 simp only [aTv p3,aI6 p3,aS8 p4,aJB p4,cond_true,e12,e11,e13,e14,aPZ,hWi]
 by_cases ho:(Af f a-(s:Int))%2=1
 ·obtain ⟨q1,q2,q3,q4⟩:=go (s+1) (by omega) (by omega)
  rw [decide_eq_true ho]
  simp only [lI q1,aQ q1,xP q2,aFy q2,q3,HR q4,Hz q4,cond_true]
 ·obtain ⟨q1,q2,q3,q4⟩:=go s (by omega) (by omega)
  rw [decide_eq_false ho]
  simp only [lI q1,aQ q1,xP q2,aFy q2,q3,HR q4,Hz q4,cond_true,cond_false]
end VL
end
