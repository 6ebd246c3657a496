/- Part 7 of the proof. What is proved: symbolic execution of the functions, proved sound; what each function of the program computes, and that every run ends with it; what these functions compute, in plain numbers. Conditions: each theorem bears its own. -/
import Derived.Test.YtkkidampbmfagaaGreatDoorVxG6
set_option linter.all false
set_option exponentiation.threshold 1000000
noncomputable section
namespace VL
open Go Vx
theorem aDr {q r yn1 yn0 u u1:Nat} (hq:q*yn1+r=u):(2^32*r+u1<q*yn0)↔u*2^32+u1<q*(yn1*2^32+yn0):=by
 rw [Nat.mul_add,← Nat.mul_assoc,← hq,Nat.add_mul]
 omega
theorem aAu {q r yn1 yn0 u u1:Nat} (hq:q*yn1+r=u) (hr:r<2^32) (h0:yn0<2^32) (hu1:u1<2^32) (hlt:u<yn1*2^32+yn0) :
  (decide ((q:Int)>=4294967296)||decide (IntKind.wrap .u64 ((q:Int)*(yn0:Int))>IntKind.wrap .u64 (IntKind.wrap .u64 ((4294967296:Int)*(r:Int))+(u1:Int))))=decide (u*2^32+u1<q*(yn1*2^32+yn0)):=by
 rcases Nat.lt_or_ge q (2^32) with h | h
 ·have hm:q*yn0<=(2^32-1)*(2^32-1):=Nat.mul_le_mul (by omega) (by omega)
  have e1:IntKind.wrap .u64 ((q:Int)*(yn0:Int))=((q*yn0:Nat):Int):=oD _ _ (by omega)
  have e2:IntKind.wrap .u64 ((4294967296:Int)*(r:Int))=((2^32*r:Nat):Int):=oD (2^32) r (by omega)
  have e3:IntKind.wrap .u64 (((2^32*r:Nat):Int)+(u1:Int))=((2^32*r+u1:Nat):Int):=UL _ _ (by omega)
  have e4:decide ((q:Int)>=4294967296)=false:=decide_eq_false (by omega)
  rw [e1,e2,e3,e4,Bool.false_or,Bool.eq_iff_iff,decide_eq_true_eq,decide_eq_true_eq,← aDr hq]
  omega
 ·have e4:decide ((q:Int)>=4294967296)=true:=decide_eq_true (by omega)
  have hm:2^32*(yn1*2^32+yn0)<=q*(yn1*2^32+yn0):=Nat.mul_le_mul_right _ h
  rw [e4,Bool.true_or,decide_eq_true (by omega)]
theorem aAz {yn1 yn0 u u1:Nat} (hy:0<yn1) (hu1:u1<2^32):u*2^32+u1<(u/yn1+1)*(yn1*2^32+yn0):=by
 have h1:u<(u/yn1+1)*yn1:=by
  have:=Nat.lt_div_mul_add hy (a:=u)
  rw [Nat.add_mul,Nat.one_mul]; exact this
 rw [Nat.mul_add,← Nat.mul_assoc]
 omega
theorem aFQ {q r yn1 yn0 u u1:Nat} (hq:q*yn1+r=u) (h:u*2^32+u1<q*(yn1*2^32+yn0)):1<=q/\(q-1)*yn1+(r+yn1)=u:=by
 have h1:1<=q:=by
  rcases Nat.eq_zero_or_pos q with h0 | h0
  ·rw [h0,Nat.zero_mul] at h; omega
  ·exact h0
 refine ⟨h1,?_⟩
 obtain ⟨p,rfl⟩:∃ p,q=p+1:=⟨q-1,by omega⟩
 rw [Nat.add_mul,Nat.one_mul] at hq
 rw [show p+1-1=p by omega]
 omega
theorem aEo {q r yn1 yn0 u u1:Nat} (hq:q*yn1+r=u) (hr:2^32<=r) (h0:yn0<2^32) (hlt:u<yn1*2^32+yn0):q*(yn1*2^32+yn0)<=u*2^32+u1:=by
 have h1:q*yn1<2^32*yn1:=by omega
 have h2:q<2^32:=Nat.lt_of_mul_lt_mul_right h1
 have h3:q*yn0<=2^32*(2^32-1):=Nat.mul_le_mul (by omega) (by omega)
 have h4:¬ 2^32*r+u1<q*yn0:=by omega
 rw [aDr hq] at h4
 omega
theorem i9 {a b q:Nat} (h1:q*b<=a) (h2:a<(q+1)*b):a/b=q:=Nat.div_eq_of_lt_le h1 h2
theorem aI3 {u u1 yn0 yn1:Nat} (h0:yn0<2^32) (h1:yn1<2^32) (hy:0<yn1) (hu1:u1<2^32) (hlt:u<yn1*2^32+yn0) (u0 y s:Int) :
  bZ ((((u%yn1:Nat):Int),((u:Int),((u1:Int),((yn0:Int),((yn1:Int),(((u/yn1:Nat):Int),(u0,(y,(s,()))))))))),()) =
   some (.inl (((u:Int),((u1:Int),((yn0:Int),((yn1:Int),((((u*2^32+u1)/(yn1*2^32+yn0):Nat):Int),(u0,(y,(s,())))))))),())):=by
 have key:=Do (xN BA.pre BA.F) (fun x=>x.1.2.2.2.2.2.1.toNat)
  (fun x=>∃ q r:Nat,q*yn1+r=u/\r<2^32/\u*2^32+u1<(q+1)*(yn1*2^32+yn0)/\x=(((r:Int),((u:Int),((u1:Int),((yn0:Int),((yn1:Int),((q:Int),(u0,(y,(s,()))))))))),()))
  (fun _=>.inl (((u:Int),((u1:Int),((yn0:Int),((yn1:Int),((((u*2^32+u1)/(yn1*2^32+yn0):Nat):Int),(u0,(y,(s,())))))))),())) ?_ _
  ⟨u/yn1,u%yn1,by rw [Nat.mul_comm]; exact Nat.div_add_mod u yn1,Nat.lt_trans (Nat.mod_lt _ hy) h1,aAz hy hu1,rfl⟩
 ·exact key
 intro L x hx hL
 obtain ⟨q,r,hq,hr,hup,rfl⟩:=hx
 unfold VK
 have hqu:q<=u:=by
  have:=Nat.le_mul_of_pos_right q hy
  omega
 dsimp only
 rw [aAu hq hr h0 hu1 hlt]
 by_cases hc:u*2^32+u1<q*(yn1*2^32+yn0)
 ·obtain ⟨d1,d2⟩:=aFQ hq hc
  have e1:IntKind.wrap .u64 ((q:Int)-1)=((q-1:Nat):Int):=by rw [D9 (by omega)]; omega
  have e2:IntKind.wrap .u64 ((r:Int)+(yn1:Int))=((r+yn1:Nat):Int):=UL _ _ (by omega)
  rw [decide_eq_true hc,cond_true,e1,e2]
  by_cases hb:2^32<=r+yn1
  ·have e3:decide (((r+yn1:Nat):Int)>=4294967296)=true:=decide_eq_true (by omega)
   rw [e3,cond_true]
   have:=aEo (u1:=u1) d2 hb h0 hlt
   rw [i9 this (by rw [show q-1+1=q by omega]; exact hc)]
  ·have e3:decide (((r+yn1:Nat):Int)>=4294967296)=false:=decide_eq_false (by omega)
   rw [e3,cond_false]
   exact hL _ ⟨q-1,r+yn1,d2,by omega,by rw [show q-1+1=q by omega]; exact hc,rfl⟩ (by simp only [Int.toNat_natCast]; omega)
 ·rw [decide_eq_false hc,cond_false,i9 (by omega) hup]
theorem aNY {u u1 yn0 yn1:Nat} (h0:yn0<2^32) (h1:yn1<2^32) (hy:0<yn1) (hu1:u1<2^32) (hlt:u<yn1*2^32+yn0) (q1 y s:Int) :
  jF (((yn0:Int),(((u%yn1:Nat):Int),((yn1:Int),(q1,((u:Int),((u1:Int),(((u/yn1:Nat):Int),(y,(s,()))))))))),()) =
   some (.inl ((q1,((u:Int),((u1:Int),((((u*2^32+u1)/(yn1*2^32+yn0):Nat):Int),(y,(s,())))))),())):=by
 have key:=Do (aG0 BA.pre BA.F) (fun x=>x.1.2.2.2.2.2.2.1.toNat)
  (fun x=>∃ q r:Nat,q*yn1+r=u/\r<2^32/\u*2^32+u1<(q+1)*(yn1*2^32+yn0)/\x=(((yn0:Int),((r:Int),((yn1:Int),(q1,((u:Int),((u1:Int),((q:Int),(y,(s,()))))))))),()))
  (fun _=>.inl ((q1,((u:Int),((u1:Int),((((u*2^32+u1)/(yn1*2^32+yn0):Nat):Int),(y,(s,())))))),())) ?_ _
  ⟨u/yn1,u%yn1,by rw [Nat.mul_comm]; exact Nat.div_add_mod u yn1,Nat.lt_trans (Nat.mod_lt _ hy) h1,aAz hy hu1,rfl⟩
 ·exact key
 intro L x hx hL
 obtain ⟨q,r,hq,hr,hup,rfl⟩:=hx
 unfold Ui
 have hqu:q<=u:=by
  have:=Nat.le_mul_of_pos_right q hy
  omega
 dsimp only
 rw [aAu hq hr h0 hu1 hlt]
 by_cases hc:u*2^32+u1<q*(yn1*2^32+yn0)
 ·obtain ⟨d1,d2⟩:=aFQ hq hc
  have e1:IntKind.wrap .u64 ((q:Int)-1)=((q-1:Nat):Int):=by rw [D9 (by omega)]; omega
  have e2:IntKind.wrap .u64 ((r:Int)+(yn1:Int))=((r+yn1:Nat):Int):=UL _ _ (by omega)
  rw [decide_eq_true hc,cond_true,e1,e2]
  by_cases hb:2^32<=r+yn1
  ·have e3:decide (((r+yn1:Nat):Int)>=4294967296)=true:=decide_eq_true (by omega)
   rw [e3,cond_true]
   have:=aEo (u1:=u1) d2 hb h0 hlt
   rw [i9 this (by rw [show q-1+1=q by omega]; exact hc)]
  ·have e3:decide (((r+yn1:Nat):Int)>=4294967296)=false:=decide_eq_false (by omega)
   rw [e3,cond_false]
   exact hL _ ⟨q-1,r+yn1,d2,by omega,by rw [show q-1+1=q by omega]; exact hc,rfl⟩ (by simp only [Int.toNat_natCast]; omega)
 ·rw [decide_eq_false hc,cond_false,i9 (by omega) hup]
theorem aR3 {A y u32 u1 u0 q1 r1 q0 r0:Nat} (hA:A=(u32*2^32+u1)*2^32+u0) (h1:u32*2^32+u1=q1*y+r1) (h2:r1*2^32+u0=q0*y+r0) (hr:r0<y) :
  A/y=q1*2^32+q0/\A%y=r0:=by
 have e:A=(q1*2^32+q0)*y+r0:=by
  rw [hA,h1,Nat.add_mul,Nat.add_mul,Nat.mul_right_comm]; omega
 have hy:0<y:=by omega
 rw [e,Nat.mul_comm _ y]
 exact ⟨by rw [Nat.mul_add_div hy,Nat.div_eq_of_lt hr,Nat.add_zero],by rw [Nat.mul_add_mod,Nat.mod_eq_of_lt hr]⟩
theorem aMU (U X:Nat):U*2^64+X=(U*2^32+X/2^32)*2^32+X%2^32:=by omega
theorem orL {a b k:Nat} (ha:a<2^k) (h:b*2^k+a<2^64):AW .u64 ((b*2^k:Nat):Int) (a:Int)=((b*2^k+a:Nat):Int):=by
 rw [Tt (by omega) (by omega)]
 congr 1
 have:=Nat.two_pow_add_eq_or_of_lt ha b
 rw [Nat.mul_comm b,← this]
theorem aGs {n:Nat} (hn:n<2^64):YC ((n:Int),())=some (((64-An n:Nat):Int),()):=by
 show eO Bw.pre Bw.F (n:Int)=_
 unfold eO
 have p0:=UK n hn
 have hb:=En hn
 have e:IntKind.wrap .i64 ((64:Int)-(An n:Int))=((64-An n:Nat):Int):=by rw [As (by omega)]; omega
 simp only [VI p0,UN p0,cond_true,e]
theorem vW {hi lo y:Nat} (hlo:lo<2^64) (hy:y<2^64) (hlt:hi<y) :
  WP ((hi:Int),(lo:Int),(y:Int),())=some ((((hi*2^64+lo)/y:Nat):Int),(((hi*2^64+lo)%y:Nat):Int),()):=by
 have hy0:0<y:=by omega
 show gV BA.pre BA.F bZ jF (hi:Int) (lo:Int) (y:Int)=_
 unfold gV
 have hbl:=En hy
 have hbl1:=Jp (n:=y) (by omega)
 have p0:=aGs hy
 generalize hs:64-An y=s at *
 have e9:IntKind.wrap .u64 (s:Int)=(s:Int):=dC _ (by omega)
 have e10:IntKind.wrap .u64 ((64:Int)-(s:Int))=((64-s:Nat):Int):=by rw [D9 (by omega)]; omega
 have g0:((y:Int)==0)=false:=AU _ (by omega)
 have g1:decide ((y:Int)<=(hi:Int))=false:=decide_eq_false (by omega)
 have g2:((y:Int) != 0)=true:=Bh _ (by omega)
 dsimp only
 simp only [g0,g1,g2,cond_false,cond_true,xE p0,aDf p0,e9,e10]
 by_cases hh:hi=0
 ·subst hh
  have e1:(((0:Nat):Int)==0)=true:=rfl
  rw [e1,cond_true,Wj _ _ hlo hy0,Nat.zero_mul,Nat.zero_add]
  rfl
 have e1:((hi:Int)==0)=false:=AU _ hh
 rw [e1,cond_false]
 have hp:=Nat.two_pow_pos s
 have hyl:=Ji (n:=y) (by omega)
 have hyu:=Gq y
 have hY1:y*2^s<2^64:=by
  have:y*2^s<2^An y*2^s:=Nat.mul_lt_mul_of_pos_right hyu hp
  rw [← Nat.pow_add,show An y+s=64 by omega] at this
  exact this
 have hY2:2^63<=y*2^s:=by
  have:2^(An y-1)*2^s<=y*2^s:=Nat.mul_le_mul_right _ hyl
  rw [← Nat.pow_add,show An y-1+s=63 by omega] at this
  exact this
 have hH:hi*2^s<y*2^s:=Nat.mul_lt_mul_of_pos_right hlt hp
 have hlos:lo/2^(64-s)<2^s:=by
  rw [Nat.div_lt_iff_lt_mul (Nat.two_pow_pos _),← Nat.pow_add,show s+(64-s)=64 by omega]
  exact hlo
 have e264:2^64=2^s*2^(64-s):=by rw [← Nat.pow_add]; congr 1; omega
 have hU:hi*2^s+lo/2^(64-s)<y*2^s:=by
  have h1:(hi+1)*2^s<=y*2^s:=Nat.mul_le_mul_right _ hlt
  rw [Nat.add_mul,Nat.one_mul] at h1
  omega
 have hsc:(hi*2^64+lo)*2^s=(hi*2^s+lo/2^(64-s))*2^64+lo*2^s%2^64:=by
  have h1:lo*2^s=lo*2^s/2^64*2^64+lo*2^s%2^64:=by
   have:=Nat.div_add_mod (lo*2^s) (2^64)
   omega
  have h2:lo*2^s/2^64=lo/2^(64-s):=by
   rw [e264,Nat.mul_comm lo,Nat.mul_div_mul_left _ _ hp]
  rw [h2] at h1
  rw [Nat.add_mul,Nat.add_mul,Nat.mul_right_comm]
  omega
 have s1:=Ek hi s (by omega)
 have s2:=Dy lo (64-s) (by omega)
 have s3:=Ek y s (by omega)
 have s4:=Ek lo s (by omega)
 rw [Nat.mod_eq_of_lt (by omega)] at s1 s3
 have hY32:y*2^s/2^32*2^32+y*2^s%2^32=y*2^s:=by omega
 have hdiv:(hi*2^64+lo)*2^s/(y*2^s)=(hi*2^64+lo)/y:=Nat.mul_div_mul_right _ _ hp
 have hmod:(hi*2^64+lo)*2^s%(y*2^s)=(hi*2^64+lo)%y*2^s:=Nat.mul_mod_mul_right _ _ _
 have hX:lo*2^s%2^64<2^64:=Nat.mod_lt _ (by decide)
 have s5:=orL (b:=hi) hlos (by omega)
 rw [s1,s2,s3,s4,s5]
 have hq64:(hi*2^64+lo)/y<2^64:=by
  rw [Nat.div_lt_iff_lt_mul hy0]
  have:(hi+1)*2^64<=y*2^64:=Nat.mul_le_mul_right _ hlt
  omega
 rw [hsc] at hdiv hmod
 generalize hi*2^s+lo/2^(64-s)=U at *
 generalize lo*2^s%2^64=X at *
 generalize hYd:y*2^s=Y at *
 rw [Sv Y,Sv X,Xh hY1,Xh hX]
 have hYY1:Y/2^32<2^32:=by omega
 have hYY0:Y%2^32<2^32:=by omega
 have hYp:0<Y/2^32:=by omega
 have g3:(((Y/2^32:Nat):Int) != 0)=true:=Bh _ (by omega)
 have hrem:∀ V:Nat,V<2^64->IntKind.wrap .u64 ((V:Int)-IntKind.wrap .u64 (((V/(Y/2^32):Nat):Int)*((Y/2^32:Nat):Int)))=((V%(Y/2^32):Nat):Int):=fun V hV=>by
  have hdm:=Nat.div_add_mod V (Y/2^32)
  rw [Nat.mul_comm] at hdm
  rw [oD _ _ (by omega)]
  generalize V/(Y/2^32)*(Y/2^32)=z at *
  generalize V%(Y/2^32)=w at *
  rw [D9 (by omega)]
  omega
 rw [g3,cond_true,Wj _ _ (by omega) hYp,hrem U (by omega)]
 have w1:=aI3 hYY0 hYY1 hYp (show X/2^32<2^32 by omega) (u:=U) (by omega) ((X%2^32:Nat):Int) (Y:Int) (s:Int)
 rw [w1,hY32]
 show (bif (((Y/2^32:Nat):Int) != 0) then _ else _)=_
 rw [g3,cond_true]
 dsimp only
 have hd1:=Nat.div_add_mod (U*2^32+X/2^32) Y
 have hr1:=Nat.mod_lt (U*2^32+X/2^32) (show 0<Y by omega)
 have hq1:(U*2^32+X/2^32)/Y<2^32:=by
  rw [Nat.div_lt_iff_lt_mul (by omega)]
  have:(U+1)*2^32<=Y*2^32:=Nat.mul_le_mul_right _ hU
  omega
 have hrem2:∀ a b c q r:Nat,a*2^32+b=Y*q+r->r<Y->IntKind.wrap .u64 (IntKind.wrap .u64 (IntKind.wrap .u64 ((a:Int)*4294967296)+(b:Int))-IntKind.wrap .u64 ((q:Int)*(Y:Int)))=(r:Int):=fun a b _ q r h1 h2=>by
  have e:(q:Int)*(Y:Int)=((Y*q:Nat):Int):=by rw [Int.natCast_mul,Int.mul_comm]
  rw [e]
  generalize Y*q=z at *
  show ((((a:Int)*4294967296)%18446744073709551616+(b:Int))%18446744073709551616-((z:Int)%18446744073709551616))%18446744073709551616=(r:Int)
  omega
 rw [hrem2 U (X/2^32) 0 _ _ hd1.symm hr1]
 clear w1
 obtain ⟨q1,hQ1⟩:∃ q,q=(U*2^32+X/2^32)/Y:=⟨_,rfl⟩
 obtain ⟨r1,hR1⟩:∃ q,q=(U*2^32+X/2^32)%Y:=⟨_,rfl⟩
 rw [← hQ1] at hd1 hq1
 rw [← hR1] at hd1 hr1
 rw [← hQ1,← hR1]
 rw [Wj _ _ (by omega) hYp,hrem r1 (by omega)]
 have w2:=aNY hYY0 hYY1 hYp (show X%2^32<2^32 by omega) (u:=r1) (by omega) (q1:Int) (Y:Int) (s:Int)
 rw [w2,hY32]
 show some (_,(_,()))=_
 dsimp only
 have hd2:=Nat.div_add_mod (r1*2^32+X%2^32) Y
 have hr2:=Nat.mod_lt (r1*2^32+X%2^32) (show 0<Y by omega)
 have hq2:(r1*2^32+X%2^32)/Y<2^32:=by
  rw [Nat.div_lt_iff_lt_mul (by omega)]
  have:(r1+1)*2^32<=Y*2^32:=Nat.mul_le_mul_right _ hr1
  omega
 rw [hrem2 r1 (X%2^32) 0 _ _ hd2.symm hr2]
 obtain ⟨q0,hQ0⟩:∃ q,q=(r1*2^32+X%2^32)/Y:=⟨_,rfl⟩
 obtain ⟨r0,hR0⟩:∃ q,q=(r1*2^32+X%2^32)%Y:=⟨_,rfl⟩
 rw [← hQ0] at hd2 hq2
 rw [← hR0] at hd2 hr2
 rw [← hQ0,← hR0]
 obtain ⟨f1,f2⟩:=aR3 (A:=U*2^64+X) (y:=Y) (u32:=U) (u1:=X/2^32) (u0:=X%2^32) (aMU U X) (by rw [Nat.mul_comm q1]; exact hd1.symm) (by rw [Nat.mul_comm q0]; exact hd2.symm) hr2
 rw [hdiv] at f1
 rw [hmod] at f2
 have e5:IntKind.wrap .u64 (IntKind.wrap .u64 ((q1:Int)*4294967296)+(q0:Int))=(((hi*2^64+lo)/y:Nat):Int):=by
  rw [f1]
  show ((((q1:Int)*4294967296)%18446744073709551616)+(q0:Int))%18446744073709551616=_
  omega
 have e6:AI .u64 (r0:Int) (s:Int)=(((hi*2^64+lo)%y:Nat):Int):=by
  rw [Dy _ _ (by omega),← f2,Nat.mul_div_cancel _ hp]
 rw [e5,e6]
end VL
namespace VL
open Go Vx
theorem Lj {D Y:Type} {Φ:{R:Type}->(D->Option R)->(Y->Option R)->D->Option R} (hp:Bs Φ) (μ:D->Nat) (I:D->Prop) (Q:Y->Prop)
  (h:∀ (L:D->Option Y) x,I x->(∀ x',I x'->μ x'<μ x->∃ y,L x'=some y/\Q y)->∃ y,Φ L some x=some y/\Q y):∀ x,I x->∃ y,Bf (fun L=>Φ L some) x=some y/\Q y:=by
 have key:∀ m x,I x->μ x<m->∃ y,CX (fun L=>Φ L some) m x=some y/\Q y:=by
  intro m
  induction m with
  | zero=>intro x _ h; omega
  | succ m ih =>
   intro x hx hm
   simp only [CX]
   exact h _ x hx fun x' hx' hlt=>ih x' hx' (by omega)
 intro x hx
 obtain ⟨y,hy,hQ⟩:=key (μ x+1) x hx (by omega)
 exact ⟨y,aEw hp hy,hQ⟩
theorem Hu (i:Nat):(2^64)^(i+1)=(2^64)^i*2^64:=Nat.pow_succ ..
theorem S2 {A us C:List Nat} {i:Nat} (h:i<us.length):(Wd (A++us++C)).getD (A.length+i) 0=((us.getD i 0:Nat):Int):=by
 rw [Cc]
 congr 1
 rw [List.getD_eq_getElem?_getD,List.getD_eq_getElem?_getD,List.append_assoc,List.getElem?_append_right (by omega),Nat.add_sub_cancel_left,List.getElem?_append_left h]
theorem gG {A us C:List Nat} {i v:Nat} (h:i<us.length):(Wd (A++us++C)).set (A.length+i) (v:Int)=Wd (A++us.set i v++C):=by
 rw [D0]
 congr 1
 rw [List.append_assoc,List.set_append_right _ _ (by omega),Nat.add_sub_cancel_left,List.set_append_left _ _ h,← List.append_assoc]
theorem cL {out us:List Nat} {i:Nat} (hol:out.length=i) (hi:i<us.length):(out++us.drop i).getD i 0=us.getD i 0:=by
 rw [List.getD_eq_getElem?_getD,List.getD_eq_getElem?_getD,List.getElem?_append_right (by omega),hol,Nat.sub_self,List.getElem?_drop,Nat.add_zero]
theorem aLZ {x y c:Nat} (hx:x<2^64) (hy:y<2^64) (hc:c<2^64) :
  x*y+c=2^64*(x*y/2^64+(x*y%2^64+c)/2^64)+(x*y%2^64+c)%2^64/\x*y/2^64+(x*y%2^64+c)/2^64<2^64:=by
 have:x*y<=(2^64-1)*(2^64-1):=Nat.mul_le_mul (by omega) (by omega)
 generalize x*y=z at *
 omega
theorem aCT {d l b:Nat} (hd:d<2^64) (hl:l<2^64) (hb:b<=1) :
  (d+2^64-l-b)%2^64+l+b=d+2^64*(if d<l+b then 1 else 0)/\(d+2^64-l-b)%2^64<2^64/\(if d<l+b then 1 else 0)<=1:=by
 split <;> omega
theorem aIZ {P U V O x y c b d o l c' b':Nat} (h:O+x*V=U+P*(c+b)) (h1:x*y+c=2^64*c'+l) (h2:o+l+b=d+2^64*b') :
  O+P*o+x*(V+P*y)=U+P*d+P*2^64*(c'+b'):=by
 have h3:P*(c+b+o+x*y)=P*(d+2^64*(c'+b')):=by
  congr 1; omega
 rw [Nat.mul_add P,Nat.mul_add P,Nat.mul_add P d,← Nat.mul_assoc P (2^64)] at h3
 rw [Nat.mul_add x,Nat.mul_left_comm x P y]
 omega
theorem aPL (A us C v:List Nat) (hlen:us.length=v.length+1) (hu:∀ x∈us,x<2^64) (hv:∀ x∈v,x<2^64) (hn:v.length<=1000000) {x:Nat} (hx:x<2^64) :
  ∃ out:List Nat,out.length=us.length/\(∀ z∈out,z<2^64)/\nv (2^64) out+x*nv (2^64) v=nv (2^64) us+(if nv (2^64) us<x*nv (2^64) v then (2^64)^us.length else 0) /\
   WI ((Wd (A++us++C),(A.length,us.length)),(Wd v,((x:Int),())))=some (Wd (A++out++C),decide (nv (2^64) us<x*nv (2^64) v),()):=by
 show ∃ out:List Nat,_/\_/\_/\aU AP.pre AP.F Ay.pre Ay.F A5.pre A5.F eC (Wd (A++us++C),(A.length,us.length)) (Wd v) (x:Int)=_
 have key:=Lj (aBV AP.pre AP.F Ay.pre Ay.F A5.pre A5.F) (fun s=>v.length-s.1.2.2.2.1.toNat)
  (fun s=>∃ (i:Nat) (out:List Nat) (c b:Nat),i<=v.length/\out.length=i/\(∀ z∈out,z<2^64)/\c<2^64/\b<=1/\nv (2^64) out+x*nv (2^64) (v.take i)=nv (2^64) (us.take i)+(2^64)^i*(c+b) /\
   s=(((v.length:Int),(Wd v,((x:Int),((i:Int),(Wd v,((A.length,us.length),((c:Int),((b:Int),())))))))),(Wd (A++(out++us.drop i)++C),())))
  (fun y=>∃ (out:List Nat) (c b:Nat),out.length=v.length/\(∀ z∈out,z<2^64)/\c<2^64/\b<=1/\nv (2^64) out+x*nv (2^64) v=nv (2^64) (us.take v.length)+(2^64)^v.length*(c+b) /\
   y=.inl ((Wd v,((A.length,us.length),((c:Int),((b:Int),())))),(Wd (A++(out++us.drop v.length)++C),()))) ?_
  (((v.length:Int),(Wd v,((x:Int),((0:Int),(Wd v,((A.length,us.length),((0:Int),((0:Int),())))))))),(Wd (A++us++C),()))
  ⟨0,[],0,0,Nat.zero_le _,rfl,(fun z hz=>by simp at hz),by decide,by decide,by simp [nv],rfl⟩
 ·obtain ⟨y,hy,out,c,b,k1,k2,k3,k4,k5,rfl⟩:=key
  have hy:eC (((v.length:Int),(Wd v,((x:Int),((0:Int),(Wd v,((A.length,us.length),((0:Int),((0:Int),())))))))),(Wd (A++us++C),()))=_:=hy
  have hlt:v.length<us.length:=by omega
  have hwl:(out++us.drop v.length).length=us.length:=by simp [k1]; omega
  have hdg:=cL (us:=us) k1 hlt
  have hg:=S2 (A:=A) (C:=C) (us:=out++us.drop v.length) (i:=v.length) (by omega)
  rw [hdg] at hg
  have hst:=fun z=>gG (A:=A) (C:=C) (us:=out++us.drop v.length) (i:=v.length) (v:=z) (by omega)
  have hsd:=fun z=>Yz (a:=us) (v:=z) k1 hlt
  have hd:=Cq (by decide) hu v.length
  obtain ⟨w1,w2,w3⟩:=aCT (d:=us.getD v.length 0) (l:=c) (b:=b) hd k3 k4
  have q1:=WJ (us.getD v.length 0) c b k4 hd k3
  have q2:=Ym ((us.getD v.length 0:Nat):Int) (c:Int) b k4
  have hnx:=Ev (2^64) us v.length
  rw [List.take_of_length_le (show us.length<=v.length+1 by omega)] at hnx
  have hnil:us.drop (v.length+1)=[]:=List.drop_of_length_le (by omega)
  unfold aU
  dsimp only
  rw [AA,hy]
  have e0:decide ((0:Int)<=(v.length:Int))=true:=decide_eq_true (by omega)
  have e1:decide ((v.length:Int)<(us.length:Int))=true:=decide_eq_true (by omega)
  dsimp only [A1,A6]
  simp only [e0,e1,Bool.and_self,cond_true,AA,Int.toNat_natCast,hg,q2,q1,hst,hsd,hnil,List.append_nil]
  generalize us.getD v.length 0=d at *
  generalize (d+2^64-c-b)%2^64=o at *
  have hO:nv (2^64) (out++[o])+x*nv (2^64) v=nv (2^64) us+(2^64)^us.length*(if d<c+b then 1 else 0):=by
   rw [Wt,k1,hnx,hlen,Hu]
   have h3:(2^64)^v.length*(o+c+b)=(2^64)^v.length*(d+2^64*(if d<c+b then 1 else 0)):=by rw [w1]
   rw [Nat.mul_add,Nat.mul_add,Nat.mul_add _ d,← Nat.mul_assoc _ (2^64)] at h3
   rw [Nat.mul_add] at k5
   omega
  have hod:=Y4 k2 w2
  have hOl:=DR (B:=2^64) (by decide) (out++[o]) hod
  have hol:(out++[o]).length=us.length:=by simp [k1]; omega
  rw [hol] at hOl
  by_cases hb:d<c+b
  ·rw [if_pos hb,Nat.mul_one] at hO
   have hlt2:nv (2^64) us<x*nv (2^64) v:=by omega
   refine ⟨out++[o],hol,hod,by rw [if_pos hlt2]; exact hO,?_⟩
   rw [if_pos hb,decide_eq_true hlt2]; rfl
  ·rw [if_neg hb,Nat.mul_zero,Nat.add_zero] at hO
   have hlt2:¬ nv (2^64) us<x*nv (2^64) v:=by omega
   refine ⟨out++[o],hol,hod,by rw [if_neg hlt2,Nat.add_zero]; exact hO,?_⟩
   rw [if_neg hb,decide_eq_false hlt2]; rfl
 intro L s hs hL
 obtain ⟨i,out,c,b,hi,hol,hod,hc,hb,hinv,rfl⟩:=hs
 unfold Va
 rcases Nat.lt_or_ge i v.length with hlt | hge
 ·have hy:=Cq (by decide) hv i
  have hd:=Cq (by decide) hu i
  have hnv:=Ev (2^64) v i
  have hnu:=Ev (2^64) us i
  have hwl:(out++us.drop i).length=us.length:=by simp [hol]; omega
  have hdg:=cL (us:=us) hol (by omega)
  have hg:=S2 (A:=A) (C:=C) (us:=out++us.drop i) (i:=i) (by omega)
  rw [hdg] at hg
  have hst:=fun z=>gG (A:=A) (C:=C) (us:=out++us.drop i) (i:=i) (v:=z) (by omega)
  have hsd:=fun z=>Yz (a:=us) (v:=z) hol (by omega)
  have hgv:(Wd v).getD i 0=((v.getD i 0:Nat):Int):=Cc v i
  generalize v.getD i 0=y at *
  generalize us.getD i 0=d at *
  have p0:=lE hx hy
  obtain ⟨m1,m2⟩:=aLZ hx hy hc
  have q1:=PL (x*y%2^64) c 0
  have q2:=N7 ((x*y%2^64:Nat):Int) (c:Int) 0 (by decide)
  rw [Nat.add_zero] at q1
  have hl:(x*y%2^64+c)%2^64<2^64:=Nat.mod_lt _ (by decide)
  have e5:=UL (x*y/2^64) ((x*y%2^64+c)/2^64) m2
  generalize x*y/2^64+(x*y%2^64+c)/2^64=c' at *
  generalize hlq:(x*y%2^64+c)%2^64=l at *
  obtain ⟨w1,w2,w3⟩:=aCT (d:=d) (l:=l) (b:=b) hd hl hb
  have r1:=WJ d l b hb hd hl
  have r2:=Ym (d:Int) (l:Int) b hb
  generalize (d+2^64-l-b)%2^64=o at *
  generalize (if d<l+b then 1 else 0)=b' at *
  have hstep:=aIZ (P:=(2^64)^i) hinv m1 w1
  have e0:decide ((i:Int)<(v.length:Int))=true:=decide_eq_true (by omega)
  have e1:decide ((0:Int)<=(i:Int))=true:=decide_eq_true (by omega)
  have e2:decide ((i:Int)<((us.length:Nat):Int))=true:=decide_eq_true (by omega)
  have e3:IntKind.wrap .i64 ((i:Int)+1)=((i+1:Nat):Int):=by rw [As (by omega)]; omega
  have z0:((0:Nat):Int)=0:=rfl
  rw [z0] at q1 q2
  dsimp only
  simp only [e0,e1,e2,e3,cond_true,Bool.and_self,AA,Int.toNat_natCast,hgv,hg,jI p0,jL p0,q1,q2,r1,r2,e5,hst,hsd]
  refine hL _ ⟨i+1,out++[o],c',b',by omega,by simp [hol],Y4 hod w2,m2,w3,?_,rfl⟩ (by simp only [Int.toNat_natCast]; omega)
  rw [Wt,hol,hnv,hnu,Hu]
  exact hstep
 ·have e:i=v.length:=by omega
  subst e
  have e0:decide ((v.length:Int)<(v.length:Int))=false:=decide_eq_false (by omega)
  simp only [e0,cond_false]
  rw [List.take_length] at hinv
  exact ⟨_,rfl,out,c,b,hol,hod,hc,hb,hinv,rfl⟩
end VL
namespace VL
open Go Vx
theorem aG6 {P U V O y c d:Nat} (h:O+P*c=U+V):O+P*((d+y+c)%2^64)+P*2^64*((d+y+c)/2^64)=U+P*d+(V+P*y):=by
 have h1:P*((d+y+c)%2^64+2^64*((d+y+c)/2^64))=P*(d+y+c):=by rw [Nat.mod_add_div]
 rw [Nat.mul_add,Nat.mul_add P (d+y),Nat.mul_add,← Nat.mul_assoc P (2^64)] at h1
 omega
theorem aPW (A us C v:List Nat) (hlen:us.length=v.length+1) (hu:∀ x∈us,x<2^64) (hv:∀ x∈v,x<2^64) (hn:v.length<=1000000) :
  ∃ out:List Nat,out.length=us.length/\(∀ z∈out,z<2^64)/\nv (2^64) out+(if (2^64)^us.length<=nv (2^64) us+nv (2^64) v then (2^64)^us.length else 0)=nv (2^64) us+nv (2^64) v /\
   Ye ((Wd (A++us++C),(A.length,us.length)),(Wd v,()))=some (Wd (A++out++C),decide ((2^64)^us.length<=nv (2^64) us+nv (2^64) v),()):=by
 show ∃ out:List Nat,_/\_/\_/\cX Ay.pre Ay.F dR (Wd (A++us++C),(A.length,us.length)) (Wd v)=_
 have key:=Lj (aA8 Ay.pre Ay.F) (fun s=>v.length-s.1.2.2.1.toNat)
  (fun s=>∃ (i:Nat) (out:List Nat) (c:Nat),i<=v.length/\out.length=i/\(∀ z∈out,z<2^64)/\c<=1/\nv (2^64) out+(2^64)^i*c=nv (2^64) (us.take i)+nv (2^64) (v.take i) /\
   s=(((v.length:Int),(Wd v,((i:Int),(Wd v,((A.length,us.length),((c:Int),())))))),(Wd (A++(out++us.drop i)++C),())))
  (fun y=>∃ (out:List Nat) (c:Nat),out.length=v.length/\(∀ z∈out,z<2^64)/\c<=1/\nv (2^64) out+(2^64)^v.length*c=nv (2^64) (us.take v.length)+nv (2^64) v /\
   y=.inl ((Wd v,((A.length,us.length),((c:Int),()))),(Wd (A++(out++us.drop v.length)++C),()))) ?_
  (((v.length:Int),(Wd v,((0:Int),(Wd v,((A.length,us.length),((0:Int),())))))),(Wd (A++us++C),()))
  ⟨0,[],0,Nat.zero_le _,rfl,(fun z hz=>by simp at hz),by decide,by simp [nv],rfl⟩
 ·obtain ⟨y,hy,out,c,k1,k2,k3,k5,rfl⟩:=key
  have hy:dR (((v.length:Int),(Wd v,((0:Int),(Wd v,((A.length,us.length),((0:Int),())))))),(Wd (A++us++C),()))=_:=hy
  have hlt:v.length<us.length:=by omega
  have hwl:(out++us.drop v.length).length=us.length:=by simp [k1]; omega
  have hdg:=cL (us:=us) k1 hlt
  have hg:=S2 (A:=A) (C:=C) (us:=out++us.drop v.length) (i:=v.length) (by omega)
  rw [hdg] at hg
  have hst:=fun z=>gG (A:=A) (C:=C) (us:=out++us.drop v.length) (i:=v.length) (v:=z) (by omega)
  have hsd:=fun z=>Yz (a:=us) (v:=z) k1 hlt
  have hd:=Cq (by decide) hu v.length
  have q1:=PL (us.getD v.length 0) 0 c
  have q2:=N7 ((us.getD v.length 0:Nat):Int) ((0:Nat):Int) c k3
  have z0:((0:Nat):Int)=0:=rfl
  rw [z0] at q1 q2
  have hnx:=Ev (2^64) us v.length
  rw [List.take_of_length_le (show us.length<=v.length+1 by omega)] at hnx
  have hnil:us.drop (v.length+1)=[]:=List.drop_of_length_le (by omega)
  unfold cX
  dsimp only
  rw [AA,hy]
  have e0:decide ((0:Int)<=(v.length:Int))=true:=decide_eq_true (by omega)
  have e1:decide ((v.length:Int)<(us.length:Int))=true:=decide_eq_true (by omega)
  dsimp only [A1,A6]
  simp only [e0,e1,Bool.and_self,cond_true,AA,Int.toNat_natCast,hg,q2,q1,hst,hsd,hnil,List.append_nil]
  have hstep:=aG6 (P:=(2^64)^v.length) (y:=0) (d:=us.getD v.length 0) k5
  generalize us.getD v.length 0=d at *
  have ho:(d+0+c)%2^64<2^64:=Nat.mod_lt _ (by decide)
  have hO:nv (2^64) (out++[(d+0+c)%2^64])+(2^64)^us.length*((d+0+c)/2^64)=nv (2^64) us+nv (2^64) v:=by
   rw [Wt,k1,hnx,hlen,Hu]
   rw [Nat.mul_zero] at hstep
   omega
  have hod:=Y4 k2 ho
  have hOl:=DR (B:=2^64) (by decide) (out++[(d+0+c)%2^64]) hod
  have hol:(out++[(d+0+c)%2^64]).length=us.length:=by simp [k1]; omega
  rw [hol] at hOl
  by_cases hb:(d+0+c)/2^64=1
  ·rw [hb,Nat.mul_one] at hO
   have hlt2:(2^64)^us.length<=nv (2^64) us+nv (2^64) v:=by omega
   refine ⟨out++[(d+0+c)%2^64],hol,hod,by rw [if_pos hlt2]; exact hO,?_⟩
   rw [hb,decide_eq_true hlt2]; rfl
  ·have hb0:(d+0+c)/2^64=0:=by omega
   rw [hb0,Nat.mul_zero,Nat.add_zero] at hO
   have hlt2:¬ (2^64)^us.length<=nv (2^64) us+nv (2^64) v:=by omega
   refine ⟨out++[(d+0+c)%2^64],hol,hod,by rw [if_neg hlt2,Nat.add_zero]; exact hO,?_⟩
   rw [hb0,decide_eq_false hlt2]; rfl
 intro L s hs hL
 obtain ⟨i,out,c,hi,hol,hod,hc,hinv,rfl⟩:=hs
 unfold VN
 rcases Nat.lt_or_ge i v.length with hlt | hge
 ·have hy:=Cq (by decide) hv i
  have hd:=Cq (by decide) hu i
  have hnv:=Ev (2^64) v i
  have hnu:=Ev (2^64) us i
  have hwl:(out++us.drop i).length=us.length:=by simp [hol]; omega
  have hdg:=cL (us:=us) hol (by omega)
  have hg:=S2 (A:=A) (C:=C) (us:=out++us.drop i) (i:=i) (by omega)
  rw [hdg] at hg
  have hst:=fun z=>gG (A:=A) (C:=C) (us:=out++us.drop i) (i:=i) (v:=z) (by omega)
  have hsd:=fun z=>Yz (a:=us) (v:=z) hol (by omega)
  have hgv:(Wd v).getD i 0=((v.getD i 0:Nat):Int):=Cc v i
  generalize v.getD i 0=y at *
  generalize us.getD i 0=d at *
  have q1:=PL d y c
  have q2:=N7 (d:Int) (y:Int) c hc
  have ho:(d+y+c)%2^64<2^64:=Nat.mod_lt _ (by decide)
  have hc':(d+y+c)/2^64<=1:=by omega
  have hstep:=aG6 (P:=(2^64)^i) (y:=y) (d:=d) hinv
  have e0:decide ((i:Int)<(v.length:Int))=true:=decide_eq_true (by omega)
  have e1:decide ((0:Int)<=(i:Int))=true:=decide_eq_true (by omega)
  have e2:decide ((i:Int)<((us.length:Nat):Int))=true:=decide_eq_true (by omega)
  have e3:IntKind.wrap .i64 ((i:Int)+1)=((i+1:Nat):Int):=by rw [As (by omega)]; omega
  dsimp only
  simp only [e0,e1,e2,e3,cond_true,Bool.and_self,AA,Int.toNat_natCast,hgv,hg,q1,q2,hst,hsd]
  refine hL _ ⟨i+1,out++[(d+y+c)%2^64],(d+y+c)/2^64,by omega,by simp [hol],Y4 hod ho,hc',?_,rfl⟩ (by simp only [Int.toNat_natCast]; omega)
  rw [Wt,hol,hnv,hnu,Hu]
  exact hstep
 ·have e:i=v.length:=by omega
  subst e
  have e0:decide ((v.length:Int)<(v.length:Int))=false:=decide_eq_false (by omega)
  simp only [e0,cond_false]
  rw [List.take_length] at hinv
  exact ⟨_,rfl,out,c,hol,hod,hc,hinv,rfl⟩
theorem aQT (A C v:List Nat) {k U:Nat} (hk:k=v.length+1) (hv:∀ x∈v,x<2^64) (hn:v.length<=1000000) (us:List Nat) (g:Nat) (hlen:us.length=k) (hu:∀ x∈us,x<2^64) (hg:g<2^64)
  (hinv:nv (2^64) us+g*nv (2^64) v=U+(2^64)^k) :
  ∃ out:List Nat,out.length=k/\(∀ z∈out,z<2^64)/\nv (2^64) out=U%nv (2^64) v /\
   Yr ((((g:Int),((A.length,k),(Wd v,()))),(Wd (A++us++C),())):Ga.D)=some (.inl ((((U/nv (2^64) v:Nat):Int),()),(Wd (A++out++C),()))):=by
 have key:=Lj (aE8 AS.pre AS.F AP.pre AP.F Ay.pre Ay.F Cs.pre Cs.F C6.pre C6.F) (fun s=>s.1.1.toNat)
  (fun s=>∃ (us:List Nat) (g:Nat),us.length=k/\(∀ x∈us,x<2^64)/\g<2^64/\nv (2^64) us+g*nv (2^64) v=U+(2^64)^k /\
   s=(((g:Int),((A.length,k),(Wd v,()))),(Wd (A++us++C),())))
  (fun y=>∃ out:List Nat,out.length=k/\(∀ z∈out,z<2^64)/\nv (2^64) out=U%nv (2^64) v/\y=.inl ((((U/nv (2^64) v:Nat):Int),()),(Wd (A++out++C),()))) ?_
  (((g:Int),((A.length,k),(Wd v,()))),(Wd (A++us++C),())) ⟨us,g,hlen,hu,hg,hinv,rfl⟩
 ·obtain ⟨y,hy,out,k1,k2,k3,rfl⟩:=key
  exact ⟨out,k1,k2,k3,hy⟩
 clear hinv hg hu hlen us g
 intro L s hs hL
 obtain ⟨us,g,hlen,hu,hg,hinv,rfl⟩:=hs
 unfold U5
 obtain ⟨out,o1,o2,o3,o4⟩:=aPW A us C v (by omega) hu hv hn
 rw [hlen] at o1 o3 o4
 have hul:=DR (B:=2^64) (by decide) us hu
 rw [hlen] at hul
 have hg1:1<=g:=by
  rcases Nat.eq_zero_or_pos g with h | h
  ·rw [h,Nat.zero_mul] at hinv; omega
  ·exact h
 obtain ⟨p,rfl⟩:∃ p,g=p+1:=⟨g-1,by omega⟩
 rw [Nat.add_mul,Nat.one_mul] at hinv
 have e1:IntKind.wrap .u64 (((p+1:Nat):Int)-1)=(p:Int):=by rw [D9 (by omega)]; omega
 dsimp only
 rw [aIL o4,aL9 o4,cond_true,e1]
 dsimp only
 by_cases hc:(2^64)^k<=nv (2^64) us+nv (2^64) v
 ·rw [if_pos hc] at o3
  rw [decide_eq_true hc,cond_true]
  have hV:nv (2^64) out<nv (2^64) v:=by omega
  have hd:U=nv (2^64) v*p+nv (2^64) out:=by rw [Nat.mul_comm]; omega
  have hpos:0<nv (2^64) v:=by omega
  refine ⟨_,rfl,out,o1,o2,?_,?_⟩
  ·rw [hd,Nat.mul_add_mod,Nat.mod_eq_of_lt hV]
  ·rw [hd,Nat.mul_add_div hpos,Nat.div_eq_of_lt hV,Nat.add_zero]
 ·rw [if_neg hc] at o3
  rw [decide_eq_false hc,cond_false]
  exact hL _ ⟨out,p,o1,o2,by omega,by omega,rfl⟩ (by simp only [Int.toNat_natCast]; omega)
theorem aJn {h l r w:Nat} (hl:l<2^64) (hw:w<2^64):(decide ((h:Int)<(r:Int))||(((h:Int)==(r:Int))&&decide ((l:Int)<=(w:Int))))=decide (h*2^64+l<=r*2^64+w):=by
 rw [Bool.eq_iff_iff,Bool.or_eq_true,Bool.and_eq_true,decide_eq_true_eq,decide_eq_true_eq,decide_eq_true_eq,beq_iff_eq]
 omega
theorem aQz {U V P v1 v2 u2 u0 g rest:Nat} (hP:0<P) (hV:(v1*2^64+v2)*P<=V) (hU:U<(u2*2^64+u0+1)*P) (hg:g*v1+rest=u2) (h:¬ g*v2<=rest*2^64+u0):U/V<g:=by
 rcases Nat.lt_or_ge (U/V) g with h1 | h1
 ·exact h1
 ·exfalso
  have h2:g*V<=U:=Nat.le_trans (Nat.mul_le_mul_right V h1) (Nat.div_mul_le_self U V)
  have h3:g*((v1*2^64+v2)*P)<=g*V:=Nat.mul_le_mul_left g hV
  rw [← Nat.mul_assoc] at h3
  have h4:=Nat.lt_of_mul_lt_mul_right (Nat.lt_of_le_of_lt (Nat.le_trans h3 h2) hU)
  rw [Nat.mul_add,← Nat.mul_assoc] at h4
  rw [← hg,Nat.add_mul] at h4
  omega
theorem aU3 {U V P v1 v2 u2 u0:Nat} (hP:0<P) (h1:0<v1) (hV:(v1*2^64+v2)*P<=V) (hU:U<(u2*2^64+u0+1)*P) (hu0:u0<2^64):U/V<=u2/v1:=by
 rw [Nat.le_div_iff_mul_le h1]
 have h2:U/V*V<=U:=Nat.div_mul_le_self U V
 have h3:U/V*((v1*2^64+v2)*P)<=U/V*V:=Nat.mul_le_mul_left _ hV
 rw [← Nat.mul_assoc] at h3
 have h4:=Nat.lt_of_mul_lt_mul_right (Nat.lt_of_le_of_lt (Nat.le_trans h3 h2) hU)
 rw [Nat.mul_add,← Nat.mul_assoc] at h4
 omega
theorem xA {v:List Nat} {n:Nat} (hn:v.length=n+2):(v.getD (n+1) 0*2^64+v.getD n 0)*(2^64)^n<=nv (2^64) v:=by
 have h1:=Ev (2^64) v n
 have h2:=Ev (2^64) v (n+1)
 rw [List.take_of_length_le (by omega)] at h2
 rw [h2,h1,Hu,Nat.add_mul,Nat.mul_comm _ ((2^64)^n),Nat.mul_comm (v.getD n 0),Nat.mul_assoc,Nat.mul_comm (2^64) (v.getD (n+1) 0)]
 omega
theorem aBG {u:List Nat} {n:Nat} (hu:∀ x∈u,x<2^64) (hn:u.length=n+3):nv (2^64) u<((u.getD (n+2) 0*2^64+u.getD (n+1) 0)*2^64+u.getD n 0+1)*(2^64)^n:=by
 have h0:=XP hu n
 have h1:=Ev (2^64) u n
 have h2:=Ev (2^64) u (n+1)
 have h3:=Ev (2^64) u (n+2)
 rw [List.take_of_length_le (show u.length<=n+2+1 by omega)] at h3
 rw [h3,h2,h1]
 rw [show (2^64)^(n+2)=(2^64)^n*2^64*2^64 by rw [show n+2=n+1+1 by omega,Hu,Hu],Hu]
 generalize (2^64)^n=P at *
 generalize u.getD (n+2) 0=a
 generalize u.getD (n+1) 0=b
 generalize u.getD n 0=c
 rw [Nat.mul_comm (_+1) P,Nat.mul_add,Nat.mul_add,Nat.add_mul,Nat.mul_add,Nat.mul_one]
 have e1:P*(a*2^64*2^64)=P*2^64*2^64*a:=by rw [Nat.mul_assoc P,Nat.mul_assoc P,Nat.mul_assoc a,Nat.mul_comm a]
 have e2:P*(b*2^64)=P*2^64*b:=by rw [Nat.mul_assoc P,Nat.mul_comm b]
 rw [e1,e2]
 omega
end VL
namespace VL
open Go Vx
theorem aO5 (A us C v:List Nat) {n:Nat} (hvl:v.length=n+2) (hlen:us.length=n+3) (hu:∀ x∈us,x<2^64) (hv:∀ x∈v,x<2^64) (hn:v.length<=1000000)
  (hV0:0<v.getD (n+1) 0) (g rest:Nat) (hg:g<2^64) (hr:rest<2^64) (hinv:g*v.getD (n+1) 0+rest=us.getD (n+2) 0*2^64+us.getD (n+1) 0) (hq:nv (2^64) us/nv (2^64) v<=g) :
  ∃ g':Nat,g'<2^64/\nv (2^64) us/nv (2^64) v<=g' /\
   gW ((((g:Int),((rest:Int),((v.length:Int),((A.length,us.length),(Wd v,()))))),(Wd (A++us++C),())):FT.D)=some (.inl (((A.length,us.length),(Wd v,((g':Int),()))),(Wd (A++us++C),()))):=by
 have key:=Lj (zB AS.pre AS.F AP.pre AP.F Ay.pre Ay.F Cs.pre Cs.F C6.pre C6.F) (fun s=>s.1.1.toNat)
  (fun s=>∃ (g rest:Nat),g<2^64/\rest<2^64/\g*v.getD (n+1) 0+rest=us.getD (n+2) 0*2^64+us.getD (n+1) 0/\nv (2^64) us/nv (2^64) v<=g /\
   s=(((g:Int),((rest:Int),((v.length:Int),((A.length,us.length),(Wd v,()))))),(Wd (A++us++C),())))
  (fun y=>∃ g':Nat,g'<2^64/\nv (2^64) us/nv (2^64) v<=g'/\y=.inl (((A.length,us.length),(Wd v,((g':Int),()))),(Wd (A++us++C),()))) ?_
  (((g:Int),((rest:Int),((v.length:Int),((A.length,us.length),(Wd v,()))))),(Wd (A++us++C),())) ⟨g,rest,hg,hr,hinv,hq,rfl⟩
 ·obtain ⟨y,hy,g',k1,k2,rfl⟩:=key
  exact ⟨g',k1,k2,hy⟩
 clear hinv hg hr hq g rest
 intro L s hs hL
 obtain ⟨g,rest,hg,hr,hinv,hq,rfl⟩:=hs
 unfold Ud
 have hv1:=Cq (by decide) hv (n+1)
 have hv2:=Cq (by decide) hv n
 have hu0:=Cq (by decide) hu n
 have g1:(Wd v).getD (n+1) 0=((v.getD (n+1) 0:Nat):Int):=Cc v _
 have g2:(Wd v).getD n 0=((v.getD n 0:Nat):Int):=Cc v _
 have g3:=S2 (A:=A) (C:=C) (us:=us) (i:=n) (by omega)
 have e11:IntKind.wrap .i64 ((v.length:Int)-2)=(n:Int):=by rw [As (by omega)]; omega
 have e12:IntKind.wrap .i64 ((v.length:Int)-1)=((n+1:Nat):Int):=by rw [As (by omega)]; omega
 have p0:=lE hg hv2
 have e0:decide ((0:Int)<=(n:Int))=true:=decide_eq_true (by omega)
 have e1:decide ((n:Int)<(v.length:Int))=true:=decide_eq_true (by omega)
 have e2:decide ((n:Int)<(us.length:Int))=true:=decide_eq_true (by omega)
 have e3:decide ((0:Int)<=((n+1:Nat):Int))=true:=decide_eq_true (by omega)
 have e4:decide (((n+1:Nat):Int)<(v.length:Int))=true:=decide_eq_true (by omega)
 have hlo:g*v.getD n 0%2^64<2^64:=Nat.mod_lt _ (by decide)
 have hlex:=aJn (h:=g*v.getD n 0/2^64) (r:=rest) hlo hu0
 rw [show g*v.getD n 0/2^64*2^64+g*v.getD n 0%2^64=g*v.getD n 0 by omega] at hlex
 dsimp only
 simp only [e11,e12,e0,e1,e2,e3,e4,Bool.and_self,Bool.true_or,cond_true,AA,Int.toNat_natCast,g1,g2,g3,jI p0,jL p0,hlex]
 by_cases hc:g*v.getD n 0<=rest*2^64+us.getD n 0
 ·rw [decide_eq_true hc,cond_true]
  exact ⟨_,rfl,g,hg,hq,rfl⟩
 ·rw [decide_eq_false hc,cond_false]
  have hdn:=aQz (Nat.pow_pos (by decide)) (xA hvl) (aBG hu hlen) hinv hc
  have hg1:1<=g:=Nat.lt_of_le_of_lt (Nat.zero_le _) hdn
  obtain ⟨p,rfl⟩:∃ p,g=p+1:=⟨g-1,by omega⟩
  have e5:IntKind.wrap .u64 (((p+1:Nat):Int)-1)=(p:Int):=by rw [D9 (by omega)]; omega
  have q1:=PL rest (v.getD (n+1) 0) 0
  have q2:=N7 (rest:Int) ((v.getD (n+1) 0:Nat):Int) 0 (by decide)
  have z0:((0:Nat):Int)=0:=rfl
  rw [z0] at q1 q2
  simp only [q1,q2,cond_true,e5]
  by_cases hb:(rest+v.getD (n+1) 0+0)/2^64=0
  ·have e6:((((rest+v.getD (n+1) 0+0)/2^64:Nat):Int) != 0)=false:=by rw [hb]; rfl
   rw [e6,cond_false]
   have hs:(rest+v.getD (n+1) 0+0)%2^64=rest+v.getD (n+1) 0:=by omega
   rw [hs]
   refine hL _ ⟨p,rest+v.getD (n+1) 0,by omega,by omega,?_,Nat.le_of_lt_succ hdn,rfl⟩ (by simp only [Int.toNat_natCast]; omega)
   rw [Nat.add_mul,Nat.one_mul] at hinv
   omega
  ·have e6:((((rest+v.getD (n+1) 0+0)/2^64:Nat):Int) != 0)=true:=Bh _ hb
   rw [e6,cond_true]
   exact ⟨_,rfl,p,by omega,Nat.le_of_lt_succ hdn,rfl⟩
theorem aIm (A us C v:List Nat) {n:Nat} (hvl:v.length=n+2) (hlen:us.length=n+3) (hu:∀ x∈us,x<2^64) (hv:∀ x∈v,x<2^64) (hn:v.length<=1000000)
  (hlt:nv (2^64) us<nv (2^64) v*2^64) :
  ∃ out:List Nat,out.length=us.length/\(∀ z∈out,z<2^64)/\nv (2^64) out=nv (2^64) us%nv (2^64) v /\
   Wb ((Wd (A++us++C),(A.length,us.length)),(Wd v,()))=some (Wd (A++out++C),((nv (2^64) us/nv (2^64) v:Nat):Int),()):=by
 show ∃ out:List Nat,_/\_/\_/\cF AS.pre AS.F AP.pre AP.F Ay.pre Ay.F Cs.pre Cs.F C6.pre C6.F gW Yr (Wd (A++us++C),(A.length,us.length)) (Wd v)=_
 have hVp:0<nv (2^64) v:=by omega
 have hq64:nv (2^64) us/nv (2^64) v<2^64:=by rw [Nat.div_lt_iff_lt_mul hVp,Nat.mul_comm]; exact hlt
 have hv1:=Cq (by decide) hv (n+1)
 have hu2:=Cq (by decide) hu (n+2)
 have hu1:=Cq (by decide) hu (n+1)
 have hu0:=Cq (by decide) hu n
 have BR:∀ g:Nat,g<2^64->nv (2^64) us/nv (2^64) v<=g ->
   ∃ out:List Nat,out.length=us.length/\(∀ z∈out,z<2^64)/\nv (2^64) out=nv (2^64) us%nv (2^64) v /\
    (bif Cs.pre ((Wd (A++us++C),(A.length,us.length)),(Wd v,((g:Int),()))) then
     (bif (Cs.F ((Wd (A++us++C),(A.length,us.length)),(Wd v,((g:Int),())))).2.1 then
      (Vx.A1 (Yr (((g:Int),((A.length,us.length),(Wd v,()))),((Cs.F ((Wd (A++us++C),(A.length,us.length)),(Wd v,((g:Int),())))).1,()))) fun y5 =>
      Vx.A6 y5 (fun y6=>some (y6.2.1,y6.1)) (fun _=>none))
     else some ((Cs.F ((Wd (A++us++C),(A.length,us.length)),(Wd v,((g:Int),())))).1,((g:Int),())))
    else none)=(some (Wd (A++out++C),(((nv (2^64) us/nv (2^64) v:Nat):Int),())):Option (LK.B Ff×DenS JC)):=by
  intro g hg hq
  obtain ⟨out,o1,o2,o3,o4⟩:=aPL A us C v (by omega) hu hv hn hg
  have hpr:Cs.pre ((Wd (A++us++C),(A.length,us.length)),(Wd v,((g:Int),())))=true:=aMC o4
  have hfr:Cs.F ((Wd (A++us++C),(A.length,us.length)),(Wd v,((g:Int),())))=(Wd (A++out++C),decide (nv (2^64) us<g*nv (2^64) v),()):=aOc o4
  rw [hpr,hfr]
  rw [cond_true]
  by_cases hb:nv (2^64) us<g*nv (2^64) v
  ·rw [if_pos hb] at o3
   obtain ⟨out2,u1,u2,u3,u4⟩:=aQT A C v (k:=us.length) (U:=nv (2^64) us) (by omega) hv hn out g o1 o2 hg o3
   refine ⟨out2,u1,u2,u3,?_⟩
   dsimp only
   rw [decide_eq_true hb,cond_true,u4]
  ·rw [if_neg hb,Nat.add_zero] at o3
   have h1:nv (2^64) us/nv (2^64) v=g:=by
    have:g<=nv (2^64) us/nv (2^64) v:=by rw [Nat.le_div_iff_mul_le hVp]; omega
    exact Nat.le_antisymm hq this
   have h2:nv (2^64) out=nv (2^64) us%nv (2^64) v:=by
    have:=Nat.div_add_mod (nv (2^64) us) (nv (2^64) v)
    rw [h1,Nat.mul_comm] at this
    omega
   refine ⟨out,o1,o2,h2,?_⟩
   dsimp only
   rw [decide_eq_false hb,cond_false,h1]
 have g1:(Wd v).getD (n+1) 0=((v.getD (n+1) 0:Nat):Int):=Cc v _
 have g2:=S2 (A:=A) (C:=C) (us:=us) (i:=n+2) (by omega)
 have g3:=S2 (A:=A) (C:=C) (us:=us) (i:=n+1) (by omega)
 have e10:IntKind.wrap .i64 ((v.length:Int)-1)=((n+1:Nat):Int):=by rw [As (by omega)]; omega
 have e0:decide ((0:Int)<=(v.length:Int))=true:=decide_eq_true (by omega)
 have e1:decide ((v.length:Int)<(us.length:Int))=true:=decide_eq_true (by omega)
 have e2:decide ((0:Int)<=((n+1:Nat):Int))=true:=decide_eq_true (by omega)
 have e3:decide (((n+1:Nat):Int)<(v.length:Int))=true:=decide_eq_true (by omega)
 have e4:decide (((n+1:Nat):Int)<(us.length:Int))=true:=decide_eq_true (by omega)
 have evl:v.length=n+2:=hvl
 have g2':(Wd (A++us++C)).getD (A.length+v.length) 0=((us.getD (n+2) 0:Nat):Int):=by rw [evl]; exact g2
 unfold cF
 dsimp only
 simp only [AA,Int.toNat_natCast,e10,g1,g2',g3,e0,e1,e2,e3,e4,Bool.and_self,cond_true]
 by_cases hc:us.getD (n+2) 0<v.getD (n+1) 0
 ·have e5:decide (((us.getD (n+2) 0:Nat):Int)<((v.getD (n+1) 0:Nat):Int))=true:=decide_eq_true (by omega)
  have p0:=vW hu1 hv1 hc
  simp only [e5,cond_true,qO p0,nC p0]
  have hgl:(us.getD (n+2) 0*2^64+us.getD (n+1) 0)/v.getD (n+1) 0<2^64:=by
   rw [Nat.div_lt_iff_lt_mul (by omega)]
   have:(us.getD (n+2) 0+1)*2^64<=v.getD (n+1) 0*2^64:=Nat.mul_le_mul_right _ hc
   rw [Nat.add_mul,Nat.one_mul] at this
   rw [Nat.mul_comm (2^64)]
   omega
  have hrl:(us.getD (n+2) 0*2^64+us.getD (n+1) 0)%v.getD (n+1) 0<2^64:=Nat.lt_trans (Nat.mod_lt _ (by omega)) hv1
  have hst:=aU3 (Nat.pow_pos (n:=n) (show 0<2^64 by decide)) (show 0<v.getD (n+1) 0 by omega) (xA hvl) (aBG hu hlen) hu0
  obtain ⟨g',k1,k2,k3⟩:=aO5 A us C v hvl hlen hu hv hn (by omega) _ _ hgl hrl (by rw [Nat.mul_comm]; exact Nat.div_add_mod _ _) hst
  rw [k3]
  obtain ⟨out,o1,o2,o3,o4⟩:=BR g' k1 k2
  exact ⟨out,o1,o2,o3,o4⟩
 ·have e5:decide (((us.getD (n+2) 0:Nat):Int)<((v.getD (n+1) 0:Nat):Int))=false:=decide_eq_false (by omega)
  simp only [e5,cond_false]
  obtain ⟨out,o1,o2,o3,o4⟩:=BR (2^64-1) (by decide) (Nat.le_pred_of_lt hq64)
  exact ⟨out,o1,o2,o3,o4⟩
end VL
namespace VL
open Go Vx
theorem aLE {X Q d r a B:Nat} (hX:X=Q*d+r):X*B+a=(Q*B+(r*B+a)/d)*d+(r*B+a)%d:=by
 have h1:=Nat.div_add_mod (r*B+a) d
 rw [hX,Nat.add_mul,Nat.add_mul,Nat.mul_right_comm,Nat.mul_comm ((r*B+a)/d) d]
 omega
theorem aSO (l:List Nat) (hl:∀ x∈l,x<2^64) (hn:l.length<=1000000) {d:Nat} (hd:0<d) (hd2:d<2^64) :
  ∃ qs:List Nat,qs.length=l.length/\(∀ x∈qs,x<2^64)/\nv (2^64) qs=nv (2^64) l/d /\
   YT ((((d:Int),(((l.length:Int)-1),((),((0:Int),())))),(Wd l,())):FY.D)=some (.inl (((),(((nv (2^64) l%d:Nat):Int),())),(Wd qs,()))):=by
 have key:=Lj (xV AS.pre AS.F Ag.pre Ag.F) (fun s=>(s.1.2.1+1).toNat)
  (fun s=>∃ (k:Nat) (qs:List Nat) (r:Nat),k<=l.length/\qs.length+k=l.length/\(∀ x∈qs,x<2^64)/\r<d/\nv (2^64) (l.drop k)=nv (2^64) qs*d+r /\
   s=(((d:Int),(((k:Int)-1),((),((r:Int),())))),(Wd (l.take k++qs),())))
  (fun y=>∃ qs:List Nat,qs.length=l.length/\(∀ x∈qs,x<2^64)/\nv (2^64) qs=nv (2^64) l/d/\y=.inl (((),(((nv (2^64) l%d:Nat):Int),())),(Wd qs,()))) ?_
  (((d:Int),(((l.length:Int)-1),((),((0:Int),())))),(Wd l,()))
  ⟨l.length,[],0,Nat.le_refl _,by simp,(fun z hz=>by simp at hz),hd,by simp [nv],by simp⟩
 ·obtain ⟨y,hy,qs,k1,k2,k3,rfl⟩:=key
  exact ⟨qs,k1,k2,k3,hy⟩
 intro L s hs hL
 obtain ⟨k,qs,r,hk,hql,hqd,hr,hinv,rfl⟩:=hs
 unfold T6
 rcases k with _ | i
 ·have e0:decide ((((0:Nat):Int)-1)>=0)=false:=rfl
  dsimp only
  rw [e0,cond_false]
  rw [List.drop_zero] at hinv
  have hdv:nv (2^64) l/d=nv (2^64) qs:=by rw [hinv,Nat.mul_comm,Nat.mul_add_div hd,Nat.div_eq_of_lt hr,Nat.add_zero]
  have hmd:nv (2^64) l%d=r:=by rw [hinv,Nat.mul_comm,Nat.mul_add_mod,Nat.mod_eq_of_lt hr]
  exact ⟨_,rfl,qs,by omega,hqd,hdv.symm,by rw [hmd,List.take_zero,List.nil_append]⟩
 ·have ei:(((i+1:Nat):Int)-1)=(i:Int):=by omega
  have ha:=Cq (by decide) hl i
  have hg:(Wd (l.take (i+1)++qs)).getD i 0=((l.getD i 0:Nat):Int):=by
   rw [Cc]
   congr 1
   rw [List.getD_eq_getElem?_getD,List.getD_eq_getElem?_getD,List.getElem?_append_left (by simp; omega),List.getElem?_take_of_lt (by omega)]
  have hdn:=To (2^64) l i (by omega)
  have hset:∀ z:Nat,(Wd (l.take (i+1)++qs)).set i (z:Int)=Wd (l.take i++(z::qs)):=fun z=>by
   rw [D0,List.set_append_left _ _ (by simp; omega),List.take_succ_eq_append_getElem (show i<l.length by omega),List.set_append_right _ _ (by simp; omega)]
   have:i-(l.take i).length=0:=by simp; omega
   rw [this]
   simp
  have hlen:(Wd (l.take (i+1)++qs)).length=l.length:=by rw [AA]; simp; omega
  generalize l.getD i 0=a at *
  have p0:=vW (hi:=r) ha hd2 hr
  have e0:decide ((i:Int)>=0)=true:=decide_eq_true (by omega)
  have e1:decide ((0:Int)<=(i:Int))=true:=decide_eq_true (by omega)
  have e2:decide ((i:Int)<(l.length:Int))=true:=decide_eq_true (by omega)
  have e3:IntKind.wrap .i64 ((i:Int)-1)=(i:Int)-1:=As (by omega)
  dsimp only
  simp only [ei,e0,e1,e2,e3,hlen,Bool.and_self,cond_true,Int.toNat_natCast,hg,qO p0,nC p0,hset]
  have hq:(r*2^64+a)/d<2^64:=by
   rw [Nat.div_lt_iff_lt_mul hd]
   have:(r+1)*2^64<=d*2^64:=Nat.mul_le_mul_right _ hr
   rw [Nat.mul_comm (2^64)]
   omega
  refine hL _ ⟨i,(r*2^64+a)/d::qs,(r*2^64+a)%d,by omega,by simp; omega,?_,Nat.mod_lt _ hd,?_,rfl⟩ (by dsimp only; omega)
  ·intro x hx
   rcases List.mem_cons.1 hx with rfl | hx
   ·exact hq
   ·exact hqd x hx
  ·have:=aLE (B:=2^64) (a:=a) hinv
   rw [hdn]
   show a+2^64*_=((r*2^64+a)/d+2^64*nv (2^64) qs)*d+_
   rw [Nat.mul_comm (2^64) (nv (2^64) qs),Nat.add_comm ((r*2^64+a)/d),← this]
   omega
theorem bG {l:List Nat} (h:∀ x∈l,x<2^64):Wd (Ai l)=Dw (nv (2^64) l):=by
 unfold Dw
 rw [GE (by decide) l h]
theorem aTN {a:Nat} (ha:a<(2^64)^5000) {d:Nat} (hd:0<d) (hd2:d<2^64):ZL (Dw a,(d:Int),())=some (Dw (a/d),((a%d:Nat):Int),()):=by
 show gI AS.pre AS.F Ag.pre Ag.F YT (Dw a) (d:Int)=_
 unfold gI
 have hw:=Ds ha
 obtain ⟨qs,k1,k2,k3,k4⟩:=aSO (dg (2^64) a) hw.1 hw.2 hd hd2
 rw [Cd] at k3 k4
 have hl:(dg (2^64) a).length<=1000000:=hw.2
 have e0:IntKind.wrap .i64 (((Dw a).length:Int)-1)=(((dg (2^64) a).length:Int)-1):=by
  unfold Dw
  rw [AA,As (by omega)]
 have p0:=Eh qs (by omega)
 rw [e0]
 have k4:YT ((((d:Int),((((dg (2^64) a).length:Int)-1),((),((0:Int),())))),(Dw a,())):FY.D)=_:=k4
 rw [k4]
 show (bif Ag.pre (Wd qs,()) then some ((Ag.F (Wd qs,())).1,(((a%d:Nat):Int),())) else none)=_
 simp only [C0 p0,CV p0,cond_true,bG k2,k3]
theorem aMK (v:List Nat) {n:Nat} (hvl:v.length=n+2) (hv:∀ x∈v,x<2^64) (hn:v.length<=900000) {X:Nat} (Q:Nat) (hQ:Q<=50000) (s:Int) (us:List Nat) (hus:us.length=Q+n+2)
  (hud:∀ x∈us,x<2^64) (hX:nv (2^64) us=X) (hlt:X<nv (2^64) v*(2^64)^Q) :
  ∃ qs us':List Nat,qs.length=Q/\(∀ x∈qs,x<2^64)/\nv (2^64) qs=X/nv (2^64) v/\us'.length=Q+n+2/\(∀ x∈us',x<2^64)/\nv (2^64) us'=X%nv (2^64) v /\
   Xq (((Wd v,(((Q:Int)-1),((),((),((v.length:Int),(s,())))))),(Wd us,(Wd (List.replicate Q 0),()))):F5.D)=some (.inl (((),((),((v.length:Int),(s,())))),(Wd us',(Wd qs,())))):=by
 have hV0:0<nv (2^64) v:=by
  rcases Nat.eq_zero_or_pos (nv (2^64) v) with h | h
  ·rw [h,Nat.zero_mul] at hlt; omega
  ·exact h
 have hVl:=DR (B:=2^64) (by decide) v hv
 have key:=Lj (zN Dz.pre Dz.F EN.pre EN.F Bm.pre Bm.F CU.pre CU.F Fj.pre Fj.F BA.pre BA.F Dx.pre Dx.F ER.pre ER.F Ag.pre Ag.F CT.pre CT.F) (fun s=>(s.1.2.1+1).toNat)
  (fun x=>∃ (k:Nat) (qs us:List Nat),k<=Q/\qs.length+k=Q/\(∀ x∈qs,x<2^64)/\us.length=Q+n+2/\(∀ x∈us,x<2^64)/\nv (2^64) us<nv (2^64) v*(2^64)^k /\
   X=nv (2^64) qs*(2^64)^k*nv (2^64) v+nv (2^64) us /\
   x=((Wd v,(((k:Int)-1),((),((),((v.length:Int),(s,())))))),(Wd us,(Wd (List.replicate k 0++qs),()))))
  (fun y=>∃ qs us':List Nat,qs.length=Q/\(∀ x∈qs,x<2^64)/\nv (2^64) qs=X/nv (2^64) v/\us'.length=Q+n+2/\(∀ x∈us',x<2^64)/\nv (2^64) us'=X%nv (2^64) v /\
   y=.inl (((),((),((v.length:Int),(s,())))),(Wd us',(Wd qs,())))) ?_
  ((Wd v,(((Q:Int)-1),((),((),((v.length:Int),(s,())))))),(Wd us,(Wd (List.replicate Q 0),())))
  ⟨Q,[],us,Nat.le_refl _,by simp,(fun z hz=>by simp at hz),hus,hud,by rw [hX]; exact hlt,by simp [nv,hX],by simp⟩
 ·obtain ⟨y,hy,qs,us',k1,k2,k3,k4,k5,k6,rfl⟩:=key
  exact ⟨qs,us',k1,k2,k3,k4,k5,k6,hy⟩
 clear hlt hX hud hus us
 intro L x hx hL
 obtain ⟨k,qs,us,hk,hql,hqd,hus,hud,hlt,hinv,rfl⟩:=hx
 unfold Tm
 rcases k with _ | j
 ·have e0:decide ((((0:Nat):Int)-1)>=0)=false:=rfl
  dsimp only
  rw [e0,cond_false]
  rw [Nat.pow_zero,Nat.mul_one] at hlt hinv
  have hdv:X/nv (2^64) v=nv (2^64) qs:=by rw [hinv,Nat.mul_comm,Nat.mul_add_div hV0,Nat.div_eq_of_lt hlt,Nat.add_zero]
  have hmd:X%nv (2^64) v=nv (2^64) us:=by rw [hinv,Nat.mul_comm,Nat.mul_add_mod,Nat.mod_eq_of_lt hlt]
  exact ⟨_,rfl,qs,us,by omega,hqd,hdv.symm,hus,hud,hmd.symm,by simp⟩
 ·have ei:(((j+1:Nat):Int)-1)=(j:Int):=by omega
  have hjl:j+(n+3)<=us.length:=by omega
  have hsplit:us=us.take j++(us.drop j).take (n+3)++us.drop (j+(n+3)):=by
   rw [List.append_assoc,← List.drop_drop,List.take_append_drop,List.take_append_drop]
  have hAl:(us.take j).length=j:=by simp; omega
  have hwl:((us.drop j).take (n+3)).length=n+3:=by simp; omega
  have hAd:∀ x∈us.take j,x<2^64:=fun x hx=>hud x (List.mem_of_mem_take hx)
  have hwd:∀ x∈(us.drop j).take (n+3),x<2^64:=fun x hx=>hud x (List.mem_of_mem_drop (List.mem_of_mem_take hx))
  have hCd:∀ x∈us.drop (j+(n+3)),x<2^64:=fun x hx=>hud x (List.mem_of_mem_drop hx)
  have hCl:(us.drop (j+(n+3))).length+j+(n+3)=us.length:=by simp; omega
  generalize us.take j=A at *
  generalize (us.drop j).take (n+3)=w at *
  generalize us.drop (j+(n+3))=C at *
  subst hsplit
  have hAlt:=DR (B:=2^64) (by decide) A hAd
  have hval:∀ w:List Nat,w.length=n+3->nv (2^64) (A++w++C)=nv (2^64) A+(2^64)^j*nv (2^64) w+(2^64)^(j+(n+3))*nv (2^64) C:=fun w hw=>by
   rw [Sg,Sg,hAl,show (A++w).length=j+(n+3) by simp [hAl,hw]]
  have hPj:=Nat.pow_pos (n:=j) (show 0<2^64 by decide)
  have hv1:=hval w hwl
  rw [hAl] at hAlt
  have hC0:nv (2^64) C=0:=by
   rcases Nat.eq_zero_or_pos (nv (2^64) C) with h | h
   ·exact h
   ·exfalso
    have h1:(2^64)^(j+(n+3))*1<=(2^64)^(j+(n+3))*nv (2^64) C:=Nat.mul_le_mul_left _ h
    have h2:nv (2^64) v*(2^64)^(j+1)<=(2^64)^(n+2)*(2^64)^(j+1):=Nat.mul_le_mul_right _ (by rw [hvl] at hVl; omega)
    rw [← Nat.pow_add,show n+2+(j+1)=j+(n+3) by omega] at h2
    omega
  rw [hC0,Nat.mul_zero,Nat.add_zero] at hv1
  have hwlt:nv (2^64) w<nv (2^64) v*2^64:=by
   have h1:(2^64)^j*nv (2^64) w<(2^64)^j*(nv (2^64) v*2^64):=by
    rw [Hu,← Nat.mul_assoc] at hlt
    rw [Nat.mul_left_comm,← Nat.mul_assoc]
    omega
   exact Nat.lt_of_mul_lt_mul_left h1
  obtain ⟨out,o1,o2,o3,o4⟩:=aIm A w C v hvl hwl hwd hv (by omega) hwlt
  rw [hAl,hwl] at o4
  have hout:out.length=n+3:=by omega
  have hv2:=hval out hout
  rw [hC0,Nat.mul_zero,Nat.add_zero,o3] at hv2
  have hdm:=Nat.div_add_mod (nv (2^64) w) (nv (2^64) v)
  have hml:=Nat.mod_lt (nv (2^64) w) hV0
  have hq64:nv (2^64) w/nv (2^64) v<2^64:=by rw [Nat.div_lt_iff_lt_mul hV0,Nat.mul_comm]; exact hwlt
  have e0:decide ((j:Int)>=0)=true:=decide_eq_true (by omega)
  have e1:decide ((0:Int)<=(j:Int))=true:=decide_eq_true (by omega)
  have e3:IntKind.wrap .i64 (IntKind.wrap .i64 ((j:Int)+(v.length:Int))+1)=((j+(n+3):Nat):Int):=by
   rw [As (n:=(j:Int)+_) (by omega),As (by omega)]; omega
  have e4:decide ((j:Int)<=((j+(n+3):Nat):Int))=true:=decide_eq_true (by omega)
  have e5:decide ((((j+(n+3):Nat):Int))<=((Wd (A++w++C)).length:Int))=true:=decide_eq_true (by rw [AA]; simp; omega)
  have e6:decide ((j:Int)<((Wd (List.replicate (j+1) 0++qs)).length:Int))=true:=decide_eq_true (by rw [AA]; simp; omega)
  have e7:IntKind.wrap .i64 ((j:Int)-1)=(j:Int)-1:=As (by omega)
  have hset:∀ z:Nat,(Wd (List.replicate (j+1) 0++qs)).set j (z:Int)=Wd (List.replicate j 0++(z::qs)):=fun z=>by
   rw [D0,List.set_append_left _ _ (by simp),List.replicate_succ',List.set_append_right _ _ (by simp)]
   simp
  have e8:j+(n+3)-j=n+3:=by omega
  dsimp only
  simp only [ei,e0,e1,e3,e4,e5,e6,e7,Bool.and_self,cond_true,Int.toNat_natCast,e8]
  rw [aOv o4,aJl o4,cond_true]
  dsimp only
  rw [hset]
  refine hL _ ⟨j,nv (2^64) w/nv (2^64) v::qs,A++out++C,by omega,by simp; omega,?_,by simp; omega,?_,?_,?_,rfl⟩ (by dsimp only; omega)
  ·intro x hx
   rcases List.mem_cons.1 hx with rfl | hx
   ·exact hq64
   ·exact hqd x hx
  ·intro x hx
   rcases List.mem_append.1 hx with hx | hx
   ·rcases List.mem_append.1 hx with hx | hx
    ·exact hAd x hx
    ·exact o2 x hx
   ·exact hCd x hx
  ·rw [hv2]
   have:(2^64)^j*(nv (2^64) w%nv (2^64) v+1)<=(2^64)^j*nv (2^64) v:=Nat.mul_le_mul_left _ hml
   rw [Nat.mul_add,Nat.mul_one] at this
   rw [Nat.mul_comm (nv (2^64) v)]
   omega
  ·rw [hv2,hinv,hv1]
   show _=(nv (2^64) w/nv (2^64) v+2^64*nv (2^64) qs)*(2^64)^j*nv (2^64) v+_
   have h1:(2^64)^j*nv (2^64) w=(2^64)^j*(nv (2^64) v*(nv (2^64) w/nv (2^64) v))+(2^64)^j*(nv (2^64) w%nv (2^64) v):=by rw [← Nat.mul_add,hdm]
   rw [h1,Hu,Nat.add_mul,Nat.add_mul]
   generalize nv (2^64) w/nv (2^64) v=q
   generalize nv (2^64) v=V
   generalize (2^64)^j=P
   have h2:nv (2^64) qs*(P*2^64)*V=2^64*nv (2^64) qs*P*V:=by rw [Nat.mul_comm P,← Nat.mul_assoc,Nat.mul_comm (nv (2^64) qs)]
   have h3:P*(V*q)=q*P*V:=by rw [Nat.mul_comm V,← Nat.mul_assoc,Nat.mul_comm P]
   rw [h2,h3]
   omega
end VL
namespace VL
open Go Vx
theorem aT7 {x k:Nat} (h:(2^64)^k<=x):k<(dg (2^64) x).length:=by
 have:=Sw (B:=2^64) (by decide) x
 exact (Nat.pow_lt_pow_iff_right (a:=2^64) (by decide)).1 (Nat.lt_of_le_of_lt h this)
theorem aIO {x:Nat} (h0:x≠0):∃ t,(dg (2^64) x).getD ((dg (2^64) x).length-1) 0=t/\t≠0/\t<2^64/\An x=64*((dg (2^64) x).length-1)+An t/\0<(dg (2^64) x).length:=by
 have hl:0<(dg (2^64) x).length:=by rw [FO (by decide) (by omega)]; simp
 have ht:=OJ (B:=2^64) (by decide) x
 have h1:=W2 (dg (2^64) x) (by rw [ht]; exact hl)
 have h2:=aEO (F8 (B:=2^64) (by decide) x) (by rw [ht]; exact hl)
 rw [ht] at h1 h2
 rw [Cd] at h2
 exact ⟨_,rfl,h1,Cq (by decide) (F8 (by decide) x) _,h2,hl⟩
theorem SP (k:Nat):(2^64)^k=2^(64*k):=(Nat.pow_mul ..).symm
theorem aJI {a b:Nat} (ha:a<(2^64)^4000) (hb:b<(2^64)^4000) (h0:b≠0):Zu (Dw a,Dw b,())=some (Dw (a/b),Dw (a%b),()):=by
 have up:∀ {x:Nat},x<(2^64)^4000->x<(2^64)^5000:=fun h=>Nat.lt_of_lt_of_le h (Nat.pow_le_pow_right (by decide) (by decide))
 show kS Dz.pre Dz.F EN.pre EN.F Bm.pre Bm.F CU.pre CU.F Fj.pre Fj.F BA.pre BA.F Dx.pre Dx.F ER.pre ER.F Ag.pre Ag.F CT.pre CT.F Xq (Dw a) (Dw b)=_
 unfold kS
 have pa:=Nn (up ha)
 have pb:=Nn (up hb)
 have pc:=aI (up ha) (up hb)
 have wa:=Ds (up ha)
 have wb:=Ds (up hb)
 have hla:(dg (2^64) a).length<=4000:=CZ (by decide) _ _ ha
 have hlb:(dg (2^64) b).length<=4000:=CZ (by decide) _ _ hb
 have pcopy:=aCZ (dg (2^64) a) wa
 rw [Cd] at pcopy
 have pcopy:RO (Dw a,())=some (Dw a,()):=pcopy
 obtain ⟨t,ht,ht0,ht64,hbt,hlp⟩:=aIO h0
 have hLen:∀ x:Nat,(Dw x).length=(dg (2^64) x).length:=fun x=>AA _
 have hGet:∀ (x i:Nat),(Dw x).getD i 0=(((dg (2^64) x).getD i 0:Nat):Int):=fun x i=>Cc _ _
 dsimp only
 simp only [C0 pa,CV pa,C0 pb,CV pb,Zf pc,Wn pc,cond_true]
 by_cases hlt:a<b
 ·have e0:decide ((if a=b then (0:Int) else if a<b then -1 else 1)<0)=true:=by rw [if_neg (by omega),if_pos hlt]; rfl
  simp only [e0,cond_true,qR pcopy,uL pcopy]
  rw [Nat.div_eq_of_lt hlt,Nat.mod_eq_of_lt hlt,DB]
 have e0:decide ((if a=b then (0:Int) else if a<b then -1 else 1)<0)=false:=by
  rw [if_neg hlt]
  split <;> rfl
 simp only [e0,cond_false]
 by_cases h1:(dg (2^64) b).length=1
 ·have e1:(((Dw b).length:Int)==1)=true:=by rw [hLen,h1]; rfl
  have hb64:b<2^64:=by
   have:=Sw (B:=2^64) (by decide) b
   rw [h1,Nat.pow_one] at this
   exact this
  have e2:decide ((0:Int)<((Dw b).length:Int))=true:=by rw [hLen,h1]; rfl
  have e3:(Dw b).getD (Int.toNat 0) 0=(b:Int):=by rw [Int.toNat_zero,Kx,Nat.mod_eq_of_lt hb64]
  have p0:=aTN (up ha) (Nat.pos_of_ne_zero h0) hb64
  have hr:a%b<b:=Nat.mod_lt _ (Nat.pos_of_ne_zero h0)
  have p1:=Eh [a%b] (by simp)
  rw [bG (by intro x hx; rw [List.mem_singleton] at hx; omega),show nv (2^64) [a%b]=a%b by simp [nv]] at p1
  have p1:Sa ((((a%b:Nat):Int)::[]),())=_:=p1
  simp only [e1,e2,e3,cond_true,qR pcopy,uL pcopy,aSF p0,aUz p0,C0 p1,CV p1]
 have e1:(((Dw b).length:Int)==1)=false:=by
  rw [hLen]
  exact In _ _ (by omega)
 simp only [e1,cond_false]
 obtain ⟨n,hn⟩:∃ n,(dg (2^64) b).length=n+2:=⟨(dg (2^64) b).length-2,by omega⟩
 have hab:(dg (2^64) b).length<=(dg (2^64) a).length:=aHS (by decide) (by omega)
 obtain ⟨Q,hQ⟩:∃ Q,(dg (2^64) a).length+1=Q+n+2:=⟨(dg (2^64) a).length+1-(n+2),by omega⟩
 rw [show (dg (2^64) b).length-1=n+1 by omega] at ht hbt
 have hbl:=En ht64
 have hbl1:=Jp ht0
 generalize hs:64-An t=s at *
 have p327:=aGs ht64
 rw [hs] at p327
 have hub:=Gq b
 have hlob:=Ji h0
 have hp:=Nat.two_pow_pos s
 have hV1:b*2^s<2^(64*(n+2)):=by
  have h2:b*2^s<2^An b*2^s:=Nat.mul_lt_mul_of_pos_right hub hp
  rw [← Nat.pow_add,show An b+s=64*(n+2) by omega] at h2
  exact h2
 have hV2:2^(64*(n+2)-1)<=b*2^s:=by
  have h2:2^(An b-1)*2^s<=b*2^s:=Nat.mul_le_mul_right _ hlob
  rw [← Nat.pow_add,show An b-1+s=64*(n+2)-1 by omega] at h2
  exact h2
 have hvlen:(dg (2^64) (b*2^s)).length=n+2:=by
  have h2:(dg (2^64) (b*2^s)).length<=n+2:=CZ (by decide) _ _ (by rw [SP]; exact hV1)
  have h3:=aT7 (x:=b*2^s) (k:=n+1) (by
   rw [SP]
   exact Nat.le_trans (Nat.pow_le_pow_right (by decide) (by omega)) hV2)
  omega
 have hA:a*2^s<2^(64*(dg (2^64) a).length+s):=by
  have h2:=Sw (B:=2^64) (by decide) a
  rw [SP] at h2
  rw [Nat.pow_add]
  exact Nat.mul_lt_mul_of_pos_right h2 hp
 have hulen:(dg (2^64) (a*2^s)).length<=Q+n+2:=CZ (by decide) _ _ (by
  rw [SP]
  exact Nat.lt_of_lt_of_le hA (Nat.pow_le_pow_right (by decide) (by omega)))
 have hstart:a*2^s<b*2^s*(2^64)^Q:=by
  have h2:2^(64*(n+2)-1)*2^(64*Q)<=b*2^s*2^(64*Q):=Nat.mul_le_mul_right _ hV2
  rw [← Nat.pow_add] at h2
  rw [SP]
  exact Nat.lt_of_lt_of_le (Nat.lt_of_lt_of_le hA (Nat.pow_le_pow_right (by decide) (by omega))) h2
 have pv:=rI (dg (2^64) b) wb s (by rw [OJ (by decide)]; omega)
 have pu:=rI (dg (2^64) a) wa s (by rw [OJ (by decide)]; omega)
 rw [Cd] at pv pu
 have pv:RW (Dw b,(s:Int),())=some (Dw (b*2^s),()):=pv
 have pu:RW (Dw a,(s:Int),())=some (Dw (a*2^s),()):=pu
 have e17:IntKind.wrap .i64 (((Dw b).length:Int)-1)=((n+1:Nat):Int):=by rw [hLen,As (by omega)]; omega
 have e18:IntKind.wrap .i64 (((Dw a).length:Int)+1)=((Q+n+2:Nat):Int):=by rw [hLen,As (by omega)]; omega
 have eg:(Dw b).getD (Int.toNat ((n+1:Nat):Int)) 0=(t:Int):=by rw [Int.toNat_natCast,hGet,ht]
 have e2:(decide ((0:Int)<=((n+1:Nat):Int))&&decide (((n+1:Nat):Int)<((Dw b).length:Int)))=true:=by
  rw [hLen,decide_eq_true (by omega),decide_eq_true (by omega)]; rfl
 have e3:(decide ((0:Int)<=((Q+n+2:Nat):Int))&&decide (((Q+n+2:Nat):Int)*8<=140737488355328))=true:=by
  rw [decide_eq_true (by omega),decide_eq_true (by omega)]; rfl
 generalize hud:dg (2^64) (a*2^s)++List.replicate (Q+n+2-(dg (2^64) (a*2^s)).length) 0=us
 have husl:us.length=Q+n+2:=by rw [← hud,List.length_append,List.length_replicate]; omega
 have hus:∀ x∈us,x<2^64:=by
  rw [← hud]
  intro x hx
  rcases List.mem_append.1 hx with hx | hx
  ·exact F8 (by decide) _ x hx
  ·have:=(List.mem_replicate.1 hx).2
   omega
 have husv:nv (2^64) us=a*2^s:=by rw [← hud,Sg,aFt,Nat.mul_zero,Nat.add_zero,Cd]
 have hrow:(Dw (a*2^s)).take (List.replicate (Int.toNat ((Q+n+2:Nat):Int)) (0:Int)).length++(List.replicate (Int.toNat ((Q+n+2:Nat):Int)) (0:Int)).drop (Dw (a*2^s)).length=Wd us:=by
  rw [Int.toNat_natCast,List.length_replicate,Sj,hLen,aUK,List.drop_replicate]
  unfold Dw
  rw [fC,List.take_of_length_le hulen,← hud]
  unfold Wd
  rw [List.map_append]
 have e11:IntKind.wrap .i64 (((Wd us).length:Int)-((Dw (b*2^s)).length:Int))=(Q:Int):=by
  rw [AA,husl,hLen,hvlen,As (by omega)]; omega
 have e4:(decide ((0:Int)<=(Q:Int))&&decide ((Q:Int)*8<=140737488355328))=true:=by
  rw [decide_eq_true (by omega),decide_eq_true (by omega)]; rfl
 have e5:IntKind.wrap .i64 (((List.replicate (Int.toNat (Q:Int)) (0:Int)).length:Int)-1)=(Q:Int)-1:=by
  rw [Int.toNat_natCast,List.length_replicate,As (by omega)]
 obtain ⟨qs,us',k1,k2,k3,k4,k5,k6,k7⟩:=aMK (dg (2^64) (b*2^s)) hvlen (F8 (by decide) _) (by omega) (X:=a*2^s) Q (by omega) (s:Int) us husl hus husv (by rw [Cd]; exact hstart)
 rw [Cd] at k3 k6
 rw [Nat.mul_div_mul_right _ _ hp] at k3
 rw [Nat.mul_mod_mul_right] at k6
 have k7:Xq (((Dw (b*2^s),(((Q:Int)-1),((),((),(((Dw (b*2^s)).length:Int),((s:Int),())))))),(Wd us,((List.replicate (Int.toNat (Q:Int)) (0:Int)),()))):F5.D)=some (.inl (((),((),(((n+2:Nat):Int),((s:Int),())))),(Wd us',(Wd qs,())))):=by
  rw [Int.toNat_natCast,Sj,hLen]
  rw [hvlen] at k7 ⊢
  exact k7
 simp only [e17,eg,xE p327,aDf p327,tT pv,sO pv,tT pu,sO pu,e18,e2,e3,cond_true,hrow,e11,e4,e5]
 rw [k7]
 dsimp only [A1,A6]
 have pq:=Eh qs (by omega)
 rw [bG k2,k3] at pq
 have hnl:nv (2^64) (us'.take (n+2))=a%b*2^s:=by
  have h2:=Ka (2^64) us' (n+2) (by omega)
  have h3:nv (2^64) (us'.drop (n+2))=0:=by
   rcases Nat.eq_zero_or_pos (nv (2^64) (us'.drop (n+2))) with h | h
   ·exact h
   ·exfalso
    have h4:(2^64)^(n+2)*1<=(2^64)^(n+2)*nv (2^64) (us'.drop (n+2)):=Nat.mul_le_mul_left _ h
    have h5:a%b*2^s<b*2^s:=Nat.mul_lt_mul_of_pos_right (Nat.mod_lt _ (Nat.pos_of_ne_zero h0)) hp
    rw [SP] at h4 h2
    omega
  rw [h3,Nat.mul_zero,Nat.add_zero] at h2
  rw [← h2,k6]
 have pr:=aEB (us'.take (n+2)) ⟨fun x hx=>k5 x (List.mem_of_mem_take hx),by simp; omega⟩ s (by omega)
 rw [hnl,Nat.mul_div_cancel _ hp] at pr
 have pr:Tp (Wd (us'.take (n+2)),(s:Int),())=some (Dw (a%b),()):=pr
 have e6:(decide ((0:Int)<=((n+2:Nat):Int))&&decide (((n+2:Nat):Int)<=((Wd us').length:Int)))=true:=by
  rw [AA,k4,decide_eq_true (by omega),decide_eq_true (by omega)]; rfl
 have e7:((Wd us').take (Int.toNat ((n+2:Nat):Int))).drop (Int.toNat 0)=Wd (us'.take (n+2)):=by
  rw [Int.toNat_natCast,Int.toNat_zero,fC,List.drop_zero]
 simp only [C0 pq,CV pq,e6,e7,zZ pr,yC pr,cond_true]
theorem vY {l:List (List Nat)} (hl:∀ x∈l,x.length<=1024) (hn:l.length<=1000000):Ix (l.map Wd,())=some (false,()):=by
 have:=aEJ l (fun x hx=>by have:=hl x hx; omega) hn
 rw [this,decide_eq_true (fun x hx=>Nat.le_trans (Eg x).1 (hl x hx))]; rfl
theorem aU4 {a b:Nat} (ha:a<(2^64)^1024) (hb:b<(2^64)^1024) (h0:b≠0):WO (Dw a,Dw b,())=some (Dw (a/b),Dw (a%b),0,()):=by
 have up:∀ {x:Nat},x<(2^64)^1024->x<(2^64)^4000:=fun h=>Nat.lt_of_lt_of_le h (Nat.pow_le_pow_right (by decide) (by decide))
 have up5:∀ {x:Nat},x<(2^64)^1024->x<(2^64)^5000:=fun h=>Nat.lt_of_lt_of_le h (Nat.pow_le_pow_right (by decide) (by decide))
 show cE Eb.pre Eb.F Ag.pre Ag.F N3.pre N3.F (Dw a) (Dw b)=_
 unfold cE
 have p0:=vY (l:=[dg (2^64) a,dg (2^64) b]) (by
  intro x hx
  rcases List.mem_cons.1 hx with rfl | hx
  ·exact CZ (by decide) _ _ ha
  ·rw [List.mem_singleton] at hx
   rw [hx]
   exact CZ (by decide) _ _ hb) (by simp)
 have p0:Ix ((Dw a::Dw b::[]),())=some (false,()):=p0
 have p1:=Nn (up5 hb)
 have p2:=aJI (up ha) (up hb) h0
 have e0:(((Dw b).length:Int)==0)=false:=by rw [aPl,decide_eq_false h0]
 simp only [WX p0,W5 p0,C0 p1,CV p1,aOy p2,aUs p2,cond_true,cond_false,e0]
end VL
namespace VL
open Go Vx
theorem aUv {x y p c:Nat} (hx:x<2^64) (hy:y<2^64) (hp:p<2^64) (hc:c<2^64) :
  x*y+p+c=2^64*(x*y/2^64+(x*y%2^64+p)/2^64+((x*y%2^64+p)%2^64+c)/2^64)+((x*y%2^64+p)%2^64+c)%2^64 /\
   x*y/2^64+(x*y%2^64+p)/2^64+((x*y%2^64+p)%2^64+c)/2^64<2^64:=by
 have:x*y<=(2^64-1)*(2^64-1):=Nat.mul_le_mul (by omega) (by omega)
 generalize x*y=z at *
 omega
theorem aCD (l:List Nat) (i j v:Nat):(l.set i v).getD j 0=if i=j/\i<l.length then v else l.getD j 0:=by
 rw [List.getD_eq_getElem?_getD,List.getD_eq_getElem?_getD,List.getElem?_set]
 by_cases h:i=j
 ·subst h
  by_cases h2:i<l.length
  ·simp [h2]
  ·simp [h2]
 ·simp [h]
theorem aAx {l:List Nat} {i v B:Nat} (h:∀ x∈l,x<B) (hv:v<B):∀ x∈l.set i v,x<B:=fun x hx=>by
 rcases List.mem_or_eq_of_mem_set hx with h1 | h1
 ·exact h x h1
 ·omega
theorem aTZ (a b p:List Nat) (hb:∀ x∈b,x<2^64) (hn:b.length<=100000) {x i:Nat} (hx:x<2^64) (hi:i<=100000) (hpl:i+b.length<p.length) (hpn:p.length<=300000) (hpd:∀ z∈p,z<2^64)
  (hz:∀ k,i+b.length<=k->p.getD k 0=0) (la:Int) :
  ∃ (p':List Nat) (c:Nat),p'.length=p.length/\(∀ z∈p',z<2^64)/\c<2^64/\nv (2^64) p'+(2^64)^(i+b.length)*c=nv (2^64) p+(2^64)^i*(x*nv (2^64) b)/\(∀ k,i+b.length<=k->p'.getD k 0=0) /\
   PA (((b.length:Int),(Wd b,((x:Int),((0:Int),((i:Int),((0:Int),((i:Int),(la,(Wd a,(Wd b,((),()))))))))))),(Wd p,()))=some (.inl (((i:Int),((c:Int),((i:Int),(la,(Wd a,(Wd b,((),()))))))),(Wd p',()))):=by
 have key:=Lj (aAg AP.pre AP.F Ay.pre Ay.F Ag.pre Ag.F) (fun s=>b.length-s.1.2.2.2.1.toNat)
  (fun s=>∃ (j:Nat) (p':List Nat) (c:Nat),j<=b.length/\p'.length=p.length/\(∀ z∈p',z<2^64)/\c<2^64/\nv (2^64) p'+(2^64)^(i+j)*c=nv (2^64) p+(2^64)^i*(x*nv (2^64) (b.take j))/\(∀ k,i+b.length<=k->p'.getD k 0=0) /\
   s=(((b.length:Int),(Wd b,((x:Int),((j:Int),((i:Int),((c:Int),((i:Int),(la,(Wd a,(Wd b,((),()))))))))))),(Wd p',())))
  (fun y=>∃ (p':List Nat) (c:Nat),p'.length=p.length/\(∀ z∈p',z<2^64)/\c<2^64/\nv (2^64) p'+(2^64)^(i+b.length)*c=nv (2^64) p+(2^64)^i*(x*nv (2^64) b)/\(∀ k,i+b.length<=k->p'.getD k 0=0) /\
   y=.inl (((i:Int),((c:Int),((i:Int),(la,(Wd a,(Wd b,((),()))))))),(Wd p',()))) ?_
  (((b.length:Int),(Wd b,((x:Int),((0:Int),((i:Int),((0:Int),((i:Int),(la,(Wd a,(Wd b,((),()))))))))))),(Wd p,()))
  ⟨0,p,0,Nat.zero_le _,rfl,hpd,by decide,by simp [nv],hz,rfl⟩
 ·obtain ⟨y,hy,p',c,k1,k2,k3,k4,k5,rfl⟩:=key
  exact ⟨p',c,k1,k2,k3,k4,k5,hy⟩
 intro L s hs hL
 obtain ⟨j,q,c,hj,hql,hqd,hc,hinv,hqz,rfl⟩:=hs
 unfold U3
 rcases Nat.lt_or_ge j b.length with hlt | hge
 ·have hy:=Cq (by decide) hb j
  have hp:=Cq (by decide) hqd (i+j)
  have hnb:=Ev (2^64) b j
  have hgb:(Wd b).getD j 0=((b.getD j 0:Nat):Int):=Cc b j
  have hgq:(Wd q).getD (i+j) 0=((q.getD (i+j) 0:Nat):Int):=Cc q _
  have hst:=fun z=>W1 (2^64) q (i+j) z (by omega)
  have hgs:=fun z k=>aCD q (i+j) k z
  generalize b.getD j 0=y at *
  generalize q.getD (i+j) 0=d at *
  have p0:=lE hx hy
  obtain ⟨m1,m2⟩:=aUv hx hy hp hc
  have q1:=PL (x*y%2^64) d 0
  have q2:=N7 ((x*y%2^64:Nat):Int) (d:Int) 0 (by decide)
  have r1:=PL ((x*y%2^64+d)%2^64) c 0
  have r2:=N7 (((x*y%2^64+d)%2^64:Nat):Int) (c:Int) 0 (by decide)
  rw [Nat.add_zero] at q1 r1
  have z0:((0:Nat):Int)=0:=rfl
  rw [z0] at q1 q2 r1 r2
  have hl:((x*y%2^64+d)%2^64+c)%2^64<2^64:=Nat.mod_lt _ (by decide)
  have e5:=UL (x*y/2^64) ((x*y%2^64+d)/2^64) (by omega)
  have e6:=UL (x*y/2^64+(x*y%2^64+d)/2^64) (((x*y%2^64+d)%2^64+c)/2^64) m2
  have e0:decide ((j:Int)<(b.length:Int))=true:=decide_eq_true (by omega)
  have e1:decide ((0:Int)<=(j:Int))=true:=decide_eq_true (by omega)
  have e2:IntKind.wrap .i64 ((i:Int)+(j:Int))=((i+j:Nat):Int):=by rw [As (by omega)]; omega
  have e3:IntKind.wrap .i64 ((j:Int)+1)=((j+1:Nat):Int):=by rw [As (by omega)]; omega
  have e4:decide ((0:Int)<=((i+j:Nat):Int))=true:=decide_eq_true (by omega)
  have e7:decide (((i+j:Nat):Int)<(q.length:Int))=true:=decide_eq_true (by omega)
  dsimp only
  simp only [e0,e1,e2,e3,e4,e7,cond_true,Bool.and_self,AA,Int.toNat_natCast,hgb,hgq,jI p0,jL p0,q1,q2,r1,r2,e5,e6,D0]
  refine hL _ ⟨j+1,q.set (i+j) (((x*y%2^64+d)%2^64+c)%2^64),x*y/2^64+(x*y%2^64+d)/2^64+((x*y%2^64+d)%2^64+c)/2^64,by omega,by rw [List.length_set]; exact hql,aAx hqd hl,m2,?_,?_,rfl⟩ (by simp only [Int.toNat_natCast]; omega)
  ·have h1:=hst (((x*y%2^64+d)%2^64+c)%2^64)
   rw [hnb,show i+(j+1)=i+j+1 by omega,Hu,Nat.mul_add x,Nat.mul_add ((2^64)^i),Nat.mul_left_comm x,← Nat.mul_assoc ((2^64)^i) ((2^64)^j),← Nat.pow_add]
   generalize ((x*y%2^64+d)%2^64+c)%2^64=o at *
   generalize x*y/2^64+(x*y%2^64+d)/2^64+((x*y%2^64+d)%2^64+c)/2^64=c' at *
   generalize x*y=z at *
   have h2:(2^64)^(i+j)*(z+d+c)=(2^64)^(i+j)*(2^64*c'+o):=by rw [m1]
   rw [Nat.mul_add,Nat.mul_add,Nat.mul_add,← Nat.mul_assoc ((2^64)^(i+j)) (2^64)] at h2
   omega
  ·intro k hk
   rw [hgs,if_neg (by omega)]
   exact hqz k hk
 ·have e:j=b.length:=by omega
  subst e
  have e0:decide ((b.length:Int)<(b.length:Int))=false:=decide_eq_false (by omega)
  dsimp only
  simp only [e0,cond_false]
  rw [List.take_length] at hinv
  exact ⟨_,rfl,q,c,hql,hqd,hc,hinv,hqz,rfl⟩
theorem aRs (a b:List Nat) (ha:∀ x∈a,x<2^64) (hb:∀ x∈b,x<2^64) (hna:a.length<=100000) (hnb:b.length<=100000) :
  ∃ p:List Nat,p.length=a.length+b.length/\(∀ z∈p,z<2^64)/\nv (2^64) p=nv (2^64) a*nv (2^64) b /\
   WU ((((a.length:Int),(Wd a,(Wd b,((0:Int),((),()))))),(Wd (List.replicate (a.length+b.length) 0),())):Fw.D)=some (.inl (((),()),(Wd p,()))):=by
 have key:=Lj (xM AP.pre AP.F Ay.pre Ay.F Ag.pre Ag.F PA) (fun s=>a.length-s.1.2.2.2.1.toNat)
  (fun s=>∃ (i:Nat) (p:List Nat),i<=a.length/\p.length=a.length+b.length/\(∀ z∈p,z<2^64)/\nv (2^64) p=nv (2^64) (a.take i)*nv (2^64) b/\(∀ k,i+b.length<=k->p.getD k 0=0) /\
   s=(((a.length:Int),(Wd a,(Wd b,((i:Int),((),()))))),(Wd p,())))
  (fun y=>∃ p:List Nat,p.length=a.length+b.length/\(∀ z∈p,z<2^64)/\nv (2^64) p=nv (2^64) a*nv (2^64) b/\y=.inl (((),()),(Wd p,()))) ?_
  (((a.length:Int),(Wd a,(Wd b,((0:Int),((),()))))),(Wd (List.replicate (a.length+b.length) 0),()))
  ⟨0,List.replicate (a.length+b.length) 0,Nat.zero_le _,by simp,(fun z hz=>by have:=(List.mem_replicate.1 hz).2; omega),by rw [aFt]; simp [nv],(fun k _=>by
   rw [List.getD_eq_getElem?_getD,List.getElem?_replicate]; split <;> rfl),rfl⟩
 ·obtain ⟨y,hy,p,k1,k2,k3,rfl⟩:=key
  exact ⟨p,k1,k2,k3,hy⟩
 intro L s hs hL
 obtain ⟨i,p,hi,hpl,hpd,hinv,hz,rfl⟩:=hs
 unfold Vt
 rcases Nat.lt_or_ge i a.length with hlt | hge
 ·have hx:=Cq (by decide) ha i
  have hna':=Ev (2^64) a i
  have hga:(Wd a).getD i 0=((a.getD i 0:Nat):Int):=Cc a i
  obtain ⟨p',c,k1,k2,k3,k4,k5,k6⟩:=aTZ a b p hb hnb hx (i:=i) (by omega) (by omega) (by omega) hpd hz (a.length:Int)
  have e0:decide ((i:Int)<(a.length:Int))=true:=decide_eq_true (by omega)
  have e1:decide ((0:Int)<=(i:Int))=true:=decide_eq_true (by omega)
  have e2:IntKind.wrap .i64 ((i:Int)+(b.length:Int))=((i+b.length:Nat):Int):=by rw [As (by omega)]; omega
  have e3:IntKind.wrap .i64 ((i:Int)+1)=((i+1:Nat):Int):=by rw [As (by omega)]; omega
  have e4:decide ((0:Int)<=((i+b.length:Nat):Int))=true:=decide_eq_true (by omega)
  have e5:decide (((i+b.length:Nat):Int)<(p'.length:Int))=true:=decide_eq_true (by omega)
  dsimp only
  simp only [e0,e1,cond_true,Bool.and_self,AA,Int.toNat_natCast,hga]
  rw [k6]
  dsimp only [A1,A6]
  simp only [e2,e3,e4,e5,cond_true,Bool.and_self,AA,Int.toNat_natCast,D0]
  refine hL _ ⟨i+1,p'.set (i+b.length) c,by omega,by rw [List.length_set]; omega,aAx k2 k3,?_,?_,rfl⟩ (by simp only [Int.toNat_natCast]; omega)
  ·have h1:=W1 (2^64) p' (i+b.length) c (by omega)
   rw [k5 _ (Nat.le_refl _),Nat.mul_zero,Nat.add_zero] at h1
   rw [h1,k4,hinv,hna',Nat.add_mul,Nat.mul_assoc]
  ·intro k hk
   rw [aCD,if_neg (by omega)]
   exact k5 k (by omega)
 ·have e:i=a.length:=by omega
  subst e
  have e0:decide ((a.length:Int)<(a.length:Int))=false:=decide_eq_false (by omega)
  simp only [e0,cond_false]
  rw [List.take_length] at hinv
  exact ⟨_,rfl,p,hpl,hpd,hinv,rfl⟩
theorem aMZ {a b:Nat} (ha:a<(2^64)^5000) (hb:b<(2^64)^5000):ZS (Dw a,Dw b,())=some (Dw (a*b),()):=by
 show j3 AP.pre AP.F Ay.pre Ay.F Ag.pre Ag.F WU PA (Dw a) (Dw b)=_
 unfold j3
 have pa:=Nn ha
 have pb:=Nn hb
 have hla:(dg (2^64) a).length<=5000:=CZ (by decide) _ _ ha
 have hlb:(dg (2^64) b).length<=5000:=CZ (by decide) _ _ hb
 obtain ⟨p,k1,k2,k3,k4⟩:=aRs (dg (2^64) a) (dg (2^64) b) (F8 (by decide) _) (F8 (by decide) _) (by omega) (by omega)
 rw [Cd,Cd] at k3
 have hLen:∀ x:Nat,(Dw x).length=(dg (2^64) x).length:=fun x=>AA _
 have e0:IntKind.wrap .i64 (((Dw a).length:Int)+((Dw b).length:Int))=(((dg (2^64) a).length+(dg (2^64) b).length:Nat):Int):=by rw [hLen,hLen,As (by omega)]; omega
 have e1:(decide ((0:Int)<=(((dg (2^64) a).length+(dg (2^64) b).length:Nat):Int))&&decide ((((dg (2^64) a).length+(dg (2^64) b).length:Nat):Int)*8<=140737488355328))=true:=by
  rw [decide_eq_true (by omega),decide_eq_true (by omega)]; rfl
 have k4:WU (((((Dw a).length:Int),(Dw a,(Dw b,((0:Int),((),()))))),((List.replicate (Int.toNat (((dg (2^64) a).length+(dg (2^64) b).length:Nat):Int)) (0:Int)),())):Fw.D)=some (.inl (((),()),(Wd p,()))):=by
  rw [Int.toNat_natCast,Sj,hLen]
  exact k4
 have p0:=Eh p (by omega)
 rw [bG k2,k3] at p0
 dsimp only
 simp only [C0 pa,CV pa,C0 pb,CV pb,cond_true,e0,e1]
 rw [k4]
 dsimp only [A1,A6]
 simp only [C0 p0,CV p0,cond_true]
theorem aMd {a b:Nat} (ha:a<(2^64)^1024) (hb:b<(2^64)^1024) (hab:a*b<(2^64)^1024):UY (Dw a,Dw b,())=some (Dw (a*b),0,()):=by
 have up5:∀ {x:Nat},x<(2^64)^1024->x<(2^64)^5000:=fun h=>Nat.lt_of_lt_of_le h (Nat.pow_le_pow_right (by decide) (by decide))
 show cK OC.pre OC.F Eb.pre Eb.F (Dw a) (Dw b)=_
 unfold cK
 have p0:=vY (l:=[dg (2^64) a,dg (2^64) b]) (by
  intro x hx
  rcases List.mem_cons.1 hx with rfl | hx
  ·exact CZ (by decide) _ _ ha
  ·rw [List.mem_singleton] at hx
   rw [hx]
   exact CZ (by decide) _ _ hb) (by simp)
 have p0:Ix ((Dw a::Dw b::[]),())=some (false,()):=p0
 have p2:=vY (l:=[dg (2^64) (a*b)]) (by
  intro x hx
  rw [List.mem_singleton] at hx
  rw [hx]
  exact CZ (by decide) _ _ hab) (by simp)
 have p2:Ix ((Dw (a*b)::[]),())=some (false,()):=p2
 have p1:=aMZ (up5 ha) (up5 hb)
 simp only [WX p0,W5 p0,aH5 p1,aTe p1,WX p2,W5 p2,cond_true,cond_false]
end VL
namespace VL
open Go Vx
theorem aSu (f:Int) (a:Nat):((Ad f a:Int)==0)=AN f a:=by
 cases hz:AN f a
 ·exact AU _ (JW hz)
 ·unfold AN at hz
  rw [Bool.and_eq_true,beq_iff_eq,beq_iff_eq] at hz
  unfold Ad
  rw [if_pos hz.1,hz.2]; rfl
end VL
namespace VL
open Go Vx
def pv (f:Int) (x:Nat):Nat:=Ad f x*2^(Af f x-qm f).toNat
end VL
namespace VL
open Go Vx
def VV (f:Int) (x:Nat):Nat:=Ad f x*2^(Af f x+2600).toNat
end VL
namespace VL
open Go Vx
theorem aBh {f m:Int} {neg:Bool} {N k:Nat} {E:Int} (hf:Fm f) (hn:N/2^k≠0) (hm:N%2^k≠0->fP f+1<=An (N/2^k)):AD f m neg (N/2^k) (E+k) (decide (N%2^k≠0))=AD f m neg N E false:=by
 have ht:=yF (E:=E) hn
 have htd:AE (N/2^k) (E+k)=E+k+(An (N/2^k):Int)-1:=rfl
 have hq1:N%2^k≠0->E+k<Dj f (AE N E):=fun h=>by
  have:=hm h
  unfold Dj
  split <;> omega
 have hq2:N%2^k≠0->E+k<AE N E-fP f+1:=fun h=>by
  have:=hm h
  omega
 have hti:Fe f m neg (N/2^k) (E+k) (decide (N%2^k≠0))=Fe f m neg N E false:=by
  unfold Fe
  rw [ht,bO hq2]
 unfold AD
 simp only [ht,bO hq1,(r6 hq1).2,hti]
theorem aB9 {f m:Int} {neg:Bool} {N k:Nat} {E:Int} (hf:Fm f) (hb:fP f+1<=An (N/2^k)):AD f m neg (N/2^k) E true=AD f m neg (2*N+1) (E-k-1) false:=by
 have hP:=Dr hf
 have e1:(2*N+1)/2^(k+1)=N/2^k:=by
  rw [Nat.pow_succ,Nat.mul_comm (2^k),← Nat.div_div_eq_div_mul,show (2*N+1)/2=N by omega]
 have e2:(2*N+1)%2^(k+1)≠0:=by
  rw [Nat.pow_succ,Nat.mul_comm (2^k),Nat.mod_mul]; omega
 have h0:N/2^k≠0:=fun h=>by
  rw [h] at hb
  have:An 0=0:=rfl
  omega
 have:=aBh (f:=f) (m:=m) (neg:=neg) (N:=2*N+1) (k:=k+1) (E:=E-k-1) hf (by rw [e1]; exact h0) (fun _=>by rw [e1]; exact hb)
 rw [e1,decide_eq_true e2,show E-k-1+((k+1:Nat):Int)=E by omega] at this
 exact this
def LD (f m:Int) (neg:Bool) (R:Nat) (E:Int) (more:Bool):Nat×Nat:=if more=true then AD f m neg (2*R+1) (E-1) false else AD f m neg R E false
theorem aGf {f m:Int} {neg:Bool} (hf:Fm f) {R:Nat} {E:Int} {more:Bool} (hb:more=true->fP f+1<=An R):AD f m neg R E more=LD f m neg R E more:=by
 unfold LD
 cases more
 ·rw [if_neg (by decide)]
 ·have:=aB9 (f:=f) (m:=m) (neg:=neg) (N:=R) (k:=0) (E:=E) hf (by rw [Nat.pow_zero,Nat.div_one]; exact hb rfl)
  rw [Nat.pow_zero,Nat.div_one] at this
  rw [if_pos rfl,this]
  congr 1
  omega
theorem aQW {f m:Int} {neg:Bool} (hf:Fm f) {R k:Nat} {E:Int} {more:Bool} (hb:fP f+1<=An (R/2^k)):LD f m neg (R/2^k) (E+k) (more||decide (R%2^k≠0))=LD f m neg R E more:=by
 have h0:R/2^k≠0:=fun h=>by
  rw [h] at hb
  have:An 0=0:=rfl
  omega
 rw [← aGf hf (fun _=>hb)]
 unfold LD
 cases more
 ·rw [if_neg (by decide),Bool.false_or]
  exact aBh hf h0 fun _=>hb
 ·rw [if_pos rfl,Bool.true_or]
  have:=aB9 (f:=f) (m:=m) (neg:=neg) (N:=R) (k:=k) (E:=E+k) hf hb
  rw [this,show E+(k:Int)-(k:Int)-1=E-1 by omega]
def Gf (f m:Int) (neg:Bool) (n k:Nat) (e:Int):Nat×Nat:=LD f m neg (n*2^300/k) (e-300) (decide (n*2^300%k≠0))
theorem aNb {n k:Nat} (hk:0<k) (t:Nat):(n*2^t/k)/2^t=n/k/\(n%k≠0↔(n*2^t%k≠0∨(n*2^t/k)%2^t≠0)):=by
 have hpp:=Nat.two_pow_pos t
 have h1:(n*2^t/k)/2^t=n/k:=by
  rw [Nat.div_div_eq_div_mul,Nat.mul_comm k,← Nat.div_div_eq_div_mul,Nat.mul_div_cancel _ hpp]
 refine ⟨h1,?_⟩
 have a1:=Nat.div_add_mod (n*2^t) k
 have a2:=Nat.div_add_mod (n*2^t/k) (2^t)
 have a3:=Nat.div_add_mod n k
 rw [h1] at a2
 generalize n*2^t%k=r at *
 generalize hQ:n*2^t/k=Q at *
 generalize Q%2^t=u at *
 generalize n%k=w at *
 generalize n/k=q at *
 have e:k*u+r=w*2^t:=by
  have h2:(k*q+w)*2^t=k*(2^t*q+u)+r:=by rw [a3,a2,a1]
  rw [Nat.add_mul,Nat.mul_add,Nat.mul_right_comm,Nat.mul_assoc k,← Nat.mul_assoc k] at h2
  omega
 constructor
 ·intro hw
  rcases Nat.eq_zero_or_pos r with hr | hr
  ·right
   intro hu
   rw [hu,hr,Nat.mul_zero] at e
   have:=Nat.mul_pos (show 0<w by omega) hpp
   omega
  ·left; omega
 ·intro h hw
  rw [hw,Nat.zero_mul] at e
  rcases h with h | h
  ·omega
  ·have:=Nat.mul_pos hk (show 0<u by omega)
   omega
theorem vS {f m:Int} {neg:Bool} (hf:Fm f) {n k:Nat} (hn:n≠0) (hk:0<k) (e:Int) {s:Nat} (hs:s<=300) (h:n*2^s%k≠0->fP f+1<=An (n*2^s/k)) :
  LD f m neg (n*2^s/k) (e-s) (decide (n*2^s%k≠0))=Gf f m neg n k e:=by
 obtain ⟨t,ht⟩:∃ t,s+t=300:=⟨300-s,by omega⟩
 have e300:n*2^300=n*2^s*2^t:=by rw [Nat.mul_assoc,← Nat.pow_add,ht]
 obtain ⟨q1,q2⟩:=aNb (n:=n*2^s) hk t
 unfold Gf
 rw [e300]
 by_cases hex:n*2^s%k=0
 ·-- exact
  have hq:n*2^s=k*(n*2^s/k):=by have:=Nat.div_add_mod (n*2^s) k; omega
  have hq0:n*2^s/k≠0:=fun h0=>by
   rw [h0,Nat.mul_zero] at hq
   exact Nat.mul_ne_zero hn (Nat.ne_of_gt (Nat.two_pow_pos s)) hq
  have h1:n*2^s*2^t/k=(n*2^s/k)*2^t:=by
   rw [hq,Nat.mul_assoc k,Nat.mul_div_cancel_left _ hk,Nat.mul_div_cancel_left _ hk]
  have h2:n*2^s*2^t%k=0:=by
   rw [hq,Nat.mul_assoc k,Nat.mul_mod_right]
  rw [h1,h2,hex]
  unfold LD
  rw [if_neg (by decide),if_neg (by decide),KZ hf hq0]
  congr 1
  omega
 ·have hb:=h hex
  have:=aQW (f:=f) (m:=m) (neg:=neg) hf (R:=n*2^s*2^t/k) (k:=t) (E:=e-300) (more:=decide (n*2^s*2^t%k≠0)) (by rw [q1]; exact hb)
  rw [← this,q1,show e-300+(t:Int)=e-s by omega]
  congr 1
  rw [Bool.eq_iff_iff,Bool.or_eq_true,decide_eq_true_eq,decide_eq_true_eq,decide_eq_true_eq]
  exact q2
def xK (f m:Int) (a b:Nat):Int×Int×Int×Unit :=
 bif nan f a||nan f b then ((CH f:Int),(bif AJ f a||AJ f b then 1 else 0),0,())
 else bif (Au f a&&Au f b)||(AN f a&&AN f b) then ((CH f:Int),1,0,())
 else bif Au f a then ((F3 f (!(sF f a==sF f b)):Int),0,0,())
 else bif AN f b then ((F3 f (!(sF f a==sF f b)):Int),2,0,())
 else bif Au f b||AN f a then ((Co f (!(sF f a==sF f b)):Int),0,0,())
 else (((Gf f m (!(sF f a==sF f b)) (Ad f a) (Ad f b) (Af f a-Af f b)).1:Int),((Gf f m (!(sF f a==sF f b)) (Ad f a) (Ad f b) (Af f a-Af f b)).2:Int),0,())
def KN (f m:Int) (a b:Nat):Int×Int×Int×Unit :=
 if ¬ Fm f then (0,0,2,())
 else if m<0∨m>5 then (0,0,3,())
 else if Am f a≠0 then (0,0,Am f a,())
 else if Am f b≠0 then (0,0,Am f b,())
 else xK f m a b
end VL
namespace VL
open Go Vx
theorem aPr {f:Int} {a:Nat} (ha:a<2^64):∃ v:Int,S4 (f,(a:Int),())=some (v,Am f a,())/\(Am f a=0->v=(Bx f a:Int)):=by
 by_cases h:Am f a=0
 ·exact ⟨_,by rw [aBP ha h,h],fun _=>rfl⟩
 ·refine ⟨0,?_,fun h2=>absurd h2 h⟩
  show S8 Ar.pre Ar.F Dq.pre Dq.F f (a:Int)=_
  unfold S8
  have p0:=Eq f a ha
  simp only [DC p0,DD p0,cond_true,bne_iff_ne.2 h]
end VL
namespace VL
open Go Vx
def vC (c:Int) (neg:Bool) (X:Nat) (e:Int):Int:=bif neg then -((X*2^(e-c).toNat:Nat):Int) else ((X*2^(e-c).toNat:Nat):Int)
theorem Rm (c:Int) (s:Bool) (e:Int):vC c s 0 e=0:=by
 unfold vC; rw [Nat.zero_mul]; cases s <;> rfl
theorem T5 {c:Int} (hc:-4000<=c/\c<=0) (s:Bool) (n:Nat) {e:Int} (he:c<=e):c<=(od s n e).2.2/\vC c (od s n e).1 (od s n e).2.1 (od s n e).2.2=vC c s n e:=by
 rcases Em s n e with ⟨h,h0⟩ | ⟨h1,h2,h3,h4,h5⟩
 ·rw [h,h0,Rm,Rm]
  exact ⟨hc.2,rfl⟩
 ·refine ⟨by omega,?_⟩
  have e1:(od s n e).2.1*2^((od s n e).2.2-c).toNat=n*2^(e-c).toNat:=by
   rw [h5,show (e+(tz n:Int)-c).toNat=tz n+(e-c).toNat by omega,Nat.pow_add,← Nat.mul_assoc,Nat.mul_comm _ (2^tz n),← h4]
  unfold vC
  rw [e1,h1]
theorem aSp {c:Int} (nx:Bool) (X:Nat) (ex:Int) (ny:Bool) (Y:Nat) (ey:Int) (hx:c<=ex) (hy:c<=ey) :
  c<=(CL nx X ex ny Y ey).2.2/\vC c (CL nx X ex ny Y ey).1 (CL nx X ex ny Y ey).2.1 (CL nx X ex ny Y ey).2.2=vC c nx X ex+vC c ny Y ey:=by
 by_cases h1:X=0
 ·subst h1
  unfold CL
  rw [if_pos rfl,Rm,Int.zero_add]
  exact ⟨hy,rfl⟩
 by_cases h2:Y=0
 ·subst h2
  unfold CL
  rw [if_neg h1,if_pos rfl,Rm,Int.add_zero]
  exact ⟨hx,rfl⟩
 obtain ⟨e,he⟩:∃ e,(if ey<ex then ey else ex)=e:=⟨_,rfl⟩
 have he2:e<=ex/\e<=ey/\c<=e:=by rw [← he]; split <;> omega
 obtain ⟨a,ha⟩:∃ a,X*2^(ex-e).toNat=a:=⟨_,rfl⟩
 obtain ⟨b,hb⟩:∃ b,Y*2^(ey-e).toNat=b:=⟨_,rfl⟩
 have hD:CL nx X ex ny Y ey=if nx=ny then (nx,a+b,e) else if b<=a then (nx,a-b,e) else (ny,b-a,e):=by
  unfold CL
  rw [if_neg h1,if_neg h2]
  simp only [he,ha,hb]
 have hA:X*2^(ex-c).toNat=a*2^(e-c).toNat:=by
  rw [← ha,Nat.mul_assoc,← Nat.pow_add]; congr 2; omega
 have hB:Y*2^(ey-c).toNat=b*2^(e-c).toNat:=by
  rw [← hb,Nat.mul_assoc,← Nat.pow_add]; congr 2; omega
 have hsum:=Nat.add_mul a b (2^(e-c).toNat)
 have hd1:=Nat.sub_mul a b (2^(e-c).toNat)
 have hd2:=Nat.sub_mul b a (2^(e-c).toNat)
 rw [hD]
 unfold vC
 rw [hA,hB]
 by_cases hn:nx=ny
 ·subst hn
  rw [if_pos rfl]
  refine ⟨he2.2.2,?_⟩
  dsimp only
  rw [hsum]
  cases nx <;> simp only [cond_true,cond_false] <;> omega
 ·have hny:ny=!nx:=by cases nx <;> cases ny <;> first | rfl | exact absurd rfl hn
  subst hny
  rw [if_neg hn]
  by_cases hle:b<=a
  ·have:=Nat.mul_le_mul_right (2^(e-c).toNat) hle
   rw [if_pos hle]
   refine ⟨he2.2.2,?_⟩
   dsimp only
   rw [hd1]
   cases nx <;> simp only [cond_true,cond_false,Bool.not_true,Bool.not_false] <;> omega
  ·have:=Nat.mul_le_mul_right (2^(e-c).toNat) (show a<=b by omega)
   rw [if_neg hle]
   refine ⟨he2.2.2,?_⟩
   dsimp only
   rw [hd2]
   cases nx <;> simp only [cond_true,cond_false,Bool.not_true,Bool.not_false] <;> omega
def cC (c:Int) (S:Int):iI:=Ce (od (decide (S<0)) S.natAbs (c))
theorem tO {c:Int} (s:Bool) (n:Nat) {e:Int} (he:c<=e):Ce (od s n e)=cC c (vC c s n e):=by
 unfold cC
 congr 1
 by_cases h0:n=0
 ·subst h0
  rw [Rm]; rfl
 ·have hp:=Nat.two_pow_pos (e-c).toNat
  have hpos:0<n*2^(e-c).toNat:=Nat.mul_pos (by omega) hp
  have hs:decide (vC c s n e<0)=s:=by
   unfold vC
   generalize n*2^(e-c).toNat=N at *
   cases s <;> simp only [cond_true,cond_false]
   ·exact decide_eq_false (by omega)
   ·exact decide_eq_true (by omega)
  have hn:(vC c s n e).natAbs=n*2^(e-c).toNat:=by
   unfold vC
   cases s
   ·exact Int.natAbs_natCast _
   ·exact (Int.natAbs_neg _).trans (Int.natAbs_natCast _)
  rw [hs,hn]
  unfold od
  rw [if_neg h0,if_neg (by omega),aDD h0]
  have hd:n*2^(e-c).toNat/2^(tz n+(e-c).toNat)=n/2^tz n:=by
   rw [Nat.pow_add,Nat.mul_div_mul_right _ _ hp]
  rw [hd]
  congr 2
  omega
def Bc (c:Int) (n:Nat) (e:Int):Prop:=c<=e/\e<=6000/\n*2^(e-c).toNat<2^5000
theorem Bc.lt {c:Int} {n:Nat} {e:Int} (h:Bc c n e):n<2^5000:=by
 have:=Nat.le_mul_of_pos_right n (Nat.two_pow_pos (e-c).toNat)
 exact Nat.lt_of_le_of_lt this h.2.2
theorem Bc.od {c:Int} (hc:-4000<=c/\c<=0) {n:Nat} {e:Int} (s:Bool) (h:Bc c n e):Bc c (VL.od s n e).2.1 (VL.od s n e).2.2:=by
 rcases Em s n e with ⟨hz,_⟩ | ⟨_,h2,h3,h4,h5⟩
 ·rw [hz]
  exact ⟨hc.2,by dsimp only; omega,by dsimp only; rw [Nat.zero_mul]; exact Nat.two_pow_pos _⟩
 ·have hle:2^(tz n+(e-c).toNat)<=n*2^(e-c).toNat:=by
   rw [Nat.pow_add]
   refine Nat.mul_le_mul_right _ ?_
   have:=Nat.le_mul_of_pos_right (2^tz n) (show 0<(VL.od s n e).2.1 by omega)
   omega
  have hlt:=(Nat.pow_lt_pow_iff_right (a:=2) (by decide)).1 (Nat.lt_of_le_of_lt hle h.2.2)
  have hq:=hc.2
  have h1:=h.1
  refine ⟨by omega,by omega,?_⟩
  have e1:(VL.od s n e).2.1*2^((VL.od s n e).2.2-c).toNat=n*2^(e-c).toNat:=by
   rw [h5,show (e+(tz n:Int)-c).toNat=tz n+(e-c).toNat by omega,Nat.pow_add,← Nat.mul_assoc,Nat.mul_comm _ (2^tz n),← h4]
  rw [e1]; exact h.2.2
theorem aNE {c:Int} (hc:-4000<=c/\c<=0) (s:Bool) (X:Nat) (ex:Int) (s':Bool) (Y:Nat) (ey:Int) (hX:Bc c X ex) (hY:Bc c Y ey) :
  Up (dy s X ex,dy s' Y ey,())=some (Dw (X*2^(ex-(if ey<ex then ey else ex)).toNat),Dw (Y*2^(ey-(if ey<ex then ey else ex)).toNat),(if ey<ex then ey else ex),()):=by
 show iS Qf.pre Qf.F (s,Dw X,ex,()) (s',Dw Y,ey,())=_
 unfold iS
 have hq:=hc.1
 have x1:=hX.1
 have x2:=hX.2.1
 have y1:=hY.1
 have y2:=hY.2.1
 have he:(if ey<ex then ey else ex)<=ex/\(if ey<ex then ey else ex)<=ey/\c<=(if ey<ex then ey else ex):=by split <;> omega
 dsimp only
 generalize (if ey<ex then ey else ex)=e at *
 obtain ⟨d1,hd1⟩:=Int.eq_ofNat_of_zero_le (show 0<=ex-e by omega)
 obtain ⟨d2,hd2⟩:=Int.eq_ofNat_of_zero_le (show 0<=ey-e by omega)
 have p1:=zT (K9 (LF hX.lt (by decide))) d1 (by omega)
 have p2:=zT (K9 (LF hY.lt (by decide))) d2 (by omega)
 have e1:IntKind.wrap .i64 (d1:Int)=(d1:Int):=As (by omega)
 have e2:IntKind.wrap .i64 (d2:Int)=(d2:Int):=As (by omega)
 simp only [hd1,hd2,e1,e2,aAF p1,aFI p1,aAF p2,aFI p2,cond_true,Int.toNat_natCast]
theorem Bc.sft {c:Int} {X:Nat} {ex e:Int} (h:Bc c X ex) (h1:e<=ex) (h2:c<=e):X*2^(ex-e).toNat<2^5000:=by
 have e1:X*2^(ex-c).toNat=X*2^(ex-e).toNat*2^(e-c).toNat:=by
  rw [Nat.mul_assoc,← Nat.pow_add]; congr 2; omega
 have:=Nat.le_mul_of_pos_right (X*2^(ex-e).toNat) (Nat.two_pow_pos (e-c).toNat)
 rw [← e1] at this
 exact Nat.lt_of_le_of_lt this h.2.2
theorem aIv {c:Int} (hc:-4000<=c/\c<=0) (nx:Bool) (X:Nat) (ex:Int) (ny:Bool) (Y:Nat) (ey:Int) (hX:Bc c X ex) (hY:Bc c Y ey) :
  ∃ s n e,S6 (dy nx X ex,dy ny Y ey,())=some (dy s n e,())/\c<=e/\e<=12000/\n<2^5001/\vC c s n e=vC c nx X ex+vC c ny Y ey:=by
 have hq:=hc.1
 have hq2:=hc.2
 have x1:=hX.1
 have x2:=hX.2.1
 have y1:=hY.1
 have y2:=hY.2.1
 have big:(2:Nat)^5000+2^5000=2^5001:=aHZ 5000
 have sv:=aSp (c:=c) nx X ex ny Y ey x1 y1
 by_cases h1:X=0
 ·refine ⟨ny,Y,ey,?_,y1,by omega,by have:=hY.lt; omega,by rw [h1,Rm,Int.zero_add]⟩
  show Ol GX.pre GX.F CG.pre CG.F Bm.pre Bm.F CY.pre CY.F CN.pre CN.F (nx,Dw X,ex,()) (ny,Dw Y,ey,())=_
  unfold Ol
  rw [h1,DB]; rfl
 have l1:(((Dw X).length:Int)==0)=false:=AU _ (by have:=Jl h1; omega)
 by_cases h2:Y=0
 ·refine ⟨nx,X,ex,?_,x1,by omega,by have:=hX.lt; omega,by rw [h2,Rm,Int.add_zero]⟩
  show Ol GX.pre GX.F CG.pre CG.F Bm.pre Bm.F CY.pre CY.F CN.pre CN.F (nx,Dw X,ex,()) (ny,Dw Y,ey,())=_
  unfold Ol
  dsimp only
  rw [l1,cond_false,h2,DB]; rfl
 have l2:(((Dw Y).length:Int)==0)=false:=AU _ (by have:=Jl h2; omega)
 have p0:=aNE hc nx X ex ny Y ey hX hY
 have p0:Up ((nx,Dw X,ex,()),(ny,Dw Y,ey,()),())=_:=p0
 obtain ⟨e,he⟩:∃ e,(if ey<ex then ey else ex)=e:=⟨_,rfl⟩
 have he2:e<=ex/\e<=ey/\c<=e:=by rw [← he]; split <;> omega
 obtain ⟨a,haa⟩:∃ a,X*2^(ex-e).toNat=a:=⟨_,rfl⟩
 obtain ⟨b,hbb⟩:∃ b,Y*2^(ey-e).toNat=b:=⟨_,rfl⟩
 have k1:=hX.sft he2.1 he2.2.2
 have k2:=hY.sft he2.2.1 he2.2.2
 rw [he,haa,hbb] at p0
 rw [haa] at k1
 rw [hbb] at k2
 have hD:CL nx X ex ny Y ey=if nx=ny then (nx,a+b,e) else if b<=a then (nx,a-b,e) else (ny,b-a,e):=by
  unfold CL
  rw [if_neg h1,if_neg h2]
  simp only [he,haa,hbb]
 have hDn:(CL nx X ex ny Y ey).2.1<2^5001/\(CL nx X ex ny Y ey).2.2=e:=by
  rw [hD]
  split
  ·exact ⟨by dsimp only; omega,rfl⟩
  ·split
   ·exact ⟨by dsimp only; omega,rfl⟩
   ·exact ⟨by dsimp only; omega,rfl⟩
 have key:S6 (dy nx X ex,dy ny Y ey,())=some (Ce (od (CL nx X ex ny Y ey).1 (CL nx X ex ny Y ey).2.1 (CL nx X ex ny Y ey).2.2),()):=by
  show Ol GX.pre GX.F CG.pre CG.F Bm.pre Bm.F CY.pre CY.F CN.pre CN.F (nx,Dw X,ex,()) (ny,Dw Y,ey,())=_
  unfold Ol
  dsimp only
  rw [l1,cond_false,l2,cond_false,hD]
  have b1:=K9 (LF k1 (by decide))
  have b2:=K9 (LF k2 (by decide))
  have k3:a+b<2^5001:=by omega
  have b3:=K9 (LF k3 (by decide))
  simp only [aQV p0,aJv p0,cond_true]
  by_cases hn:nx=ny
  ·subst hn
   have:(nx==nx)=true:=by cases nx <;> rfl
   rw [this,cond_true,if_pos rfl]
   have p1:=eW b1 b2
   have p2:=YI nx b3 e (by omega)
   rw [Xn] at p2
   have p2:E5 ((nx,Dw (a+b),e,()),())=_:=p2
   simp only [JA p1,Io p1,Nv p2,NY p2,cond_true]
  ·have:(nx==ny)=false:=by cases nx <;> cases ny <;> first | rfl | exact absurd rfl hn
   rw [this,cond_false,if_neg hn]
   have p1:=aI b1 b2
   by_cases hle:b<=a
   ·have p2:=n4 b1 hle
    have p3:=YI nx (n:=a-b) (by omega) e (by omega)
    rw [Xn] at p3
    have p3:E5 ((nx,Dw (a-b),e,()),())=_:=p3
    have z:decide ((if a=b then (0:Int) else if a<b then -1 else 1)<0)=false:=by
     by_cases hab:a=b
     ·rw [if_pos hab]; rfl
     ·rw [if_neg hab,if_neg (by omega)]; rfl
    simp only [Zf p1,Wn p1,cond_true,z,cond_false,wG p2,vM p2,Nv p3,NY p3,if_pos hle]
   ·have p2:=n4 b2 (y:=a) (by omega)
    have p3:=YI ny (n:=b-a) (by omega) e (by omega)
    rw [Xn] at p3
    have p3:E5 ((ny,Dw (b-a),e,()),())=_:=p3
    have z:decide ((if a=b then (0:Int) else if a<b then -1 else 1)<0)=true:=by
     rw [if_neg (by omega),if_pos (by omega)]; rfl
    simp only [Zf p1,Wn p1,cond_true,z,wG p2,vM p2,Nv p3,NY p3,if_neg hle]
 have ov:=T5 hc (CL nx X ex ny Y ey).1 (CL nx X ex ny Y ey).2.1 sv.1
 refine ⟨_,_,_,key,ov.1,?_,?_,ov.2.trans sv.2⟩
 ·rcases Em (CL nx X ex ny Y ey).1 (CL nx X ex ny Y ey).2.1 (CL nx X ex ny Y ey).2.2 with ⟨hz,_⟩ | ⟨_,q2,q3,q4,q5⟩
  ·rw [hz]; dsimp only; omega
  ·have:=TW hDn.1 q3
   have:=hDn.2
   omega
 ·rcases Em (CL nx X ex ny Y ey).1 (CL nx X ex ny Y ey).2.1 (CL nx X ex ny Y ey).2.2 with ⟨hz,_⟩ | ⟨_,q2,q3,q4,q5⟩
  ·rw [hz]; exact Nat.two_pow_pos _
  ·have hle:=Nat.le_mul_of_pos_left (od (CL nx X ex ny Y ey).1 (CL nx X ex ny Y ey).2.1 (CL nx X ex ny Y ey).2.2).2.1 (Nat.two_pow_pos (tz (CL nx X ex ny Y ey).2.1))
   have:=hDn.1
   omega
theorem aGw {c:Int} (hc:-4000<=c/\c<=0) (s:Bool) {n:Nat} {e:Int} (h:Bc c n e):H9 (dy s n e,())=some (0,()):=by
 have:=hc.1
 have h1:=h.1
 have h2:=h.2.1
 exact eI s h.lt (by decide) e (by omega)
theorem aNl {c:Int} (hc:-4000<=c/\c<=0) (s:Bool) {n:Nat} {e:Int} (s':Bool) {n':Nat} {e':Int} (h:Bc c n e) (h':Bc c n' e'):PR (dy s n e,dy s' n' e',())=some (0,()):=by
 have q1:=aGw hc s h
 have q2:=aGw hc s' h'
 show Vg E8.pre E8.F (dy s n e) (dy s' n' e')=_
 unfold Vg
 have q1:H9 (((dy s n e).1,(dy s n e).2),())=some (0,()):=q1
 have q2:H9 (((dy s' n' e').1,(dy s' n' e').2),())=some (0,()):=q2
 simp only [WM q1,Yo q1,WM q2,Yo q2,cond_true,bne_self_eq_false,cond_false]
theorem Z3 {c:Int} (hc:-4000<=c/\c<=0) (s:Bool) {n:Nat} {e:Int} (h:Bc c n e):E5 (dy s n e,())=some (Ce (od s n e),()):=by
 have:=hc.1
 have h1:=h.1
 have h2:=h.2.1
 have p:=YI s (K9 (LF h.lt (by decide))) e (by omega)
 rwa [Xn] at p
theorem aNC {c:Int} (hc:-4000<=c/\c<=0) (s:Bool) {n:Nat} {e:Int} (h1:c<=e) (h2:e<=12000) (hn:n<2^5001):PI (dy s n e,())=some (cC c (vC c s n e),0,()):=by
 have:=hc.1
 have big:(2:Nat)^5001<=2^6000:=Nat.pow_le_pow_right (by decide) (by decide)
 have p:=pC s (Nat.lt_of_lt_of_le hn big) e (by omega)
 rwa [tO s n h1] at p
theorem aS2 {c:Int} (hc:-4000<=c/\c<=0) (s1:Bool) {n1:Nat} {e1:Int} (s2:Bool) {n2:Nat} {e2:Int} (h1:Bc c n1 e1) (h2:Bc c n2 e2) :
  VF (dy s1 n1 e1,dy s2 n2 e2,())=some (cC c (vC c s1 n1 e1+vC c s2 n2 e2),0,()):=by
 show dU F2.pre F2.F CN.pre CN.F O0.pre O0.F D4.pre D4.F (dy s1 n1 e1) (dy s2 n2 e2)=_
 unfold dU
 have p99:=aNl hc s1 s2 h1 h2
 have i1:=Z3 hc s1 h1
 have i2:=Z3 hc s2 h2
 have v1:=T5 hc s1 n1 h1.1
 have v2:=T5 hc s2 n2 h2.1
 obtain ⟨s,n,e,p101,g1,g2,g3,g4⟩:=aIv hc (od s1 n1 e1).1 (od s1 n1 e1).2.1 (od s1 n1 e1).2.2 (od s2 n2 e2).1 (od s2 n2 e2).2.1 (od s2 n2 e2).2.2 (h1.od hc s1) (h2.od hc s2)
 rw [v1.2,v2.2] at g4
 have p104:=aNC hc s g1 g2 g3
 rw [g4] at p104
 have p99:PR (((dy s1 n1 e1).1,(dy s1 n1 e1).2),((dy s2 n2 e2).1,(dy s2 n2 e2).2),())=some (0,()):=p99
 have i1:E5 (((dy s1 n1 e1).1,(dy s1 n1 e1).2),())=some (Ce (od s1 n1 e1),()):=i1
 have i2:E5 (((dy s2 n2 e2).1,(dy s2 n2 e2).2),())=some (Ce (od s2 n2 e2),()):=i2
 have p101:S6 (Ce (od s1 n1 e1),Ce (od s2 n2 e2),())=some (dy s n e,()):=p101
 simp only [zG p99,aHj p99,Nv i1,NY i1,Nv i2,NY i2,aTK p101,aKM p101,pS p104,pM p104,cond_true,bne_self_eq_false,cond_false]
theorem aJj {c:Int} (s:Bool) (n:Nat) (e:Int):(if n=0 then (0:Int) else if s=true then -1 else 1)=(if vC c s n e=0 then 0 else if vC c s n e<0 then -1 else 1):=by
 by_cases h:n=0
 ·subst h
  rw [Rm,if_pos rfl,if_pos rfl]
 ·have hpos:=Nat.mul_pos (show 0<n by omega) (Nat.two_pow_pos (e-c).toNat)
  rw [if_neg h]
  unfold vC
  generalize n*2^(e-c).toNat=N at *
  cases s <;> simp only [cond_true,cond_false]
  ·rw [if_neg (by simp),if_neg (by omega),if_neg (by omega)]
  ·rw [if_pos trivial,if_neg (by omega),if_pos (by omega)]
theorem sY {c:Int} (hc:-4000<=c/\c<=0) {S:Int} (h:S.natAbs<2^5000):∃ s n e,cC c S=dy s n e/\Bc c n e/\vC c s n e=S:=by
 have hb:Bc c S.natAbs (c):=⟨Int.le_refl _,by have:=hc.2; omega,by rw [Int.sub_self]; simpa using h⟩
 refine ⟨_,_,_,rfl,hb.od hc _,?_⟩
 rw [(T5 hc (decide (S<0)) S.natAbs (Int.le_refl (c))).2]
 unfold vC
 rw [Int.sub_self]
 by_cases hS:S<0
 ·rw [decide_eq_true hS]; simp; omega
 ·rw [decide_eq_false hS]; simp; omega
theorem aPm {c:Int} (hc:-4000<=c/\c<=0) {S T:Int} (h1:S.natAbs<2^5000) (h2:T.natAbs<2^5000):VF (cC c S,cC c T,())=some (cC c (S+T),0,()):=by
 obtain ⟨s,n,e,a1,a2,a3⟩:=sY hc h1
 obtain ⟨s',n',e',b1,b2,b3⟩:=sY hc h2
 rw [a1,b1,aS2 hc s s' a2 b2,a3,b3]
end VL
namespace VL
open Go Vx
theorem aUI {c c':Int} (h:c'<=c) (S:Int):cC c S=cC c' (S*(2^(c-c').toNat:Nat)):=by
 have h1:=tO (c:=c') (decide (S<0)) S.natAbs h
 have h2:vC c' (decide (S<0)) S.natAbs c=S*(2^(c-c').toNat:Nat):=by
  unfold vC
  rw [Int.natCast_mul]
  by_cases hS:S<0
  ·rw [decide_eq_true hS,cond_true,show ((S.natAbs:Nat):Int)=-S by omega,Int.neg_mul,Int.neg_neg]
  ·rw [decide_eq_false hS,cond_false,show ((S.natAbs:Nat):Int)=S by omega]
 rw [← h2,← h1]
 rfl
theorem aPj {c c':Int} (hc:-4000<=c/\c<=0) (hc':-4000<=c'/\c'<=0) (hcc:-4000<=c+c') {S T:Int} (hS:S.natAbs<2^5000) (hT:T.natAbs<2^5000) (hST:(S*T).natAbs<2^5000) :
  Uy (cC c S,cC c' T,())=some (cC (c+c') (S*T),0,()):=by
 have b1:Bc c S.natAbs c:=⟨Int.le_refl _,by omega,by rw [Int.sub_self]; simpa using hS⟩
 have b2:Bc c' T.natAbs c':=⟨Int.le_refl _,by omega,by rw [Int.sub_self]; simpa using hT⟩
 have B1:=b1.od hc (decide (S<0))
 have B2:=b2.od hc' (decide (T<0))
 have v1:=(T5 hc (decide (S<0)) S.natAbs (Int.le_refl c)).2
 have v2:=(T5 hc' (decide (T<0)) T.natAbs (Int.le_refl c')).2
 have w1:vC c (decide (S<0)) S.natAbs c=S:=by
  unfold vC
  rw [Int.sub_self]
  by_cases hS:S<0
  ·rw [decide_eq_true hS]; simp; omega
  ·rw [decide_eq_false hS]; simp; omega
 have w2:vC c' (decide (T<0)) T.natAbs c'=T:=by
  unfold vC
  rw [Int.sub_self]
  by_cases hS:T<0
  ·rw [decide_eq_true hS]; simp; omega
  ·rw [decide_eq_false hS]; simp; omega
 have i1:=aBC (decide (S<0)) S.natAbs c
 have i2:=aBC (decide (T<0)) T.natAbs c'
 unfold cC
 generalize hd1:od (decide (S<0)) S.natAbs c=D1 at *
 generalize hd2:od (decide (T<0)) T.natAbs c'=D2 at *
 obtain ⟨s1,n1,e1⟩:=D1
 obtain ⟨s2,n2,e2⟩:=D2
 dsimp only at B1 B2 v1 v2 i1 i2
 have key:((n1*n2*2^(e1+e2-(c+c')).toNat:Nat):Int)=((n1*2^(e1-c).toNat:Nat):Int)*((n2*2^(e2-c').toNat:Nat):Int):=by
  rw [← Int.natCast_mul]
  congr 1
  have h1:=B1.1
  have h2:=B2.1
  rw [show (e1+e2-(c+c')).toNat=(e1-c).toNat+(e2-c').toNat by omega,Nat.pow_add,Nat.mul_assoc n1 n2,Nat.mul_left_comm n2,← Nat.mul_assoc,← Nat.mul_assoc]
 have hv:vC (c+c') (!(s1==s2)) (n1*n2) (e1+e2)=S*T:=by
  rw [← w1,← w2,← v1,← v2]
  unfold vC
  rw [key]
  generalize ((n1*2^(e1-c).toNat:Nat):Int)=x
  generalize ((n2*2^(e2-c').toNat:Nat):Int)=y
  cases s1 <;> cases s2 <;> simp [Int.mul_neg,Int.neg_mul]
 have hnn:n1*n2<2^5000:=by
  have h3:(S*T).natAbs=n1*n2*2^(e1+e2-(c+c')).toNat:=by
   rw [← hv]
   unfold vC
   cases (!(s1==s2))
   ·rw [cond_false]; omega
   ·rw [cond_true]; omega
  have:=Nat.le_mul_of_pos_right (n1*n2) (Nat.two_pow_pos (e1+e2-(c+c')).toNat)
  omega
 have l1:=B1.lt
 have l2:=B2.lt
 have up:∀ {x:Nat},x<2^5000->x<(2^64)^1024:=fun h=>by
  rw [SP]
  exact Nat.lt_of_lt_of_le h (Nat.pow_le_pow_right (by decide) (by decide))
 have big:(2:Nat)^5000<=2^6000:=Nat.pow_le_pow_right (by decide) (by decide)
 have x1:=B1.1
 have x2:=B1.2.1
 have x3:=B2.1
 have x4:=B2.2.1
 have q1:=eI s1 l1 (by decide) e1 (by omega)
 have q2:=eI s2 l2 (by decide) e2 (by omega)
 have q3:=Z3 hc s1 B1
 have q4:=Z3 hc' s2 B2
 have q5:=aMd (up l1) (up l2) (up hnn)
 have q6:=pC (!(s1==s2)) (n:=n1*n2) (Nat.lt_of_lt_of_le hnn big) (e1+e2) (by omega)
 rw [i1] at q3
 rw [i2] at q4
 have q99:PR (dy s1 n1 e1,dy s2 n2 e2,())=some (0,()):=by
  show Vg E8.pre E8.F (dy s1 n1 e1) (dy s2 n2 e2)=_
  unfold Vg
  have q1:H9 (((dy s1 n1 e1).1,(dy s1 n1 e1).2),())=some (0,()):=q1
  have q2:H9 (((dy s2 n2 e2).1,(dy s2 n2 e2).2),())=some (0,()):=q2
  simp only [WM q1,Yo q1,WM q2,Yo q2,cond_true,bne_self_eq_false,cond_false]
 have hw:IntKind.wrap .i64 (e1+e2)=e1+e2:=As (by omega)
 have hcan:=tO (c:=c+c') (!(s1==s2)) (n1*n2) (e:=e1+e2) (by omega)
 rw [hv] at hcan
 show Uy (dy s1 n1 e1,dy s2 n2 e2,())=some (cC (c+c') (S*T),0,())
 rw [← hcan]
 show i5 F2.pre F2.F CN.pre CN.F QI.pre QI.F D4.pre D4.F (dy s1 n1 e1) (dy s2 n2 e2)=_
 unfold i5
 have q99:PR (((dy s1 n1 e1).1,(dy s1 n1 e1).2),((dy s2 n2 e2).1,(dy s2 n2 e2).2),())=some (0,()):=q99
 have q3:E5 (((dy s1 n1 e1).1,(dy s1 n1 e1).2),())=some (dy s1 n1 e1,()):=q3
 have q4:E5 (((dy s2 n2 e2).1,(dy s2 n2 e2).2),())=some (dy s2 n2 e2,()):=q4
 have q5:UY ((dy s1 n1 e1).2.1,(dy s2 n2 e2).2.1,())=some (Dw (n1*n2),0,()):=q5
 have hw':IntKind.wrap .i64 ((dy s1 n1 e1).2.2.1+(dy s2 n2 e2).2.2.1)=e1+e2:=hw
 have q6:PI ((!((dy s1 n1 e1).1==(dy s2 n2 e2).1),(Dw (n1*n2),(e1+e2,()))),())=some (Ce (od (!(s1==s2)) (n1*n2) (e1+e2)),0,()):=q6
 dsimp only
 simp only [zG q99,aHj q99,cond_true,bne_self_eq_false,cond_false,Nv q3,NY q3,Nv q4,NY q4,aMH q5,aPx q5,hw',pS q6,pM q6]
theorem aIV {f:Int} {a:Nat} (h:Am f a=0) (hfin:eF f a≠BF f):SD (f,(a:Int),())=some (cd f (vA f a),0,()):=by
 have h1:=SX h hfin
 rw [aUH _ _ (aI5 f a)] at h1
 exact h1
structure Beside (f:Int) (R d:Nat) (more:Bool) (B:Nat) (inex:Bool) (r:Int->Nat×Nat):Prop where
 BR:B+1<FW f
 pos:B≠0
 low:pv f B*2^d<=R
 high:R<pv f (B+1)*2^d
 ex:inex=(more||decide (pv f B*2^d≠R))
 any:∀ m,0<=m/\m<=5->((r m).1=B∨(inex=true/\(r m).1=B+1))/\(r m).2=(bif inex then 16 else 0)
 down:(r 4).1=B
 up:(r 3).1=B+(bif inex then 1 else 0)
end VL
namespace VL
open Go Vx
theorem aJ5 {f:Int} (hf:Fm f) (l:List Nat) (hl:∀ a∈l,a<2^64) (hlen:l.length<1000) :
  jC (((l.length:Int),(Wd l,(f,((0:Int),())))),())=some (bif CE f l then .inl ((),()) else .inr (((4:Int),()),())):=by
 have key:=Do (aBB Aq.pre Aq.F Ar.pre Ar.F) (fun x=>l.length-x.1.2.2.2.1.toNat)
  (fun x=>∃ i:Nat,i<=l.length/\CE f (l.take i)=true/\x=(((l.length:Int),(Wd l,(f,((i:Int),())))),()))
  (fun _=>bif CE f l then .inl ((),()) else .inr (((4:Int),()),())) ?_ _ ⟨0,Nat.zero_le _,rfl,rfl⟩
 ·exact key
 intro L x hx hL
 obtain ⟨i,hi,hok,rfl⟩:=hx
 unfold Uo
 rcases Nat.lt_or_ge i l.length with hlt | hge
 ·have hg:l.getD i 0=l[i]:=by simp [List.getD_eq_getElem?_getD,hlt]
  have hmem:l[i]∈l:=List.getElem_mem hlt
  have ha:=hl _ hmem
  have p0:=Eq f l[i] ha
  have e0:decide ((i:Int)<(l.length:Int))=true:=decide_eq_true (by omega)
  have e1:(decide ((0:Int)<=(i:Int))&&decide ((i:Int)<((Wd l).length:Int)))=true:=by rw [AA,decide_eq_true (by omega),decide_eq_true (by omega)]; rfl
  have e2:(Wd l).getD (Int.toNat (i:Int)) 0=((l[i]:Nat):Int):=by rw [Int.toNat_natCast,Cc,hg]
  have e3:IntKind.wrap .i64 ((i:Int)+1)=((i+1:Nat):Int):=by rw [As (by omega)]; omega
  have htk:l.take (i+1)=l.take i++[l[i]]:=by rw [List.take_succ_eq_append_getElem hlt]
  dsimp only
  simp only [e0,e1,e2,e3,cond_true,DC p0,DD p0]
  by_cases hc:Am f l[i]=0
  ·rw [hc,bne_self_eq_false,cond_false]
   refine hL _ ⟨i+1,by omega,?_,rfl⟩ (by simp only [Int.toNat_natCast]; omega)
   unfold CE at hok ⊢
   rw [htk,List.all_append,hok,List.all_cons,hc]; rfl
  ·have h4:Am f l[i]=4:=(TB hf _).resolve_left hc
   have hno:CE f l=false:=by
    unfold CE
    rw [List.all_eq_false]
    exact ⟨l[i],hmem,by rw [h4]; decide⟩
   rw [h4,hno]; rfl
 ·have e:i=l.length:=by omega
  subst e
  rw [List.take_length] at hok
  have e0:decide ((l.length:Int)<(l.length:Int))=false:=decide_eq_false (by omega)
  simp only [e0,cond_false]
  rw [hok]; rfl
theorem aHu (f m:Int) (l:List Nat) (hl:∀ a∈l,a<2^64) (hlen:l.length<1000):Vs (f,m,Wd l,())=some (AR f m l,()):=by
 show lT Aq.pre Aq.F Ar.pre Ar.F jC f m (Wd l)=_
 unfold lT AR
 by_cases hf:Fm f
 ·have p0:=Fd hf
  rw [if_neg (show ¬ ¬ Fm f from fun h=>h hf)]
  simp only [Dh p0,C8 p0,cond_true,bne_self_eq_false,cond_false]
  by_cases hm:m<0∨m>5
  ·rw [if_pos hm]
   have:(decide (m<0)||decide (m>5))=true:=by rcases hm with h | h <;> simp [h]
   rw [this,cond_true]
  ·rw [if_neg hm]
   have:(decide (m<0)||decide (m>5))=false:=by
    rw [decide_eq_false (by omega),decide_eq_false (by omega)]; rfl
   rw [this,cond_false,AA,aJ5 hf l hl hlen]
   cases CE f l <;> rfl
 ·have p0:=GO hf
  rw [if_pos hf]
  simp only [Dh p0,C8 p0,cond_true]
  rfl
theorem aDN {f:Int} {a:Nat} (h:Am f a=0):Xt (f,(a:Int),())=some ((nan f a,AJ f a,Au f a,AN f a,sF f a,()),()):=by
 show aV AF.pre AF.F Bo.pre Bo.F f a=_
 unfold aV
 obtain ⟨hf,_⟩:=CR h
 have p0:=F7 (KK h) h
 have p1:=SJ h
 simp only [Du p0,DA p0,Sn p1,R8 p1,cond_true]
 rw [GW,E9,Bool.or_comm (Av f a==9),Uk,Bool.or_comm (Av f a==6),X7 hf]
theorem xT {f:Int} (hf:Fm f) (x:Int):Zz (f,x,())=some ((CH f:Int),x,0,()):=by
 show fS AB.pre AB.F f x=_
 unfold fS
 have p0:=Ew hf
 simp only [FE p0,Fo p0,cond_true]
theorem aKk (N:Nat) {k:Nat} (hk:0<k):(k<=2*(N%k)->2*N/k=2*(N/k)+1/\2*N%k=2*(N%k)-k)/\(2*(N%k)<k->2*N/k=2*(N/k)/\2*N%k=2*(N%k)):=by
 have h1:=Nat.div_add_mod N k
 have h2:=Nat.mod_lt N hk
 generalize N/k=q at *
 generalize N%k=r at *
 constructor
 ·intro h
  have e:2*N=k*(2*q+1)+(2*r-k):=by
   rw [Nat.mul_add,Nat.mul_one,Nat.mul_left_comm k 2 q]; omega
  rw [e,Nat.mul_add_div hk,Nat.mul_add_mod,Nat.div_eq_of_lt (by omega),Nat.mod_eq_of_lt (by omega)]
  exact ⟨rfl,rfl⟩
 ·intro h
  have e:2*N=k*(2*q)+2*r:=by
   rw [Nat.mul_left_comm k 2 q]; omega
  rw [e,Nat.mul_add_div hk,Nat.mul_add_mod,Nat.div_eq_of_lt (by omega),Nat.mod_eq_of_lt (by omega)]
  exact ⟨rfl,rfl⟩
theorem aSr {n k D s:Nat} (hk0:0<k) (hk:k<2^64) (hn0:n≠0) (h:An (n*2^s/k)<D):s<64+D/\n*2^s<2^(64+D):=by
 have h1:n*2^s/k<2^D:=Nat.lt_of_lt_of_le (Gq _) (Nat.pow_le_pow_right (by decide) (by omega))
 have h2:n*2^s<2^D*k:=(Nat.div_lt_iff_lt_mul hk0).1 h1
 have h3:2^D*k<=2^D*2^64:=Nat.mul_le_mul_left _ (by omega)
 rw [← Nat.pow_add] at h3
 have h4:1*2^s<=n*2^s:=Nat.mul_le_mul_right _ (by omega)
 rw [Nat.one_mul] at h4
 have h5:2^s<2^(D+64):=by omega
 have h6:=(Nat.pow_lt_pow_iff_right (a:=2) (by decide)).1 h5
 rw [Nat.add_comm 64 D]
 exact ⟨h6,by omega⟩
theorem aLq {n k D s0:Nat} (hk0:0<k) (hk:k<2^64) (hn0:n≠0) (hn:n<2^64) (hD:D<=100) (hs0:s0<=64) :
  ∃ s:Nat,s<=64+D/\(n*2^s%k≠0->D<=An (n*2^s/k)) /\
   kO (((D:Int),(Dw k,(Dw (n*2^s0%k),((),((),()))))),((false,([],((0:Int),(false,())))),((false,(Dw (n*2^s0/k),(-(s0:Int),(false,())))),()))) =
    some (.inl ((Dw (n*2^s%k),((),((),()))),((false,([],((0:Int),(false,())))),((false,(Dw (n*2^s/k),(-(s:Int),(false,())))),())))):=by
 have key:=Lj (aAy DU.pre DU.F EQ.pre EQ.F Ci.pre Ci.F Bm.pre Bm.F CY.pre CY.F CG.pre CG.F) (fun x=>(300+x.2.2.1.2.2.1).toNat)
  (fun x=>∃ s:Nat,s<=64+D/\x=(((D:Int),(Dw k,(Dw (n*2^s%k),((),((),()))))),((false,([],((0:Int),(false,())))),((false,(Dw (n*2^s/k),(-(s:Int),(false,())))),()))))
  (fun y=>∃ s:Nat,s<=64+D/\(n*2^s%k≠0->D<=An (n*2^s/k))/\y=.inl ((Dw (n*2^s%k),((),((),()))),((false,([],((0:Int),(false,())))),((false,(Dw (n*2^s/k),(-(s:Int),(false,())))),())))) ?_
  _ ⟨s0,by omega,rfl⟩
 ·obtain ⟨y,hy,s,k1,k2,rfl⟩:=key
  exact ⟨s,k1,k2,hy⟩
 intro L x hx hL
 obtain ⟨s,hs,rfl⟩:=hx
 unfold Td
 have hr:=Nat.mod_lt (n*2^s) hk0
 have hN:n*2^s<2^(64+(64+D)):=by
  rw [Nat.pow_add]
  exact Nat.lt_of_lt_of_le (Nat.mul_lt_mul_of_pos_right hn (Nat.two_pow_pos s)) (Nat.mul_le_mul_left _ (Nat.pow_le_pow_right (by decide) hs))
 have hq:n*2^s/k<2^(64+(64+D)):=Nat.lt_of_le_of_lt (Nat.div_le_self _ _) hN
 have hqb:=Ia hq (by omega)
 have hrb:=Ia (Nat.lt_trans hr hk) (by decide)
 have hkb:=Ia hk (by decide)
 have p0:=Sy hqb
 have e2s:2*(n*2^s)=n*2^(s+1):=by rw [Nat.pow_succ]; ac_rfl
 obtain ⟨d1,d2⟩:=aKk (n*2^s) hk0
 rw [e2s] at d1 d2
 have hstop:=aSr (n:=n) (k:=k) (D:=D) (s:=s) hk0 hk hn0
 have gen:=hL
 dsimp only at gen ⊢
 generalize hQ:n*2^s/k=q at *
 generalize hR:n*2^s%k=r at *
 simp only [Si p0,S5 p0,cond_true]
 by_cases hgo:An q<D/\r≠0
 ·obtain ⟨g1,g2⟩:=hgo
  have hs1:=(hstop g1).1
  rw [decide_eq_true (show (An q:Int)<(D:Int) by omega),Nf g2]
  have p1:=eW hqb hqb
  have p2:=eW hrb hrb
  have h65:r+r<2^65:=by
   have:(2:Nat)^65=2*2^64:=by decide
   omega
  have hrr:=Ia h65 (by decide)
  have hqq:q+q<2^(65+(64+D)):=by
   have:(2:Nat)^(65+(64+D))=2*2^(64+(64+D)):=by rw [show 65+(64+D)=(64+(64+D))+1 by omega,Nat.pow_succ,Nat.mul_comm]
   omega
  have p3:=aI hrr hkb
  have ew:IntKind.wrap .i64 (-(s:Int)-1)=-((s+1:Nat):Int):=by rw [As (by omega)]; omega
  simp only [Bool.and_self,cond_true,JA p1,Io p1,JA p2,Io p2,Zf p3,Wn p3,ew]
  have hμ:(300 + -((s+1:Nat):Int)).toNat<(300 + -(s:Int)).toNat:=by omega
  by_cases hge:k<=2*r
  ·obtain ⟨f1,f2⟩:=d1 hge
   have p4:=n4 hrr (show k<=r+r by omega)
   have p5:=eW (Ia hqq (by omega)) (show 1<(2^64)^5000 from Ia (k:=1) (by decide) (by decide))
   rw [aJk] at p5
   have eg:decide ((if r+r=k then (0:Int) else if r+r<k then -1 else 1)>=0)=true:=by
    by_cases h:r+r=k
    ·rw [if_pos h]; rfl
    ·rw [if_neg h,if_neg (by omega)]; rfl
   rw [eg]
   simp only [cond_true,wG p4,vM p4,JA p5,Io p5]
   refine gen _ ⟨s+1,by omega,?_⟩ hμ
   rw [f1,f2,show 2*q+1=q+q+1 by omega,show 2*r-k=r+r-k by omega]
  ·obtain ⟨f1,f2⟩:=d2 (by omega)
   have eg:decide ((if r+r=k then (0:Int) else if r+r<k then -1 else 1)>=0)=false:=by
    rw [if_neg (by omega),if_pos (by omega)]; rfl
   rw [eg]
   simp only [cond_false]
   refine gen _ ⟨s+1,by omega,?_⟩ hμ
   rw [f1,f2,show 2*q=q+q by omega,show 2*r=r+r by omega]
 ·have e:(decide ((An q:Int)<(D:Int))&&decide (((Dw r).length:Int)>0))=false:=by
   by_cases g1:An q<D
   ·have g2:r=0:=Classical.not_not.1 fun h=>hgo ⟨g1,h⟩
    rw [g2,DB]
    exact Bool.and_false _
   ·rw [decide_eq_false (show ¬ (An q:Int)<(D:Int) by omega),Bool.false_and]
  rw [e,cond_false]
  refine ⟨_,rfl,s,hs,?_,?_⟩
  ·intro h
   rw [hR] at h
   rw [hQ]
   by_cases g1:An q<D
   ·exact absurd ⟨g1,h⟩ hgo
   ·omega
  ·rw [hQ,hR]
theorem aM0 {n k D:Nat} (hk0:k≠0) (hk:k<2^64) (hn0:n≠0) (hn:n<2^64) (hD:D<=100) :
  ∃ s:Nat,s<=64+D/\(n*2^s%k≠0->D<=An (n*2^s/k)) /\
   YQ (Dw n,Dw k,(D:Int),())=some ((false,Dw (n*2^s/k),(-(s:Int)),decide (n*2^s%k≠0),()),()):=by
 have bk:=En hk
 have bn:=En hn
 have p0:=Sy (Ia hk (by decide))
 have p1:=Sy (Ia hn (by decide))
 obtain ⟨s0,hs0,hsl⟩:∃ s0:Nat,(if (An k:Int)-(An n:Int)-1>0 then (An k:Int)-(An n:Int)-1 else 0)=(s0:Int)/\s0<=64:=by
  by_cases h:(An k:Int)-(An n:Int)-1>0
  ·exact ⟨An k-An n-1,by rw [if_pos h]; omega,by omega⟩
  ·exact ⟨0,by rw [if_neg h]; rfl,by omega⟩
 obtain ⟨s,k1,k2,k3⟩:=aLq (D:=D) (s0:=s0) (by omega) hk hn0 hn hD hsl
 refine ⟨s,k1,k2,?_⟩
 show eE DU.pre DU.F EQ.pre EQ.F Ci.pre Ci.F Bm.pre Bm.F CY.pre CY.F CG.pre CG.F kO (Dw n) (Dw k) D=_
 unfold eE
 have hN:n*2^s0<2^128:=by
  rw [show (128:Nat)=64+64 from rfl,Nat.pow_add]
  exact Nat.lt_of_lt_of_le (Nat.mul_lt_mul_of_pos_right hn (Nat.two_pow_pos s0)) (Nat.mul_le_mul_left _ (Nat.pow_le_pow_right (by decide) hsl))
 have hN':n*2^s0<(2^64)^1024:=Nat.lt_of_lt_of_le hN (by rw [← Nat.pow_mul]; exact Nat.pow_le_pow_right (by decide) (by decide))
 have hk':k<(2^64)^1024:=Nat.lt_of_lt_of_le hk (by rw [← Nat.pow_mul]; exact Nat.pow_le_pow_right (by decide) (by decide))
 have p2:=aDL (dg (2^64) n) (Ds (Ia hn (by decide))) s0 (by omega) (by rw [Cd]; exact hN')
 rw [Cd] at p2
 have p2:SS (Dw n,(s0:Int),())=_:=p2
 have p3:=aU4 hN' hk' hk0
 have w1:IntKind.wrap .i64 ((An k:Int)-(An n:Int))=(An k:Int)-(An n:Int):=As (by omega)
 have w2:IntKind.wrap .i64 ((An k:Int)-(An n:Int)-1)=(An k:Int)-(An n:Int)-1:=As (by omega)
 have w3:IntKind.wrap .i64 (0-(s0:Int))=-(s0:Int):=by rw [As (by omega)]; omega
 simp only [Si p0,S5 p0,Si p1,S5 p1,cond_true,w1,w2,hs0,VZ p2,YX p2,aIW p3,aJJ p3,w3,k3]
 show some _=_
 congr 4
 by_cases h:n*2^s%k=0
 ·rw [h,DB]; rfl
 ·rw [Nf h,decide_eq_true h]
theorem yB {n:Nat} (hn:n<(2^64)^5000):SM (Dw n,())=some (Dw n,()):=by
 have p0:=XN (dg (2^64) n) (Ds hn)
 rw [Cd] at p0
 exact p0
theorem aKc {f m:Int} (hf:Fm f) (hm:0<=m/\m<=5) (neg:Bool) {n k:Nat} (hk0:k≠0) (hk:k<2^64) (hn0:n≠0) (hn:n<2^64) {e:Int} (he:-40000<=e/\e<=40000) :
  Wp (f,m,neg,Dw n,Dw k,e,())=some (((Gf f m neg n k e).1:Int),((Gf f m neg n k e).2:Int),0,()):=by
 show lG EI.pre EI.F Bg.pre Bg.F HN.pre HN.F RG.pre RG.F EV.pre EV.F f m neg (Dw n) (Dw k) e=_
 unfold lG
 have hP:=ES hf
 have hP2:=E7 hf
 have p0:=pK hf hm
 have p1:=yB (Ia hk (by decide))
 have p2:=yB (Ia hn (by decide))
 obtain ⟨s,k1,k2,p3⟩:=aM0 (D:=fP f+3) hk0 hk hn0 hn (by omega)
 have hN:n*2^s<2^(64+s):=by
  rw [Nat.pow_add]
  exact Nat.mul_lt_mul_of_pos_right hn (Nat.two_pow_pos s)
 have hq:n*2^s/k<2^(64+s):=Nat.lt_of_le_of_lt (Nat.div_le_self _ _) hN
 have p4:=qF neg (n*2^s/k) (e-s) (decide (n*2^s%k≠0)) f m hf (LF hq (by omega)) (by omega)
 rw [aGf hf (fun h=>by have:=k2 (of_decide_eq_true h); omega),vS hf hn0 (by omega) e (by omega) (fun h=>by have:=k2 h; omega)] at p4
 have r1:(Bp f).2.1=(fP f:Int):=rfl
 have w1:IntKind.wrap .i64 ((fP f:Int)+3)=((fP f+3:Nat):Int):=by rw [As (by omega)]; omega
 have w2:IntKind.wrap .i64 (-(s:Int)+e)=e-s:=by rw [As (by omega)]; omega
 have l1:(Dw n).length=1:=by rw [dN hn0 hn]; rfl
 have l2:(Dw k).length=1:=by rw [dN hk0 hk]; rfl
 have w3:decide (IntKind.wrap .i64 (((1:Nat):Int)+((1:Nat):Int))>1024)=false:=by decide
 have w4:(decide (e<(-(40000:Int)))||decide (e>(40000:Int)))=false:=by rw [decide_eq_false (by omega),decide_eq_false (by omega)]; rfl
 have w5:((((1:Nat):Int))==(0:Int))=false:=by decide
 simp only [vO p0,pD p0,bne_self_eq_false,cond_true,cond_false,Vc p1,TX p1,Vc p2,TX p2,l1,l2,w3,w4,w5,r1,w1,aMP p3,aIg p3,w2,oV p4,o8 p4]
theorem aSe {f m:Int} {neg:Bool} (hf:Fm f) {n k t u:Nat} (hn0:n≠0) (hk0:k≠0) (hn:n*2^t<2^53) (hk:k*2^u<2^53) (e:Int) :
  Gf f m neg (n*2^t) (k*2^u) e=Gf f m neg n k (e+t-u):=by
 have hP:=E7 hf
 have ht:t<53:=by
  have:1*2^t<=n*2^t:=Nat.mul_le_mul_right _ (by omega)
  exact (Nat.pow_lt_pow_iff_right (a:=2) (by decide)).1 (by omega)
 have hu:u<53:=by
  have:1*2^u<=k*2^u:=Nat.mul_le_mul_right _ (by omega)
  exact (Nat.pow_lt_pow_iff_right (a:=2) (by decide)).1 (by omega)
 obtain ⟨s,hs⟩:∃ s,s+u=120+t:=⟨120+t-u,by omega⟩
 have hk1:0<k:=by omega
 have hup:=Nat.two_pow_pos u
 have e1:n*2^t*2^120=n*2^s*2^u:=by
  rw [Nat.mul_assoc,Nat.mul_assoc,← Nat.pow_add,← Nat.pow_add,hs,Nat.add_comm]
 have hbig:fP f+1<=An (n*2^s/k):=by
  apply kI
  rw [Nat.le_div_iff_mul_le hk1]
  have h1:2^fP f*(k*2^u)<=2^53*2^53:=Nat.mul_le_mul (Nat.pow_le_pow_right (by decide) hP) (by omega)
  have h2:1*2^(120+t)<=n*2^(120+t):=Nat.mul_le_mul_right _ (by omega)
  have h3:(2:Nat)^53*2^53<=2^(120+t):=by rw [← Nat.pow_add]; exact Nat.pow_le_pow_right (by decide) (by omega)
  have h4:2^fP f*k*2^u<=n*2^s*2^u:=by
   rw [Nat.mul_assoc,Nat.mul_assoc n,← Nat.pow_add,hs]
   omega
  exact Nat.le_of_mul_le_mul_right h4 hup
 have a1:=vS (f:=f) (m:=m) (neg:=neg) hf (n:=n*2^t) (k:=k*2^u) (Nat.mul_ne_zero hn0 (Nat.ne_of_gt (Nat.two_pow_pos t))) (Nat.mul_pos hk1 hup) e (s:=120) (by decide)
  (by rw [e1,Nat.mul_div_mul_right _ _ hup]; exact fun _=>hbig)
 have a2:=vS (f:=f) (m:=m) (neg:=neg) hf hn0 hk1 (e+t-u) (s:=s) (by omega) (fun _=>hbig)
 rw [← a1,← a2,e1,Nat.mul_div_mul_right _ _ hup,Nat.mul_mod_mul_right,show e-((120:Nat):Int)=e+(t:Int)-(u:Int)-(s:Int) by omega]
 congr 1
 rw [Bool.eq_iff_iff,decide_eq_true_eq,decide_eq_true_eq]
 constructor
 ·intro h hc
  rw [hc,Nat.zero_mul] at h
  exact h rfl
 ·intro h
  exact Nat.mul_ne_zero h (by omega)
theorem aSv {f m:Int} {neg:Bool} (hf:Fm f) (s s':Bool) {n k:Nat} (hn0:n≠0) (hk0:k≠0) (hn:n<2^53) (hk:k<2^53) (x y:Int) :
  Gf f m neg (od s n x).2.1 (od s' k y).2.1 ((od s n x).2.2-(od s' k y).2.2)=Gf f m neg n k (x-y):=by
 rcases Em s n x with ⟨_,h⟩ | ⟨_,h2,_,h4,h5⟩
 ·exact absurd h hn0
 rcases Em s' k y with ⟨_,h⟩ | ⟨_,g2,_,g4,g5⟩
 ·exact absurd h hk0
 generalize (od s n x).2.1=n1 at *
 generalize (od s' k y).2.1=k1 at *
 rw [h5,g5]
 rw [Nat.mul_comm] at h4 g4
 have:=aSe (f:=f) (m:=m) (neg:=neg) hf (n:=n1) (k:=k1) (t:=tz n) (u:=tz k) (by omega) (by omega) (by rw [← h4]; exact hn) (by rw [← g4]; exact hk) (x-y)
 rw [← h4,← g4] at this
 rw [this]
 congr 1
 omega
theorem aBL {f:Int} {a:Nat} (h:AJ f a=true):nan f a=true:=by
 cases hn:nan f a
 ·rw [kZ hn] at h; exact absurd h (by decide)
 ·rfl
theorem TS {f:Int} {a:Nat} (h1:nan f a=false) (h2:Au f a=false):eF f a≠BF f:=fun he=>by
 unfold nan at h1
 unfold Au at h2
 rw [he] at h1 h2
 simp at h1 h2
 exact h2 h1
theorem aPA (f m:Int) {a b:Nat} (ha:a<2^64) (hb:b<2^64):YF (f,m,(a:Int),(b:Int),())=some (KN f m a b):=by
 show gP RC.pre RC.F NZ.pre NZ.F Pc.pre Pc.F B4.pre B4.F A3.pre A3.F CA.pre CA.F P7.pre P7.F f m a b=_
 unfold gP KN
 have p0:=aHu f m [a,b] (fun c hc=>by
  rcases List.mem_cons.1 hc with rfl | hc
  ·exact ha
  ·rw [List.mem_singleton] at hc; omega) (show (2:Nat)<1000 by decide)
 have p0:Vs (f,m,((a:Int)::((b:Int)::[])),())=_:=p0
 simp only [aTP p0,aIc p0,cond_true]
 clear p0
 unfold AR
 by_cases hf:¬ Fm f
 ·rw [if_pos hf,if_pos hf]; rfl
 have hf:=Classical.not_not.1 hf
 rw [if_neg (show ¬ ¬ Fm f from fun h=>h hf),if_neg (show ¬ ¬ Fm f from fun h=>h hf)]
 by_cases hm:m<0∨m>5
 ·rw [if_pos hm,if_pos hm]; rfl
 rw [if_neg hm,if_neg hm]
 have hm':0<=m/\m<=5:=by omega
 have ho:CE f [a,b]=(Am f a==0&&(Am f b==0&&true)):=rfl
 rw [ho]
 by_cases hca:Am f a≠0
 ·have h4:=(TB hf a).resolve_left hca
  rw [if_pos hca,h4]; rfl
 have hca:=Classical.not_not.1 hca
 rw [if_neg (fun h=>h hca),hca]
 by_cases hcb:Am f b≠0
 ·have h4:=(TB hf b).resolve_left hcb
  rw [if_pos hcb,h4]; rfl
 have hcb:=Classical.not_not.1 hcb
 rw [if_neg (fun h=>h hcb),hcb]
 have e0:((bif ((0:Int)==0&&((0:Int)==0&&true)) then (0:Int) else 4) != 0)=false:=rfl
 rw [e0,cond_false]
 have p1:=aDN hca
 have p2:=aDN hcb
 have p3:=xT hf 0
 have p4:=xT hf 1
 have p5:=VT hf (!(sF f a==sF f b))
 have p6:=Kj hf (!(sF f a==sF f b))
 have ma:=Fs hf a
 have mb:=Fs hf b
 have xa:=Gl hf a
 have xb:=Gl hf b
 simp only [aBN p1,aB5 p1,aBN p2,aB5 p2,cond_true,aCY p3,aC6 p3,aCY p4,aC6 p4,UR p5,UJ p5,Lo p6,K1 p6]
 unfold xK
 cases sa:AJ f a
 ·cases sb:AJ f b
  ·simp only [Bool.or_self,cond_false]
   cases na:nan f a
   ·cases nb:nan f b
    ·simp only [Bool.or_self,cond_false]
     cases hi:Au f a&&Au f b||AN f a&&AN f b
     ·simp only [cond_false]
      cases ia:Au f a
      ·simp only [cond_false]
       cases zb:AN f b
       ·simp only [cond_false]
        cases iz:Au f b||AN f a
        ·simp only [cond_false]
         rw [Bool.or_eq_false_iff] at iz
         have q1:=SX hca (TS na ia)
         have q2:=SX hcb (TS nb iz.1)
         have mza:=JW iz.2
         have mzb:=JW zb
         obtain ⟨o1,o2,o3⟩:=Yq (sF f a) (n:=Ad f a) (Af f a) ma xa
         obtain ⟨o4,o5,o6⟩:=Yq (sF f b) (n:=Ad f b) (Af f b) mb xb
         have n1:(od (sF f a) (Ad f a) (Af f a)).2.1≠0:=by
          rcases Em (sF f a) (Ad f a) (Af f a) with ⟨_,h⟩ | ⟨_,h2,_,_,_⟩
          ·exact absurd h mza
          ·omega
         have n2:(od (sF f b) (Ad f b) (Af f b)).2.1≠0:=by
          rcases Em (sF f b) (Ad f b) (Af f b) with ⟨_,h⟩ | ⟨_,h2,_,_,_⟩
          ·exact absurd h mzb
          ·omega
         have q3:=aKc hf hm' (!(sF f a==sF f b)) (n:=(od (sF f a) (Ad f a) (Af f a)).2.1) (k:=(od (sF f b) (Ad f b) (Af f b)).2.1) n2 (by omega) n1 (by omega) (e:=(od (sF f a) (Ad f a) (Af f a)).2.2-(od (sF f b) (Ad f b) (Af f b)).2.2) (by omega)
         rw [aSv hf _ _ mza mzb ma mb] at q3
         have w1:IntKind.wrap .i64 ((od (sF f a) (Ad f a) (Af f a)).2.2-(od (sF f b) (Ad f b) (Af f b)).2.2)=(od (sF f a) (Ad f a) (Af f a)).2.2-(od (sF f b) (Ad f b) (Af f b)).2.2:=As (by omega)
         have d1:∀ t:Bool×Nat×Int,(Ce t).2.1=Dw t.2.1:=fun _=>rfl
         have d2:∀ t:Bool×Nat×Int,(Ce t).2.2.1=t.2.2:=fun _=>rfl
         simp only [Px q1,Nl q1,Px q2,Nl q2,cond_true,d1,d2,w1,aKV q3,aNz q3]
        ·rfl
       ·rfl
      ·rfl
     ·rfl
    ·rfl
   ·cases nb:nan f b <;> rfl
  ·have nb:=aBL sb
   rw [nb,Bool.or_true,Bool.or_true]; rfl
 ·have na:=aBL sa
  rw [na]; rfl
end VL
namespace VL
open Go Vx
def same (f w:Int) (a x:Nat):Prop :=
 Am f a=0/\Am w x=0/\nan w x=nan f a/\Au w x=Au f a/\AN w x=AN f a/\(nan f a=false->sF w x=sF f a)/\(nan f a=false->Au f a=false->VV w x=VV f a)
end VL
namespace VL
open Go Vx
theorem aRn {f w m:Int} (hw:Fm w) (hm:0<=m/\m<=5) {a:Nat} (ha:Am f a=0) (hfin:eF f a≠BF f) (hm0:Ad f a≠0) :
  Nb (w,m,Ce (od (sF f a) (Ad f a) (Af f a)),())=some (((AD w m (sF f a) (Ad f a) (Af f a) false).1:Int),((AD w m (sF f a) (Ad f a) (Af f a) false).2:Int),0,()):=by
 obtain ⟨hf,_⟩:=CR ha
 obtain ⟨o1,o2,o3⟩:=Yq (sF f a) (n:=Ad f a) (Af f a) (Fs hf a) (Gl hf a)
 rcases Em (sF f a) (Ad f a) (Af f a) with ⟨_,h⟩ | ⟨h1,h2,h3,h4,h5⟩
 ·exact absurd h hm0
 generalize hod:od (sF f a) (Ad f a) (Af f a)=t at *
 have hsc:=KZ (m:=m) (neg:=sF f a) hw (n:=t.2.1) (by omega) (tz (Ad f a)) (Af f a)
 rw [Nat.mul_comm,← h4,← h5] at hsc
 have p:=vL hw hm (sF f a) (n:=t.2.1) (Nat.lt_of_lt_of_le o1 (Nat.pow_le_pow_right (by decide) (by decide))) (by omega) h2 t.2.2 (by omega)
 rw [← hsc] at p
 have e:Ce t=dy (sF f a) t.2.1 t.2.2:=by rw [← h1]; rfl
 rw [e]
 exact p
end VL
namespace VL
open Go Vx
theorem rT (f m:Int):Yy (f,m,())=some (AR f m [],()):=by
 show iR Aq.pre Aq.F f m=_
 unfold iR AR
 by_cases hf:Fm f
 ·have p0:=Fd hf
  rw [if_neg (show ¬ ¬ Fm f from fun h=>h hf)]
  simp only [Dh p0,C8 p0,cond_true,bne_self_eq_false,cond_false]
  by_cases hm:m<0∨m>5
  ·have:(decide (m<0)||decide (m>5))=true:=by rw [Bool.or_eq_true,decide_eq_true_eq,decide_eq_true_eq]; exact hm
   rw [this,if_pos hm]; rfl
  ·have:(decide (m<0)||decide (m>5))=false:=by rw [Bool.or_eq_false_iff,decide_eq_false_iff_not,decide_eq_false_iff_not]; omega
   rw [this,if_neg hm]; rfl
 ·have p0:=GO hf
  simp only [Dh p0,C8 p0,cond_true]
  rw [if_pos hf]; rfl
theorem aHQ {f:Int} {a:Nat} (h:Am f a=0):YP (f,(a:Int),())=some ((sF f a,(Ad f a:Int),Af f a,()),()):=by
 obtain ⟨hf,h0⟩:=CR h
 show jU Aq.pre Aq.F Bo.pre Bo.F f a=_
 unfold jU
 have h1:=Dr hf
 have h3:=E7 hf
 have h4:=HK hf
 have hE:=R7 hf a
 have hM:=Sd f a
 have hPp:2^(fP f-1)<=2^52:=Nat.pow_le_pow_right (by decide) (by omega)
 have p0:=SJ h
 have p1:=Fd hf
 have r1:(Bp f).2.1=(fP f:Int):=rfl
 have r2:(Bp f).2.2.1=1-(fX f:Int):=rfl
 have e0:IntKind.wrap .i64 ((fP f:Int)-1)=((fP f-1:Nat):Int):=Bj _ (by omega)
 have e1:IntKind.wrap .i64 (IntKind.wrap .i64 ((1-(fX f:Int))-(fP f:Int))+1)=1-(fX f:Int)-(fP f:Int)+1:=by
  rw [As (n:=_-(fP f:Int)) (by omega),As (by omega)]
 have e2:IntKind.wrap .i64 (eF f a:Int)=(eF f a:Int):=As (by omega)
 have e3:AT .u64 1 ((fP f-1:Nat):Int)=((2^(fP f-1):Nat):Int):=JZ (by omega)
 have e4:AW .u64 (mF f a:Int) ((2^(fP f-1):Nat):Int)=((mF f a+2^(fP f-1):Nat):Int):=by
  have:=FJ (a:=mF f a) (b:=1) (k:=fP f-1) hM (by omega)
  rwa [Nat.one_mul] at this
 simp only [Sn p0,R8 p0,Dh p1,C8 p1,cond_true,r1,r2,e0,e1,e2,e3,e4,AX]
 by_cases hz:eF f a=0
 ·have hg:decide ((eF f a:Int)>0)=false:=decide_eq_false (by omega)
  have hm:Ad f a=mF f a:=by unfold Ad; rw [if_pos hz]
  have hx:Af f a=1-(fX f:Int)-(fP f:Int)+1:=by unfold Af; rw [if_pos hz,Int.add_zero]
  rw [hg,cond_false,hm,hx]
 ·have hg:decide ((eF f a:Int)>0)=true:=decide_eq_true (by omega)
  have hm:Ad f a=mF f a+2^(fP f-1):=by unfold Ad; rw [if_neg hz]
  have hx:IntKind.wrap .i64 ((1-(fX f:Int)-(fP f:Int)+1)+IntKind.wrap .i64 ((eF f a:Int)-1))=Af f a:=by
   unfold Af; rw [if_neg hz,As (n:=(eF f a:Int)-1) (by omega),As (by omega)]
  rw [hg,cond_true,hm,hx]
theorem aKr {n:Nat} (hn:n<2^62) {k:Nat} (hk:63<=k):n/2^k=0/\n/2^63=0/\Cx (n%2^k) k=Cx (n%2^63) 63:=by
 have h1:2^63<=2^k:=Nat.pow_le_pow_right (by decide) hk
 have h2:2^62<=2^(k-1):=Nat.pow_le_pow_right (by decide) (by omega)
 have a1:n%2^k=n:=Nat.mod_eq_of_lt (by omega)
 have a2:n%2^63=n:=Nat.mod_eq_of_lt (by omega)
 refine ⟨Nat.div_eq_of_lt (by omega),Nat.div_eq_of_lt (by omega),?_⟩
 rw [a1,a2]
 unfold Cx
 by_cases h0:n=0
 ·rw [if_pos h0,if_pos h0]
 ·rw [if_neg h0,if_neg h0,if_pos (show n<2^(k-1) by omega),if_pos (show n<2^(63-1) by omega)]
theorem aBT (m:Int) (neg:Bool) {n:Nat} (hn:n<2^62) {e:Int} (he:-4000<=e/\e<0) :
  Yx (m,((neg,(n:Int),e,()),()))=some ((BH m neg n e 0 false:Int),decide (CK n e 0 false≠0),()):=by
 show gZ m (neg,(n:Int),e,())=_
 unfold gZ
 obtain ⟨k,hk,rfl⟩:∃ k:Nat,0<k/\e=-(k:Int):=⟨e.natAbs,by omega,by omega⟩
 have w0:IntKind.wrap .i64 (0 - -(k:Int))=(k:Int):=by rw [As (n:=0 - -(k:Int)) (by omega)]; omega
 obtain ⟨s,hs,hs0,hs1,q1,q2⟩:∃ s:Nat,(if (63:Int)<(k:Int) then (63:Int) else (k:Int))=(s:Int)/\0<s/\s<=63/\DW n (-(k:Int)) 0=n/2^s/\Hh n (-(k:Int)) 0=Cx (n%2^s) s:=by
  have hq0:¬ ((0:Int)<=-(k:Int)):=by omega
  unfold DW Hh
  rw [if_neg hq0,if_neg hq0,show ((0:Int) - -(k:Int)).toNat=k by omega]
  by_cases h:63<k
  ·obtain ⟨a,b,c⟩:=aKr hn (k:=k) (by omega)
   exact ⟨63,by rw [if_pos (by omega)]; rfl,by decide,by decide,by rw [a,b],c⟩
  ·exact ⟨k,by rw [if_neg (by omega)],hk,by omega,rfl,rfl⟩
 have hp:2^s<=2^63:=Nat.pow_le_pow_right (by decide) hs1
 have hdm:=Nat.div_add_mod n (2^s)
 have hml:n%2^s<2^s:=Nat.mod_lt _ (Nat.two_pow_pos s)
 have hle:n/2^s*2^s<=n:=Nat.div_mul_le_self n (2^s)
 have w1:AI .u64 (n:Int) (s:Int)=((n/2^s:Nat):Int):=Dy n s (by omega)
 have w2:AT .u64 ((n/2^s:Nat):Int) (s:Int)=((n/2^s*2^s:Nat):Int):=by
  rw [Ek _ _ (by omega),Nat.mod_eq_of_lt (by omega)]
 have w3:IntKind.wrap .u64 ((n:Int)-((n/2^s*2^s:Nat):Int))=((n%2^s:Nat):Int):=by
  rw [show (n:Int)-((n/2^s*2^s:Nat):Int)=((n%2^s:Nat):Int) by rw [Nat.mul_comm] at hle ⊢; omega]
  have:=IA (n%2^s)
  rw [this,Nat.mod_eq_of_lt (by omega)]
 have w4:IntKind.wrap .i64 ((s:Int)-1)=((s-1:Nat):Int):=Bj _ (by omega)
 have w5:AT .u64 1 ((s-1:Nat):Int)=((2^(s-1):Nat):Int):=JZ (by omega)
 have hn2:n/2^s<=n:=Nat.div_le_self _ _
 have w6:IntKind.wrap .u64 (((n/2^s:Nat):Int)+1)=((n/2^s+1:Nat):Int):=by
  have:=IA (n/2^s+1)
  rw [Nat.mod_eq_of_lt (by omega)] at this
  exact this
 have w7:decide ((0:Int)<=(s:Int))=true:=decide_eq_true (by omega)
 have w8:decide ((0:Int)<=((s-1:Nat):Int))=true:=decide_eq_true (by omega)
 simp only [w0,hs,w1,w2,w3,w4,w5,w6,w7,w8,aJo,cond_true,FB]
 have hc:CK n (-(k:Int)) 0 false=Cx (n%2^s) s:=by unfold CK; rw [q2]; rfl
 unfold BH
 rw [hc,q1]
 generalize hr:n%2^s=r at *
 generalize hu:n/2^s=u at *
 by_cases h0:r=0
 ·have:Cx r s=0:=by unfold Cx; rw [if_pos h0]
  rw [this,h0]
  rfl
 have hne:Cx r s≠0:=by unfold Cx; rw [if_neg h0]; split <;> first | decide | (split <;> decide)
 rw [beq_false_of_ne h0,decide_eq_true hne,cond_false]
 have g1:decide ((r:Int)>((2^(s-1):Nat):Int))=decide (Cx r s=3):=by
  rw [Bool.eq_iff_iff,decide_eq_true_eq,decide_eq_true_eq]
  unfold Cx
  rw [if_neg h0]
  split
  ·constructor <;> intro h <;> omega
  ·split
   ·constructor <;> intro h <;> omega
   ·constructor <;> intro h <;> omega
 have g2:((r:Int)==((2^(s-1):Nat):Int))=decide (Cx r s=2):=by
  rw [Bool.eq_iff_iff,decide_eq_true_eq,beq_iff_eq]
  unfold Cx
  rw [if_neg h0]
  split
  ·constructor <;> intro h <;> omega
  ·split
   ·constructor <;> intro h <;> omega
   ·constructor <;> intro h <;> omega
 have g3:decide ((r:Int)>=((2^(s-1):Nat):Int))=decide (2<=Cx r s):=by
  rw [Bool.eq_iff_iff,decide_eq_true_eq,decide_eq_true_eq]
  unfold Cx
  rw [if_neg h0]
  split
  ·constructor <;> intro h <;> omega
  ·split
   ·constructor <;> intro h <;> omega
   ·constructor <;> intro h <;> omega
 have g4:(((u%2:Nat):Int)==1)=decide (u%2=1):=by rw [Bool.eq_iff_iff,decide_eq_true_eq,beq_iff_eq]; omega
 have g5:(u%2==0)=!decide (u%2=1):=by
  rcases Nat.mod_two_eq_zero_or_one u with h | h <;> rw [h] <;> rfl
 have hc3:Cx r s<=3:=by unfold Cx; split <;> first | omega | (split <;> first | omega | (split <;> omega))
 rw [g1,g2,g3,g4,g5]
 generalize Cx r s=c at *
 have BR:∀ b:Bool,Cu m neg (decide (u%2=1)) c=b->(bif b then some (((u+1:Nat):Int),true,()) else some ((u:Int),true,()):Option (DenS H0))=some (((if c≠0/\Cu m neg (decide (u%2=1)) c=true then u+1 else u:Nat):Int),true,()):=fun b hb=>by
  rw [hb]
  cases b
  ·rw [if_neg (fun h=>by cases h.2)]; rfl
  ·rw [if_pos ⟨hne,rfl⟩]; rfl
 have key:∀ b:Bool,Cu m neg (decide (u%2=1)) c=b->∀ z:Option (DenS H0),z=(bif b then some (((u+1:Nat):Int),true,()) else some ((u:Int),true,()))->z=some (((if c≠0/\Cu m neg (decide (u%2=1)) c=true then u+1 else u:Nat):Int),true,()):=fun b hb z hz=>by rw [hz]; exact BR b hb
 by_cases m0:m=0
 ·subst m0
  refine key _ rfl _ ?_
  unfold Cu
  rw [if_neg (by decide),if_neg (by decide),if_pos rfl]
  have:c=1∨c=2∨c=3:=by omega
  rcases this with h | h | h <;> rw [h] <;> cases decide (u%2=1) <;> rfl
 by_cases m1:m=1
 ·subst m1
  refine key _ rfl _ ?_
  unfold Cu
  rw [if_neg (by decide),if_neg (by decide),if_neg (by decide),if_pos rfl]
  rfl
 by_cases m3:m=3
 ·subst m3
  refine key _ rfl _ ?_
  unfold Cu
  rw [if_neg (by decide),if_pos rfl]
  rfl
 by_cases m4:m=4
 ·subst m4
  refine key _ rfl _ ?_
  unfold Cu
  rw [if_pos rfl]
  rfl
 by_cases m5:m=5
 ·subst m5
  refine key _ rfl _ ?_
  unfold Cu
  rw [if_neg (by decide),if_neg (by decide),if_neg (by decide),if_neg (by decide),if_pos rfl]
  rfl
 refine key false (by unfold Cu; rw [if_neg m4,if_neg m3,if_neg m0,if_neg m1,if_neg m5]) _ ?_
 rw [In _ _ m0,In _ _ m1,In _ _ m3,In _ _ m4,In _ _ m5]
 rfl
theorem eR {f:Int} (hf:Fm f) (a:Nat) :
  (nan f a=true/\AJ f a=true/\Av f a=0)∨(nan f a=true/\AJ f a=false/\Av f a=1) ∨
  (nan f a=false/\Au f a=true/\sF f a=true/\Av f a=2)∨(nan f a=false/\Au f a=true/\sF f a=false/\Av f a=9) ∨
  (nan f a=false/\Au f a=false/\AN f a=true/\sF f a=true/\Av f a=5)∨(nan f a=false/\Au f a=false/\AN f a=true/\sF f a=false/\Av f a=6) ∨
  (nan f a=false/\Au f a=false/\AN f a=false/\(Av f a=3∨Av f a=4∨Av f a=7∨Av f a=8)):=by
 have hp:=NG hf
 unfold Av AJ nan Au AN
 simp only [bne]
 cases h1:eF f a==BF f <;> cases h2:mF f a==0 <;> cases sF f a <;> cases h3:eF f a==0 <;> cases mF f a/2^(fP f-2)==0 <;> first | (exfalso; rw [beq_iff_eq] at h1 h3; omega) | simp
theorem aOd {f m:Int} {a:Nat} (h1:AR f m []=0):AR f m [a]=Am f a:=by
 obtain ⟨hf,hm,_⟩:=LW h1
 unfold AR
 rw [if_neg (show ¬ ¬ Fm f from fun h=>h hf),if_neg (by omega)]
 unfold CE
 rcases TB hf a with h | h <;> rw [List.all_cons,h] <;> rfl
theorem aQJ {f m:Int} {l:List Nat} (h1:AR f m []≠0):AR f m l=AR f m []:=by
 unfold AR at h1 ⊢
 by_cases hf:Fm f
 ·rw [if_neg (show ¬ ¬ Fm f from fun h=>h hf)] at h1 ⊢
  by_cases hm:m<0∨m>5
  ·rw [if_pos hm,if_neg (show ¬ ¬ Fm f from fun h=>h hf),if_pos hm]
  ·rw [if_neg hm] at h1; exact absurd rfl h1
 ·rw [if_pos hf,if_pos hf]
theorem aCF (m:Int) (neg:Bool) {n:Nat} (hn:n<2^53) {e:Int} (he:e<0):BH m neg n e 0 false<2^53:=by
 have h1:DW n e 0<=n/2:=by
  unfold DW
  rw [if_neg (by omega)]
  obtain ⟨k,hk⟩:∃ k,((0:Int)-e).toNat=k+1:=⟨((0:Int)-e).toNat-1,by omega⟩
  rw [hk,Nat.pow_succ,Nat.mul_comm,← Nat.div_div_eq_div_mul]
  exact Nat.div_le_self _ _
 unfold BH
 split <;> omega
theorem tV {n:Nat} (h:n<2^64):((0:Int),((n:Int),()))=Wi n:=by
 unfold Wi
 rw [Nat.div_eq_of_lt h,Nat.mod_eq_of_lt h]; rfl
def Ng (f m:Int) (a:Nat) (tell:Bool):Int×Int×Int×Unit :=
 if AR f m [a]≠0 then (0,0,AR f m [a],())
 else bif nan f a then ((CH f:Int),(bif AJ f a then 1 else 0),0,())
 else bif Au f a||AN f a||decide (0<=Af f a) then ((a:Int),0,0,())
 else ((if BH m (sF f a) (Ad f a) (Af f a) 0 false=0 then (Co f (sF f a):Int) else ((AD f m (sF f a) (BH m (sF f a) (Ad f a) (Af f a) 0 false) 0 false).1:Int)),(bif decide (CK (Ad f a) (Af f a) 0 false≠0)&&tell then 16 else 0),0,())
theorem aQa (f m:Int) {a:Nat} (ha:a<2^64) (tell:Bool):ZH (f,m,(a:Int),tell,())=some (Ng f m a tell):=by
 show bY Ej.pre Ej.F AF.pre AF.F AB.pre AB.F Gc.pre Gc.F Dl.pre Dl.F A4.pre A4.F f m a tell=_
 unfold bY Ng
 have p0:=rT f m
 by_cases h0:AR f m []≠0
 ·have:(AR f m [] != 0)=true:=bne_iff_ne.2 h0
  rw [aQJ h0,if_pos h0]
  simp only [JD p0,Iq p0,cond_true,this]
 have h0:AR f m []=0:=Classical.not_not.1 h0
 obtain ⟨hf,hm,_⟩:=LW h0
 rw [h0] at p0
 rw [aOd h0]
 by_cases hc:Am f a≠0
 ·have p1:=SU ha hc
  have:(Am f a != 0)=true:=bne_iff_ne.2 hc
  rw [if_pos hc]
  simp only [JD p0,Iq p0,cond_true,bne_self_eq_false,cond_false,Du p1,DA p1,this]
 have hc:Am f a=0:=Classical.not_not.1 hc
 have p1:=F7 ha hc
 have p2:=Ew hf
 rw [if_neg (show ¬ Am f a≠0 from fun h=>h hc)]
 simp only [JD p0,Iq p0,cond_true,bne_self_eq_false,cond_false,Du p1,DA p1,FE p2,Fo p2]
 have hx:=Gl hf a
 have hml:=Fs hf a
 have p3:=aHQ hc
 simp only [aF9 p3,aEp p3,cond_true]
 rcases eR hf a with ⟨h1,h2,h3⟩ | ⟨h1,h2,h3⟩ | ⟨h1,h2,h4,h3⟩ | ⟨h1,h2,h4,h3⟩ | ⟨h1,h2,h4,h5,h3⟩ | ⟨h1,h2,h4,h5,h3⟩ | ⟨h1,h2,h4,h3⟩
 ·rw [h1,h2,h3]; rfl
 ·rw [h1,h2,h3]; rfl
 ·rw [h1,h2,h3]; rfl
 ·rw [h1,h2,h3]; rfl
 ·rw [h1,h2,h4,h3]; rfl
 ·rw [h1,h2,h4,h3]; rfl
 have n0:(Av f a==0)=false/\(Av f a==1)=false/\(Av f a==2)=false/\(Av f a==9)=false/\(Av f a==5)=false/\(Av f a==6)=false:=by
  rcases h3 with h | h | h | h <;> rw [h] <;> decide
 obtain ⟨n0,n1,n2,n9,n5,n6⟩:=n0
 rw [h1,h2,h4,n0,n1,n2,n9,n5,n6]
 simp only [cond_false,Bool.false_or]
 by_cases hp:0<=Af f a
 ·rw [decide_eq_true hp]; rfl
 rw [decide_eq_false hp]
 have p4:=aBT m (sF f a) (n:=Ad f a) (Nat.lt_of_lt_of_le hml (by decide)) (e:=Af f a) (by omega)
 have hu:=aCF m (sF f a) hml (e:=Af f a) (by omega)
 simp only [cond_false,yI p4,aGr p4,cond_true]
 rw [tV (Nat.lt_of_lt_of_le hu (by decide))]
 have p5:=LQ hf hm (sF f a) (BH m (sF f a) (Ad f a) (Af f a) 0 false) (Nat.lt_of_lt_of_le hu (by decide)) 0 (by decide) false (fun h=>by cases h)
 simp only [HR p5,Hz p5,cond_true]
 cases decide (CK (Ad f a) (Af f a) 0 false≠0)&&tell <;> (simp only [cond_true,cond_false]; split <;> rfl)
def C2 (k:Int):Nat:=if k=0 then 2^31-1 else if k=1 then 2^63-1 else if k=2 then 2^32-1 else 2^64-1
def Cr (k:Int):Nat:=if k=0 then 2^31 else if k=1 then 2^63 else 0
def Fu (x:Nat):Nat:=(2^64-x)%2^64
theorem aEe {k:Int} (h:¬ (k<0∨k>3)):k_kinds.getD (Int.toNat k) ((0:Int),(0:Int),())=((Cr k:Int),((C2 k:Int),())):=by
 have:k=0∨k=1∨k=2∨k=3:=by omega
 rcases this with rfl | rfl | rfl | rfl <;> rfl
theorem v6 (k:Int):Cr k<=2^63/\C2 k<2^64:=by
 unfold Cr C2
 constructor
 ·split <;> first | decide | (split <;> decide)
 ·split <;> first | decide | (split <;> first | decide | (split <;> decide))
theorem iB {x:Nat} (h:x<=2^64):IntKind.wrap .u64 ((0:Int)-(x:Int))=((Fu x:Nat):Int):=by
 have:∀ y:Int,IntKind.wrap .u64 y=y%18446744073709551616:=fun y=>by
  simp [IntKind.wrap,IntKind.bits,IntKind.signed]
 rw [this]
 unfold Fu
 omega
def Gg (k:Int) (neg:Bool) (u:Nat) (other:Bool):Int×Int×Int×Unit :=
 bif neg then (if u>Cr k then ((Fu (Cr k):Int),1,0,()) else ((Fu u:Int),(bif other then 16 else 0),0,()))
 else (if u>C2 k then ((C2 k:Int),1,0,()) else ((u:Int),(bif other then 16 else 0),0,()))
def PZ (f m k:Int) (a:Nat):Int×Int×Int×Unit :=
 if AR f m []≠0 then (0,0,AR f m [],())
 else if k<0∨k>3 then (0,0,9,())
 else if Am f a≠0 then (0,0,Am f a,())
 else bif nan f a||(Au f a&&!sF f a) then ((C2 k:Int),1,0,())
 else bif Au f a then ((Fu (Cr k):Int),1,0,())
 else if Af f a<0 then Gg k (sF f a) (BH m (sF f a) (Ad f a) (Af f a) 0 false) (decide (CK (Ad f a) (Af f a) 0 false≠0))
 else Gg k (sF f a) (Ad f a*2^(Af f a).toNat) false
theorem aMR (k:Int) (neg:Bool):Yb (((Cr k:Int),((C2 k:Int),())),neg,())=some ((bif neg then (Fu (Cr k):Int) else (C2 k:Int)),()):=by
 show jO ((Cr k:Int),((C2 k:Int),())) neg=_
 unfold jO
 have:=(v6 k).1
 cases neg
 ·rfl
 ·simp only [cond_true]
  rw [iB (by omega)]
theorem aQH (f m k:Int) {a:Nat} (ha:a<2^64):XI (f,m,k,(a:Int),())=some (PZ f m k a):=by
 show bC Ej.pre Ej.F AF.pre AF.F Gc.pre Gc.F Dl.pre Dl.F Bw.pre Bw.F M5.pre M5.F f m k a=_
 unfold bC PZ
 have p0:=rT f m
 by_cases h0:AR f m []≠0
 ·have:(AR f m [] != 0)=true:=bne_iff_ne.2 h0
  rw [if_pos h0]
  simp only [JD p0,Iq p0,cond_true,this]
 have h0:AR f m []=0:=Classical.not_not.1 h0
 obtain ⟨hf,hm,_⟩:=LW h0
 rw [h0] at p0 ⊢
 rw [if_neg (show ¬ (0:Int)≠0 from fun h=>h rfl)]
 by_cases hk:k<0∨k>3
 ·have:(decide (k<0)||decide (k>3))=true:=by rw [Bool.or_eq_true,decide_eq_true_eq,decide_eq_true_eq]; exact hk
  rw [if_pos hk]
  simp only [JD p0,Iq p0,cond_true,bne_self_eq_false,cond_false,this]
 have hk':(decide (k<0)||decide (k>3))=false:=by rw [Bool.or_eq_false_iff,decide_eq_false_iff_not,decide_eq_false_iff_not]; omega
 have hk2:(bif decide ((0:Int)<=k) then decide (k<((4:Nat):Int)) else false)=true:=by rw [decide_eq_true (by omega),decide_eq_true (by omega)]; rfl
 rw [if_neg hk]
 by_cases hc:Am f a≠0
 ·have p1:=SU ha hc
  have:(Am f a != 0)=true:=bne_iff_ne.2 hc
  rw [if_pos hc]
  simp only [JD p0,Iq p0,cond_true,bne_self_eq_false,cond_false,hk',Du p1,DA p1,this]
 have hc:Am f a=0:=Classical.not_not.1 hc
 have p1:=F7 ha hc
 rw [if_neg (show ¬ Am f a≠0 from fun h=>h hc)]
 obtain ⟨hb1,hb2⟩:=v6 k
 have p3:=aHQ hc
 have p9:=aMR k (sF f a)
 have e1:IntKind.wrap .u64 ((0:Int)-(Cr k:Int))=(Fu (Cr k):Int):=iB (by omega)
 simp only [JD p0,Iq p0,cond_true,bne_self_eq_false,cond_false,hk',hk2,Du p1,DA p1,aEe hk,e1,aF9 p3,aEp p3,aI2 p9,aMo p9]
 have hx:=Gl hf a
 have hml:=Fs hf a
 have BR:∀ (u:Nat) (other:Bool),u<2^64->(bif ((!sF f a)&&decide ((u:Int)>(C2 k:Int)))||(sF f a&&decide ((u:Int)>(Cr k:Int))) then some ((bif sF f a then (Fu (Cr k):Int) else (C2 k:Int)),(1:Int),(0:Int),())
   else bif sF f a then (bif other then some (IntKind.wrap .u64 ((0:Int)-(u:Int)),(16:Int),(0:Int),()) else some (IntKind.wrap .u64 ((0:Int)-(u:Int)),(0:Int),(0:Int),()))
   else bif other then some ((u:Int),(16:Int),(0:Int),()) else some ((u:Int),(0:Int),(0:Int),()):Option (DenS Hr))=some (Gg k (sF f a) u other):=fun u other hu=>by
  unfold Gg
  rw [iB (x:=u) (by omega)]
  cases sF f a
  ·by_cases h:u>C2 k
   ·rw [decide_eq_true (show (u:Int)>(C2 k:Int) by omega),if_pos h]; rfl
   ·rw [decide_eq_false (show ¬ (u:Int)>(C2 k:Int) by omega),if_neg h]; cases other <;> rfl
  ·by_cases h:u>Cr k
   ·rw [decide_eq_true (show (u:Int)>(Cr k:Int) by omega),if_pos h]; rfl
   ·rw [decide_eq_false (show ¬ (u:Int)>(Cr k:Int) by omega),if_neg h]; cases other <;> rfl
 have num:nan f a=false->Au f a=false->(bif decide (Af f a<0) then
    (bif Dl.pre (m,(sF f a,(Ad f a:Int),Af f a,()),()) then
     (bif ((!sF f a)&&decide ((Dl.F (m,(sF f a,(Ad f a:Int),Af f a,()),())).1>(C2 k:Int)))||(sF f a&&decide ((Dl.F (m,(sF f a,(Ad f a:Int),Af f a,()),())).1>(Cr k:Int))) then some ((bif sF f a then (Fu (Cr k):Int) else (C2 k:Int)),(1:Int),(0:Int),())
     else bif sF f a then (bif (Dl.F (m,(sF f a,(Ad f a:Int),Af f a,()),())).2.1 then some (IntKind.wrap .u64 ((0:Int)-(Dl.F (m,(sF f a,(Ad f a:Int),Af f a,()),())).1),(16:Int),(0:Int),()) else some (IntKind.wrap .u64 ((0:Int)-(Dl.F (m,(sF f a,(Ad f a:Int),Af f a,()),())).1),(0:Int),(0:Int),()))
     else bif (Dl.F (m,(sF f a,(Ad f a:Int),Af f a,()),())).2.1 then some ((Dl.F (m,(sF f a,(Ad f a:Int),Af f a,()),())).1,(16:Int),(0:Int),()) else some ((Dl.F (m,(sF f a,(Ad f a:Int),Af f a,()),())).1,(0:Int),(0:Int),()))
    else none)
   else bif Bw.pre ((Ad f a:Int),()) then
    (bif decide (IntKind.wrap .i64 ((Bw.F ((Ad f a:Int),())).1+Af f a)>64) then some ((bif sF f a then (Fu (Cr k):Int) else (C2 k:Int)),(1:Int),(0:Int),())
    else bif decide ((0:Int)<=Af f a) then
     (bif ((!sF f a)&&decide (AT .u64 (Ad f a:Int) (Af f a)>(C2 k:Int)))||(sF f a&&decide (AT .u64 (Ad f a:Int) (Af f a)>(Cr k:Int))) then some ((bif sF f a then (Fu (Cr k):Int) else (C2 k:Int)),(1:Int),(0:Int),())
     else bif sF f a then some (IntKind.wrap .u64 ((0:Int)-AT .u64 (Ad f a:Int) (Af f a)),(0:Int),(0:Int),())
     else some (AT .u64 (Ad f a:Int) (Af f a),(0:Int),(0:Int),()))
    else none)
   else none:Option (DenS Hr))=some (if Af f a<0 then Gg k (sF f a) (BH m (sF f a) (Ad f a) (Af f a) 0 false) (decide (CK (Ad f a) (Af f a) 0 false≠0)) else Gg k (sF f a) (Ad f a*2^(Af f a).toNat) false):=fun hn hi=>by
  by_cases hp:Af f a<0
  ·rw [decide_eq_true hp,if_pos hp,cond_true]
   have p4:=aBT m (sF f a) (n:=Ad f a) (Nat.lt_of_lt_of_le hml (by decide)) (e:=Af f a) (by omega)
   have hu:=aCF m (sF f a) hml (e:=Af f a) (by omega)
   simp only [yI p4,aGr p4,cond_true]
   exact BR _ _ (Nat.lt_of_lt_of_le hu (by decide))
  ·rw [decide_eq_false hp,if_neg hp,cond_false]
   have p5:=UK (Ad f a) (Nat.lt_of_lt_of_le hml (by decide))
   obtain ⟨t,ht⟩:∃ t:Nat,Af f a=(t:Int):=⟨(Af f a).toNat,by omega⟩
   have hm0:Ad f a≠0:=fun h=>by
    have hP:=Dr hf
    have hX:=Qk hf
    unfold Af at ht
    unfold Ad at h
    by_cases hz:eF f a=0
    ·rw [if_pos hz] at ht; omega
    ·rw [if_neg hz] at h
     have:=Nat.two_pow_pos (fP f-1)
     omega
   have hbl:=En (n:=Ad f a) (k:=53) hml
   have e2:IntKind.wrap .i64 ((An (Ad f a):Int)+(t:Int))=(An (Ad f a):Int)+(t:Int):=As (by omega)
   simp only [VI p5,UN p5,cond_true,e2,ht,Int.toNat_natCast]
   have hle:=Ji hm0
   by_cases hbig:(An (Ad f a):Int)+(t:Int)>64
   ·rw [decide_eq_true hbig,cond_true]
    have hb0:=Jp hm0
    have hge:2^64<=Ad f a*2^t:=by
     have:2^(An (Ad f a)-1)*2^t<=Ad f a*2^t:=Nat.mul_le_mul_right _ hle
     rw [← Nat.pow_add] at this
     exact Nat.le_trans (Nat.pow_le_pow_right (by decide) (by omega)) this
    unfold Gg
    rw [if_pos (show Ad f a*2^t>Cr k by omega),if_pos (show Ad f a*2^t>C2 k by omega)]
    cases sF f a <;> rfl
   ·rw [decide_eq_false hbig,cond_false,decide_eq_true (show (0:Int)<=(t:Int) by omega),cond_true]
    have hb0:=Jp hm0
    have hlt:Ad f a*2^t<2^64:=by
     have:Ad f a*2^t<2^An (Ad f a)*2^t:=Nat.mul_lt_mul_of_pos_right (Gq _) (Nat.two_pow_pos t)
     rw [← Nat.pow_add] at this
     exact Nat.lt_of_lt_of_le this (Nat.pow_le_pow_right (by decide) (by omega))
    have e3:AT .u64 (Ad f a:Int) (t:Int)=((Ad f a*2^t:Nat):Int):=by rw [Ek _ _ (by omega),Nat.mod_eq_of_lt hlt]
    rw [e3]
    exact BR _ false hlt
 rcases eR hf a with ⟨h1,h2,h3⟩ | ⟨h1,h2,h3⟩ | ⟨h1,h2,h4,h3⟩ | ⟨h1,h2,h4,h3⟩ | ⟨h1,h2,h4,h5,h3⟩ | ⟨h1,h2,h4,h5,h3⟩ | ⟨h1,h2,h4,h3⟩
 ·rw [h1,h3]; rfl
 ·rw [h1,h3]; rfl
 ·rw [h1,h2,h4,h3]; rfl
 ·rw [h1,h2,h4,h3]; rfl
 ·rw [h1,h2,h3]; exact num h1 h2
 ·rw [h1,h2,h3]; exact num h1 h2
 ·rw [h1,h2]
  rcases h3 with h3 | h3 | h3 | h3 <;> (rw [h3]; exact num h1 h2)
def Pp (f m k:Int) (x:Nat):Int×Int×Int×Unit :=
 if AR f m []≠0 then (0,0,AR f m [],())
 else if k<0∨k>3 then (0,0,9,())
 else
  let neg:=decide (0<Cr k)&&decide (2^63<=x)
  let n:=bif neg then 2^64-x else x
  if n>(bif neg then Cr k else C2 k) then (0,0,7,())
  else if n=0 then (0,0,0,()) else (((AD f m neg n 0 false).1:Int),((AD f m neg n 0 false).2:Int),0,())
theorem aLp (f m k:Int) {x:Nat} (hx:x<2^64):XC (f,m,k,(x:Int),())=some (Pp f m k x):=by
 show i3 Ej.pre Ej.F A4.pre A4.F f m k x=_
 unfold i3 Pp
 have p0:=rT f m
 by_cases h0:AR f m []≠0
 ·have:(AR f m [] != 0)=true:=bne_iff_ne.2 h0
  rw [if_pos h0]
  simp only [JD p0,Iq p0,cond_true,this]
 have h0:AR f m []=0:=Classical.not_not.1 h0
 obtain ⟨hf,hm,_⟩:=LW h0
 rw [h0] at p0 ⊢
 rw [if_neg (show ¬ (0:Int)≠0 from fun h=>h rfl)]
 by_cases hk:k<0∨k>3
 ·have:(decide (k<0)||decide (k>3))=true:=by rw [Bool.or_eq_true,decide_eq_true_eq,decide_eq_true_eq]; exact hk
  rw [if_pos hk]
  simp only [JD p0,Iq p0,cond_true,bne_self_eq_false,cond_false,this]
 have hk':(decide (k<0)||decide (k>3))=false:=by rw [Bool.or_eq_false_iff,decide_eq_false_iff_not,decide_eq_false_iff_not]; omega
 have hk2:(bif decide ((0:Int)<=k) then decide (k<((4:Nat):Int)) else false)=true:=by rw [decide_eq_true (by omega),decide_eq_true (by omega)]; rfl
 rw [if_neg hk]
 obtain ⟨hb1,hb2⟩:=v6 k
 have e0:decide ((Cr k:Int)>0)=decide (0<Cr k):=by rw [Bool.eq_iff_iff,decide_eq_true_eq,decide_eq_true_eq]; omega
 have e1:(AI .u64 (x:Int) 63==1)=decide (2^63<=x):=by
  have:AI .u64 (x:Int) 63=((x/2^63:Nat):Int):=Dy x 63 (by decide)
  rw [this,Bool.eq_iff_iff,decide_eq_true_eq,beq_iff_eq]; omega
 have e2:IntKind.wrap .u64 ((0:Int)-(x:Int))=(Fu x:Int):=iB (by omega)
 simp only [JD p0,Iq p0,cond_true,bne_self_eq_false,cond_false,hk',hk2,aEe hk,e0,e1,e2]
 have BR:∀ (neg:Bool) (n:Nat),n<2^64->(neg=true->n≠0)->(bif A4.pre (f,m,neg,((0:Int),(n:Int),()),(0:Int),false,()) then some (A4.F (f,m,neg,((0:Int),(n:Int),()),(0:Int),false,())) else none)=some (if n=0 then ((0:Int),(0:Int),(0:Int),()) else (((AD f m neg n 0 false).1:Int),((AD f m neg n 0 false).2:Int),(0:Int),())):=fun neg n hn hz=>by
  rw [tV hn]
  have p5:=LQ hf hm neg n (Nat.lt_of_lt_of_le hn (by decide)) 0 (by decide) false (fun h=>by cases h)
  simp only [HR p5,Hz p5,cond_true]
  by_cases h:n=0
  ·rw [if_pos h,if_pos h]
   have:neg=false:=by
    cases neg
    ·rfl
    ·exact absurd h (hz rfl)
   subst this
   rfl
  ·rw [if_neg h,if_neg h]
   rfl
 cases hneg:decide (0<Cr k)&&decide (2^63<=x)
 ·simp only [cond_false,Bool.not_false,Bool.true_and,Bool.false_and,Bool.or_false]
  by_cases h:x>C2 k
  ·rw [decide_eq_true (show (x:Int)>(C2 k:Int) by omega),if_pos h]; rfl
  ·rw [decide_eq_false (show ¬ (x:Int)>(C2 k:Int) by omega),if_neg h,cond_false]
   exact BR false x hx (fun h=>by cases h)
 ·rw [Bool.and_eq_true,decide_eq_true_eq,decide_eq_true_eq] at hneg
  have hn:Fu x=2^64-x:=by unfold Fu; omega
  rw [hn]
  simp only [cond_true,Bool.not_true,Bool.false_and,Bool.true_and,Bool.false_or]
  by_cases h:2^64-x>Cr k
  ·rw [decide_eq_true (show ((2^64-x:Nat):Int)>(Cr k:Int) by omega),if_pos h]; rfl
  ·rw [decide_eq_false (show ¬ ((2^64-x:Nat):Int)>(Cr k:Int) by omega),if_neg h,cond_false]
   exact BR true (2^64-x) (by omega) (fun _=>by omega)
end VL
namespace VL
open Go Vx
theorem ZD {c:Int} (hc:-4000<=c/\c<=0) {S:Int} (h:S.natAbs<2^5000):VC (cC c S,())=some ((if S=0 then 0 else if S<0 then -1 else 1),()):=by
 obtain ⟨s,n,e,a1,a2,a3⟩:=sY hc h
 have:=aNO s (n:=n) (Nat.lt_of_lt_of_le a2.lt (by rw [← Nat.pow_mul]; exact Nat.pow_le_pow_right (by decide) (by decide))) e
 rw [a1,this,aJj,a3]
theorem aTE {f m:Int} (hf:Fm f) (hm:0<=m/\m<=5) {c:Int} (hc:-4000<=c/\c<=0) {S:Int} (h:S.natAbs<2^5000) (h0:S≠0) :
  Nb (f,m,cC c S,())=some (((AD f m (decide (S<0)) S.natAbs c false).1:Int),((AD f m (decide (S<0)) S.natAbs c false).2:Int),0,()):=by
 unfold cC
 have hb:Bc c S.natAbs c:=⟨Int.le_refl _,by omega,by rw [Int.sub_self]; simpa using h⟩
 have B:=hb.od hc (decide (S<0))
 have Bl:=B.lt
 obtain ⟨b1,b2,_⟩:=B
 rcases Em (decide (S<0)) S.natAbs c with ⟨_,h⟩ | ⟨h1,h2,h3,h4,h5⟩
 ·omega
 generalize hod:od (decide (S<0)) S.natAbs c=t at *
 have hsc:=KZ (m:=m) (neg:=decide (S<0)) hf (n:=t.2.1) (by omega) (tz S.natAbs) c
 rw [Nat.mul_comm,← h4,← h5] at hsc
 have p:=vL hf hm (decide (S<0)) (n:=t.2.1) (Nat.lt_of_lt_of_le Bl (Nat.pow_le_pow_right (by decide) (by decide))) (by omega) h2 t.2.2 (by omega)
 rw [← hsc] at p
 have e:Ce t=dy (decide (S<0)) t.2.1 t.2.2:=by rw [← h1]; rfl
 rw [e]
 exact p
def fv (f:Int) (a:Nat):Int:=bif nan f a||Au f a then 0 else vA f a
theorem Yu {f:Int} (hf:Fm f) (a:Nat):(fv f a).natAbs<2^2100:=by
 unfold fv
 cases nan f a||Au f a
 ·exact aTw hf a
 ·exact Nat.two_pow_pos _
theorem yY {f:Int} {a:Nat} (h:nan f a=false) (h':Au f a=false):(fv f a=0)↔AN f a=true:=by
 unfold fv
 rw [h,h',Bool.or_self,cond_false]
 have h1:=aHh f a
 have hp:=Nat.two_pow_pos (Af f a-qm f).toNat
 constructor
 ·intro h
  cases hz:AN f a
  ·exfalso
   have:=JW hz
   rw [h] at h1
   have:=Nat.mul_pos (Nat.pos_of_ne_zero this) hp
   omega
  ·rfl
 ·intro h
  have:=aSu f a
  rw [h,beq_iff_eq] at this
  rw [show Ad f a=0 by omega,Nat.zero_mul] at h1
  omega
theorem Tc (c:Int):cC c 0=(false,[],(0:Int),()):=by
 show (false,Dw 0,(0:Int),())=_
 rw [DB]
abbrev rS:=Aa (.pair (.bool) (.pair (.bool) (.pair (.bool) (.pair (.bool) (.pair (.bool) (.pair (.pair (.bool) (.pair (.slice (.int .u64)) (.pair (.int .i64) (.unit)))) (.unit)))))))
theorem Zq {f:Int} {a:Nat} (h:Am f a=0):Y9 (f,(a:Int),())=some ((nan f a,AJ f a,false,Au f a,sF f a,cC (qm f) (fv f a),()),()):=by
 obtain ⟨hf,_⟩:=CR h
 show jB AF.pre AF.F Bo.pre Bo.F CA.pre CA.F f a=_
 unfold jB
 have p0:=F7 (KK h) h
 have p1:=SJ h
 simp only [Du p0,DA p0,Sn p1,R8 p1,cond_true]
 have c1:decide (Av f a<=1)=nan f a:=by
  rcases eR hf a with ⟨h1,h2,h3⟩ | ⟨h1,h2,h3⟩ | ⟨h1,h2,h4,h3⟩ | ⟨h1,h2,h4,h3⟩ | ⟨h1,h2,h4,h5,h3⟩ | ⟨h1,h2,h4,h5,h3⟩ | ⟨h1,h2,h4,h3⟩ <;> first | (rw [h1,h3]; rfl) | (rcases h3 with h3 | h3 | h3 | h3 <;> (rw [h1,h3]; rfl))
 rw [c1,E9,Uk]
 unfold fv
 cases hn:nan f a
 ·cases hi:Au f a
  ·have p2:=aIV h (TS hn hi)
   simp only [Bool.not_false,Bool.and_self,cond_true,Px p2,Nl p2,Bool.or_self,cond_false]
   rfl
  ·rw [show (bif false||true then (0:Int) else vA f a)=0 from rfl,Tc]; rfl
 ·rw [Bool.true_or,cond_true,Tc]
  cases Au f a <;> rfl
theorem aOR (f m:Int) (l:List Nat) (hl:∀ a∈l,a<2^64) (hlen:l.length<1000):VO (f,m,Wd l,())=some (AR f m l,()):=aHu f m l hl hlen
def SZ (f:Int) (a b:Nat):Bool:=(Au f a&&AN f b)||(Au f b&&AN f a)
def SW (f:Int) (a b:Nat):Int:=bif Au f a||Au f b then 0 else fv f a*fv f b
theorem aAT {f:Int} (hf:Fm f):-1100<=qm f/\qm f<=0:=by
 unfold qm
 rcases C4 hf with rfl | rfl | rfl | rfl <;> decide
theorem aGl {S T:Int} {k l:Nat} (h1:S.natAbs<2^k) (h2:T.natAbs<2^l):(S*T).natAbs<2^(k+l):=by
 rw [Int.natAbs_mul,Nat.pow_add]
 exact Nat.mul_lt_mul'' h1 h2
theorem aPd {f:Int} {a b:Nat} (ha:Am f a=0) (hb:Am f b=0) (hn:(nan f a||nan f b)=true) :
  Uz (f,(a:Int),(b:Int),())=some ((true,AJ f a||AJ f b,false,false,!(sF f a==sF f b),cC (qm f) 0,()),()):=by
 show Tz E4.pre E4.F DK.pre DK.F JO.pre JO.F f a b=_
 unfold Tz
 have p0:=Zq ha
 have p1:=Zq hb
 simp only [TU p0,Ve p0,TU p1,Ve p1,cond_true,hn,Tc]
theorem aSW {f:Int} {a b:Nat} (ha:Am f a=0) (hb:Am f b=0) (hna:nan f a=false) (hnb:nan f b=false) :
  Uz (f,(a:Int),(b:Int),())=some ((false,AJ f a||AJ f b,SZ f a b,Au f a||Au f b,!(sF f a==sF f b),cC (qm f+qm f) (SW f a b),()),()):=by
 obtain ⟨hf,_⟩:=CR ha
 show Tz E4.pre E4.F DK.pre DK.F JO.pre JO.F f a b=_
 unfold Tz
 obtain ⟨q1,q2⟩:=aAT hf
 have ba:=Yu hf a
 have bb:=Yu hf b
 have hle:2^2100<=2^5000:=Nat.pow_le_pow_right (by decide) (by decide)
 have p0:=Zq ha
 have p1:=Zq hb
 have p2:=ZD (c:=qm f) (by omega) (S:=fv f a) (by omega)
 have p3:=ZD (c:=qm f) (by omega) (S:=fv f b) (by omega)
 have hm:=aGl ba bb
 have p4:=aPj (c:=qm f) (c':=qm f) (by omega) (by omega) (by omega) (S:=fv f a) (T:=fv f b) (by omega) (by omega) (Nat.lt_of_lt_of_le hm (Nat.pow_le_pow_right (by decide) (by decide)))
 have s1:Au f a=false->(((if fv f a=0 then (0:Int) else if fv f a<0 then -1 else 1))==0)=AN f a:=fun h=>by
  have:=yY hna h
  by_cases hz:fv f a=0
  ·rw [if_pos hz,this.1 hz]; rfl
  ·rw [if_neg hz,show AN f a=false from Bool.eq_false_iff.2 fun h=>hz (this.2 h)]
   split <;> rfl
 have s2:Au f b=false->(((if fv f b=0 then (0:Int) else if fv f b<0 then -1 else 1))==0)=AN f b:=fun h=>by
  have:=yY hnb h
  by_cases hz:fv f b=0
  ·rw [if_pos hz,this.1 hz]; rfl
  ·rw [if_neg hz,show AN f b=false from Bool.eq_false_iff.2 fun h=>hz (this.2 h)]
   split <;> rfl
 have z1:Au f a=true->AN f a=false:=fun h=>by
  have hp:=NG hf
  unfold Au at h
  unfold AN
  rw [Bool.and_eq_true,beq_iff_eq] at h
  rw [beq_false_of_ne (by omega)]; rfl
 have z2:Au f b=true->AN f b=false:=fun h=>by
  have hp:=NG hf
  unfold Au at h
  unfold AN
  rw [Bool.and_eq_true,beq_iff_eq] at h
  rw [beq_false_of_ne (by omega)]; rfl
 simp only [TU p0,Ve p0,TU p1,Ve p1,cond_true,hna,hnb,Bool.or_self,cond_false,ZA p2,V5 p2,ZA p3,V5 p3,Bool.true_or]
 unfold SZ SW
 cases hi:Au f a <;> cases hj:Au f b
 ·simp only [Bool.or_self,Bool.not_false,cond_true,aR8 p4,aPc p4,Bool.false_and,cond_false]
 ·rw [s1 hi]
  simp only [Bool.or_true,Bool.not_true,cond_false,Bool.false_and,Bool.not_false,Bool.true_and,Bool.and_true,cond_true,Bool.false_or,Tc]
 ·rw [s2 hj]
  simp only [Bool.or_false,Bool.not_true,cond_false,Bool.false_and,Bool.not_false,Bool.true_and,Bool.and_true,cond_true,Tc]
 ·rw [z1 hi,z2 hj]
  simp only [Bool.or_self,Bool.not_true,cond_false,Bool.and_false,cond_true,Tc]
  rfl
def IN (x:rS):Bool:=x.2.1||x.2.2.1
def Ur (f m c:Int) (s t:Bool) (S T:Int):Int×Int×Int×Unit :=
 if S+T=0 then ((Co f (bif (S==0&&T==0)&&(s==t) then s else m==4):Int),0,0,())
 else (((AD f m (decide (S+T<0)) (S+T).natAbs c false).1:Int),((AD f m (decide (S+T<0)) (S+T).natAbs c false).2:Int),0,())
theorem aFo {f:Int} (hf:Fm f) (m:Int) (x y:rS) (h:(IN x||IN y)=true):R1 (f,m,x,y,())=some ((CH f:Int),1,0,()):=by
 show Nz AB.pre AB.F B4.pre B4.F Gy.pre Gy.F DK.pre DK.F A3.pre A3.F Dm.pre Dm.F f m x y=_
 unfold Nz
 have p0:=Ew hf
 have:(((x.2.1||y.2.1)||x.2.2.1)||y.2.2.1)=true:=by
  unfold IN at h
  cases h1:x.2.1 <;> cases h2:y.2.1 <;> cases h3:x.2.2.1 <;> cases h4:y.2.2.1 <;> rw [h1,h2,h3,h4] at h <;> first | rfl | cases h
 simp only [FE p0,Fo p0,cond_true,this]
theorem aG9 {f:Int} (hf:Fm f) (m:Int) (x y:rS) (h:(IN x||IN y)=false) (hn:(x.1||y.1)=true):R1 (f,m,x,y,())=some ((CH f:Int),0,0,()):=by
 show Nz AB.pre AB.F B4.pre B4.F Gy.pre Gy.F DK.pre DK.F A3.pre A3.F Dm.pre Dm.F f m x y=_
 unfold Nz
 have p0:=Ew hf
 have:(((x.2.1||y.2.1)||x.2.2.1)||y.2.2.1)=false:=by
  unfold IN at h
  cases h1:x.2.1 <;> cases h2:y.2.1 <;> cases h3:x.2.2.1 <;> cases h4:y.2.2.1 <;> rw [h1,h2,h3,h4] at h <;> first | rfl | cases h
 simp only [FE p0,Fo p0,cond_true,this,cond_false,hn]
theorem aHX {f m:Int} (hf:Fm f) (hm:0<=m/\m<=5) {c:Int} (hc:-4000<=c/\c<=0) (i j s t:Bool) {S T:Int} (hS:S.natAbs<2^4999) (hT:T.natAbs<2^4999) :
  R1 (f,m,(false,false,false,i,s,cC c S,()),(false,false,false,j,t,cC c T,()),())=some (
   bif (i&&j)&&!(s==t) then ((CH f:Int),1,0,()) else bif i then ((F3 f s:Int),0,0,()) else bif j then ((F3 f t:Int),0,0,()) else Ur f m c s t S T):=by
 show Nz AB.pre AB.F B4.pre B4.F Gy.pre Gy.F DK.pre DK.F A3.pre A3.F Dm.pre Dm.F f m (false,false,false,i,s,cC c S,()) (false,false,false,j,t,cC c T,())=_
 unfold Nz
 have hle:2^4999+2^4999=2^5000:=by rw [← Nat.two_mul,← Nat.pow_succ']
 have p0:=Ew hf
 have p1:=VT hf s
 have p2:=VT hf t
 have p3:=aPm hc (S:=S) (T:=T) (by omega) (by omega)
 have p4:=ZD hc (S:=S+T) (by omega)
 have p5:=ZD hc (S:=S) (by omega)
 have p6:=ZD hc (S:=T) (by omega)
 have z:∀ x:Int,((if x=0 then (0:Int) else if x<0 then -1 else 1)==0)=(x==0):=fun x=>by
  by_cases h:x=0
  ·rw [if_pos h,h]
  ·rw [if_neg h,beq_false_of_ne h]; split <;> rfl
 simp only [FE p0,Fo p0,cond_true,Bool.or_self,cond_false]
 cases hij:(i&&j)&&!(s==t)
 ·cases i
  ·cases j
   ·simp only [cond_false,aPk p3,aRu p3,cond_true,bne_self_eq_false,ZA p4,V5 p4,z]
    unfold Ur
    by_cases h0:S+T=0
    ·rw [if_pos h0,h0]
     simp only [beq_self_eq_true,cond_true,ZA p5,V5 p5,ZA p6,V5 p6,Bool.true_or,z]
     have q1:=Kj hf s
     have q2:=Kj hf (m==4)
     cases (S==0&&T==0)&&(s==t)
     ·simp only [cond_false,Lo q2,K1 q2,cond_true]
     ·simp only [Lo q1,K1 q1,cond_true]
    ·rw [if_neg h0,beq_false_of_ne h0]
     have q:=aTE hf hm hc (S:=S+T) (by omega) h0
     simp only [cond_false,sV q,oM q,cond_true]
   ·simp only [cond_false,cond_true,UR p2,UJ p2]
  ·simp only [cond_false,cond_true,UR p1,UJ p1]
 ·rfl
def aB6 (f m:Int) (a b c:Nat):Int×Int×Int×Unit :=
 bif (AJ f a||AJ f b||AJ f c)||(!(nan f a||nan f b)&&SZ f a b) then ((CH f:Int),1,0,())
 else bif nan f a||nan f b||nan f c then ((CH f:Int),0,0,())
 else bif ((Au f a||Au f b)&&Au f c)&&!((!(sF f a==sF f b))==sF f c) then ((CH f:Int),1,0,())
 else bif Au f a||Au f b then ((F3 f (!(sF f a==sF f b)):Int),0,0,())
 else bif Au f c then ((F3 f (sF f c):Int),0,0,())
 else Ur f m (qm f+qm f) (!(sF f a==sF f b)) (sF f c) (SW f a b) (fv f c*(2^(qm f-(qm f+qm f)).toNat:Nat))
def Pn (f m:Int) (a b c:Nat):Int×Int×Int×Unit :=
 if AR f m [a,b,c]≠0 then (0,0,AR f m [a,b,c],()) else aB6 f m a b c
theorem aNe (f m:Int) {a b c:Nat} (ha:a<2^64) (hb:b<2^64) (hc:c<2^64):Y8 (f,m,(a:Int),(b:Int),(c:Int),())=some (Pn f m a b c):=by
 show hZ Nt.pre Nt.F Nd.pre Nd.F E4.pre E4.F MP.pre MP.F f m a b c=_
 unfold hZ Pn
 have p0:=aOR f m [a,b,c] (by simp [ha,hb,hc]) (show (3:Nat)<1000 by decide)
 have p0:VO (f,m,((a:Int)::((b:Int)::((c:Int)::[]))),())=some (AR f m [a,b,c],()):=p0
 by_cases hk:AR f m [a,b,c]≠0
 ·have:(AR f m [a,b,c] != 0)=true:=bne_iff_ne.2 hk
  rw [if_pos hk]
  simp only [qI p0,pG p0,cond_true,this]
 have hk:AR f m [a,b,c]=0:=Classical.not_not.1 hk
 obtain ⟨hf,hm,hall⟩:=LW hk
 rw [if_neg (show ¬ AR f m [a,b,c]≠0 from fun h=>h hk)]
 rw [hk] at p0
 have ca:=hall a (by simp)
 have cb:=hall b (by simp)
 have cc:=hall c (by simp)
 have p2:=Zq cc
 obtain ⟨q1,q2⟩:=aAT hf
 unfold aB6
 cases hn:nan f a||nan f b
 ·rw [Bool.or_eq_false_iff] at hn
  have p1:=aSW ca cb hn.1 hn.2
  have sa:AJ f a=false:=by unfold AJ; rw [hn.1]; rfl
  have sb:AJ f b=false:=by unfold AJ; rw [hn.2]; rfl
  simp only [qI p0,pG p0,cond_true,bne_self_eq_false,cond_false,aDE p1,aBM p1,TU p2,Ve p2,sa,sb,Bool.or_self,Bool.false_or,Bool.not_false,Bool.true_and]
  cases hbad:AJ f c||SZ f a b
  ·rw [Bool.or_eq_false_iff] at hbad
   cases hnc:nan f c
   ·rw [hbad.1,hbad.2]
    have hbd:(SW f a b).natAbs<2^4999:=by
     unfold SW
     cases Au f a||Au f b
     ·exact Nat.lt_of_lt_of_le (aGl (Yu hf a) (Yu hf b)) (Nat.pow_le_pow_right (by decide) (by decide))
     ·exact Nat.two_pow_pos _
    have hbc:(fv f c*((2^(qm f-(qm f+qm f)).toNat:Nat):Int)).natAbs<2^4999:=by
     rw [Int.natAbs_mul,Int.natAbs_natCast]
     have h1:=Yu hf c
     have:(fv f c).natAbs*2^(qm f-(qm f+qm f)).toNat<2^2100*2^(qm f-(qm f+qm f)).toNat:=Nat.mul_lt_mul_of_pos_right h1 (Nat.two_pow_pos _)
     rw [← Nat.pow_add] at this
     exact Nat.lt_of_lt_of_le this (Nat.pow_le_pow_right (by decide) (by omega))
    have p3:=aHX hf hm (c:=qm f+qm f) (by omega) (Au f a||Au f b) (Au f c) (!(sF f a==sF f b)) (sF f c) hbd hbc
    rw [aUI (c:=qm f) (c':=qm f+qm f) (by omega) (fv f c)]
    simp only [Yv p3,WW p3,cond_true]
    rfl
   ·have p3:=aG9 hf m (false,false,SZ f a b,Au f a||Au f b,!(sF f a==sF f b),cC (qm f+qm f) (SW f a b),()) (true,AJ f c,false,Au f c,sF f c,cC (qm f) (fv f c),()) (by unfold IN; rw [hbad.1,hbad.2]; rfl) rfl
    simp only [Yv p3,WW p3,cond_true,cond_false]
  ·have p3:=aFo hf m (false,false,SZ f a b,Au f a||Au f b,!(sF f a==sF f b),cC (qm f+qm f) (SW f a b),()) (nan f c,AJ f c,false,Au f c,sF f c,cC (qm f) (fv f c),()) (by
    unfold IN
    cases h1:AJ f c <;> cases h2:SZ f a b <;> rw [h1,h2] at hbad <;> first | rfl | cases hbad)
   simp only [Yv p3,WW p3,cond_true]
 ·have p1:=aPd ca cb hn
  simp only [qI p0,pG p0,cond_true,bne_self_eq_false,cond_false,aDE p1,aBM p1,TU p2,Ve p2,Bool.not_true,Bool.false_and,Bool.or_false,Bool.true_or]
  cases hs:AJ f a||AJ f b||AJ f c
  ·have p3:=aG9 hf m (true,AJ f a||AJ f b,false,false,!(sF f a==sF f b),cC (qm f) 0,()) (nan f c,AJ f c,false,Au f c,sF f c,cC (qm f) (fv f c),()) (by
    unfold IN
    rw [Bool.or_eq_false_iff] at hs
    rw [hs.1,hs.2]; rfl) rfl
   simp only [Yv p3,WW p3,cond_true,cond_false]
  ·have p3:=aFo hf m (true,AJ f a||AJ f b,false,false,!(sF f a==sF f b),cC (qm f) 0,()) (nan f c,AJ f c,false,Au f c,sF f c,cC (qm f) (fv f c),()) (by
    unfold IN
    rw [Bool.or_eq_true] at hs
    rcases hs with h | h
    ·rw [h]; rfl
    ·rw [h]; cases AJ f a||AJ f b <;> rfl)
   simp only [Yv p3,WW p3,cond_true]
end VL
namespace VL
open Go Vx
theorem aKf {f:Int} (hf:Fm f) (l:List Nat) (hl:∀ a∈l,a<2^64) (hlen:l.length<1000) (u v:Int) :
  Vz (((l.length:Int),(Wd l,((0:Int),(u,f,v,())))),())=some (bif CE f l then .inl ((u,f,v,()),()) else .inr (((0:Int),(0:Int),true,(4:Int),()),())):=by
 have key:=Do (aC3 Aq.pre Aq.F Ar.pre Ar.F AF.pre AF.F AB.pre AB.F) (fun x=>l.length-x.1.2.2.1.toNat)
  (fun x=>∃ i:Nat,i<=l.length/\CE f (l.take i)=true/\x=(((l.length:Int),(Wd l,((i:Int),(u,f,v,())))),()))
  (fun _=>bif CE f l then .inl ((u,f,v,()),()) else .inr (((0:Int),(0:Int),true,(4:Int),()),())) ?_ _ ⟨0,Nat.zero_le _,rfl,rfl⟩
 ·exact key
 intro L x hx hL
 obtain ⟨i,hi,hok,rfl⟩:=hx
 unfold TN
 rcases Nat.lt_or_ge i l.length with hlt | hge
 ·have hg:l.getD i 0=l[i]:=by simp [List.getD_eq_getElem?_getD,hlt]
  have hmem:l[i]∈l:=List.getElem_mem hlt
  have p0:=Eq f l[i] (hl _ hmem)
  have e0:decide ((i:Int)<(l.length:Int))=true:=decide_eq_true (by omega)
  have e1:(decide ((0:Int)<=(i:Int))&&decide ((i:Int)<((Wd l).length:Int)))=true:=by rw [AA,decide_eq_true (by omega),decide_eq_true (by omega)]; rfl
  have e2:(Wd l).getD (Int.toNat (i:Int)) 0=((l[i]:Nat):Int):=by rw [Int.toNat_natCast,Cc,hg]
  have e3:IntKind.wrap .i64 ((i:Int)+1)=((i+1:Nat):Int):=by rw [As (by omega)]; omega
  have htk:l.take (i+1)=l.take i++[l[i]]:=by rw [List.take_succ_eq_append_getElem hlt]
  dsimp only
  simp only [e0,e1,e2,e3,cond_true,DC p0,DD p0]
  by_cases hc:Am f l[i]=0
  ·rw [hc,bne_self_eq_false,cond_false]
   refine hL _ ⟨i+1,by omega,?_,rfl⟩ (by simp only [Int.toNat_natCast]; omega)
   unfold CE at hok ⊢
   rw [htk,List.all_append,hok,List.all_cons,hc]; rfl
  ·have h4:Am f l[i]=4:=(TB hf _).resolve_left hc
   have hno:CE f l=false:=by
    unfold CE
    rw [List.all_eq_false]
    exact ⟨l[i],hmem,by rw [h4]; decide⟩
   rw [h4,hno]; rfl
 ·have e:i=l.length:=by omega
  subst e
  rw [List.take_length] at hok
  have e0:decide ((l.length:Int)<(l.length:Int))=false:=decide_eq_false (by omega)
  simp only [e0,cond_false]
  rw [hok]; rfl
def IO (f:Int) (a b:Nat):Int×Int×Bool×Int×Unit :=
 if AR f 0 [a,b]≠0 then (0,0,true,AR f 0 [a,b],())
 else bif AJ f a||AJ f b then ((CH f:Int),1,true,0,())
 else bif nan f a||nan f b then ((CH f:Int),0,true,0,())
 else bif Au f a||AN f b then ((CH f:Int),1,true,0,())
 else bif Au f b||AN f a then ((a:Int),0,true,0,())
 else (0,0,false,0,())
theorem aMV (f:Int) {a b:Nat} (ha:a<2^64) (hb:b<2^64):Wu (f,(a:Int),(b:Int),())=some (IO f a b):=by
 show lY Aq.pre Aq.F Ar.pre Ar.F AF.pre AF.F AB.pre AB.F Vz f a b=_
 unfold lY IO
 by_cases hf:Fm f
 case neg =>
  have p0:=GO hf
  have e0:AR f 0 [a,b]=2:=by unfold AR; rw [if_pos hf]
  rw [e0]
  simp only [Dh p0,C8 p0,cond_true]
  rfl
 have p0:=Fd hf
 have q:=aKf hf [a,b] (by simp [ha,hb]) (show (2:Nat)<1000 by decide) (b:Int) (a:Int)
 have hc0:AR f 0 [a,b]=bif CE f [a,b] then 0 else 4:=by
  unfold AR
  rw [if_neg (show ¬ ¬ Fm f from fun h=>h hf),if_neg (by decide)]
 rw [hc0]
 simp only [Dh p0,C8 p0,cond_true,bne_self_eq_false,cond_false]
 cases hok:CE f [a,b]
 ·rw [hok] at q
  have q:Vz (((((a:Int)::((b:Int)::[])).length:Int),((a:Int)::((b:Int)::[])),(0:Int),(b:Int),f,(a:Int),()),())=_:=q
  rw [q]; rfl
 ·rw [hok] at q
  have q:Vz (((((a:Int)::((b:Int)::[])).length:Int),((a:Int)::((b:Int)::[])),(0:Int),(b:Int),f,(a:Int),()),())=_:=q
  rw [q]
  have hall:Am f a=0/\Am f b=0:=by
   unfold CE at hok
   simpa using hok
  have p1:=F7 ha hall.1
  have p2:=F7 hb hall.2
  have p3:=Ew hf
  show (bif AF.pre (f,(a:Int),()) then _ else none)=_
  simp only [Du p1,DA p1,Du p2,DA p2,FE p3,Fo p3,cond_true]
  rw [E9,E9]
  have i1:=Uk f a
  have i2:=Uk f b
  have z1:=X7 hf a
  have z2:=X7 hf b
  have n1:=GW f a
  have n2:=GW f b
  rw [Bool.or_comm] at i1 i2 z1 z2
  have e1:(((Av f a==9||Av f a==2)||Av f b==6)||Av f b==5)=(Au f a||AN f b):=by rw [i1,Bool.or_assoc,z2]
  have e2:(((Av f b==9||Av f b==2)||Av f a==6)||Av f a==5)=(Au f b||AN f a):=by rw [i2,Bool.or_assoc,z1]
  rw [e1,e2]
  cases hs:AJ f a||AJ f b
  ·rw [Bool.or_eq_false_iff] at hs
   rw [E9,hs.1,Bool.or_false] at n1
   rw [E9,hs.2,Bool.or_false] at n2
   rw [n1,n2]
   cases nan f a||nan f b <;> cases Au f a||AN f b <;> cases Au f b||AN f a <;> rfl
  ·rfl
theorem aN6 {r s:Nat} (hs:s<=64):r/2^(64-s)*2^64+r*2^s%2^64=r*2^s:=by
 have h:r*2^s/2^64=r/2^(64-s):=by
  rw [show 2^64=2^(64-s)*2^s by rw [← Nat.pow_add,show 64-s+s=64 by omega],Nat.mul_div_mul_right _ _ (Nat.two_pow_pos s)]
 rw [← h,Nat.mul_comm _ (2^64)]
 exact Nat.div_add_mod _ _
theorem aJp {Y:Nat} (hY0:0<Y) (hY:Y<2^53) (left:Nat) (hl:left<10000) (z4:Aa (.pair (.int .u64) (.pair (.int .u64) (.pair (.int .i64) (.pair (.int .u64) .unit))))) {r n:Nat} (hr:r<Y) (hn:n<2^64) (mm E:Int) :
  kG (((Y:Int),(left:Int),(),(),()),(),(),z4,((r:Int),mm,E,(n:Int),()),()) =
   some (.inl (((),(),()),(),(),z4,(((r*2^left%Y:Nat):Int),mm,E,(((n*2^left+r*2^left/Y)%2^64:Nat):Int),()),())):=by
 have key:=Do (aBg Bw.pre Bw.F AS.pre AS.F) (fun x=>x.1.2.1.toNat)
  (fun x=>∃ l r n:Nat,l<10000/\r<Y/\n<2^64/\x=(((Y:Int),(l:Int),(),(),()),(),(),z4,((r:Int),mm,E,(n:Int),()),()))
  (fun x=>.inl (((),(),()),(),(),z4,(((x.2.2.2.2.1.1.toNat*2^x.1.2.1.toNat%Y:Nat):Int),mm,E,(((x.2.2.2.2.1.2.2.2.1.toNat*2^x.1.2.1.toNat+x.2.2.2.2.1.1.toNat*2^x.1.2.1.toNat/Y)%2^64:Nat):Int),()),())) ?_ _ ⟨left,r,n,hl,hr,hn,rfl⟩
 ·exact key
 intro L x hx hL
 obtain ⟨l,r,n,hl,hr,hn,rfl⟩:=hx
 unfold Ug
 dsimp only
 simp only [Int.toNat_natCast]
 rcases Nat.eq_zero_or_pos l with h0 | h0
 ·subst h0
  have e0:decide (((0:Nat):Int)>0)=false:=rfl
  rw [e0,cond_false,Nat.pow_zero,Nat.mul_one,Nat.mul_one,Nat.mod_eq_of_lt hr,Nat.div_eq_of_lt hr,Nat.add_zero,Nat.mod_eq_of_lt hn]
 obtain ⟨s,hs,h1,h2,h3⟩:∃ s:Nat,(if (64:Int)<(l:Int) then (64:Int) else (l:Int))=(s:Int)/\1<=s/\s<=64/\s<=l:=by
  by_cases h:64<l
  ·exact ⟨64,by rw [if_pos (by omega)]; rfl,by decide,by decide,by omega⟩
  ·exact ⟨l,by rw [if_neg (by omega)],by omega,by omega,by omega⟩
 have e0:decide ((l:Int)>0)=true:=decide_eq_true (by omega)
 have e1:IntKind.wrap .i64 ((64:Int)-(s:Int))=((64-s:Nat):Int):=by rw [As (by omega)]; omega
 have e2:decide ((0:Int)<=((64-s:Nat):Int))=true:=decide_eq_true (by omega)
 have e3:decide ((0:Int)<=(s:Int))=true:=decide_eq_true (by omega)
 have e4:AI .u64 (r:Int) ((64-s:Nat):Int)=((r/2^(64-s):Nat):Int):=Dy _ _ (by omega)
 have e5:AT .u64 (r:Int) (s:Int)=((r*2^s%2^64:Nat):Int):=Ek _ _ (by omega)
 have e6:AT .u64 (n:Int) (s:Int)=((n*2^s%2^64:Nat):Int):=Ek _ _ (by omega)
 have e7:IntKind.wrap .i64 ((l:Int)-(s:Int))=((l-s:Nat):Int):=BC _ _ (by omega)
 have p0:=vW (hi:=r/2^(64-s)) (lo:=r*2^s%2^64) (y:=Y) (Nat.mod_lt _ (by decide)) (by omega) (Nat.lt_of_le_of_lt (Nat.div_le_self _ _) hr)
 rw [aN6 h2] at p0
 have e8:IntKind.wrap .u64 (((n*2^s%2^64:Nat):Int)+((r*2^s/Y:Nat):Int))=(((n*2^s+r*2^s/Y)%2^64:Nat):Int):=by
  have:=IA (n*2^s%2^64+r*2^s/Y)
  rw [Nat.mod_add_mod] at this
  rw [← this,Int.natCast_add]
 simp only [hs,e0,e1,e2,e3,e4,e5,e6,e7,cond_true,qO p0,nC p0,e8]
 have hp:2^l=2^s*2^(l-s):=by rw [← Nat.pow_add,show s+(l-s)=l by omega]
 have hr':r*2^s%Y<Y:=Nat.mod_lt _ hY0
 have:=hL (((Y:Int),((l-s:Nat):Int),(),(),()),(),(),z4,(((r*2^s%Y:Nat):Int),mm,E,(((n*2^s+r*2^s/Y)%2^64:Nat):Int),()),()) ⟨l-s,_,_,by omega,hr',Nat.mod_lt _ (by decide),rfl⟩ (by simp only [Int.toNat_natCast]; omega)
 rw [this]
 dsimp only
 simp only [Int.toNat_natCast]
 have k1:r*2^s%Y*2^(l-s)%Y=r*2^l%Y:=by rw [Nat.mod_mul_mod,Nat.mul_assoc,← hp]
 have k2:r*2^l/Y=r*2^s/Y*2^(l-s)+r*2^s%Y*2^(l-s)/Y:=by
  have:r*2^l=Y*(r*2^s/Y*2^(l-s))+r*2^s%Y*2^(l-s):=by
   rw [← Nat.mul_assoc,← Nat.add_mul,Nat.div_add_mod,Nat.mul_assoc,← hp]
  rw [this,Nat.mul_add_div hY0]
 have k3:((n*2^s+r*2^s/Y)%2^64*2^(l-s)+r*2^s%Y*2^(l-s)/Y)%2^64=(n*2^l+r*2^l/Y)%2^64:=by
  rw [Nat.add_mod,Nat.mod_mul_mod,← Nat.add_mod,Nat.add_mul,Nat.mul_assoc n,← hp,k2,Nat.add_assoc]
 rw [k1,k3]
theorem wE {x y:Int} (hx:-2500<=x/\x<=2500) (hy:-2500<=y/\y<=2500):IntKind.wrap .i64 (x-y)=x-y:=As (by omega)
def wA (X:Nat) (ex ey:Int):Nat:=X*2^(ex-min ex ey).toNat
def wB (Y:Nat) (ex ey:Int):Nat:=Y*2^(ey-min ex ey).toNat
theorem aOZ (s1 s2:Bool) {X Y:Nat} (hX0:X≠0) (hY0:Y≠0) (hX:X<2^53) (hY:Y<2^53) {ex ey:Int} (hx:-2500<=ex/\ex<=2500) (hy:-2500<=ey/\ey<=2500) :
  ∃ mm n:Nat,SE (dy s1 X ex,dy s2 Y ey,())=some ((((wA X ex ey%wB Y ex ey:Nat):Int),(mm:Int),min ex ey,(n:Int),()),())/\n<2^64/\n=wA X ex ey/wB Y ex ey%2^64 /\
   wA X ex ey%wB Y ex ey<2^53/\((mm=wB Y ex ey/\mm<2^60)∨(mm=0/\n=0/\2*wA X ex ey<wB Y ex ey)):=by
 have g1:(Dw X).getD 0 0=(X:Int):=by rw [Kx,Nat.mod_eq_of_lt (by omega)]
 have g2:(Dw Y).getD 0 0=(Y:Int):=by rw [Kx,Nat.mod_eq_of_lt (by omega)]
 have l1:=S3 hX0
 have l2:=S3 hY0
 have q1:=UK X (by omega)
 have q2:=UK Y (by omega)
 have bx:=En (n:=X) (k:=53) hX
 have by':=En (n:=Y) (k:=53) hY
 have bx0:=Jp hX0
 have by0:=Jp hY0
 have hxl:=Gq X
 have hyl:=Ji hY0
 have hyu:=Gq Y
 have hdef:∀ z,SE (dy s1 X ex,dy s2 Y ey,())=z↔dI Bw.pre Bw.F AS.pre AS.F kG (s1,Dw X,ex,()) (s2,Dw Y,ey,())=z:=fun z=>Iff.rfl
 simp only [hdef]
 unfold dI
 have i0:Int.toNat (0:Int)=0:=rfl
 simp only [i0,g1,g2,l1,l2,cond_true,wE hy hx,wE hx hy]
 by_cases hlt:ey>ex
 ·obtain ⟨d,hd⟩:∃ d:Nat,ey-ex=(d:Int):=⟨(ey-ex).toNat,by omega⟩
  have hm:min ex ey=ex:=by omega
  have hA:wA X ex ey=X:=by unfold wA; rw [hm,Int.sub_self]; simp
  have hB:wB Y ex ey=Y*2^d:=by unfold wB; rw [hm,hd,Int.toNat_natCast]
  have e1:IntKind.wrap .i64 ((An Y:Int)+(d:Int))=((An Y+d:Nat):Int):=by rw [As (by omega)]; omega
  have e2:IntKind.wrap .i64 ((An X:Int)+1)=((An X+1:Nat):Int):=by rw [As (by omega)]; omega
  rw [decide_eq_true hlt]
  simp only [cond_true,hd,VI q1,UN q1,VI q2,UN q2,e1,e2,hA,hB,hm]
  by_cases hbig:An Y+d>An X+1
  ·rw [decide_eq_true (show ((An Y+d:Nat):Int)>((An X+1:Nat):Int) by omega)]
   have hge:2^(An Y-1)*2^d<=Y*2^d:=Nat.mul_le_mul_right _ hyl
   rw [← Nat.pow_add] at hge
   have h2:2^(An X+1)<=2^(An Y-1+d):=Nat.pow_le_pow_right (by decide) (by omega)
   rw [Nat.pow_succ] at h2
   have hAB:X<Y*2^d:=by omega
   refine ⟨0,0,?_,by decide,?_,?_,.inr ⟨rfl,rfl,by omega⟩⟩
   ·rw [Nat.mod_eq_of_lt hAB]; rfl
   ·rw [Nat.div_eq_of_lt hAB]
   ·rw [Nat.mod_eq_of_lt hAB]; exact hX
  ·rw [decide_eq_false (show ¬ ((An Y+d:Nat):Int)>((An X+1:Nat):Int) by omega)]
   have hB54:Y*2^d<2^54:=by
    have:Y*2^d<2^An Y*2^d:=Nat.mul_lt_mul_of_pos_right hyu (Nat.two_pow_pos d)
    rw [← Nat.pow_add] at this
    exact Nat.lt_of_lt_of_le this (Nat.pow_le_pow_right (by decide) (by omega))
   have hB0:0<Y*2^d:=Nat.mul_pos (Nat.pos_of_ne_zero hY0) (Nat.two_pow_pos d)
   have e3:AT .u64 (Y:Int) (d:Int)=((Y*2^d:Nat):Int):=by rw [Ek _ _ (by omega),Nat.mod_eq_of_lt (by omega)]
   have e4:(((Y*2^d:Nat):Int) != 0)=true:=Bh _ (by omega)
   have e5:decide ((0:Int)<=(d:Int))=true:=decide_eq_true (by omega)
   have hq:X/(Y*2^d)<=X:=Nat.div_le_self _ _
   simp only [cond_false,e3,e4,e5,cond_true]
   refine ⟨Y*2^d,X/(Y*2^d),?_,by omega,(Nat.mod_eq_of_lt (by omega)).symm,Nat.lt_of_le_of_lt (Nat.mod_le _ _) hX,.inl ⟨rfl,by omega⟩⟩
   rw [Wj _ _ (by omega) hB0]; rfl
 ·obtain ⟨d,hd⟩:∃ d:Nat,ex-ey=(d:Int):=⟨(ex-ey).toNat,by omega⟩
  have hm:min ex ey=ey:=by omega
  have hA:wA X ex ey=X*2^d:=by unfold wA; rw [hm,hd,Int.toNat_natCast]
  have hB:wB Y ex ey=Y:=by unfold wB; rw [hm,Int.sub_self]; simp
  have hYp:0<Y:=Nat.pos_of_ne_zero hY0
  have e1:((Y:Int) != 0)=true:=Bh _ hY0
  have e2:Int.tmod (X:Int) (Y:Int)=((X%Y:Nat):Int):=rfl
  rw [decide_eq_false hlt]
  simp only [cond_false,e1,cond_true,hd,Wj X Y (by omega) hYp,e2,hA,hB,hm]
  have hq:X/Y<=X:=Nat.div_le_self _ _
  have hrY:X%Y<Y:=Nat.mod_lt _ hYp
  rw [aJp hYp hY d (by omega) _ hrY (n:=X/Y) (by omega)]
  have k1:X%Y*2^d%Y=X*2^d%Y:=Nat.mod_mul_mod _ _ _
  have k2:X/Y*2^d+X%Y*2^d/Y=X*2^d/Y:=by
   have:X*2^d=Y*(X/Y*2^d)+X%Y*2^d:=by rw [← Nat.mul_assoc,← Nat.add_mul,Nat.div_add_mod]
   rw [this,Nat.mul_add_div hYp]
  rw [k1,k2]
  have hr2:X*2^d%Y<Y:=Nat.mod_lt _ hYp
  exact ⟨Y,X*2^d/Y%2^64,rfl,Nat.mod_lt _ (by decide),rfl,by omega,.inl ⟨rfl,by omega⟩⟩
def Gk (A B:Nat) (near:Bool):Bool×Nat×Nat :=
 if (near&&(decide (2*(A%B)>B)||(decide (2*(A%B)=B)&&decide (A/B%2=1))))=true then (true,B-A%B,A/B+1) else (false,A%B,A/B)
theorem aM6 (A B:Nat) (near:Bool) (k:Nat):Gk (A*2^k) (B*2^k) near=((Gk A B near).1,(Gk A B near).2.1*2^k,(Gk A B near).2.2):=by
 have hp:=Nat.two_pow_pos k
 have h1:A*2^k%(B*2^k)=A%B*2^k:=Nat.mul_mod_mul_right _ _ _
 have h2:A*2^k/(B*2^k)=A/B:=Nat.mul_div_mul_right _ _ hp
 unfold Gk
 rw [h1,h2]
 have h3:decide (2*(A%B*2^k)>B*2^k)=decide (2*(A%B)>B):=by
  rw [Bool.eq_iff_iff,decide_eq_true_eq,decide_eq_true_eq,← Nat.mul_assoc]
  exact Nat.mul_lt_mul_right hp
 have h4:decide (2*(A%B*2^k)=B*2^k)=decide (2*(A%B)=B):=by
  rw [Bool.eq_iff_iff,decide_eq_true_eq,decide_eq_true_eq,← Nat.mul_assoc]
  exact ⟨fun h=>Nat.eq_of_mul_eq_mul_right hp h,fun h=>by rw [h]⟩
 rw [h3,h4]
 split
 ·rw [Nat.sub_mul]
 ·rfl
def pR (f:Int) (a b:Nat) (near:Bool):Int×Int×Int×Int×Unit :=
 let e:=min (Af f a) (Af f b)
 let t:=Gk (wA (Ad f a) (Af f a) (Af f b)) (wB (Ad f b) (Af f a) (Af f b)) near
 ((if t.2.1=0 then (Co f (sF f a):Int) else ((AD f 2 (bif t.1 then !sF f a else sF f a) t.2.1 e false).1:Int)),((t.2.2%8:Nat):Int),0,0,())
def Gm (f:Int) (a b:Nat) (near:Bool):Int×Int×Int×Int×Unit :=
 bif (IO f a b).2.2.1 then ((IO f a b).1,0,(IO f a b).2.1,(IO f a b).2.2.2.1,()) else pR f a b near
theorem vR {n k:Nat} (hn:n<2^64):k<=3->AQ .u64 (n:Int) ((2^k-1:Nat):Int)=((n%2^k:Nat):Int):=fun hk=>U4 hn (by omega)
theorem aGX (f:Int) {a b:Nat} (ha:a<2^64) (hb:b<2^64) (near:Bool):ZJ (f,(a:Int),(b:Int),near,())=some (Gm f a b near):=by
 show gT OW.pre OW.F CA.pre CA.F NS.pre NS.F A4.pre A4.F f a b near=_
 unfold gT Gm
 have p0:=aMV f ha hb
 cases hdone:(IO f a b).2.2.1
 case true =>
  simp only [aEL p0,aGi p0,cond_true,hdone]
 unfold IO at hdone
 by_cases hk:AR f 0 [a,b]≠0
 ·rw [if_pos hk] at hdone; cases hdone
 rw [if_neg hk] at hdone
 have hk:AR f 0 [a,b]=0:=Classical.not_not.1 hk
 obtain ⟨hf,_,hall⟩:=LW hk
 have ca:=hall a (by simp)
 have cb:=hall b (by simp)
 have hdone':(IO f a b).2.2.1=false:=by
  unfold IO
  rw [if_neg (fun h=>h hk)]; exact hdone
 have fa:nan f a=false/\nan f b=false/\Au f a=false/\AN f b=false/\Au f b=false/\AN f a=false:=by
  cases hs:AJ f a||AJ f b
  ·cases hn:nan f a||nan f b
   ·cases hi:Au f a||AN f b
    ·cases hj:Au f b||AN f a
     ·rw [Bool.or_eq_false_iff] at hn hi hj
      exact ⟨hn.1,hn.2,hi.1,hi.2,hj.1,hj.2⟩
     ·rw [hs,hn,hi,hj] at hdone; cases hdone
    ·rw [hs,hn,hi] at hdone; cases hdone
   ·rw [hs,hn] at hdone; cases hdone
  ·rw [hs] at hdone; cases hdone
 obtain ⟨na,nb,ia,zb,ib,za⟩:=fa
 have ma:=JW za
 have mb:=JW zb
 have p1:=SX ca (TS na ia)
 have p2:=SX cb (TS nb ib)
 have oa:=Yq (sF f a) (n:=Ad f a) (Af f a) (Fs hf a) (Gl hf a)
 have ob:=Yq (sF f b) (n:=Ad f b) (Af f b) (Fs hf b) (Gl hf b)
 obtain ⟨a1,a2,a4,a5⟩:(od (sF f a) (Ad f a) (Af f a)).1=sF f a/\(od (sF f a) (Ad f a) (Af f a)).2.1≠0/\Ad f a=2^tz (Ad f a)*(od (sF f a) (Ad f a) (Af f a)).2.1/\(od (sF f a) (Ad f a) (Af f a)).2.2=Af f a+tz (Ad f a):=by
  rcases Em (sF f a) (Ad f a) (Af f a) with ⟨_,h⟩ | ⟨h1,h2,_,h4,h5⟩
  ·exact absurd h ma
  ·exact ⟨h1,by omega,h4,h5⟩
 obtain ⟨b2,b4,b5⟩:(od (sF f b) (Ad f b) (Af f b)).2.1≠0/\Ad f b=2^tz (Ad f b)*(od (sF f b) (Ad f b) (Af f b)).2.1/\(od (sF f b) (Ad f b) (Af f b)).2.2=Af f b+tz (Ad f b):=by
  rcases Em (sF f b) (Ad f b) (Af f b) with ⟨_,h⟩ | ⟨_,h2,_,h4,h5⟩
  ·exact absurd h mb
  ·exact ⟨by omega,h4,h5⟩
 have w1:Ce (od (sF f a) (Ad f a) (Af f a))=dy (sF f a) (od (sF f a) (Ad f a) (Af f a)).2.1 (od (sF f a) (Ad f a) (Af f a)).2.2:=by
  unfold Ce; rw [a1]
 have w2:Ce (od (sF f b) (Ad f b) (Af f b))=dy (od (sF f b) (Ad f b) (Af f b)).1 (od (sF f b) (Ad f b) (Af f b)).2.1 (od (sF f b) (Ad f b) (Af f b)).2.2:=rfl
 rw [w1] at p1
 rw [w2] at p2
 generalize (od (sF f a) (Ad f a) (Af f a)).2.1=X at *
 generalize (od (sF f b) (Ad f b) (Af f b)).2.1=Y at *
 generalize (od (sF f a) (Ad f a) (Af f a)).2.2=ex at *
 generalize (od (sF f b) (Ad f b) (Af f b)).2.2=ey at *
 obtain ⟨mm,n,p3,hn,hnq,hr53,hmm⟩:=aOZ (sF f a) (od (sF f b) (Ad f b) (Af f b)).1 a2 b2 oa.1 ob.1 oa.2 ob.2
 have hk0:min (Af f a) (Af f b)<=min ex ey:=by omega
 obtain ⟨k,hkk⟩:∃ k:Nat,min ex ey=min (Af f a) (Af f b)+k:=⟨(min ex ey-min (Af f a) (Af f b)).toNat,by omega⟩
 have sA:wA (Ad f a) (Af f a) (Af f b)=wA X ex ey*2^k:=by
  unfold wA
  rw [a4,Nat.mul_comm (2^_) X,Nat.mul_assoc,Nat.mul_assoc,← Nat.pow_add,← Nat.pow_add]
  congr 2; omega
 have sB:wB (Ad f b) (Af f a) (Af f b)=wB Y ex ey*2^k:=by
  unfold wB
  rw [b4,Nat.mul_comm (2^_) Y,Nat.mul_assoc,Nat.mul_assoc,← Nat.pow_add,← Nat.pow_add]
  congr 2; omega
 have hBpos:0<wB Y ex ey:=Nat.mul_pos (Nat.pos_of_ne_zero b2) (Nat.two_pow_pos _)
 have hrB:wA X ex ey%wB Y ex ey<wB Y ex ey:=Nat.mod_lt _ hBpos
 have hval:pR f a b near=((if (Gk (wA X ex ey) (wB Y ex ey) near).2.1=0 then (Co f (sF f a):Int) else ((AD f 2 (bif (Gk (wA X ex ey) (wB Y ex ey) near).1 then !sF f a else sF f a) (Gk (wA X ex ey) (wB Y ex ey) near).2.1 (min ex ey) false).1:Int)),(((Gk (wA X ex ey) (wB Y ex ey) near).2.2%8:Nat):Int),0,0,()):=by
  unfold pR
  rw [sA,sB,aM6]
  dsimp only
  by_cases h0:(Gk (wA X ex ey) (wB Y ex ey) near).2.1=0
  ·rw [if_pos h0,if_pos (by rw [h0,Nat.zero_mul])]
  ·rw [if_neg h0,if_neg (Nat.mul_ne_zero h0 (by have:=Nat.two_pow_pos k; omega)),KZ hf h0 k,← hkk]
 rw [hval]
 have hbe:-40000<=min ex ey/\min ex ey<=40000:=by omega
 have parts:∀ (neg:Bool) (r:Nat),r<2^64->Ss (f,2,neg,((0:Int),((r:Int),())),min ex ey,false,())=some (if r=0 then ((Co f neg:Int),0,0,()) else (((AD f 2 neg r (min ex ey) false).1:Int),((AD f 2 neg r (min ex ey) false).2:Int),0,())):=fun neg r hr=>by
  rw [tV hr]
  exact LQ hf (by decide) neg r (Nat.lt_of_lt_of_le hr (by decide)) (min ex ey) hbe false (fun h=>by cases h)
 have hRem:Gk (wA X ex ey) (wB Y ex ey) near=(if (near&&!(((mm:Int)==0||decide ((2*(wA X ex ey%wB Y ex ey):Nat)<(mm:Int)))||(((2*(wA X ex ey%wB Y ex ey):Nat):Int)==(mm:Int)&&((n%2:Nat):Int)==0)))=true then (true,mm-wA X ex ey%wB Y ex ey,wA X ex ey/wB Y ex ey+1) else (false,wA X ex ey%wB Y ex ey,wA X ex ey/wB Y ex ey)):=by
  unfold Gk
  have hodd:n%2=wA X ex ey/wB Y ex ey%2:=by rw [hnq]; omega
  rw [FB,FB,Il,hodd]
  generalize wA X ex ey/wB Y ex ey=q at *
  rcases hmm with ⟨h1,h2⟩ | ⟨h1,h2,h3⟩
  ·rw [← h1] at hrB hBpos ⊢
   generalize hR:wA X ex ey%mm=R at *
   cases near
   ·rfl
   ·simp only [Bool.true_and]
    have:(decide (2*R>mm)||decide (2*R=mm)&&decide (q%2=1))=!((mm==0||decide (((2*R:Nat):Int)<(mm:Int)))||((2*R==mm)&&(q%2==0))):=by
     rw [beq_false_of_ne (by omega),Bool.false_or]
     rcases Nat.lt_trichotomy (2*R) mm with h | h | h
     ·rw [decide_eq_false (show ¬ 2*R>mm by omega),decide_eq_false (show ¬ 2*R=mm by omega),decide_eq_true (show ((2*R:Nat):Int)<(mm:Int) by omega)]; rfl
     ·rw [decide_eq_false (show ¬ 2*R>mm by omega),decide_eq_true h,decide_eq_false (show ¬ ((2*R:Nat):Int)<(mm:Int) by omega),h,beq_self_eq_true]
      rcases Nat.mod_two_eq_zero_or_one q with g | g <;> rw [g] <;> rfl
     ·rw [decide_eq_true (show 2*R>mm from h),decide_eq_false (show ¬ ((2*R:Nat):Int)<(mm:Int) by omega),beq_false_of_ne (show 2*R≠mm by omega)]; rfl
    rw [this]
  ·have hlt:wA X ex ey<wB Y ex ey:=by omega
   rw [Nat.mod_eq_of_lt hlt,h1,decide_eq_false (by omega),decide_eq_false (by omega)]
   simp
 have e9:IntKind.wrap .u64 ((2:Int)*((wA X ex ey%wB Y ex ey:Nat):Int))=((2*(wA X ex ey%wB Y ex ey):Nat):Int):=by
  have:=IA (2*(wA X ex ey%wB Y ex ey))
  rw [Nat.mod_eq_of_lt (show 2*(wA X ex ey%wB Y ex ey)<2^64 by omega)] at this
  rw [← this,Int.natCast_mul]; rfl
 have e1:AQ .u64 (n:Int) 1=((n%2:Nat):Int):=vR (k:=1) hn (by decide)
 have e7:AQ .u64 (n:Int) 7=((n%8:Nat):Int):=vR (k:=3) hn (by decide)
 have e8:AQ .u64 (IntKind.wrap .u64 ((n:Int)+1)) 7=(((wA X ex ey/wB Y ex ey+1)%8:Nat):Int):=by
  have:=IA (n+1)
  rw [show ((n+1:Nat):Int)=(n:Int)+1 from rfl] at this
  rw [this]
  have:=vR (n:=(n+1)%2^64) (k:=3) (Nat.mod_lt _ (by decide)) (by decide)
  rw [show (7:Int)=((2^3-1:Nat):Int) from rfl,this]
  congr 1
  rw [hnq]; omega
 have e6:IntKind.wrap .i64 ((n%8:Nat):Int)=((wA X ex ey/wB Y ex ey%8:Nat):Int):=by
  rw [As (by omega)]
  congr 1
  rw [hnq]; omega
 have e5:IntKind.wrap .i64 (((wA X ex ey/wB Y ex ey+1)%8:Nat):Int)=(((wA X ex ey/wB Y ex ey+1)%8:Nat):Int):=As (by omega)
 simp only [aEL p0,aGi p0,cond_true,hdone',cond_false,Px p1,Nl p1,Px p2,Nl p2]
 have p3:SE (dy (sF f a) X ex,dy (od (sF f b) (Ad f b) (Af f b)).1 Y ey,())=_:=p3
 simp only [aQe p3,aOL p3,cond_true,e1,e5,e6,e7,e8,e9]
 have hdy1:(dy (sF f a) X ex).1=sF f a:=rfl
 simp only [hdy1]
 generalize hR:wA X ex ey%wB Y ex ey=R at *
 generalize hQ:wA X ex ey/wB Y ex ey=Q at *
 have q1:=parts (sF f a) R (by omega)
 have q2:=parts (!sF f a) R (by omega)
 have stay:(bif (R:Int)==0 then (bif A4.pre (f,2,sF f a,((0:Int),((R:Int),())),min ex ey,false,()) then some ((A4.F (f,2,sF f a,((0:Int),((R:Int),())),min ex ey,false,())).1,((Q%8:Nat):Int),(0:Int),(A4.F (f,2,sF f a,((0:Int),((R:Int),())),min ex ey,false,())).2.2) else none)
   else (bif A4.pre (f,2,sF f a,((0:Int),((R:Int),())),min ex ey,false,()) then some ((A4.F (f,2,sF f a,((0:Int),((R:Int),())),min ex ey,false,())).1,((Q%8:Nat):Int),(0:Int),(A4.F (f,2,sF f a,((0:Int),((R:Int),())),min ex ey,false,())).2.2) else none):Option (DenS Hy)) =
   some ((if R=0 then (Co f (sF f a):Int) else ((AD f 2 (sF f a) R (min ex ey) false).1:Int)),((Q%8:Nat):Int),(0:Int),(0:Int),()):=by
  simp only [HR q1,Hz q1,cond_true]
  by_cases h0:R=0
  ·rw [if_pos h0,if_pos h0,Bv _ h0]; rfl
  ·rw [if_neg h0,if_neg h0,AU _ h0]; rfl
 cases hnear:near
 ·rw [hnear] at hRem
  rw [hRem.trans (if_neg (by simp))]
  simp only [Bool.false_and,cond_false]
  exact stay
 ·rw [hnear] at hRem
  rw [cond_true]
  cases hcond:(((mm:Int)==0||decide (((2*R:Nat):Int)<(mm:Int)))||(((2*R:Nat):Int)==(mm:Int)&&((n%2:Nat):Int)==0))
  ·rw [hRem.trans (if_pos (by rw [hcond]; rfl))]
   have hm0:mm≠0:=fun h=>by rw [h] at hcond; cases hcond
   obtain ⟨h1,h2⟩:mm=wB Y ex ey/\mm<2^60:=by
    rcases hmm with h | h
    ·exact h
    ·exact absurd h.1 hm0
   have e10:IntKind.wrap .u64 ((mm:Int)-(R:Int))=((mm-R:Nat):Int):=by
    rw [show (mm:Int)-(R:Int)=((mm-R:Nat):Int) by omega]
    have:=IA (mm-R)
    rw [this,Nat.mod_eq_of_lt (by omega)]
   have q3:=parts (!sF f a) (mm-R) (by omega)
   have q4:=parts (sF f a) (mm-R) (by omega)
   have hd0:mm-R≠0:=by omega
   rw [cond_false,Bool.and_true,cond_true,e10,AU _ hd0,cond_false]
   simp only [HR q3,Hz q3,cond_true]
   rw [if_neg hd0,if_neg hd0]
  ·rw [hRem.trans (if_neg (by rw [hcond]; decide))]
   rw [cond_true,Bool.and_false,cond_false]
   exact stay
theorem aRp (f:Int) {a b:Nat} (ha:a<2^64) (hb:b<2^64):XE (f,(a:Int),(b:Int),())=some (Gm f a b true):=by
 show lK Gi.pre Gi.F f a b=_
 unfold lK
 have p:=aGX f ha hb true
 simp only [x6 p,aCg p,cond_true]
theorem aUA (f:Int) {a b:Nat} (ha:a<2^64) (hb:b<2^64):YE (f,(a:Int),(b:Int),())=some (Gm f a b false):=by
 show cV Gi.pre Gi.F f a b=_
 unfold cV
 have p:=aGX f ha hb false
 simp only [x6 p,aCg p,cond_true]
end VL
namespace VL
open Go Vx
theorem aUk (z:Int):∃ v,Sq (z,())=some (v,(if Fm z then 0 else 2),()):=by
 by_cases h:Fm z
 ·rw [if_pos h]; exact ⟨_,Fd h⟩
 ·rw [if_neg h]; exact ⟨_,GO h⟩
def Sx (l:List Int):Bool:=l.all fun z=>decide (0<=z/\z<4)
def RZ (l:List Int):Bool:=l.all fun z=>decide (0<=z/\z<=5)
theorem aJw (l:List Int) (hlen:l.length<1000) (rest:List Int×List Int×Int×Unit) :
  gU (((l.length:Int),(l,((0:Int),rest))),())=some (bif Sx l then .inl (rest,()) else .inr (((2:Int),()),())):=by
 have key:=Do (aDG Aq.pre Aq.F Ar.pre Ar.F) (fun x=>l.length-x.1.2.2.1.toNat)
  (fun x=>∃ i:Nat,i<=l.length/\Sx (l.take i)=true/\x=(((l.length:Int),(l,((i:Int),rest))),()))
  (fun _=>bif Sx l then .inl (rest,()) else .inr (((2:Int),()),())) ?_ _ ⟨0,Nat.zero_le _,rfl,rfl⟩
 ·exact key
 intro L x hx hL
 obtain ⟨i,hi,hok,rfl⟩:=hx
 unfold TK
 rcases Nat.lt_or_ge i l.length with hlt | hge
 ·have hg:l.getD i 0=l[i]:=by simp [List.getD_eq_getElem?_getD,hlt]
  obtain ⟨v,p0⟩:=aUk l[i]
  have e0:decide ((i:Int)<(l.length:Int))=true:=decide_eq_true (by omega)
  have e1:(decide ((0:Int)<=(i:Int))&&decide ((i:Int)<(l.length:Int)))=true:=by rw [e0,decide_eq_true (by omega)]; rfl
  have e2:l.getD (Int.toNat (i:Int)) 0=l[i]:=by rw [Int.toNat_natCast,hg]
  have e3:IntKind.wrap .i64 ((i:Int)+1)=((i+1:Nat):Int):=by rw [As (by omega)]; omega
  have htk:l.take (i+1)=l.take i++[l[i]]:=by rw [List.take_succ_eq_append_getElem hlt]
  dsimp only
  simp only [e0,e1,e2,e3,cond_true,Dh p0,C8 p0]
  by_cases hc:Fm l[i]
  ·rw [if_pos hc,bne_self_eq_false,cond_false]
   refine hL _ ⟨i+1,by omega,?_,rfl⟩ (by simp only [Int.toNat_natCast]; omega)
   unfold Sx at hok ⊢
   rw [htk,List.all_append,hok,List.all_cons,decide_eq_true (show 0<=l[i]/\l[i]<4 from hc)]; rfl
  ·have hno:Sx l=false:=by
    unfold Sx
    rw [List.all_eq_false]
    exact ⟨l[i],List.getElem_mem hlt,by rw [decide_eq_false (show ¬ (0<=l[i]/\l[i]<4) from hc)]; decide⟩
   rw [if_neg hc,hno]; rfl
 ·have e:i=l.length:=by omega
  subst e
  rw [List.take_length] at hok
  have e0:decide ((l.length:Int)<(l.length:Int))=false:=decide_eq_false (by omega)
  simp only [e0,cond_false]
  rw [hok]; rfl
theorem aOz (l:List Int) (hlen:l.length<1000) (rest:List Int×Int×Unit) :
  Wx (((l.length:Int),(l,((0:Int),rest))),())=some (bif RZ l then .inl (rest,()) else .inr (((3:Int),()),())):=by
 have key:=Do (aGn Aq.pre Aq.F Ar.pre Ar.F) (fun x=>l.length-x.1.2.2.1.toNat)
  (fun x=>∃ i:Nat,i<=l.length/\RZ (l.take i)=true/\x=(((l.length:Int),(l,((i:Int),rest))),()))
  (fun _=>bif RZ l then .inl (rest,()) else .inr (((3:Int),()),())) ?_ _ ⟨0,Nat.zero_le _,rfl,rfl⟩
 ·exact key
 intro L x hx hL
 obtain ⟨i,hi,hok,rfl⟩:=hx
 unfold UO
 rcases Nat.lt_or_ge i l.length with hlt | hge
 ·have hg:l.getD i 0=l[i]:=by simp [List.getD_eq_getElem?_getD,hlt]
  have e0:decide ((i:Int)<(l.length:Int))=true:=decide_eq_true (by omega)
  have e1:(decide ((0:Int)<=(i:Int))&&decide ((i:Int)<(l.length:Int)))=true:=by rw [e0,decide_eq_true (by omega)]; rfl
  have e2:l.getD (Int.toNat (i:Int)) 0=l[i]:=by rw [Int.toNat_natCast,hg]
  have e3:IntKind.wrap .i64 ((i:Int)+1)=((i+1:Nat):Int):=by rw [As (by omega)]; omega
  have htk:l.take (i+1)=l.take i++[l[i]]:=by rw [List.take_succ_eq_append_getElem hlt]
  have e4:(decide (l[i]<(0:Int))||decide (l[i]>(5:Int)))=!decide (0<=l[i]/\l[i]<=5):=by
   rw [Bool.eq_iff_iff,Bool.or_eq_true,decide_eq_true_eq,decide_eq_true_eq,Bool.not_eq_true',decide_eq_false_iff_not]; omega
  dsimp only
  simp only [e0,e1,e2,e3,e4,cond_true]
  by_cases hc:0<=l[i]/\l[i]<=5
  ·rw [decide_eq_true hc,Bool.not_true,cond_false]
   refine hL _ ⟨i+1,by omega,?_,rfl⟩ (by simp only [Int.toNat_natCast]; omega)
   unfold RZ at hok ⊢
   rw [htk,List.all_append,hok,List.all_cons,decide_eq_true hc]; rfl
  ·have hno:RZ l=false:=by
    unfold RZ
    rw [List.all_eq_false]
    exact ⟨l[i],List.getElem_mem hlt,by rw [decide_eq_false hc]; decide⟩
   rw [decide_eq_false hc,hno]; rfl
 ·have e:i=l.length:=by omega
  subst e
  rw [List.take_length] at hok
  have e0:decide ((l.length:Int)<(l.length:Int))=false:=decide_eq_false (by omega)
  simp only [e0,cond_false]
  rw [hok]; rfl
def Gx (f w m:Int) (a:Nat):Int:=if ¬ (Fm f/\Fm w) then 2 else if m<0∨m>5 then 3 else Am f a
theorem aLa (f w m:Int) {a:Nat} (ha:a<2^64):XL ((f::w::[]),(m::[]),(a:Int),())=some (Gx f w m a,()):=by
 show iL Aq.pre Aq.F Ar.pre Ar.F gU Wx (f::w::[]) (m::[]) a=_
 unfold iL
 have q1:=aJw (f::w::[]) (show (2:Nat)<1000 by decide) ((m::[]),(f::w::[]),(a:Int),())
 have q2:=aOz (m::[]) (show (1:Nat)<1000 by decide) ((f::w::[]),(a:Int),())
 have p0:=Eq f a ha
 have a1:Sx (f::w::[])=decide (Fm f/\Fm w):=by
  show (decide (0<=f/\f<4)&&(decide (0<=w/\w<4)&&true))=_
  rw [Bool.and_true,← Bool.decide_and]; rfl
 have a2:RZ (m::[])=!decide (m<0∨m>5):=by
  show (decide (0<=m/\m<=5)&&true)=_
  rw [Bool.and_true,Bool.eq_iff_iff,decide_eq_true_eq,Bool.not_eq_true',decide_eq_false_iff_not]; omega
 rw [q1,a1]
 unfold Gx
 by_cases h1:Fm f/\Fm w
 ·rw [decide_eq_true h1,if_neg (fun h=>h h1)]
  show Vx.A1 (Wx ((((m::[]).length:Int),((m::[]),((0:Int),((f::w::[]),(a:Int),())))),())) _=_
  rw [q2,a2]
  by_cases h2:m<0∨m>5
  ·rw [decide_eq_true h2,if_pos h2]; rfl
  ·rw [decide_eq_false h2,if_neg h2]
   show (bif decide ((0:Int)<(((f::w::[]):List Int).length:Int)) then (bif Ar.pre (f,(a:Int),()) then some (Ar.F (f,(a:Int),())) else none) else none)=_
   have e0:decide ((0:Int)<(((f::w::[]):List Int).length:Int))=true:=rfl
   rw [e0]
   simp only [DC p0,DD p0,cond_true]
   rfl
 ·rw [decide_eq_false h1,if_pos h1]; rfl
def Rx (f w m:Int) (a:Nat):Int×Int×Int×Unit :=
 if Gx f w m a≠0 then (0,0,Gx f w m a,())
 else bif nan f a then ((CH w:Int),(bif AJ f a then 1 else 0),0,())
 else bif Au f a then ((F3 w (sF f a):Int),0,0,())
 else bif AN f a then ((Co w (sF f a):Int),0,0,())
 else (((AD w m (sF f a) (Ad f a) (Af f a) false).1:Int),((AD w m (sF f a) (Ad f a) (Af f a) false).2:Int),0,())
theorem aKY {f w m:Int} (hw:Fm w) (hm:0<=m/\m<=5) {a:Nat} (hc:Am f a=0) :
  Y6 (f,w,m,(a:Int),())=some ((bif nan f a then (CH w:Int) else bif Au f a then (F3 w (sF f a):Int) else bif AN f a then (Co w (sF f a):Int) else ((AD w m (sF f a) (Ad f a) (Af f a) false).1:Int)),
   (bif nan f a then (bif AJ f a then 1 else 0) else bif Au f a||AN f a then 0 else ((AD w m (sF f a) (Ad f a) (Af f a) false).2:Int)),()):=by
 obtain ⟨hf,_⟩:=CR hc
 show cD AF.pre AF.F Bo.pre Bo.F AB.pre AB.F B4.pre B4.F A3.pre A3.F CA.pre CA.F Dm.pre Dm.F f w m a=_
 have p0:=F7 (KK hc) hc
 have p1:=SJ hc
 have p2:=Ew hw
 have p3:=VT hw (sF f a)
 have p4:=Kj hw (sF f a)
 unfold cD
 simp only [Du p0,DA p0,Sn p1,R8 p1,FE p2,Fo p2,UR p3,UJ p3,Lo p4,K1 p4,cond_true]
 rcases eR hf a with ⟨h1,h2,h3⟩ | ⟨h1,h2,h3⟩ | ⟨h1,h2,h4,h3⟩ | ⟨h1,h2,h4,h3⟩ | ⟨h1,h2,h4,h5,h3⟩ | ⟨h1,h2,h4,h5,h3⟩ | ⟨h1,h2,h4,h3⟩
 ·rw [h1,h2,h3]; rfl
 ·rw [h1,h2,h3]; rfl
 ·rw [h1,h2,h3]; rfl
 ·rw [h1,h2,h3]; rfl
 ·rw [h1,h2,h4,h3]; rfl
 ·rw [h1,h2,h4,h3]; rfl
 have n0:(Av f a==0)=false/\(Av f a==1)=false/\(Av f a==2)=false/\(Av f a==9)=false/\(Av f a==5)=false/\(Av f a==6)=false:=by
  rcases h3 with h | h | h | h <;> rw [h] <;> decide
 obtain ⟨n0,n1,n2,n9,n5,n6⟩:=n0
 have hfin:=TS h1 h2
 have p5:=SX hc hfin
 have p6:=aRn (m:=m) hw hm hc hfin (JW h4)
 rw [h1,h2,h4,n0,n1,n2,n9,n5,n6]
 simp only [cond_false,Px p5,Nl p5,sV p6,oM p6,cond_true,Bool.or_self]
theorem aJt (f w m:Int) {a:Nat} (ha:a<2^64):YZ (f,w,m,(a:Int),())=some (Rx f w m a):=by
 show aM Rf.pre Rf.F Oz.pre Oz.F f w m a=_
 unfold aM Rx
 have p0:=aLa f w m ha
 by_cases he:Gx f w m a≠0
 ·have:(Gx f w m a != 0)=true:=bne_iff_ne.2 he
  rw [if_pos he]
  simp only [aEG p0,zX p0,cond_true,this]
 have he:Gx f w m a=0:=Classical.not_not.1 he
 rw [if_neg (show ¬ Gx f w m a≠0 from fun h=>h he)]
 rw [he] at p0
 unfold Gx at he
 by_cases h1:Fm f/\Fm w
 ·rw [if_neg (fun h=>h h1)] at he
  by_cases h2:m<0∨m>5
  ·rw [if_pos h2] at he; cases he
  ·rw [if_neg h2] at he
   have p1:=aKY h1.2 (m:=m) (by omega) he
   simp only [aEG p0,zX p0,cond_true,bne_self_eq_false,cond_false,aTf p1,aMl p1]
   cases nan f a <;> cases Au f a <;> cases AN f a <;> rfl
 ·rw [if_pos h1] at he; cases he
def MN (f:Int) (a b:Nat):Int×Int×Unit:=if Am f a≠0 then (0,Am f a,()) else if Am f b≠0 then (0,Am f b,()) else ((Gb f (sF f b) (Bx f a):Int),0,())
theorem aQL (f:Int) {a b:Nat} (ha:a<2^64) (hb:b<2^64):XR (f,(a:Int),(b:Int),())=some (MN f a b):=by
 show bD Ar.pre Ar.F Dq.pre Dq.F f a b=_
 unfold bD MN
 have p0:=Eq f a ha
 have p1:=Eq f b hb
 by_cases h1:Am f a≠0
 ·have:(Am f a != 0)=true:=bne_iff_ne.2 h1
  rw [if_pos h1]
  simp only [DC p0,DD p0,cond_true,this]
 rw [if_neg h1]
 have h1:Am f a=0:=Classical.not_not.1 h1
 rw [h1] at p0
 by_cases h2:Am f b≠0
 ·have:(Am f b != 0)=true:=bne_iff_ne.2 h2
  rw [if_pos h2]
  simp only [DC p0,DD p0,cond_true,bne_self_eq_false,cond_false,DC p1,DD p1,this]
 rw [if_neg h2]
 have h2:Am f b=0:=Classical.not_not.1 h2
 rw [h2] at p1
 obtain ⟨hf,l1⟩:=CR h1
 obtain ⟨_,l2⟩:=CR h2
 have p2:=v7 hf
 have hW:=Ei hf
 have hW8:16<=fW f:=by rcases C4 hf with rfl | rfl | rfl | rfl <;> decide
 have hpw:2^fW f=2^(fW f-1)*2:=by rw [← Nat.pow_succ,show (fW f-1).succ=fW f by omega]
 have hle:2^(fW f-1)<=2^63:=Nat.pow_le_pow_right (by decide) (by omega)
 have e1:Sm .u64 (a:Int) ((2^(fW f-1):Nat):Int)=((Bx f a:Nat):Int):=aFE (by omega) (by rw [show fW f-1+1=fW f by omega]; exact l1)
 have e2:AQ .u64 (b:Int) ((2^(fW f-1):Nat):Int)=(((bif sF f b then 1 else 0)*2^(fW f-1):Nat):Int):=by
  rw [aB3 hb (by omega)]
  congr 1
  have hd:b/2^(fW f-1)<2:=Nat.div_lt_of_lt_mul (by omega)
  have ht:b.testBit (fW f-1)=sF f b:=by
   unfold sF
   rw [Nat.testBit_eq_decide_div_mod_eq]
   generalize b/2^(fW f-1)=q at *
   rcases (show q=0∨q=1 by omega) with h | h <;> rw [h] <;> rfl
  apply Nat.eq_of_testBit_eq
  intro i
  rw [Nat.testBit_and,Nat.testBit_two_pow]
  cases hs:sF f b
  ·rw [cond_false,Nat.zero_mul,Nat.zero_testBit]
   by_cases h:fW f-1=i
   ·rw [← h,ht,hs]; rfl
   ·rw [decide_eq_false h,Bool.and_false]
  ·rw [cond_true,Nat.one_mul,Nat.testBit_two_pow]
   by_cases h:fW f-1=i
   ·rw [← h,ht,hs]; rfl
   ·rw [decide_eq_false h,Bool.and_false]
 simp only [DC p0,DD p0,DC p1,DD p1,cond_true,bne_self_eq_false,cond_false,t5 p2,m7 p2,e1,e2]
 have hab:Bx f a<2^(fW f-1):=Nat.mod_lt _ (Nat.two_pow_pos _)
 have e3:AW .u64 ((Bx f a:Nat):Int) (((bif sF f b then 1 else 0)*2^(fW f-1):Nat):Int)=((Gb f (sF f b) (Bx f a):Nat):Int):=by
  rw [FJ hab (by cases sF f b <;> simp <;> omega)]
  congr 1
  unfold Gb
  cases sF f b <;> simp
 rw [e3]
end VL
namespace VL
open Go Vx
def iJ (f:Int) (a:Nat):Int×Int×Int×Unit:=if Am f a=0 then (IntKind.wrap .u64 (Av f a),0,0,()) else (0,0,Am f a,())
def HJ (f:Int) (a:Nat):Int×Int×Int×Unit:=if Am f a=0 then ((Ib f a:Int),0,0,()) else (0,0,Am f a,())
def Hi (f:Int) (a:Nat):Int×Int×Int×Unit:=((D6.F (f,(a:Int),())).1,0,(D6.F (f,(a:Int),())).2.1,())
def E0 (m op f:Int) (a b c:Nat):Int×Int×Int×Unit :=
 if op=1 then NU f m a b else if op=2 then g9 f m a b else if op=3 then RX f m a b else if op=4 then KN f m a b
 else if op=5 then Qi f m a else if op=6 then Pn f m a b c
 else if op=7 then ((Gm f a b true).1,(Gm f a b true).2.2) else if op=8 then ((Gm f a b false).1,(Gm f a b false).2.2)
 else if op=9 then Ng f m a true else if op=10 then Rx f (IntKind.wrap .i64 (c:Int)) m a
 else if op=11 then PZ f m (IntKind.wrap .i64 (c:Int)) a else if op=12 then Pp f m (IntKind.wrap .i64 (c:Int)) a
 else if op=13 then Ow f a b false else if op=14 then Ow f a b true
 else if op=15 then (IntKind.wrap .u64 (FG f a b false).1,(FG f a b false).2) else if op=16 then (IntKind.wrap .u64 (FG f a b true).1,(FG f a b true).2)
 else if op=17 then U9 f a 1 else if op=18 then Rh f m a (IntKind.wrap .i64 (b:Int))
 else if op=19 then iJ f a else if op=20 then HJ f a else if op=21 then Hi f a
 else if op=22 then ((MN f a b).1,0,(MN f a b).2) else (0,0,0,())
abbrev TM:=Aa (.pair (.int .i64) (.pair (.int .i64) (.pair (.int .u64) (.pair (.int .u64) (.pair (.int .u64) .unit)))))
def C3 (w:Option (Nat×List Nat)) (k:TM) (y:DenS D7):Prop:=JS.pre w (k,())=true/\JS.F w (k,())=y
theorem Dk {w:Option (Nat×List Nat)} {k:TM} {y:DenS D7} {p:Bool} {v:DenS D7} (h1:JS.pre w (k,())=p) (h2:JS.F w (k,())=v) (h3:p=true) (h4:v=y):C3 w k y:=⟨h1.trans h3,h2.trans h4⟩
theorem Dg {op:Int} (h1:1<=op) (h2:op<=22) {n:Int} {w:Option (Nat×List Nat)} (h:(Gj.F ()).1.getD op.toNat ((0:Int),none,())=(n,w,())):Ot (op,())=some ((n,w,()),0,()):=by
 show Vh Gj.pre Gj.F op=_
 unfold Vh
 have hp:Gj.pre ()=true:=by kernel_rfl
 have hl:(Gj.F ()).1.length=23:=by kernel_rfl
 rw [hp,hl,h,decide_eq_false (show ¬ op<1 by omega),decide_eq_false (show ¬ op>=((23:Nat):Int) by omega),decide_eq_true (show (0:Int)<=op by omega),decide_eq_true (show op<((23:Nat):Int) by omega)]
 rfl
theorem aTz {op:Int} (h:op<1∨op>22):Ot (op,())=some (((0:Int),none,()),190,()):=by
 show Vh Gj.pre Gj.F op=_
 unfold Vh
 have hp:Gj.pre ()=true:=by kernel_rfl
 have hl:(Gj.F ()).1.length=23:=by kernel_rfl
 have:(decide (op<1)||decide (op>=((23:Nat):Int)))=true:=by rw [Bool.or_eq_true,decide_eq_true_eq,decide_eq_true_eq]; omega
 rw [hp,hl,this]
 rfl
theorem jH {g:Nat} {k:TM} {p:Bool} {y:DenS MG} (h1:Q0.pre (some (g,[])) (k.2.1,k.1,k.2.2.1,k.2.2.2.1,())=p) (h2:Q0.F (some (g,[])) (k.2.1,k.1,k.2.2.1,k.2.2.2.1,())=y) (h3:p=true):ZW (k,g,())=some y:=by
 show bQ Q0.pre Q0.F k g=_
 unfold bQ
 dsimp only
 rw [h1,h2,h3]; rfl
theorem yE {g:Nat} {k:TM} {p:Bool} {y:DenS KG} (h1:Qz.pre (some (g,[])) (k.2.1,k.2.2.1,k.2.2.2.1,())=p) (h2:Qz.F (some (g,[])) (k.2.1,k.2.2.1,k.2.2.2.1,())=y) (h3:p=true):Wh (k,g,())=some y:=by
 show kJ Qz.pre Qz.F k g=_
 unfold kJ
 rw [h1,h2,h3]; rfl
theorem aHN {g:Nat} {k:TM} {p:Bool} {y:DenS iH} (h1:QK.pre (some (g,[])) (k.2.1,k.2.2.1,k.2.2.2.1,())=p) (h2:QK.F (some (g,[])) (k.2.1,k.2.2.1,k.2.2.2.1,())=y) (h3:p=true):ZK (k,g,())=some (y.1,y.2.2):=by
 show aR QK.pre QK.F k g=_
 unfold aR
 dsimp only
 rw [h1,h2,h3]; rfl
theorem aCE {g:Nat} {k:TM} {p:Bool} {y:DenS mD} (h1:OD.pre (some (g,[])) (k.2.1,k.2.2.1,())=p) (h2:OD.F (some (g,[])) (k.2.1,k.2.2.1,())=y) (h3:p=true):V1 (k,g,())=some (y.1,(0:Int),y.2):=by
 show jV OD.pre OD.F k g=_
 unfold jV
 dsimp only
 rw [h1,h2,h3]; rfl
theorem aOr (m f:Int) {a b:Nat} (ha:a<2^64) (hb:b<2^64) (c:Int) :
  C3 (some (255,[15+2])) (m,f,(a:Int),(b:Int),c,()) (NU f m a b)/\C3 (some (255,[16+2])) (m,f,(a:Int),(b:Int),c,()) (g9 f m a b) /\
  C3 (some (255,[17+2])) (m,f,(a:Int),(b:Int),c,()) (RX f m a b)/\C3 (some (255,[18+2])) (m,f,(a:Int),(b:Int),c,()) (KN f m a b):=by
 have p1:=pV f m ha hb
 have p2:=aP5 f m ha hb
 have p3:=aVb f m ha hb
 have p4:=aPA f m ha hb
 have q1:=jH (g:=15) (k:=(m,f,(a:Int),(b:Int),c,())) (p:=Fb.pre (f,m,(a:Int),(b:Int),())) (y:=Fb.F (f,m,(a:Int),(b:Int),())) (by kernel_rfl) (by kernel_rfl) (nI p1)
 have q2:=jH (g:=16) (k:=(m,f,(a:Int),(b:Int),c,())) (p:=Kh.pre (f,m,(a:Int),(b:Int),())) (y:=Kh.F (f,m,(a:Int),(b:Int),())) (by kernel_rfl) (by kernel_rfl) (aRI p2)
 have q3:=jH (g:=17) (k:=(m,f,(a:Int),(b:Int),c,())) (p:=MH.pre (f,m,(a:Int),(b:Int),())) (y:=MH.F (f,m,(a:Int),(b:Int),())) (by kernel_rfl) (by kernel_rfl) (aRg p3)
 have q4:=jH (g:=18) (k:=(m,f,(a:Int),(b:Int),c,())) (p:=Ks.pre (f,m,(a:Int),(b:Int),())) (y:=Ks.F (f,m,(a:Int),(b:Int),())) (by kernel_rfl) (by kernel_rfl) (aNn p4)
 rw [nN p1] at q1
 rw [aOA p2] at q2
 rw [aNi p3] at q3
 rw [aJy p4] at q4
 exact ⟨Dk (p:=Dp.pre ((m,f,(a:Int),(b:Int),c,()),15,())) (v:=Dp.F ((m,f,(a:Int),(b:Int),c,()),15,())) (by kernel_rfl) (by kernel_rfl) (lA q1) (lN q1),
  Dk (p:=Dp.pre ((m,f,(a:Int),(b:Int),c,()),16,())) (v:=Dp.F ((m,f,(a:Int),(b:Int),c,()),16,())) (by kernel_rfl) (by kernel_rfl) (lA q2) (lN q2),
  Dk (p:=Dp.pre ((m,f,(a:Int),(b:Int),c,()),17,())) (v:=Dp.F ((m,f,(a:Int),(b:Int),c,()),17,())) (by kernel_rfl) (by kernel_rfl) (lA q3) (lN q3),
  Dk (p:=Dp.pre ((m,f,(a:Int),(b:Int),c,()),18,())) (v:=Dp.F ((m,f,(a:Int),(b:Int),c,()),18,())) (by kernel_rfl) (by kernel_rfl) (lA q4) (lN q4)⟩
end VL
namespace VL
open Go Vx
theorem aU8:IntKind.wrap .u64 (0:Int)=0:=by decide
theorem aIN (m f:Int) {a b c:Nat} (ha:a<2^64) (hb:b<2^64) (hc:c<2^64):C3 (some (181,[])) (m,f,(a:Int),(b:Int),(c:Int),()) (Qi f m a):=by
 have p:=aNT f m ha
 have q:Zv ((m,f,(a:Int),(b:Int),(c:Int),()),())=some (Qi f m a):=by
  show lO M6.pre M6.F (m,f,(a:Int),(b:Int),(c:Int),())=_
  unfold lO
  dsimp only
  rw [aMr p,aTM p]; rfl
 exact Dk (p:=K6.pre ((m,f,(a:Int),(b:Int),(c:Int),()),())) (v:=K6.F ((m,f,(a:Int),(b:Int),(c:Int),()),())) (by kernel_rfl) (by kernel_rfl) (aPD q) (aNF q)
theorem aUT (m f:Int) {a b c:Nat} (ha:a<2^64) (hb:b<2^64) (hc:c<2^64):C3 (some (182,[])) (m,f,(a:Int),(b:Int),(c:Int),()) (Pn f m a b c):=by
 have p:=aNe f m ha hb hc
 have q:XF ((m,f,(a:Int),(b:Int),(c:Int),()),())=some (Pn f m a b c):=by
  show cT O4.pre O4.F (m,f,(a:Int),(b:Int),(c:Int),())=_
  unfold cT
  dsimp only
  rw [aOJ p,aU5 p]; rfl
 exact Dk (p:=LZ.pre ((m,f,(a:Int),(b:Int),(c:Int),()),())) (v:=LZ.F ((m,f,(a:Int),(b:Int),(c:Int),()),())) (by kernel_rfl) (by kernel_rfl) (aSk q) (aOT q)
theorem aPF (m f:Int) {a b c:Nat} (ha:a<2^64) (hb:b<2^64) (hc:c<2^64):C3 (some (184,[])) (m,f,(a:Int),(b:Int),(c:Int),()) (Ng f m a true):=by
 have p:=aQa f m ha true
 have q:WQ ((m,f,(a:Int),(b:Int),(c:Int),()),())=some (Ng f m a true):=by
  show iG PE.pre PE.F (m,f,(a:Int),(b:Int),(c:Int),())=_
  unfold iG
  dsimp only
  rw [aRZ p,aRe p]; rfl
 exact Dk (p:=KQ.pre ((m,f,(a:Int),(b:Int),(c:Int),()),())) (v:=KQ.F ((m,f,(a:Int),(b:Int),(c:Int),()),())) (by kernel_rfl) (by kernel_rfl) (aI4 q) (aS1 q)
theorem aLK (m f:Int) {a b c:Nat} (ha:a<2^64) (hb:b<2^64) (hc:c<2^64):C3 (some (185,[])) (m,f,(a:Int),(b:Int),(c:Int),()) (Rx f (IntKind.wrap .i64 (c:Int)) m a):=by
 have p:=aJt f (IntKind.wrap .i64 (c:Int)) m ha
 have q:Zm ((m,f,(a:Int),(b:Int),(c:Int),()),())=some (Rx f (IntKind.wrap .i64 (c:Int)) m a):=by
  show bF Qy.pre Qy.F (m,f,(a:Int),(b:Int),(c:Int),())=_
  unfold bF
  dsimp only
  rw [aQG p,aNX p]; rfl
 exact Dk (p:=Kc.pre ((m,f,(a:Int),(b:Int),(c:Int),()),())) (v:=Kc.F ((m,f,(a:Int),(b:Int),(c:Int),()),())) (by kernel_rfl) (by kernel_rfl) (aTs q) (aQM q)
theorem aOQ (m f:Int) {a b c:Nat} (ha:a<2^64) (hb:b<2^64) (hc:c<2^64):C3 (some (186,[])) (m,f,(a:Int),(b:Int),(c:Int),()) (PZ f m (IntKind.wrap .i64 (c:Int)) a):=by
 have p:=aQH f m (IntKind.wrap .i64 (c:Int)) ha
 have q:X5 ((m,f,(a:Int),(b:Int),(c:Int),()),())=some (PZ f m (IntKind.wrap .i64 (c:Int)) a):=by
  show dL Pl.pre Pl.F (m,f,(a:Int),(b:Int),(c:Int),())=_
  unfold dL
  dsimp only
  rw [aIQ p,aPK p]; rfl
 exact Dk (p:=Le.pre ((m,f,(a:Int),(b:Int),(c:Int),()),())) (v:=Le.F ((m,f,(a:Int),(b:Int),(c:Int),()),())) (by kernel_rfl) (by kernel_rfl) (aTD q) (aLB q)
theorem aK7 (m f:Int) {a b c:Nat} (ha:a<2^64) (hb:b<2^64) (hc:c<2^64):C3 (some (187,[])) (m,f,(a:Int),(b:Int),(c:Int),()) (Pp f m (IntKind.wrap .i64 (c:Int)) a):=by
 have p:=aLp f m (IntKind.wrap .i64 (c:Int)) ha
 have q:Zr ((m,f,(a:Int),(b:Int),(c:Int),()),())=some (Pp f m (IntKind.wrap .i64 (c:Int)) a):=by
  show gA PT.pre PT.F (m,f,(a:Int),(b:Int),(c:Int),())=_
  unfold gA
  dsimp only
  rw [aPe p,aOV p]; rfl
 exact Dk (p:=J3.pre ((m,f,(a:Int),(b:Int),(c:Int),()),())) (v:=J3.F ((m,f,(a:Int),(b:Int),(c:Int),()),())) (by kernel_rfl) (by kernel_rfl) (aLQ q) (aP4 q)
theorem aIE (m f:Int) {a b c:Nat} (ha:a<2^64) (hb:b<2^64) (hc:c<2^64):C3 (some (190,[])) (m,f,(a:Int),(b:Int),(c:Int),()) (U9 f a 1):=by
 have p:=aJq (f:=f) ha
 have q:Zj ((m,f,(a:Int),(b:Int),(c:Int),()),())=some (U9 f a 1):=by
  show lM MU.pre MU.F (m,f,(a:Int),(b:Int),(c:Int),())=_
  unfold lM
  dsimp only
  rw [aJY p,aSJ p]; rfl
 exact Dk (p:=KW.pre ((m,f,(a:Int),(b:Int),(c:Int),()),())) (v:=KW.F ((m,f,(a:Int),(b:Int),(c:Int),()),())) (by kernel_rfl) (by kernel_rfl) (aI8 q) (aQK q)
theorem aSZ (m f:Int) {a b c:Nat} (ha:a<2^64) (hb:b<2^64) (hc:c<2^64):C3 (some (191,[])) (m,f,(a:Int),(b:Int),(c:Int),()) (Rh f m a (IntKind.wrap .i64 (b:Int))):=by
 have p:=aUo f m ha (IntKind.wrap .i64 (b:Int))
 have q:X1 ((m,f,(a:Int),(b:Int),(c:Int),()),())=some (Rh f m a (IntKind.wrap .i64 (b:Int))):=by
  show eG QX.pre QX.F (m,f,(a:Int),(b:Int),(c:Int),())=_
  unfold eG
  dsimp only
  rw [aKB p,aIX p]; rfl
 exact Dk (p:=Mt.pre ((m,f,(a:Int),(b:Int),(c:Int),()),())) (v:=Mt.F ((m,f,(a:Int),(b:Int),(c:Int),()),())) (by kernel_rfl) (by kernel_rfl) (aO1 q) (aIn q)
theorem aLC (m f:Int) {a b c:Nat} (ha:a<2^64) (hb:b<2^64) (hc:c<2^64):C3 (some (194,[])) (m,f,(a:Int),(b:Int),(c:Int),()) (((MN f a b).1,0,(MN f a b).2)):=by
 have p:=aQL f ha hb
 have q:Wc ((m,f,(a:Int),(b:Int),(c:Int),()),())=some (((MN f a b).1,0,(MN f a b).2)):=by
  show dW N9.pre N9.F (m,f,(a:Int),(b:Int),(c:Int),())=_
  unfold dW
  dsimp only
  rw [aMD p,aNu p]; rfl
 exact Dk (p:=My.pre ((m,f,(a:Int),(b:Int),(c:Int),()),())) (v:=My.F ((m,f,(a:Int),(b:Int),(c:Int),()),())) (by kernel_rfl) (by kernel_rfl) (aIM q) (aJT q)
theorem aRT (m f:Int) {a b c:Nat} (ha:a<2^64) (hb:b<2^64) (hc:c<2^64):C3 (some (192,[])) (m,f,(a:Int),(b:Int),(c:Int),()) (iJ f a):=by
 have q:Wz ((m,f,(a:Int),(b:Int),(c:Int),()),())=some (iJ f a):=by
  show i6 AF.pre AF.F (m,f,(a:Int),(b:Int),(c:Int),())=_
  unfold i6 iJ
  dsimp only
  by_cases h:Am f a=0
  ·have p:=F7 ha h
   rw [Du p,DA p,if_pos h]; rfl
  ·have p:=SU ha h
   rw [Du p,DA p,if_neg h,← aU8]; rfl
 exact Dk (p:=LB.pre ((m,f,(a:Int),(b:Int),(c:Int),()),())) (v:=LB.F ((m,f,(a:Int),(b:Int),(c:Int),()),())) (by kernel_rfl) (by kernel_rfl) (aSg q) (aL6 q)
theorem aUr {f:Int} {a:Nat} (ha:a<2^64):Sp (f,(a:Int),())=some ((HJ f a).1,(HJ f a).2.2):=by
 unfold HJ
 by_cases h:Am f a=0
 ·rw [sL h,if_pos h]
 ·rw [aQs ha h,if_neg h]
theorem aJx {f:Int} {a:Nat} (ha:a<2^64):S4 (f,(a:Int),())=some ((Hi f a).1,(Hi f a).2.2):=by
 obtain ⟨v,p,_⟩:=aPr (f:=f) ha
 unfold Hi
 rw [wP p]
 exact p
theorem aPT (m f:Int) {a b c:Nat} (ha:a<2^64) (hb:b<2^64) (hc:c<2^64):C3 (some (259,[60+2])) (m,f,(a:Int),(b:Int),(c:Int),()) (HJ f a):=by
 have p:=aUr (f:=f) ha
 have q:=aCE (g:=60) (k:=(m,f,(a:Int),(b:Int),(c:Int),())) (p:=DN.pre (f,(a:Int),())) (y:=DN.F (f,(a:Int),())) (by kernel_rfl) (by kernel_rfl) (t7 p)
 rw [r7 p] at q
 have e:((((HJ f a).1,(HJ f a).2.2):Int×Int×Unit).1,(0:Int),(((HJ f a).1,(HJ f a).2.2):Int×Int×Unit).2)=HJ f a:=by unfold HJ; split <;> rfl
 rw [e] at q
 exact Dk (p:=FH.pre ((m,f,(a:Int),(b:Int),(c:Int),()),60,())) (v:=FH.F ((m,f,(a:Int),(b:Int),(c:Int),()),60,())) (by kernel_rfl) (by kernel_rfl) (aA1 q) (aBA q)
theorem aKp (m f:Int) {a b c:Nat} (ha:a<2^64) (hb:b<2^64) (hc:c<2^64):C3 (some (259,[147+2])) (m,f,(a:Int),(b:Int),(c:Int),()) (Hi f a):=by
 have p:=aJx (f:=f) ha
 have q:=aCE (g:=147) (k:=(m,f,(a:Int),(b:Int),(c:Int),())) (p:=D6.pre (f,(a:Int),())) (y:=D6.F (f,(a:Int),())) (by kernel_rfl) (by kernel_rfl) (aHr p)
 rw [wP p] at q
 have e:((((Hi f a).1,(Hi f a).2.2):Int×Int×Unit).1,(0:Int),(((Hi f a).1,(Hi f a).2.2):Int×Int×Unit).2)=Hi f a:=by unfold Hi; rfl
 rw [e] at q
 exact Dk (p:=FH.pre ((m,f,(a:Int),(b:Int),(c:Int),()),147,())) (v:=FH.F ((m,f,(a:Int),(b:Int),(c:Int),()),147,())) (by kernel_rfl) (by kernel_rfl) (aA1 q) (aBA q)
theorem aLH (m f:Int) {a b c:Nat} (ha:a<2^64) (hb:b<2^64) (hc:c<2^64):C3 (some (257,[97+2])) (m,f,(a:Int),(b:Int),(c:Int),()) (Ow f a b false):=by
 have p:=aTj (f:=f) ha hb
 have q:=yE (g:=97) (k:=(m,f,(a:Int),(b:Int),(c:Int),())) (p:=LU.pre (f,(a:Int),(b:Int),())) (y:=LU.F (f,(a:Int),(b:Int),())) (by kernel_rfl) (by kernel_rfl) (aHV p)
 rw [aQf p] at q
 exact Dk (p:=Fg.pre ((m,f,(a:Int),(b:Int),(c:Int),()),97,())) (v:=Fg.F ((m,f,(a:Int),(b:Int),(c:Int),()),97,())) (by kernel_rfl) (by kernel_rfl) (aDz q) (aBs q)
theorem aO8 (m f:Int) {a b c:Nat} (ha:a<2^64) (hb:b<2^64) (hc:c<2^64):C3 (some (257,[98+2])) (m,f,(a:Int),(b:Int),(c:Int),()) (Ow f a b true):=by
 have p:=aMz (f:=f) ha hb
 have q:=yE (g:=98) (k:=(m,f,(a:Int),(b:Int),(c:Int),())) (p:=LJ.pre (f,(a:Int),(b:Int),())) (y:=LJ.F (f,(a:Int),(b:Int),())) (by kernel_rfl) (by kernel_rfl) (aQm p)
 rw [aSy p] at q
 exact Dk (p:=Fg.pre ((m,f,(a:Int),(b:Int),(c:Int),()),98,())) (v:=Fg.F ((m,f,(a:Int),(b:Int),(c:Int),()),98,())) (by kernel_rfl) (by kernel_rfl) (aDz q) (aBs q)
theorem aQP (m f:Int) {a b c:Nat} (ha:a<2^64) (hb:b<2^64) (hc:c<2^64):C3 (some (256,[94+2])) (m,f,(a:Int),(b:Int),(c:Int),()) ((Gm f a b true).1,(Gm f a b true).2.2):=by
 have p:=aRp f ha hb
 have q:=aHN (g:=94) (k:=(m,f,(a:Int),(b:Int),(c:Int),())) (p:=L8.pre (f,(a:Int),(b:Int),())) (y:=L8.F (f,(a:Int),(b:Int),())) (by kernel_rfl) (by kernel_rfl) (aOe p)
 rw [aJf p] at q
 exact Dk (p:=Fp.pre ((m,f,(a:Int),(b:Int),(c:Int),()),94,())) (v:=Fp.F ((m,f,(a:Int),(b:Int),(c:Int),()),94,())) (by kernel_rfl) (by kernel_rfl) (aBd q) (aBI q)
theorem aRx (m f:Int) {a b c:Nat} (ha:a<2^64) (hb:b<2^64) (hc:c<2^64):C3 (some (256,[95+2])) (m,f,(a:Int),(b:Int),(c:Int),()) ((Gm f a b false).1,(Gm f a b false).2.2):=by
 have p:=aUA f ha hb
 have q:=aHN (g:=95) (k:=(m,f,(a:Int),(b:Int),(c:Int),())) (p:=K7.pre (f,(a:Int),(b:Int),())) (y:=K7.F (f,(a:Int),(b:Int),())) (by kernel_rfl) (by kernel_rfl) (aL7 p)
 rw [aP3 p] at q
 exact Dk (p:=Fp.pre ((m,f,(a:Int),(b:Int),(c:Int),()),95,())) (v:=Fp.F ((m,f,(a:Int),(b:Int),(c:Int),()),95,())) (by kernel_rfl) (by kernel_rfl) (aBd q) (aBI q)
theorem aNw (m f:Int) {a b c:Nat} (ha:a<2^64) (hb:b<2^64) (hc:c<2^64):C3 (some (258,[0])) (m,f,(a:Int),(b:Int),(c:Int),()) ((IntKind.wrap .u64 (FG f a b false).1,(FG f a b false).2)):=by
 have p:=aEA (f:=f) ha hb false
 have q:UT ((m,f,(a:Int),(b:Int),(c:Int),()),false,())=some ((IntKind.wrap .u64 (FG f a b false).1,(FG f a b false).2)):=by
  show Tx JB.pre JB.F (m,f,(a:Int),(b:Int),(c:Int),()) false=_
  unfold Tx
  dsimp only
  rw [aG8 p,aDh p]; rfl
 exact Dk (p:=FM.pre ((m,f,(a:Int),(b:Int),(c:Int),()),false,())) (v:=FM.F ((m,f,(a:Int),(b:Int),(c:Int),()),false,())) (by kernel_rfl) (by kernel_rfl) (aGI q) (aDT q)
theorem aTp (m f:Int) {a b c:Nat} (ha:a<2^64) (hb:b<2^64) (hc:c<2^64):C3 (some (258,[1])) (m,f,(a:Int),(b:Int),(c:Int),()) ((IntKind.wrap .u64 (FG f a b true).1,(FG f a b true).2)):=by
 have p:=aEA (f:=f) ha hb true
 have q:UT ((m,f,(a:Int),(b:Int),(c:Int),()),true,())=some ((IntKind.wrap .u64 (FG f a b true).1,(FG f a b true).2)):=by
  show Tx JB.pre JB.F (m,f,(a:Int),(b:Int),(c:Int),()) true=_
  unfold Tx
  dsimp only
  rw [aG8 p,aDh p]; rfl
 exact Dk (p:=FM.pre ((m,f,(a:Int),(b:Int),(c:Int),()),true,())) (v:=FM.F ((m,f,(a:Int),(b:Int),(c:Int),()),true,())) (by kernel_rfl) (by kernel_rfl) (aGI q) (aDT q)
theorem aOb (m f:Int) {op:Int} (h1:1<=op) (h2:op<=22) {a b c:Nat} (ha:a<2^64) (hb:b<2^64) (hc:c<2^64) :
  ∃ n w,Ot (op,())=some ((n,w,()),0,())/\0<=n/\n<=3/\C3 w (m,f,(a:Int),(b:Int),(c:Int),()) (E0 m op f a b c):=by
 obtain ⟨w1,w2,w3,w4⟩:=aOr m f ha hb (c:Int)
 have hop:op=1∨op=2∨op=3∨op=4∨op=5∨op=6∨op=7∨op=8∨op=9∨op=10∨op=11∨op=12∨op=13∨op=14∨op=15∨op=16∨op=17∨op=18∨op=19∨op=20∨op=21∨op=22:=by omega
 rcases hop with rfl | rfl | rfl | rfl | rfl | rfl | rfl | rfl | rfl | rfl | rfl | rfl | rfl | rfl | rfl | rfl | rfl | rfl | rfl | rfl | rfl | rfl
 ·exact ⟨2,some (255,[15+2]),Dg (by decide) (by decide) (by kernel_rfl),by decide,by decide,w1⟩
 ·exact ⟨2,some (255,[16+2]),Dg (by decide) (by decide) (by kernel_rfl),by decide,by decide,w2⟩
 ·exact ⟨2,some (255,[17+2]),Dg (by decide) (by decide) (by kernel_rfl),by decide,by decide,w3⟩
 ·exact ⟨2,some (255,[18+2]),Dg (by decide) (by decide) (by kernel_rfl),by decide,by decide,w4⟩
 ·exact ⟨1,some (181,[]),Dg (by decide) (by decide) (by kernel_rfl),by decide,by decide,aIN m f ha hb hc⟩
 ·exact ⟨3,some (182,[]),Dg (by decide) (by decide) (by kernel_rfl),by decide,by decide,aUT m f ha hb hc⟩
 ·exact ⟨2,some (256,[94+2]),Dg (by decide) (by decide) (by kernel_rfl),by decide,by decide,aQP m f ha hb hc⟩
 ·exact ⟨2,some (256,[95+2]),Dg (by decide) (by decide) (by kernel_rfl),by decide,by decide,aRx m f ha hb hc⟩
 ·exact ⟨1,some (184,[]),Dg (by decide) (by decide) (by kernel_rfl),by decide,by decide,aPF m f ha hb hc⟩
 ·exact ⟨1,some (185,[]),Dg (by decide) (by decide) (by kernel_rfl),by decide,by decide,aLK m f ha hb hc⟩
 ·exact ⟨1,some (186,[]),Dg (by decide) (by decide) (by kernel_rfl),by decide,by decide,aOQ m f ha hb hc⟩
 ·exact ⟨0,some (187,[]),Dg (by decide) (by decide) (by kernel_rfl),by decide,by decide,aK7 m f ha hb hc⟩
 ·exact ⟨2,some (257,[97+2]),Dg (by decide) (by decide) (by kernel_rfl),by decide,by decide,aLH m f ha hb hc⟩
 ·exact ⟨2,some (257,[98+2]),Dg (by decide) (by decide) (by kernel_rfl),by decide,by decide,aO8 m f ha hb hc⟩
 ·exact ⟨2,some (258,[0]),Dg (by decide) (by decide) (by kernel_rfl),by decide,by decide,aNw m f ha hb hc⟩
 ·exact ⟨2,some (258,[1]),Dg (by decide) (by decide) (by kernel_rfl),by decide,by decide,aTp m f ha hb hc⟩
 ·exact ⟨1,some (190,[]),Dg (by decide) (by decide) (by kernel_rfl),by decide,by decide,aIE m f ha hb hc⟩
 ·exact ⟨1,some (191,[]),Dg (by decide) (by decide) (by kernel_rfl),by decide,by decide,aSZ m f ha hb hc⟩
 ·exact ⟨1,some (192,[]),Dg (by decide) (by decide) (by kernel_rfl),by decide,by decide,aRT m f ha hb hc⟩
 ·exact ⟨1,some (259,[60+2]),Dg (by decide) (by decide) (by kernel_rfl),by decide,by decide,aPT m f ha hb hc⟩
 ·exact ⟨1,some (259,[147+2]),Dg (by decide) (by decide) (by kernel_rfl),by decide,by decide,aKp m f ha hb hc⟩
 ·exact ⟨2,some (194,[]),Dg (by decide) (by decide) (by kernel_rfl),by decide,by decide,aLC m f ha hb hc⟩
end VL
namespace VL
open Go Vx
def C5 (x:Int):Bool:=Sm .i64 x 31==0
def Di (v:Int×Int×Int×Unit):Int:=if v.1<0∨v.1>5 then 3 else if (C5 v.2.1&&C5 v.2.2.1)=true then 0 else 7
theorem aF3 (x:Int):Tr (x,())=some (C5 x,()):=rfl
theorem aKz (v:Int×Int×Int×Unit):Uc (v,())=some (Di v,()):=by
 show bX N2.pre N2.F v=_
 unfold bX Di
 have p:=aF3 v.2.1
 have q:Tr v.2.2=some (C5 v.2.2.1,()):=aF3 v.2.2.1
 rw [aAU p,aBc p,aAU q,aBc q]
 by_cases h:v.1<0∨v.1>5
 ·have:(decide (v.1<0)||decide (v.1>5))=true:=by rw [Bool.or_eq_true,decide_eq_true_eq,decide_eq_true_eq]; exact h
  rw [this,if_pos h]; rfl
 ·have:(decide (v.1<0)||decide (v.1>5))=false:=by
   rw [decide_eq_false (show ¬ v.1<0 by omega),decide_eq_false (show ¬ v.1>5 by omega)]; rfl
  rw [this,if_neg h]
  cases C5 v.2.1 <;> cases C5 v.2.2.1 <;> rfl
def G7 (f:Int):List Nat->Int
 | []=>0
 | a::l=>if Am f a≠0 then Am f a else G7 f l
abbrev R5:=Int×Int×Int×Int×Int×Unit
theorem aRw (R:R5) (op:Int) (l:List Nat) (hl:∀ a∈l,a<2^64) (hlen:l.length<1000) :
  k8 (((l.length:Int),Wd l,(0:Int),op,(),()),(),R,())=some (if G7 R.2.1 l=0 then .inl ((op,(),()),(),R,()) else .inr ((G7 R.2.1 l,()),())):=by
 have key:=Do (zD Aq.pre Aq.F Ar.pre Ar.F) (fun x=>l.length-x.1.2.2.1.toNat)
  (fun x=>∃ i:Nat,i<=l.length/\G7 R.2.1 (l.drop i)=G7 R.2.1 l/\x=(((l.length:Int),Wd l,(i:Int),op,(),()),(),R,()))
  (fun _=>if G7 R.2.1 l=0 then .inl ((op,(),()),(),R,()) else .inr ((G7 R.2.1 l,()),())) ?_ _ ⟨0,Nat.zero_le _,rfl,rfl⟩
 ·exact key
 intro L x hx hL
 obtain ⟨i,hi,hok,rfl⟩:=hx
 unfold VW
 rcases Nat.lt_or_ge i l.length with hlt | hge
 ·have hg:l.getD i 0=l[i]:=by simp [List.getD_eq_getElem?_getD,hlt]
  have ha:=hl _ (List.getElem_mem hlt)
  have p0:=Eq R.2.1 l[i] ha
  have e0:decide ((i:Int)<(l.length:Int))=true:=decide_eq_true (by omega)
  have e1:(decide ((0:Int)<=(i:Int))&&decide ((i:Int)<((Wd l).length:Int)))=true:=by rw [AA,decide_eq_true (by omega),decide_eq_true (by omega)]; rfl
  have e2:(Wd l).getD (Int.toNat (i:Int)) 0=((l[i]:Nat):Int):=by rw [Int.toNat_natCast,Cc,hg]
  have e3:IntKind.wrap .i64 ((i:Int)+1)=((i+1:Nat):Int):=by rw [As (by omega)]; omega
  rw [List.drop_eq_getElem_cons hlt,G7] at hok
  dsimp only
  simp only [e0,e1,e2,e3,cond_true,DC p0,DD p0]
  by_cases hc:Am R.2.1 l[i]=0
  ·rw [if_neg (fun h=>h hc)] at hok
   rw [hc,bne_self_eq_false,cond_false]
   exact hL _ ⟨i+1,by omega,hok,rfl⟩ (by simp only [Int.toNat_natCast]; omega)
  ·rw [if_pos hc] at hok
   have:(Am R.2.1 l[i] != 0)=true:=by rw [bne_iff_ne]; exact hc
   rw [this,← hok,if_neg hc]; rfl
 ·have e:i=l.length:=by omega
  subst e
  rw [List.drop_length] at hok
  have e0:decide ((l.length:Int)<(l.length:Int))=false:=decide_eq_false (by omega)
  simp only [e0,cond_false]
  rw [← hok]; rfl
def oI (a c:Int):Bool:=(((IntKind.wrap .i64 c)==0)&&((IntKind.wrap .u64 (IntKind.wrap .i64 (IntKind.wrap .i32 a))) != a))||(((IntKind.wrap .i64 c)==2)&&((AI .u64 a 32) != 0))
def Je (f op:Int) (n a b c:Nat):Int :=
 if ¬ Fm f then 2 else if op=10/\c>3 then 2 else if (op=11∨op=12)/\c>3 then 9
 else if G7 f ([a,b,c].take n)≠0 then G7 f ([a,b,c].take n) else if (op==12&&oI a c)=true then 4 else 0
theorem aGE (op:Int) (c:Nat) {d:Bool} (hd:d=decide ((c:Int)>3)) (t:Int) (v:Option (Int×Unit)) (hv:v=some (t,())) :
  (bif op==10 then (bif d then some (2,()) else v) else bif op==11 then (bif op==11 then (bif d then some (9,()) else v) else v) else bif op==12 then (bif d then some (9,()) else v) else v) =
  some (if op=10/\c>3 then 2 else if (op=11∨op=12)/\c>3 then 9 else t,()):=by
 rw [hd,hv]
 by_cases h:c>3
 ·rw [decide_eq_true (show (c:Int)>3 by omega)]
  by_cases h1:op=10
  ·subst h1; rw [if_pos ⟨rfl,h⟩]; rfl
  ·rw [beq_false_of_ne h1,if_neg (fun x=>h1 x.1)]
   by_cases h2:op=11
   ·subst h2; rw [if_pos ⟨.inl rfl,h⟩]; rfl
   ·by_cases h3:op=12
    ·subst h3; rw [if_pos ⟨.inr rfl,h⟩]; rfl
    ·rw [beq_false_of_ne h2,beq_false_of_ne h3,if_neg (fun x=>x.1.elim h2 h3)]; rfl
 ·rw [decide_eq_false (show ¬ (c:Int)>3 by omega),if_neg (fun x=>h x.2),if_neg (fun x=>h x.2)]
  cases op==10 <;> cases op==11 <;> cases op==12 <;> rfl
theorem aK9 (m f op:Int) (w:Option (Nat×List Nat)) {n a b c:Nat} (hn:n<=3) (ha:a<2^64) (hb:b<2^64) (hc:c<2^64) :
  Xp (op,((n:Int),w,()),(m,f,(a:Int),(b:Int),(c:Int),()),())=some (Je f op n a b c,()):=by
 show bT Aq.pre Aq.F Ar.pre Ar.F k8 op ((n:Int),w,()) (m,f,(a:Int),(b:Int),(c:Int),())=_
 have e3:((((a:Int)::((b:Int)::((c:Int)::[]))).take (Int.toNat (n:Int))).drop (Int.toNat (0:Int)))=Wd ([a,b,c].take n):=by
  have:n=0∨n=1∨n=2∨n=3:=by omega
  rcases this with rfl | rfl | rfl | rfl <;> rfl
 have e2:((decide ((0:Int)<=(n:Int)))&&(decide ((n:Int)<=((((a:Int)::((b:Int)::((c:Int)::[]))).length:Nat):Int))))=true:=by
  rw [decide_eq_true (show (0:Int)<=(n:Int) by omega),decide_eq_true (show ((n:Int)<=((((a:Int)::((b:Int)::((c:Int)::[]))).length:Nat):Int)) from by show (n:Int)<=3; omega)]; rfl
 have hW:=aRw (m,f,(a:Int),(b:Int),(c:Int),()) op ([a,b,c].take n) (by intro x hx; have:=List.mem_of_mem_take hx; simp at this; omega) (by rw [List.length_take]; show min n 3<1000; omega)
 unfold bT Je
 dsimp only
 by_cases hA:G7 f ([a,b,c].take n)=0
 ·rw [if_pos hA] at hW
  rw [e3,e2,AA,hW]
  by_cases hf:Fm f
  ·have p0:=Fd hf
   rw [Dh p0,C8 p0,if_neg (show ¬ ¬ Fm f from fun h=>h hf)]
   refine aGE op c rfl _ (bif op==12 then (bif oI a c then some (4,()) else some (0,())) else some (0,())) ?_
   rw [if_neg (fun h=>h hA)]
   cases op==12 <;> cases oI (a:Int) c <;> rfl
  ·have p0:=GO hf
   rw [Dh p0,C8 p0,if_pos hf]; rfl
 ·rw [if_neg hA] at hW
  rw [e3,e2,AA,hW]
  by_cases hf:Fm f
  ·have p0:=Fd hf
   rw [Dh p0,C8 p0,if_neg (show ¬ ¬ Fm f from fun h=>h hf)]
   refine aGE op c rfl _ (some (G7 f ([a,b,c].take n),())) ?_
   rw [if_pos hA]
  ·have p0:=GO hf
   rw [Dh p0,C8 p0,if_pos hf]; rfl
def Pt (op:Int):Nat:=(Mx.F (op,())).1.1.toNat
def BD (v:Int×Int×Int×Unit) (op f:Int) (a b c:Nat):Int :=
 if Di v≠0 then Di v else if op<1∨op>22 then 190
 else if Je f op (Pt op) a b c≠0 then Je f op (Pt op) a b c else (E0 v.1 op f a b c).2.2.1
abbrev uW:=Int×Int×Int×(Int×Int×Int×Unit)×Unit
def aAw:uW:=(0,0,0,(0,0,0,()),())
def Kr (v:Int×Int×Int×Unit) (y:Int×Int×Int×Unit):uW :=
 if AQ .i64 y.2.1 v.2.2.1≠0 then (0,y.2.1,AQ .i64 (AQ .i64 y.2.1 v.2.2.1) (IntKind.wrap .i64 (0-AQ .i64 y.2.1 v.2.2.1)),v,())
 else (y.1,y.2.1,0,(v.1,AW .i64 v.2.1 y.2.1,v.2.2),())
def IJ (v:Int×Int×Int×Unit) (op f:Int) (a b c:Nat):uW×Int×Unit :=
 if BD v op f a b c≠0 then (aAw,BD v op f a b c,()) else (Kr v (E0 v.1 op f a b c),0,())
theorem Zo (v:Int×Int×Int×Unit) (op f:Int) {a b c:Nat} (ha:a<2^64) (hb:b<2^64) (hc:c<2^64) :
  R0 (v,op,f,(a:Int),(b:Int),(c:Int),())=some (IJ v op f a b c):=by
 show lF OX.pre OX.F Mx.pre Mx.F P2.pre P2.F JS.pre JS.F v op f a b c=_
 unfold lF IJ
 dsimp only
 have p0:Uc ((v.1,v.2),())=some (Di v,()):=aKz v
 rw [aRH p0,aRi p0,cond_true]
 by_cases hg:Di v=0
 ·have hz:((Di v:Int) != 0)=false:=by rw [hg]; rfl
  rw [hz,cond_false]
  by_cases ho:op<1∨op>22
  ·have p1:=aTz ho
   have he:BD v op f a b c=190:=by unfold BD; rw [if_neg (fun h=>h hg),if_pos ho]
   rw [aDU p1,gM p1,he]; rfl
  ·obtain ⟨n,w,p1,hn0,hn3,hd1,hd2⟩:=aOb v.1 f (op:=op) (by omega) (by omega) ha hb hc
   obtain ⟨k,rfl⟩:=Int.eq_ofNat_of_zero_le hn0
   have hk:Pt op=k:=by unfold Pt; rw [gM p1]; rfl
   have p2:=aK9 v.1 f op w (n:=k) (Int.ofNat_le.1 hn3) ha hb hc
   have he:BD v op f a b c=if Je f op k a b c≠0 then Je f op k a b c else (E0 v.1 op f a b c).2.2.1:=by
    unfold BD; rw [if_neg (fun h=>h hg),if_neg ho,hk]
   rw [he,aDU p1,gM p1,cond_true]
   dsimp only
   rw [bne_self_eq_false,cond_false,aIY p2,aQ5 p2,cond_true]
   dsimp only
   by_cases hc0:Je f op k a b c=0
   ·rw [hc0,bne_self_eq_false,cond_false,hd1,hd2,cond_true,if_neg (show ¬ ((0:Int)≠0) by decide)]
    by_cases hr:(E0 v.1 op f a b c).2.2.1=0
    ·rw [hr,bne_self_eq_false,cond_false,if_neg (show ¬ ((0:Int)≠0) by decide)]
     unfold Kr
     by_cases ht:AQ .i64 (E0 v.1 op f a b c).2.1 v.2.2.1=0
     ·rw [ht,bne_self_eq_false,cond_false,if_neg (show ¬ ((0:Int)≠0) by decide)]
     ·rw [if_pos ht,bne_iff_ne.2 ht]; rfl
    ·rw [if_pos hr,bne_iff_ne.2 hr]; rfl
   ·rw [if_pos hc0,if_pos hc0,bne_iff_ne.2 hc0]; rfl
 ·have he:BD v op f a b c=Di v:=by unfold BD; rw [if_pos hg]
  rw [he,if_pos hg,bne_iff_ne.2 hg]; rfl
theorem aMj:BD (0,0,2,()) 4 0 15360 0 7=0:=by
 have p:Ot (4,())=some (((2:Int),some (255,[18+2]),()),0,()):=Dg (by decide) (by decide) (by kernel_rfl)
 have h:Pt 4=2:=by unfold Pt; rw [gM p]; rfl
 unfold BD
 rw [h]
 show _=(0:Int)
 kernel_rfl
theorem aUF:E0 0 4 0 15360 0 7=(KN 0 0 15360 0):=by kernel_rfl
theorem aUd:KN 0 0 15360 0=(31744,2,0,()):=by kernel_rfl
theorem aAb:Zx ()=some (true,()):=by
 show iK Ec.pre Ec.F=_
 unfold iK
 have p:R0 ((0,0,2,()),4,0,15360,0,7,())=_:=Zo (0,0,2,()) 4 0 (a:=15360) (b:=0) (c:=7) (by decide) (by decide) (by decide)
 dsimp only
 rw [X9 p,Xb p,cond_true]
 unfold IJ
 rw [aMj,aUF,aUd]
 rfl
end VL
namespace VL
open Go Vx
theorem aS9 (x:Int):AQ .i64 x 0=0:=by
 unfold AQ
 rw [show BitVec.ofInt IntKind.i64.bits 0=0#_ from rfl,BitVec.and_zero]
 rfl
theorem lQ {v:Int×Int×Int×Unit} {op f:Int} {a b c:Nat} (h:BD v op f a b c≠0):IJ v op f a b c=(aAw,BD v op f a b c,()):=by unfold IJ; rw [if_pos h]
theorem aW {v:Int×Int×Int×Unit} {op f:Int} {a b c:Nat} (h:BD v op f a b c=0):IJ v op f a b c=(Kr v (E0 v.1 op f a b c),0,()):=by unfold IJ; rw [if_neg (fun x=>x h)]
theorem sR (m fl:Int) (y:Int×Int×Int×Unit):Kr (m,fl,0,()) y=(y.1,y.2.1,0,(m,AW .i64 fl y.2.1,0,()),()):=by
 unfold Kr; dsimp only; rw [aS9,if_neg (fun h=>h rfl)]
theorem aOI {v:Int×Int×Int×Unit} {y:Int×Int×Int×Unit} (h:AQ .i64 y.2.1 v.2.2.1=0):Kr v y=(y.1,y.2.1,0,(v.1,AW .i64 v.2.1 y.2.1,v.2.2),()):=by
 unfold Kr; rw [if_neg (fun x=>x h)]
theorem aIs {v:Int×Int×Int×Unit} {y:Int×Int×Int×Unit} (h:AQ .i64 y.2.1 v.2.2.1≠0):Kr v y=(0,y.2.1,AQ .i64 (AQ .i64 y.2.1 v.2.2.1) (IntKind.wrap .i64 (0-AQ .i64 y.2.1 v.2.2.1)),v,()):=by
 unfold Kr; rw [if_pos h]
theorem aSf {v:Int×Int×Int×Unit} {op f:Int} {a b c:Nat} (h:BD v op f a b c=0) :
  Di v=0/\1<=op/\op<=22/\Je f op (Pt op) a b c=0/\(E0 v.1 op f a b c).2.2.1=0:=by
 unfold BD at h
 by_cases h1:Di v=0
 ·rw [if_neg (fun x=>x h1)] at h
  by_cases h2:op<1∨op>22
  ·rw [if_pos h2] at h; cases h
  ·rw [if_neg h2] at h
   by_cases h3:Je f op (Pt op) a b c=0
   ·rw [if_neg (fun x=>x h3)] at h
    exact ⟨h1,by omega,by omega,h3,h⟩
   ·rw [if_pos h3] at h; exact absurd h h3
 ·rw [if_pos h1] at h; exact absurd h h1
theorem aUC {m fl tr:Int} (h:Di (m,fl,tr,())≠7):Di (m,fl,0,())=Di (m,fl,tr,()):=by
 unfold Di at h ⊢
 dsimp only at h ⊢
 by_cases h1:m<0∨m>5
 ·rw [if_pos h1,if_pos h1]
 ·rw [if_neg h1] at h
  rw [if_neg h1,if_neg h1]
  by_cases h2:(C5 fl&&C5 tr)=true
  ·rw [if_pos h2]
   rw [Bool.and_eq_true] at h2
   rw [h2.1,show C5 0=true by decide]; rfl
  ·rw [if_neg h2] at h; exact absurd rfl h
theorem zY {m fl tr op f:Int} {a b c:Nat} (h:BD (m,fl,tr,()) op f a b c≠7∨Di (m,fl,tr,())≠7):BD (m,fl,0,()) op f a b c=BD (m,fl,tr,()) op f a b c:=by
 have h7:Di (m,fl,tr,())≠7:=by
  intro h7
  have:BD (m,fl,tr,()) op f a b c=7:=by unfold BD; rw [h7]; rfl
  exact h.elim (fun x=>x this) (fun x=>x h7)
 unfold BD
 rw [aUC h7]
theorem T443_true (m fl tr op f:Int) {a b c:Nat} (ha:a<2^64) (hb:b<2^64) (hc:c<2^64) :
  T443 (((m,fl,tr,()),op,f,(a:Int),(b:Int),(c:Int),()),())=some (true,()):=by
 show cN FU.pre FU.F Ec.pre Ec.F ((m,fl,tr,()),op,f,(a:Int),(b:Int),(c:Int),())=_
 unfold cN
 dsimp only
 have p0:=aAb
 have p1:=Zo (m,fl,0,()) op f ha hb hc
 have p2:=Zo (m,fl,tr,()) op f ha hb hc
 rw [zF p0,aF1 p0,X9 p1,Xb p1,X9 p2,Xb p2]
 by_cases h:BD (m,fl,tr,()) op f a b c=0
 ·have h0:BD (m,fl,0,()) op f a b c=0:=by rw [zY (.inl (by rw [h]; decide)),h]
  rw [aW h,aW h0,sR]
  dsimp only
  generalize E0 m op f a b c=y
  by_cases ht:AQ .i64 y.2.1 tr=0
  ·rw [aOI (v:=(m,fl,tr,())) ht]
   dsimp only
   rw [ht]
   simp only [beq_self_eq_true,bne_self_eq_false,Bool.and_self,cond_true,cond_false,Bool.not_true,Bool.or_self]
  ·rw [aIs (v:=(m,fl,tr,())) ht]
   dsimp only
   rw [beq_false_of_ne ht]
   simp only [beq_self_eq_true,bne_self_eq_false,Bool.and_self,cond_true,cond_false,Bool.not_true,Bool.or_self]
 ·rw [lQ h]
  dsimp only
  rw [bne_iff_ne.2 h]
  by_cases h7:BD (m,fl,tr,()) op f a b c=7
  ·rw [h7,beq_self_eq_true (7:Int),Bool.or_true]; rfl
  ·have h0:BD (m,fl,0,()) op f a b c=BD (m,fl,tr,()) op f a b c:=zY (.inl h7)
   rw [lQ (by rw [h0]; exact h),h0]
   dsimp only
   rw [beq_self_eq_true (BD (m,fl,tr,()) op f a b c)]
   rfl
end VL
end
