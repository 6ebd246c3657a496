/- Part 8 of the proof. What is proved: symbolic execution of the functions, proved sound; what each function of the program computes, and that every run ends with it; what these functions compute, in plain numbers. Conditions: each theorem bears its own. -/
import Derived.Test.YtkkidampbmfagaaGreatDoorVxG7
import Derived.ProofKit
import Derived.LaidMore
import Derived.OpenShut
import Derived.Stop.Joined
import GoSem.ClaimJoined
set_option linter.all false
set_option exponentiation.threshold 1000000
noncomputable section
namespace VL
open Go Vx
def dZ (k:Nat):Prop:=k=16∨k=20∨k=24
def QR (x y:Nat×Nat):Prop:=x=y∨(dZ x.2/\dZ y.2)
theorem i4 {m m':Int} {neg:Bool} {n:Nat} {e q:Int} {more:Bool} (h:CK n e q more=0):BH m neg n e q more=BH m' neg n e q more:=by
 unfold BH
 rw [if_neg (fun x=>x.1 h),if_neg (fun x=>x.1 h)]
theorem cR {f m:Int} {neg:Bool} {n:Nat} {e:Int} {more:Bool} (h:CK n e (Dj f (AE n e)) more≠0∨AE n e>fX f):dZ (AD f m neg n e more).2:=by
 unfold AD
 by_cases h1:AE n e>fX f
 ·rw [if_pos h1]; exact .inr (.inl rfl)
 ·rw [if_neg h1]
  dsimp only
  split
  ·exact .inr (.inl rfl)
  ·rw [if_neg (h.resolve_right h1)]
   dsimp only
   split
   ·exact .inr (.inr rfl)
   ·exact .inl rfl
theorem GK (f m m':Int) (neg:Bool) (n:Nat) (e:Int) (more:Bool):QR (AD f m neg n e more) (AD f m' neg n e more):=by
 by_cases h1:AE n e>fX f
 ·exact .inr ⟨cR (.inr h1),cR (.inr h1)⟩
 by_cases h2:CK n e (Dj f (AE n e)) more=0
 ·unfold AD
  rw [if_neg h1,if_neg h1]
  dsimp only
  rw [i4 (m:=m) (m':=m') h2,h2]
  by_cases h3:Dj f (AE n e)+(An (BH m' neg n e (Dj f (AE n e)) more):Int)-1>fX f
  ·rw [if_pos h3,if_pos h3]; exact .inr ⟨.inr (.inl rfl),.inr (.inl rfl)⟩
  ·rw [if_neg h3,if_neg h3]; exact .inl rfl
 ·exact .inr ⟨cR (.inl h2),cR (.inl h2)⟩
theorem aId {f m m':Int} (hf:Fm f) {neg:Bool} {n:Nat} (hn:n<2^fP f):AD f m neg n 0 false=AD f m' neg n 0 false:=by
 have hb:=En hn
 have h1:¬ AE n 0>fX f:=by
  have:(fP f:Int)<=fX f:=by rcases C4 hf with rfl | rfl | rfl | rfl <;> decide
  unfold AE; omega
 have hX:15<=fX f:=Qk hf
 have hP:=Dr hf
 have hq:Dj f (AE n 0)<=0:=by
  unfold Dj AE
  split <;> omega
 have h2:CK n 0 (Dj f (AE n 0)) false=0:=by
  unfold CK Hh
  rw [if_neg (by decide),if_pos hq]
 unfold AD
 rw [if_neg h1,if_neg h1]
 dsimp only
 rw [i4 (m:=m) (m':=m') h2,h2,if_pos rfl,if_pos rfl]
 have hc:BH m' neg n 0 (Dj f (AE n 0)) false=n*2^(0-Dj f (AE n 0)).toNat:=by
  unfold BH DW
  rw [if_neg (fun x=>x.1 h2),if_pos hq]
 have h3:¬ (Dj f (AE n 0)+(An (BH m' neg n 0 (Dj f (AE n 0)) false):Int)-1>fX f):=by
  rw [hc]
  have h4:An (n*2^(0-Dj f (AE n 0)).toNat)<=fP f+(0-Dj f (AE n 0)).toNat:=by
   apply En
   rw [Nat.pow_add]
   exact Nat.mul_lt_mul_of_pos_right hn (Nat.two_pow_pos _)
  have:(fP f:Int)<=fX f:=by rcases C4 hf with rfl | rfl | rfl | rfl <;> decide
  omega
 rw [if_neg h3,if_neg h3]
def MR (f op:Int) (y z:Int×Int×Int×Unit):Prop :=
 y.2.2.1=z.2.2.1/\(y=z∨((y.2.1=16∨y.2.1=20∨y.2.1=24)/\(z.2.1=16∨z.2.1=20∨z.2.1=24)) ∨
  ((op=1∨op=2∨op=6)/\y.2.1=0/\z.2.1=0/\AW .u64 y.1 z.1=(Co f true:Int)/\AQ .u64 y.1 z.1=0) ∨
  (op=11/\(y.2.1=1∨y.2.1=16)/\(z.2.1=1∨z.2.1=16)))
theorem FX (f op:Int) (y:Int×Int×Int×Unit):MR f op y y:=⟨rfl,.inl rfl⟩
theorem Cv {f op:Int} {c:Bool} {x y z:Int×Int×Int×Unit} (h:MR f op y z):MR f op (bif c then x else y) (bif c then x else z):=by
 cases c
 ·exact h
 ·exact FX ..
theorem CW {f op:Int} {p:Prop} [Decidable p] {x y z:Int×Int×Int×Unit} (h:MR f op y z):MR f op (if p then x else y) (if p then x else z):=by
 by_cases hp:p
 ·rw [if_pos hp,if_pos hp]; exact FX ..
 ·rw [if_neg hp,if_neg hp]; exact h
theorem aDm {k:Nat} (h:dZ k):(k:Int)=16∨(k:Int)=20∨(k:Int)=24:=by rcases h with rfl | rfl | rfl <;> decide
theorem IF {f op:Int} {x y:Nat×Nat} (h:QR x y):MR f op ((x.1:Int),(x.2:Int),0,()) ((y.1:Int),(y.2:Int),0,()):=by
 refine ⟨rfl,?_⟩
 rcases h with rfl | ⟨h1,h2⟩
 ·exact .inl rfl
 ·exact .inr (.inl ⟨aDm h1,aDm h2⟩)
theorem aOm {f:Int} (hf:Fm f) {s t:Bool} (h:s≠t):AW .u64 (Co f s:Int) (Co f t:Int)=(Co f true:Int)/\AQ .u64 (Co f s:Int) (Co f t:Int)=0:=by
 rcases C4 hf with rfl | rfl | rfl | rfl <;> cases s <;> cases t <;> first | (exact absurd rfl h) | decide
theorem aAX {f op:Int} (hf:Fm f) (ho:op=1∨op=2∨op=6) (s t:Bool):MR f op ((Co f s:Int),0,0,()) ((Co f t:Int),0,0,()):=by
 by_cases h:s=t
 ·rw [h]; exact FX ..
 ·exact ⟨rfl,.inr (.inr (.inl ⟨ho,rfl,rfl,aOm hf h⟩))⟩
variable {f m m':Int}
theorem aTW (hf:Fm f) {op:Int} (ho:op=1∨op=2∨op=6) (nx:Bool) (X:Nat) (ex:Int) (ny:Bool) (Y:Nat) (ey:Int) :
  MR f op (((Et f m nx X ex ny Y ey).1:Int),((Et f m nx X ex ny Y ey).2:Int),0,()) (((Et f m' nx X ex ny Y ey).1:Int),((Et f m' nx X ex ny Y ey).2:Int),0,()):=by
 unfold Et
 dsimp only
 generalize (if ex<=ey then ex else ey)=e
 generalize X*2^(ex-e).toNat=A
 generalize Y*2^(ey-e).toNat=B
 by_cases h1:nx=ny
 ·rw [if_pos h1,if_pos h1]
  by_cases h2:A+B=0
  ·rw [if_pos h2,if_pos h2]; exact FX ..
  ·rw [if_neg h2,if_neg h2]; exact IF (GK ..)
 ·rw [if_neg h1,if_neg h1]
  by_cases h2:A=B
  ·rw [if_pos h2,if_pos h2]; exact aAX hf ho _ _
  ·rw [if_neg h2,if_neg h2]
   by_cases h3:B<A
   ·rw [if_pos h3,if_pos h3]; exact IF (GK ..)
   ·rw [if_neg h3,if_neg h3]; exact IF (GK ..)
theorem xR (hm:0<=m/\m<=5) (hm':0<=m'/\m'<=5) {op:Int} (ho:op=1∨op=2∨op=6) (a b:Nat):MR f op (NU f m a b) (NU f m' a b):=by
 unfold NU
 by_cases hf:Fm f
 ·rw [if_pos hf,if_pos hf,if_pos hm,if_pos hm']
  by_cases hc:Am f a=0/\Am f b=0
  ·rw [if_pos hc,if_pos hc]
   exact Cv (Cv (Cv (Cv (Cv (aTW hf ho ..)))))
  ·rw [if_neg hc,if_neg hc]; exact FX ..
 ·rw [if_neg hf,if_neg hf]; exact FX ..
theorem aQI (hm:0<=m/\m<=5) (hm':0<=m'/\m'<=5) {op:Int} (a b:Nat):MR f op (RX f m a b) (RX f m' a b):=by
 unfold RX
 rw [if_neg (show ¬ (m<0∨m>5) by omega),if_neg (show ¬ (m'<0∨m'>5) by omega)]
 exact CW (CW (CW (Cv (Cv (Cv (Cv (IF (GK ..))))))))
theorem aPg (hm:0<=m/\m<=5) (hm':0<=m'/\m'<=5) {op:Int} (a b:Nat):MR f op (KN f m a b) (KN f m' a b):=by
 have hq:∀ (neg:Bool) (n k:Nat) (e:Int),QR (Gf f m neg n k e) (Gf f m' neg n k e):=by
  intro neg n k e
  unfold Gf LD
  by_cases h:decide (n*2^300%k≠0)=true
  ·rw [if_pos h,if_pos h]; exact GK ..
  ·rw [if_neg h,if_neg h]; exact GK ..
 unfold KN
 rw [if_neg (show ¬ (m<0∨m>5) by omega),if_neg (show ¬ (m'<0∨m'>5) by omega)]
 exact CW (CW (CW (Cv (Cv (Cv (Cv (Cv (IF (hq ..)))))))))
theorem W0 (hm:0<=m/\m<=5) (hm':0<=m'/\m'<=5) (l:List Nat):AR f m l=AR f m' l:=by
 unfold AR
 rw [if_neg (show ¬ (m<0∨m>5) by omega),if_neg (show ¬ (m'<0∨m'>5) by omega)]
theorem aRd (hm:0<=m/\m<=5) (hm':0<=m'/\m'<=5) {op:Int} (a:Nat):MR f op (Qi f m a) (Qi f m' a):=by
 have hb:∀ (X:Nat) (E:Int),QR (Hk f m X E) (Hk f m' X E):=by
  intro X E
  unfold Hk
  by_cases h:Az X*Az X=X
  ·rw [if_pos h,if_pos h]; exact GK ..
  ·rw [if_neg h,if_neg h]; exact GK ..
 have hq:∀ (n:Nat) (e:Int),QR (KP f m n e) (KP f m' n e):=by
  intro n e
  unfold KP
  by_cases h:e%2=1
  ·rw [if_pos h,if_pos h]; exact hb ..
  ·rw [if_neg h,if_neg h]; exact hb ..
 unfold Qi
 rw [W0 (f:=f) hm hm']
 exact CW (Cv (Cv (Cv (IF (hq ..)))))
theorem aT3 (hm:0<=m/\m<=5) (hm':0<=m'/\m'<=5) (a b c:Nat):MR f 6 (Pn f m a b c) (Pn f m' a b c):=by
 unfold Pn
 rw [W0 (f:=f) hm hm']
 by_cases hc:AR f m' [a,b,c]≠0
 ·rw [if_pos hc,if_pos hc]; exact FX ..
 rw [if_neg hc,if_neg hc]
 have hf:Fm f:=(LW (Classical.not_not.1 hc)).1
 have hs:∀ (k:Int) (s t:Bool) (S T:Int),MR f 6 (Ur f m k s t S T) (Ur f m' k s t S T):=by
  intro k s t S T
  unfold Ur
  by_cases h:S+T=0
  ·rw [if_pos h,if_pos h]; exact aAX hf (.inr (.inr rfl)) _ _
  ·rw [if_neg h,if_neg h]; exact IF (GK ..)
 exact Cv (Cv (Cv (Cv (Cv (hs ..)))))
theorem aJG (hm:0<=m/\m<=5) (hm':0<=m'/\m'<=5) {op:Int} (w:Int) (a:Nat):MR f op (Rx f w m a) (Rx f w m' a):=by
 unfold Rx
 have:Gx f w m a=Gx f w m' a:=by
  unfold Gx
  rw [if_neg (show ¬ (m<0∨m>5) by omega),if_neg (show ¬ (m'<0∨m'>5) by omega)]
 rw [this]
 exact CW (Cv (Cv (Cv (IF (GK ..)))))
theorem aU7 (hm:0<=m/\m<=5) (hm':0<=m'/\m'<=5) {op:Int} (k:Int) (x:Nat):MR f op (Pp f m k x) (Pp f m' k x):=by
 unfold Pp
 rw [W0 (f:=f) hm hm']
 exact CW (CW (CW (CW (IF (GK ..)))))
theorem aPn (hm:0<=m/\m<=5) (hm':0<=m'/\m'<=5) {op:Int} (a:Nat) (n:Int):MR f op (Rh f m a n) (Rh f m' a n):=by
 unfold Rh
 rw [if_neg (show ¬ (m<0∨m>5) by omega),if_neg (show ¬ (m'<0∨m'>5) by omega)]
 exact CW (CW (Cv (CW (IF (GK ..)))))
theorem aTo {u u':Nat} (k:Int) (s:Bool):MR f 11 (Gg k s u true) (Gg k s u' true):=by
 have h:∀ v:Nat,(Gg k s v true).2.2.1=0/\((Gg k s v true).2.1=1∨(Gg k s v true).2.1=16):=by
  intro v
  unfold Gg
  cases s
  ·dsimp only [cond_false]
   split
   ·exact ⟨rfl,.inl rfl⟩
   ·exact ⟨rfl,.inr rfl⟩
  ·dsimp only [cond_true]
   split
   ·exact ⟨rfl,.inl rfl⟩
   ·exact ⟨rfl,.inr rfl⟩
 exact ⟨(h u).1.trans (h u').1.symm,.inr (.inr (.inr ⟨rfl,(h u).2,(h u').2⟩))⟩
theorem aJD (hm:0<=m/\m<=5) (hm':0<=m'/\m'<=5) (k:Int) (a:Nat):MR f 11 (PZ f m k a) (PZ f m' k a):=by
 unfold PZ
 rw [W0 (f:=f) hm hm']
 refine CW (CW (CW (Cv (Cv ?_))))
 by_cases hx:Af f a<0
 ·rw [if_pos hx,if_pos hx]
  by_cases h:CK (Ad f a) (Af f a) 0 false=0
  ·rw [i4 (m:=m) (m':=m') h]; exact FX ..
  ·rw [decide_eq_true h]; exact aTo ..
 ·rw [if_neg hx,if_neg hx]; exact FX ..
theorem aQb (hm:0<=m/\m<=5) (hm':0<=m'/\m'<=5) {op:Int} (a:Nat):MR f op (Ng f m a true) (Ng f m' a true):=by
 unfold Ng
 rw [W0 (f:=f) hm hm']
 by_cases hc:AR f m' [a]≠0
 ·rw [if_pos hc,if_pos hc]; exact FX ..
 rw [if_neg hc,if_neg hc]
 have hf:Fm f:=(LW (Classical.not_not.1 hc)).1
 refine Cv ?_
 cases hx:Au f a||AN f a||decide (0<=Af f a)
 ·rw [cond_false,cond_false]
  rw [Bool.or_eq_false_iff,decide_eq_false_iff_not] at hx
  by_cases h:CK (Ad f a) (Af f a) 0 false=0
  ·have hu:BH m' (sF f a) (Ad f a) (Af f a) 0 false<2^fP f:=by
    unfold BH DW
    rw [if_neg (fun x=>x.1 h),if_neg hx.2]
    exact Nat.lt_of_le_of_lt (Nat.div_le_self _ _) (aIq hf a)
   rw [i4 (m:=m) (m':=m') h,aId (m:=m) (m':=m') hf hu]; exact FX ..
  ·rw [decide_eq_true h]
   exact ⟨rfl,.inr (.inl ⟨.inl rfl,.inl rfl⟩)⟩
 ·exact FX ..
theorem aFS (hm:0<=m/\m<=5) (hm':0<=m'/\m'<=5) (op f:Int) (a b c:Nat):MR f op (E0 m op f a b c) (E0 m' op f a b c):=by
 unfold E0
 by_cases h1:op=1
 ·subst h1; exact xR hm hm' (.inl rfl) a b
 rw [if_neg h1,if_neg h1]
 by_cases h2:op=2
 ·subst h2; exact xR hm hm' (.inr (.inl rfl)) a _
 rw [if_neg h2,if_neg h2]
 by_cases h3:op=3
 ·rw [if_pos h3,if_pos h3]; exact aQI hm hm' a b
 rw [if_neg h3,if_neg h3]
 by_cases h4:op=4
 ·rw [if_pos h4,if_pos h4]; exact aPg hm hm' a b
 rw [if_neg h4,if_neg h4]
 by_cases h5:op=5
 ·rw [if_pos h5,if_pos h5]; exact aRd hm hm' a
 rw [if_neg h5,if_neg h5]
 by_cases h6:op=6
 ·subst h6; exact aT3 hm hm' a b c
 rw [if_neg h6,if_neg h6]
 refine CW (CW ?_)
 by_cases h9:op=9
 ·rw [if_pos h9,if_pos h9]; exact aQb hm hm' a
 rw [if_neg h9,if_neg h9]
 by_cases h10:op=10
 ·rw [if_pos h10,if_pos h10]; exact aJG hm hm' _ a
 rw [if_neg h10,if_neg h10]
 by_cases h11:op=11
 ·subst h11; exact aJD hm hm' _ a
 rw [if_neg h11,if_neg h11]
 by_cases h12:op=12
 ·rw [if_pos h12,if_pos h12]; exact aU7 hm hm' _ a
 rw [if_neg h12,if_neg h12]
 refine CW (CW (CW (CW (CW ?_))))
 by_cases h18:op=18
 ·rw [if_pos h18,if_pos h18]; exact aPn hm hm' a _
 rw [if_neg h18,if_neg h18]
 exact FX ..
end VL
namespace VL
open Go Vx
def Sr (x:Int):Int:=IntKind.wrap .i64 (Int.tmod (IntKind.wrap .u64 x) 6)
theorem aMs (x:Int):0<=Sr x/\Sr x<=5:=by
 unfold Sr
 have h1:0<=IntKind.wrap .u64 x:=by
  show 0<=(if (false&&decide (x%2^64>=2^63))=true then x%2^64-2^64 else x%2^64)
  rw [Bool.false_and,if_neg (by decide)]
  exact Int.emod_nonneg _ (by decide)
 rw [Int.tmod_eq_emod_of_nonneg h1]
 have h2:=Int.emod_nonneg (IntKind.wrap .u64 x) (show (6:Int)≠0 by decide)
 have h3:=Int.emod_lt_of_pos (IntKind.wrap .u64 x) (show (0:Int)<6 by decide)
 generalize IntKind.wrap .u64 x%6=y at *
 obtain ⟨n,rfl⟩:=Int.eq_ofNat_of_zero_le h2
 rw [As (n:=(n:Int)) (by omega)]
 omega
theorem aFB {m m' fl op f:Int} {a b c:Nat} (hm:0<=m/\m<=5) (hm':0<=m'/\m'<=5):BD (m',fl,0,()) op f a b c=BD (m,fl,0,()) op f a b c:=by
 have hg:Di (m',fl,0,())=Di (m,fl,0,()):=by
  unfold Di
  dsimp only
  rw [if_neg (show ¬ (m'<0∨m'>5) by omega),if_neg (show ¬ (m<0∨m>5) by omega)]
 unfold BD
 rw [hg]
 dsimp only
 rw [(aFS hm' hm op f a b c).1]
theorem zO {x:Int} (h:x=16∨x=20∨x=24):(AQ .i64 x 16 != 0)=true:=by rcases h with rfl | rfl | rfl <;> decide
theorem T444_true (m fl tr op f x:Int) {a b c:Nat} (ha:a<2^64) (hb:b<2^64) (hc:c<2^64) :
  T444 (((m,fl,tr,()),op,f,(a:Int),(b:Int),(c:Int),()),x,())=some (true,()):=by
 show jT FU.pre FU.F Ec.pre Ec.F A3.pre A3.F ((m,fl,tr,()),op,f,(a:Int),(b:Int),(c:Int),()) x=_
 unfold jT
 dsimp only
 have hm':=aMs x
 have p0:=aAb
 have p1:=Zo (m,fl,0,()) op f ha hb hc
 have p2:R0 ((IntKind.wrap .i64 (Int.tmod (IntKind.wrap .u64 x) 6),fl,0,()),op,f,(a:Int),(b:Int),(c:Int),())=_:=Zo (Sr x,fl,0,()) op f ha hb hc
 rw [zF p0,aF1 p0,X9 p1,Xb p1,X9 p2,Xb p2]
 by_cases h:BD (m,fl,0,()) op f a b c=0
 ·obtain ⟨hg,ho1,ho2,hck,hz⟩:=aSf h
  have hm:0<=m/\m<=5:=by
   unfold Di at hg
   by_cases h1:m<0∨m>5
   ·rw [if_pos h1] at hg; cases hg
   ·omega
  have hf:Fm f:=by
   unfold Je at hck
   by_cases h1:¬ Fm f
   ·rw [if_pos h1] at hck; cases hck
   ·exact Classical.not_not.1 h1
  have p3:=Kj hf true
  have h':BD (Sr x,fl,0,()) op f a b c=0:=(aFB hm hm').trans h
  obtain ⟨he,hr⟩:=aFS hm hm' op f a b c
  rw [aW h,aW h',sR,sR,Lo p3,K1 p3]
  dsimp only at he hr ⊢
  generalize E0 m op f a b c=y at *
  generalize E0 (Sr x) op f a b c=z at *
  rcases hr with rfl | ⟨h1,h2⟩ | ⟨h1,h2,h3,h4,h5⟩ | ⟨h1,h2,h3⟩
  ·simp only [beq_self_eq_true,bne_self_eq_false,Bool.not_true,Bool.false_or,Bool.false_and,cond_true,cond_false,Bool.true_or,Bool.and_self]
   generalize (AQ .i64 y.2.1 16 != 0)=i
   generalize ((AQ .i64 (AW .i64 y.2.1 y.2.1) 17 != 0)&&op==11)=j
   cases i <;> cases j <;> rfl
  ·rw [zO h1,zO h2]
   simp only [beq_self_eq_true,bne_self_eq_false,Bool.not_true,Bool.false_or,Bool.false_and,cond_true,cond_false,Bool.or_true]
  ·rw [h2,h3,h4,h5]
   simp only [beq_self_eq_true,bne_self_eq_false,Bool.not_true,Bool.false_or,Bool.false_and,cond_true,cond_false,Bool.and_self,Bool.and_true]
   have:((op==1||op==2)||op==6)=true:=by rcases h1 with rfl | rfl | rfl <;> rfl
   rw [this,Bool.or_true]
   have h0:(AQ .i64 (0:Int) 16 != 0)=false:=by decide
   have h1:(AQ .i64 (AW .i64 (0:Int) 0) 17 != 0)=false:=by decide
   rw [h0,h1]
   rfl
  ·subst h1
   have:((AQ .i64 (AW .i64 y.2.1 z.2.1) 17 != 0)&&(11:Int)==11)=true:=by
    rcases h2 with h2 | h2 <;> rcases h3 with h3 | h3 <;> rw [h2,h3] <;> decide
   rw [this]
   simp only [bne_self_eq_false,Bool.and_false,Bool.false_or,cond_true,cond_false,Bool.not_true,Bool.true_or]
 ·rw [lQ h]
  dsimp only
  rw [bne_iff_ne.2 h]
  have hx:((IJ (Sr x,fl,0,()) op f a b c).2.1==BD (m,fl,0,()) op f a b c||BD (m,fl,0,()) op f a b c==3)=true:=by
   by_cases h1:m<0∨m>5
   ·have:BD (m,fl,0,()) op f a b c=3:=by
     have hg:Di (m,fl,0,())=3:=by unfold Di; rw [if_pos h1]
     unfold BD; rw [hg]; rfl
    rw [this,beq_self_eq_true (3:Int),Bool.or_true]
   ·have h':=aFB (fl:=fl) (op:=op) (f:=f) (a:=a) (b:=b) (c:=c) (show 0<=m/\m<=5 by omega) hm'
    rw [lQ (by rw [h']; exact h),h',beq_self_eq_true (BD (m,fl,0,()) op f a b c)]; rfl
  rw [hx]
  rfl
end VL
namespace Vx
open Go Go.RowKit Go.ChangeShapes Go.WideShapes
def wfD:(τ:Shape)->Aa τ->Prop
 | .int k,n=>k.min<=n/\n<=k.max
 | .flt _,_=>True
 | .slice e,xs=>xs.length<BS/\∀ x∈xs,wfD e x
 | .pair a b,x=>wfD a x.1/\wfD b x.2
 | .bool,_=>True
 | .str,_=>True
 | .fn,_=>True
 | .unit,_=>True
 | .box a,x=>wfD a x
 | .ifc,_=>True
 | .pfn,_=>True
theorem AO.wfD {w:World} {S:Nat->Prop}:∀ {τ:Shape} {x:Aa τ} {cs:List Value},AO w S τ x cs->wfD τ x
 | .int _,_,_,h=>h.2
 | .flt _,_,_,_=>trivial
 | .bool,_,_,_=>trivial
 | .str,_,_,_=>trivial
 | .fn,_,_,_=>trivial
 | .unit,_,_,_=>trivial
 | .box _,_,_,⟨_,_,_,_,_,_,_,_,_,h,_⟩=>h.wfD
 | .ifc,_,_,_=>trivial
 | .pfn,_,_,_=>trivial
 | .slice _,xs,_,⟨A,c,_,h1,h2,h3⟩=>by
  refine ⟨Nat.lt_of_le_of_lt h1 h2,fun x hx=>?_⟩
  obtain ⟨r,o,vs,T,fz,_,_,_,h⟩:=h3 (List.ne_nil_of_mem hx)
  obtain ⟨i,hi⟩:=List.getElem?_of_mem hx
  obtain ⟨ds,hd,_⟩:=h i x hi
  exact hd.wfD
 | .pair _ _,_,_,⟨c1,c2,_,h1,h2⟩=>⟨h1.wfD,h2.wfD⟩
def wfS:(sg:Ab)->DenS sg->Prop
 | [],_=>True
 | (_,τ)::r,x=>wfD τ x.1/\wfS r x.2
def Fl {H:Type}:(τ:Shape)->(DataW H->Option (Aa τ))×(List (DataW H)->Option (Aa τ))
 | .int k=>(fun d=>match d with | .lit (.int k' n)=>if k'=k then some n else none | _=>none,fun _=>none)
 | .bool=>(fun d=>match d with | .lit (.bool b)=>some b | _=>none,fun _=>none)
 | .unit=>(fun d=>match d with | .agg []=>some () | _=>none,fun l=>match l with | []=>some () | _=>none)
 | .pair a b =>
  let f:=fun l=>match l with
   | d::r=>(match (Fl a).1 d,(Fl b).2 r with | some x,some y=>some (x,y) | _,_=>none)
   | []=>none
  (fun d=>match d with | .agg l=>f l | _=>none,f)
 | .flt _=>(fun _=>none,fun _=>none)
 | .str=>(fun _=>none,fun _=>none)
 | .fn=>(fun _=>none,fun _=>none)
 | .box _=>(fun _=>none,fun _=>none)
 | .ifc=>(fun _=>none,fun _=>none)
 | .pfn=>(fun _=>none,fun _=>none)
 | .slice _=>(fun _=>none,fun _=>none)
def SO (P:Program) (g:TypeId->Shape->Bool):List Field->Nat->Shape->Bool
 | [],_,.unit=>true
 | f::fs,o,.pair a b=>(f.offset==o)&&(P.cellsOf f.type==a.width)&&g f.type a&&SO P g fs (o+a.width) b
 | _,_,_=>false
def C5 (P:Program):Nat->TypeId->Shape->Bool
 | 0,_,_=>false
 | n+1,t,τ=>match P.underlying t with
  | some (.int k)=>(match τ with | .int k'=>decide (k=k') | _=>false)
  | some .bool=>(match τ with | .bool=>true | _=>false)
  | some (.slice e)=>(match τ with | .slice σ=>(P.cellsOf e==σ.width)&&decide (0<σ.width)&&C5 P n e σ | _=>false)
  | some (.struct fs)=>(P.cellsOf t==τ.width)&&SO P (C5 P n) fs.toList 0 τ
  | _=>false
theorem aGF {A:Type} {Q:Nat->A->Prop}:∀ (n:Nat),(∀ i,i<n->∃ x,Q i x)->∃ xs:List A,xs.length=n/\∀ i x,xs[i]? = some x->Q i x
 | 0,_=>⟨[],rfl,fun i x h=>by simp at h⟩
 | n+1,h=>by
  obtain ⟨xs,h1,h2⟩:=aGF n fun i hi=>h i (by omega)
  obtain ⟨x,hx⟩:=h n (by omega)
  refine ⟨xs++[x],by simp [h1],fun i y hy=>?_⟩
  rcases Nat.lt_or_ge i n with hi | hi
  ·rw [List.getElem?_append_left (by omega)] at hy
   exact h2 i y hy
  ·rw [List.getElem?_append_right (by omega)] at hy
   have:i=n:=by
    have:=(List.getElem?_eq_some_iff.1 hy).1
    simp at this; omega
   subst this
   simp [h1] at hy
   exact hy ▸ hx
theorem aMB {k:IntKind} {n:Int} (h:(Lit.int k n).wf=true):k.min<=n/\n<=k.max:=by
 simpa [Lit.wf] using h
section
variable {H:Type} {enc:TypeId×Value->H} {P:Program} {W:World} {spare:Nat->Bool} {held:Bool}
theorem aE1 {n:Nat} {m:Nat} {cs:List Value} (ih:∀ (t:TypeId) (τ:Shape) (cs:List Value) (d:DataW H) (p:List MemPlace),C5 P n t τ=true->DataW.trod enc P W 0 spare held m t cs=some (d,p)->∃ x:Aa τ,AO W (fun q=>q<W.heap.size) τ x cs/\∀ y,(Fl τ).1 d=some y->x=y) :
  ∀ (l:List Field) (o:Nat) (τ:Shape) (xs:List (DataW H×List MemPlace)),SO P (C5 P n) l o τ=true->xs.length=l.length->cs.length=o+τ.width ->
   (∀ (i:Nat) (f:Field),l[i]? = some f->DataW.trod enc P W 0 spare held m f.type ((cs.drop f.offset).take (P.cellsOf f.type))=xs[i]?) ->
   ∃ x:Aa τ,AO W (fun q=>q<W.heap.size) τ x (cs.drop o)/\∀ y,(Fl τ).2 (xs.map (·.1))=some y->x=y
 | [],o,τ,xs,hf,hx,hl,_=>by
  cases τ <;> simp [SO] at hf
  refine ⟨(),?_,fun _ _=>rfl⟩
  show cs.drop o=[]
  apply List.drop_eq_nil_of_le
  simp [Shape.width] at hl
  omega
 | f::fs,o,τ,xs,hf,hx,hl,h=>by
  cases τ with
  | pair a b =>
   simp only [SO,Bool.and_eq_true,beq_iff_eq] at hf
   obtain ⟨⟨⟨ho,hc⟩,hg⟩,hr⟩:=hf
   cases xs with
   | nil=>simp at hx
   | cons x0 xs =>
    have h0:=h 0 f rfl
    rw [ho,hc] at h0
    simp only [List.getElem?_cons_zero] at h0
    obtain ⟨xa,ha,hua⟩:=ih f.type a _ x0.1 x0.2 hg h0
    simp only [Shape.width] at hl
    obtain ⟨xb,hb,hub⟩:=aE1 ih fs (o+a.width) b xs hr (by simpa using hx) (by rw [hl]; omega) fun i g hi=>by
     have:=h (i+1) g (by simpa using hi)
     simpa using this
    refine ⟨(xa,xb),⟨(cs.drop o).take a.width,cs.drop (o+a.width),?_,ha,hb⟩,fun y hy=>?_⟩
    ·rw [← List.drop_drop,List.take_append_drop]
    ·simp only [Fl,List.map_cons] at hy
     split at hy
     ·rename_i e1 e2
      have:=hua _ e1; have:=hub _ e2
      subst_vars
      exact Option.some.inj hy
     ·cases hy
  | _=>simp [SO] at hf
theorem cO:∀ (n:Nat) (m:Nat) (t:TypeId) (τ:Shape) (cs:List Value) (d:DataW H) (p:List MemPlace),C5 P n t τ=true->DataW.trod enc P W 0 spare held m t cs=some (d,p) ->
  ∃ x:Aa τ,AO W (fun q=>q<W.heap.size) τ x cs/\∀ y,(Fl τ).1 d=some y->x=y
 | 0,_,_,_,_,_,_,h,_=>by simp [C5] at h
 | n+1,m,t,τ,cs,d,p,h,ht=>by
  unfold C5 at h
  split at h
  ·rename_i k hk
   cases τ with
   | int k' =>
    simp only [decide_eq_true_eq] at h
    subst h
    obtain ⟨v,hv,hx,hw⟩:=DataW.trod_int hk ht
    simp only [Prod.mk.injEq] at hx
    refine ⟨v,⟨hv,aMB hw⟩,fun y hy=>?_⟩
    rw [hx.1] at hy
    simp only [Fl,if_true] at hy
    exact Option.some.inj hy
   | _=>cases h
  ·rename_i hk
   cases τ with
   | bool =>
    obtain ⟨v,hv,hx⟩:=DataW.trod_bool hk ht
    simp only [Prod.mk.injEq] at hx
    refine ⟨v,hv,fun y hy=>?_⟩
    rw [hx.1] at hy
    simp only [Fl] at hy
    exact Option.some.inj hy
   | _=>cases h
  ·rename_i e hk
   cases τ with
   | slice σ =>
    simp only [Bool.and_eq_true,beq_iff_eq,decide_eq_true_eq] at h
    obtain ⟨⟨hc,hpos⟩,hf⟩:=h
    rcases DataW.trod_slice hk ht with ⟨hcs,hx⟩ | ⟨a,len,cap,elems,rest,m',rfl,hcs,hx,hb,hlc,hcap,hlen,hel,_⟩
    ·exact ⟨[],⟨none,0,hcs,Nat.le_refl _,by decide,fun h=>absurd rfl h⟩,fun y hy=>by simp [Fl] at hy⟩
    ·have each:∀ i,i<len->∃ x:Aa σ,∃ ds,W.cells? 0 (a.add (i*P.cellsOf e)) (P.cellsOf e)=some ds/\AO W (fun q=>q<W.heap.size) σ x ds:=fun i hi=>by
      have:=hel i hi
      rw [List.getElem?_eq_getElem (by omega),Option.bind_eq_some_iff] at this
      obtain ⟨ds,h1,h2⟩:=this
      obtain ⟨x,hx,_⟩:=cO n m' e σ ds (elems[i]'(by omega)).1 (elems[i]'(by omega)).2 hf h2
      exact ⟨x,ds,h1,hx⟩
     obtain ⟨xs,hxl,hxs⟩:=aGF len each
     refine ⟨xs,⟨some a,cap,by rw [hxl]; exact hcs,by omega,by unfold BS; unfold maxLen at hcap; omega,fun hne=>?_⟩,fun y hy=>by simp [Fl] at hy⟩
     have h0:0<xs.length:=List.length_pos_iff.2 hne
     obtain ⟨ds0,hd0,_⟩:=hxs 0 xs[0] (List.getElem?_eq_getElem h0)
     obtain ⟨_,hl0,hc0⟩:=World.cells?_some hd0
     have hz:a.add (0*P.cellsOf e)=a:=by simp [Addr.add]
     have hz':a.add 0=a:=by simp [Addr.add]
     rw [hz] at hc0
     have hc00:=hc0 0 (by omega)
     rw [hz',List.getElem?_eq_getElem (by omega)] at hc00
     unfold World.cell? at hc00
     split at hc00
     ·rename_i c T fz hheap
      split at hc00
      ·cases hc00
      ·rename_i hspot
       have hs:a.spot=none:=by simpa using hspot
       have hadd:∀ q,a.add q=⟨a.block,a.off+q,none⟩:=fun q=>by
        unfold Addr.add
        split
        ·subst_vars; cases a; simp at hs; simp [hs]
        ·rfl
       have ha:a=⟨a.block,a.off,none⟩:=by cases a; simp at hs; simp [hs]
       refine ⟨a.block,a.off,c,T,fz,by rw [← ha],?_,hheap,fun i x hi=>?_⟩
       ·exact (Array.getElem?_eq_some_iff.1 hheap).1
       ·obtain ⟨ds,hd,hr⟩:=hxs i x hi
        refine ⟨ds,hr,fun j v hj=>?_⟩
        obtain ⟨_,hl,hcj⟩:=World.cells?_some hd
        have hjl:j<P.cellsOf e:=by rw [← hl]; exact (List.getElem?_eq_some_iff.1 hj).1
        have:=hcj j hjl
        rw [hadd,hj] at this
        have hadd2:(⟨a.block,a.off+i*P.cellsOf e,none⟩:Addr).add j=⟨a.block,a.off+i*P.cellsOf e+j,none⟩:=by
         unfold Addr.add
         split
         ·subst_vars; rfl
         ·rfl
        rw [hadd2] at this
        unfold World.cell? at this
        simp only [hheap] at this
        rw [hc] at this
        exact this
     ·cases hc00
   | _=>cases h
  ·rename_i fs hk
   simp only [Bool.and_eq_true,beq_iff_eq] at h
   obtain ⟨hc,hf⟩:=h
   obtain ⟨xs,m',rfl,hx,hl,hxl,hel⟩:=DataW.trod_struct hk ht
   simp only [Prod.mk.injEq] at hx
   obtain ⟨x,h1,h2⟩:=aE1 (fun t τ cs d p=>cO n m' t τ cs d p) fs.toList 0 τ xs hf (by simpa using hxl) (by rw [hl,hc]; omega) fun i f hi=>hel i f (by simpa using hi)
   refine ⟨x,by simpa using h1,fun y hy=>h2 y ?_⟩
   rw [hx.1] at hy
   cases τ with
   | pair a b=>exact hy
   | unit =>
    simp only [Fl] at hy ⊢
    split at hy
    ·rename_i e; simp only [DataW.agg.injEq] at e; rw [e]
    ·cases hy
   | _=>simp [Fl] at hy
  ·cases h
end
end Vx
namespace Vx
open Go Go.RowKit Go.ChangeShapes Go.WideShapes
def Su (P:Program) (t:TypeId):Bool:=match P.underlying t with
 | some (.struct _)=>true
 | _=>false
def UZ (P:Program) (n:Nat):List TypeId->Ab->Bool
 | [],[]=>true
 | t::ts,(a,τ)::r=>C5 P n t τ&&(a==Su P t)&&UZ P n ts r
 | _,_=>false
section
variable {H:Type} {enc:TypeId×Value->H} {P:Program} {W:World}
theorem aOX {n:Nat} {t:TypeId} {τ:Shape} {r:Reach} {b0:Nat} {v:Value} (hf:C5 P n t τ=true) (hs:Su P t=false) (hv:Value.okWide P W r b0 t v):v.cells.toList=[v]:=by
 cases n with
 | zero=>simp [C5] at hf
 | succ n =>
  unfold C5 at hf
  split at hf
  ·rename_i k hk; obtain ⟨_,rfl⟩:=okWide_int hk hv; rfl
  ·rename_i hk; obtain ⟨_,rfl⟩:=okWide_bool hk hv; rfl
  ·rename_i e hk; obtain ⟨_,_,_,rfl⟩:=okWide_slice hk hv; rfl
  ·rename_i fs hk; simp [Su,hk] at hs
  ·cases hf
theorem aHW {S:Nat->Prop} {a:Bool} {τ:Shape} {x:Aa τ} {y:Value} (ho:Ir a τ=false) (h:DY W S a τ x y):FR W S a τ x y []:=by
 cases τ with
 | slice e =>
  cases a with
  | true=>cases ho
  | false=>exact ⟨rfl,h⟩
 | _=>exact ⟨rfl,h⟩
theorem aAO {n:Nat} {sp:Nat->Bool} {held:Bool} {b0:Nat}:∀ (ts:List TypeId) (I:Ab) (vs:List Value) (ds:List (DataW H)) (ps:List MemPlace),UZ P n ts I=true ->
  (∀ (j:Nat) (t:TypeId) (v:Value),ts[j]? = some t->vs[j]? = some v->Value.okWide P W .any b0 t v)->DataW.TrodAll enc P W 0 sp held ts vs ds ps->∃ x:DenS I,Ct W (fun q=>q<W.heap.size) I x vs []/\wfS I x/\ds.length=ts.length
 | [],[],vs,ds,ps,_,_,h=>by
  cases vs <;> cases ds <;> simp [DataW.TrodAll] at h
  exact ⟨(),⟨rfl,rfl⟩,trivial,rfl⟩
 | [],_::_,_,_,_,hf,_,_=>by simp [UZ] at hf
 | _::_,[],_,_,_,hf,_,_=>by simp [UZ] at hf
 | t::ts,(a,τ)::I,vs,ds,ps,hf,hv,h=>by
  cases vs with
  | nil=>simp [DataW.TrodAll] at h
  | cons v vs =>
   cases ds with
   | nil=>simp [DataW.TrodAll] at h
   | cons d ds =>
    obtain ⟨p,q,⟨m,hp⟩,hq,_⟩:=h
    simp only [UZ,Bool.and_eq_true,beq_iff_eq] at hf
    obtain ⟨⟨h1,h2⟩,h3⟩:=hf
    obtain ⟨x,hx,hw,hl⟩:=aAO ts I vs ds q h3 (fun j t v ht hv'=>hv (j+1) t v (by simpa using ht) (by simpa using hv')) hq
    obtain ⟨y,hy,_⟩:=cO n m t τ _ d p h1 hp
    have hok:=hv 0 t v rfl rfl
    refine ⟨(y,x),⟨v,vs,[],[],rfl,rfl,aHW ?_ ?_,hx⟩,⟨hy.wfD,hw⟩,by simp [hl]⟩
    ·cases τ with
     | slice σ =>
      show a=false
      rw [h2]
      cases n with
      | zero=>simp [C5] at h1
      | succ n =>
       unfold C5 at h1
       unfold Su
       split at h1 <;> rename_i hk <;> first | (rw [hk]; done) | (simp only [hk]; done) | (simp [SO] at h1; done) | skip
     | _=>rfl
    cases a with
    | true =>
     have hs:Su P t=true:=h2.symm
     unfold Su at hs
     split at hs
     ·rename_i fs hk
      unfold Value.okWide at hok
      rw [hk] at hok
      obtain ⟨cs,rfl,_⟩:=hok
      exact ⟨cs.toList,by simp,hy⟩
     ·cases hs
    | false =>
     have hs:Su P t=false:=h2.symm
     rw [aOX h1 hs hok] at hy
     exact hy
theorem wR (hl:laidOutB P=true) {W':World} (hb:Below W.heap.size W W'):∀ (ts:List TypeId) (vs:List Value) (ds:List (DataW H)) (ps:List MemPlace),(ts.all fun t=>P.readableRec t&&decide (t<P.types.size))=true ->
  DataW.TrodAll enc P W 0 (fun _=>true) true ts vs ds ps->(∀ x∈ps,x.block<W.heap.size)->DataW.TrodAll enc P W' 0 (fun b=>decide (b<W.heap.size)) true ts vs ds ps
 | [],vs,ds,ps,_,h,_=>by
  cases vs <;> cases ds <;> simp [DataW.TrodAll] at h ⊢
  exact h
 | t::ts,vs,ds,ps,hr,h,hlt=>by
  cases vs with
  | nil=>simp [DataW.TrodAll] at h
  | cons v vs =>
   cases ds with
   | nil=>simp [DataW.TrodAll] at h
   | cons d ds =>
    obtain ⟨p,q,hp,hq,rfl⟩:=h
    simp only [List.all_cons,Bool.and_eq_true,decide_eq_true_eq] at hr
    exact ⟨p,q,Below.trod hl hr.1.1 hr.1.2 hp hb (fun x hx=>hlt x (List.mem_append.2 (.inl hx))),
     wR hl hb ts vs ds q hr.2 hq (fun x hx=>hlt x (List.mem_append.2 (.inr hx))),rfl⟩
theorem glob_of {n:String} {g:Nat} {t e:TypeId} {m k:Nat} {τ:Shape} {ds:List (DataW Unit)} {xs:List (Aa τ)} {r:List (String×DataW Unit)} {ps:List MemPlace}
  (hL:DataW.LaidVars P W ((n,.agg ds)::r) ps) (hg:P.globalNamed n=some g) (ht:(P.globals[g]?).map (·.type)=some t) (hu:P.underlying t=some (.array m e)) (hc:P.cellsOf e=τ.width) (hf:C5 P k e τ=true)
  (hx:ds.map (Fl τ).1=xs.map some) :
  (g<W.heap.size/\∃ vs T fz,W.heap[g]? = some (.cells vs T fz)/\Rows W (fun q=>q<W.heap.size) τ vs 0 xs)/\∃ ps',DataW.LaidVars P W r ps':=by
 obtain ⟨g',t',cs,fuel,p,q,h1,h2,h3,h4,h5,_⟩:=hL
 rw [hg] at h1; cases h1
 rw [ht] at h2; cases h2
 refine ⟨?_,q,h5⟩
 unfold World.var? at h3
 rw [hg] at h3
 simp only [Option.bind_some] at h3
 split at h3
 ·rename_i c T fz hh
  cases h3
  refine ⟨(Array.getElem?_eq_some_iff.1 hh).1,cs,T,fz,hh,?_⟩
  obtain ⟨ys,m',rfl,hy,hl,hyl,hel⟩:=DataW.trod_array hu h4
  simp only [Prod.mk.injEq,DataW.agg.injEq] at hy
  intro i x hi
  have hxl:xs.length=m:=by
   have:=congrArg List.length hx
   simp [hy.1,hyl] at this
   omega
  have him:i<m:=by rw [← hxl]; exact (List.getElem?_eq_some_iff.1 hi).1
  have he:=hel i him
  have hyi:ys[i]? = some (ys[i]'(by omega)):=List.getElem?_eq_getElem (by omega)
  rw [hyi,hc] at he
  obtain ⟨x',h6,h7⟩:=cO k m' e τ _ _ _ hf he
  have hd:(Fl τ).1 (ys[i]'(by omega)).1=some x:=by
   have:=congrArg (·[i]?) hx
   simp only [List.getElem?_map,hy.1,hyi,hi,Option.map_some] at this
   exact Option.some.inj this
  have:=h7 x hd
  subst this
  refine ⟨_,h6,fun j v hj=>?_⟩
  rw [List.getElem?_take] at hj
  split at hj
  ·rw [List.getElem?_drop] at hj
   simpa using hj
  ·cases hj
 ·cases h3
theorem aQp {G : List (Nat × Sigma fun τ => List (Aa τ))} {f : FuncId} {I : Ab} {T : DenS I -> Option (DenS [(false, .bool)])} {d : DenS [(false, .bool)]} (hS : Sound P G f (Al I [(false, .bool)] T d)) {x : DenS I} (hT : T x = some (true, ())) (hcal : ∃ fn, P.funcs[f]? = some fn /\ fn.body.isNone = false /\ (fn.name == "runtime.NumGoroutine") = false) {W : World} {args : Array Value}
  (hG:GlobsOk G W fun q=>q<W.heap.size) (ha:Ct W (fun q=>q<W.heap.size) I x args.toList []):Calls P f args W fun e W'=>e=.returned (.bool true)/\Below W.heap.size W W':=by
 have:=hS.calls x (by show (T x).isSome=true; rw [hT]; rfl) W (fun q=>q<W.heap.size) args.toList [] (fun q h=>h) hG ha List.nodup_nil (fun r h=>by simp at h)
 rw [Array.toArray_toList] at this
 have this:=this.resolve_right (fun ⟨v,hv,_⟩=>by rw [gY hcal] at hv; cases hv)
 refine this.2.mono fun e W' ⟨zs,rs',he,hb,_,_,hz⟩=>⟨?_,⟨hb.os,hb.tape,hb.output,hb.size,fun k hk=>hb.block k hk (fun h=>by simp at h)⟩⟩
 obtain ⟨y,ys,r1,r2,rfl,_,⟨_,h1⟩,rfl,_⟩:=hz
 have h2:[y]=[Value.bool ((T x).getD d).1]:=h1
 rw [hT] at h2
 cases h2
 exact he
theorem law_post {G:List (Nat×Sigma fun τ=>List (Aa τ))} {f:FuncId} {fn:Func} {I:Ab} {T:DenS I->Option (DenS [(false,.bool)])} {d:DenS [(false,.bool)]} {s:ChangeSpec} {n:Nat} {tb:TypeId}
  (hS : Sound P G f (Al I [(false, .bool)] T d)) (hT : ∀ x, wfS I x -> T x = some (true, ())) (hcal : ∃ fn, P.funcs[f]? = some fn /\ fn.body.isNone = false /\ (fn.name == "runtime.NumGoroutine") = false) (hlay : laidOutB P = true) (hfit : UZ P n fn.params.toList I = true)
  (hread:(fn.params.toList.all fun t=>P.readableRec t&&decide (t<P.types.size))=true) (hres:fn.resultTypes=#[tb]) (hbool:P.underlying tb=some .bool) (hvars:s.vars=[])
  (hspec:∀ ds:List (DataW H),ds.length=fn.params.toList.length->s.fn H ds={ results:=[.lit (.bool true)],args:=ds })
  {W:World} {base:Nat} {args:Array Value} {ds gs:List (DataW H)} {before:List MemPlace}
  (hval:∀ (j:Nat) (t:TypeId) (v:Value),fn.params[j]? = some t->args[j]? = some v->Value.okWide P W .any base t v)
  (hW:DataW.Whole enc P fn.params.toList s.vars false W args.toList ds gs before) (hG:GlobsOk G W fun q=>q<W.heap.size) :
  Calls P f args W fun e W'=>∃ v,e=.returned v/\ChangeSpec.post enc P fn s false true false false W args v W':=by
 have hW':=hW
 obtain ⟨p,q,hA,hV,rfl,_,_⟩:=hW
 rw [hvars] at hV
 obtain ⟨rfl,rfl⟩:=trodVars_none hV
 obtain ⟨x,hx,hw,hlen⟩:=aAO (b0:=base) fn.params.toList I args.toList ds p hfit (fun j t v ht hv=>hval j t v (by simpa using ht) (by simpa using hv)) hA
 refine (aQp hS (hT x hw) hcal hG hx).mono fun e W' ⟨he,hb⟩=>⟨.bool true,he,ds,[],p++[],[],p,[],hW',?_,?_,?_,hb.frame _,fun h=>by cases h⟩
 ·rw [List.append_nil,hspec ds hlen,hres]
  exact trodAll_mk1 (shut_bool hbool true)
 ·rw [List.append_nil,hspec ds hlen]
  exact wR hlay hb _ _ _ _ hread hA fun y hy=>by simpa using hW'.lt y (by simpa using hy)
 ·rw [List.append_nil,hspec ds hlen,hvars]
  rfl
end
theorem globs_nil {W:World} {S:Nat->Prop}:GlobsOk [] W S:=fun _ _ _ h=>by simp [Mz] at h
theorem globs_cons {W:World} {S:Nat->Prop} {g:Nat} {τ:Shape} {xs:List (Aa τ)} {G:List (Nat×Sigma fun τ=>List (Aa τ))} (h:S g/\∃ vs T fz,W.heap[g]? = some (.cells vs T fz)/\Rows W S τ vs 0 xs) (r:GlobsOk G W S) :
  GlobsOk ((g,⟨τ,xs⟩)::G) W S:=fun g' τ' xs' hf=>by
 simp only [Mz] at hf
 cases hb:Nat.beq g g' with
 | true =>
  have:=Nat.eq_of_beq_eq_true hb
  subst this
  rw [hb] at hf
  simp only [cond_true,Option.some.injEq] at hf
  cases hf
  exact h
 | false =>
  rw [hb] at hf
  exact r g' τ' xs' hf
end Vx
end
