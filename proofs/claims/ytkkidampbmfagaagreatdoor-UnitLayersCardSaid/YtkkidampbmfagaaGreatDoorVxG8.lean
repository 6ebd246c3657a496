/- Part 8 of the proof. What is proved: symbolic execution of the functions, proved sound; what each function of the program computes, and that every run ends with it; what these functions compute, in plain numbers. Conditions: each theorem bears its own. -/
import Derived.Test.YtkkidampbmfagaaGreatDoorVxG7
import Derived.ProofKit
import Derived.LaidMore
import Derived.OpenShut
import Derived.Stop.Joined
import GoSem.ClaimJoined
set_option linter.all false
set_option exponentiation.threshold 1000000
noncomputable section
namespace VL
open Go Vx
theorem aDT:IntKind.wrap .u64 (0:Int)=0:=by decide
theorem aKJ (m f:Int) {a b c:Nat} (ha:a<2^64) (hb:b<2^64) (hc:c<2^64):CW (some (181,[])) (m,f,(a:Int),(b:Int),(c:Int),()) (ZG f m a):=by
 have p:=aDK f m ha
 have q:Xu ((m,f,(a:Int),(b:Int),(c:Int),()),())=some (ZG f m a):=by
  show bS FX.pre FX.F (m,f,(a:Int),(b:Int),(c:Int),())=_
  unfold bS
  dsimp only
  rw [aFX p,zJ p]; rfl
 exact De (p:=Ln.pre ((m,f,(a:Int),(b:Int),(c:Int),()),())) (v:=Ln.F ((m,f,(a:Int),(b:Int),(c:Int),()),())) (by kernel_rfl) (by kernel_rfl) (aPL q) (aTj q)
theorem aTA (m f:Int) {a b c:Nat} (ha:a<2^64) (hb:b<2^64) (hc:c<2^64):CW (some (182,[])) (m,f,(a:Int),(b:Int),(c:Int),()) (Ye f m a b c):=by
 have p:=zS f m ha hb hc
 have q:VO ((m,f,(a:Int),(b:Int),(c:Int),()),())=some (Ye f m a b c):=by
  show fM Gh.pre Gh.F (m,f,(a:Int),(b:Int),(c:Int),())=_
  unfold fM
  dsimp only
  rw [aAW p,aEc p]; rfl
 exact De (p:=K4.pre ((m,f,(a:Int),(b:Int),(c:Int),()),())) (v:=K4.F ((m,f,(a:Int),(b:Int),(c:Int),()),())) (by kernel_rfl) (by kernel_rfl) (aNX q) (aLu q)
theorem aLx (m f:Int) {a b c:Nat} (ha:a<2^64) (hb:b<2^64) (hc:c<2^64):CW (some (184,[])) (m,f,(a:Int),(b:Int),(c:Int),()) (ZY f m a true):=by
 have p:=aIq f m ha true
 have q:Yb ((m,f,(a:Int),(b:Int),(c:Int),()),())=some (ZY f m a true):=by
  show bP Gm.pre Gm.F (m,f,(a:Int),(b:Int),(c:Int),())=_
  unfold bP
  dsimp only
  rw [aF7 p,aDS p]; rfl
 exact De (p:=MU.pre ((m,f,(a:Int),(b:Int),(c:Int),()),())) (v:=MU.F ((m,f,(a:Int),(b:Int),(c:Int),()),())) (by kernel_rfl) (by kernel_rfl) (aPE q) (aRd q)
theorem aUr (m f:Int) {a b c:Nat} (ha:a<2^64) (hb:b<2^64) (hc:c<2^64):CW (some (185,[])) (m,f,(a:Int),(b:Int),(c:Int),()) (X1 f (IntKind.wrap .i64 (c:Int)) m a):=by
 have p:=aH8 f (IntKind.wrap .i64 (c:Int)) m ha
 have q:W1 ((m,f,(a:Int),(b:Int),(c:Int),()),())=some (X1 f (IntKind.wrap .i64 (c:Int)) m a):=by
  show iM Gn.pre Gn.F (m,f,(a:Int),(b:Int),(c:Int),())=_
  unfold iM
  dsimp only
  rw [aFe p,aEf p]; rfl
 exact De (p:=Mq.pre ((m,f,(a:Int),(b:Int),(c:Int),()),())) (v:=Mq.F ((m,f,(a:Int),(b:Int),(c:Int),()),())) (by kernel_rfl) (by kernel_rfl) (aRq q) (aLB q)
theorem aKd (m f:Int) {a b c:Nat} (ha:a<2^64) (hb:b<2^64) (hc:c<2^64):CW (some (186,[])) (m,f,(a:Int),(b:Int),(c:Int),()) (XR f m (IntKind.wrap .i64 (c:Int)) a):=by
 have p:=aDa f m (IntKind.wrap .i64 (c:Int)) ha
 have q:X6 ((m,f,(a:Int),(b:Int),(c:Int),()),())=some (XR f m (IntKind.wrap .i64 (c:Int)) a):=by
  show aN Gb.pre Gb.F (m,f,(a:Int),(b:Int),(c:Int),())=_
  unfold aN
  dsimp only
  rw [aAP p,aAI p]; rfl
 exact De (p:=MP.pre ((m,f,(a:Int),(b:Int),(c:Int),()),())) (v:=MP.F ((m,f,(a:Int),(b:Int),(c:Int),()),())) (by kernel_rfl) (by kernel_rfl) (aJh q) (aNv q)
theorem aRl (m f:Int) {a b c:Nat} (ha:a<2^64) (hb:b<2^64) (hc:c<2^64):CW (some (187,[])) (m,f,(a:Int),(b:Int),(c:Int),()) (ZE f m (IntKind.wrap .i64 (c:Int)) a):=by
 have p:=aHw f m (IntKind.wrap .i64 (c:Int)) ha
 have q:Zm ((m,f,(a:Int),(b:Int),(c:Int),()),())=some (ZE f m (IntKind.wrap .i64 (c:Int)) a):=by
  show lT FW.pre FW.F (m,f,(a:Int),(b:Int),(c:Int),())=_
  unfold lT
  dsimp only
  rw [aFN p,aBm p]; rfl
 exact De (p:=Lz.pre ((m,f,(a:Int),(b:Int),(c:Int),()),())) (v:=Lz.F ((m,f,(a:Int),(b:Int),(c:Int),()),())) (by kernel_rfl) (by kernel_rfl) (aOy q) (aLJ q)
theorem aSU (m f:Int) {a b c:Nat} (ha:a<2^64) (hb:b<2^64) (hc:c<2^64):CW (some (190,[])) (m,f,(a:Int),(b:Int),(c:Int),()) (TH f a 1):=by
 have p:=aHN (f:=f) ha
 have q:YD ((m,f,(a:Int),(b:Int),(c:Int),()),())=some (TH f a 1):=by
  show aE Ge.pre Ge.F (m,f,(a:Int),(b:Int),(c:Int),())=_
  unfold aE
  dsimp only
  rw [aIr p,aB4 p]; rfl
 exact De (p:=Lx.pre ((m,f,(a:Int),(b:Int),(c:Int),()),())) (v:=Lx.F ((m,f,(a:Int),(b:Int),(c:Int),()),())) (by kernel_rfl) (by kernel_rfl) (aJO q) (aI8 q)
theorem aQV (m f:Int) {a b c:Nat} (ha:a<2^64) (hb:b<2^64) (hc:c<2^64):CW (some (191,[])) (m,f,(a:Int),(b:Int),(c:Int),()) (Xd f m a (IntKind.wrap .i64 (b:Int))):=by
 have p:=aIH f m ha (IntKind.wrap .i64 (b:Int))
 have q:Wy ((m,f,(a:Int),(b:Int),(c:Int),()),())=some (Xd f m a (IntKind.wrap .i64 (b:Int))):=by
  show aO F4.pre F4.F (m,f,(a:Int),(b:Int),(c:Int),())=_
  unfold aO
  dsimp only
  rw [aD7 p,aIF p]; rfl
 exact De (p:=Kz.pre ((m,f,(a:Int),(b:Int),(c:Int),()),())) (v:=Kz.F ((m,f,(a:Int),(b:Int),(c:Int),()),())) (by kernel_rfl) (by kernel_rfl) (aSd q) (aLM q)
theorem aUU (m f:Int) {a b c:Nat} (ha:a<2^64) (hb:b<2^64) (hc:c<2^64):CW (some (194,[])) (m,f,(a:Int),(b:Int),(c:Int),()) (((Jg f a b).1,0,(Jg f a b).2)):=by
 have p:=aE6 f ha hb
 have q:XO ((m,f,(a:Int),(b:Int),(c:Int),()),())=some (((Jg f a b).1,0,(Jg f a b).2)):=by
  show fC F0.pre F0.F (m,f,(a:Int),(b:Int),(c:Int),())=_
  unfold fC
  dsimp only
  rw [aD0 p,aIs p]; rfl
 exact De (p:=K9.pre ((m,f,(a:Int),(b:Int),(c:Int),()),())) (v:=K9.F ((m,f,(a:Int),(b:Int),(c:Int),()),())) (by kernel_rfl) (by kernel_rfl) (aO9 q) (aRa q)
theorem aLa (m f:Int) {a b c:Nat} (ha:a<2^64) (hb:b<2^64) (hc:c<2^64):CW (some (192,[])) (m,f,(a:Int),(b:Int),(c:Int),()) (E4 f a):=by
 have q:Zs ((m,f,(a:Int),(b:Int),(c:Int),()),())=some (E4 f a):=by
  show j3 AB.pre AB.F (m,f,(a:Int),(b:Int),(c:Int),())=_
  unfold j3 E4
  dsimp only
  by_cases h:Am f a=0
  ·have p:=Fr ha h
   rw [Dl p,Dk p,if_pos h]; rfl
  ·have p:=Pc ha h
   rw [Dl p,Dk p,if_neg h,← aDT]; rfl
 exact De (p:=KZ.pre ((m,f,(a:Int),(b:Int),(c:Int),()),())) (v:=KZ.F ((m,f,(a:Int),(b:Int),(c:Int),()),())) (by kernel_rfl) (by kernel_rfl) (aSb q) (aSl q)
theorem aFO {f:Int} {a:Nat} (ha:a<2^64):Sl (f,(a:Int),())=some ((DC f a).1,(DC f a).2.2):=by
 unfold DC
 by_cases h:Am f a=0
 ·rw [oM h,if_pos h]
 ·rw [aRD ha h,if_neg h]
theorem aI4 (f:Int) (a:Nat):(DC f a).2.1=0:=by unfold DC; split <;> rfl
theorem aAt {f:Int} {a:Nat} (ha:a<2^64):Sv (f,(a:Int),())=some ((F7 f a).1,(F7 f a).2.2):=by
 obtain ⟨v,p,_⟩:=aTd (f:=f) ha
 unfold F7
 rw [lF p]
 exact p
theorem aSW (m f:Int) {a b c:Nat} (ha:a<2^64) (hb:b<2^64) (hc:c<2^64):CW (some (259,[60+2])) (m,f,(a:Int),(b:Int),(c:Int),()) (DC f a):=by
 have p:=aFO (f:=f) ha
 have q:=aFQ (g:=60) (k:=(m,f,(a:Int),(b:Int),(c:Int),())) (p:=C1.pre (f,(a:Int),())) (y:=C1.F (f,(a:Int),())) (by kernel_rfl) (by kernel_rfl) (fQ p)
 rw [dI p] at q
 have e:((((DC f a).1,(DC f a).2.2):Int×Int×Unit).1,(0:Int),(((DC f a).1,(DC f a).2.2):Int×Int×Unit).2)=DC f a:=by unfold DC; split <;> rfl
 rw [e] at q
 exact De (p:=Fe.pre ((m,f,(a:Int),(b:Int),(c:Int),()),60,())) (v:=Fe.F ((m,f,(a:Int),(b:Int),(c:Int),()),60,())) (by kernel_rfl) (by kernel_rfl) (aHz q) (aAO q)
theorem aTu (m f:Int) {a b c:Nat} (ha:a<2^64) (hb:b<2^64) (hc:c<2^64):CW (some (259,[147+2])) (m,f,(a:Int),(b:Int),(c:Int),()) (F7 f a):=by
 have p:=aAt (f:=f) ha
 have q:=aFQ (g:=147) (k:=(m,f,(a:Int),(b:Int),(c:Int),())) (p:=C6.pre (f,(a:Int),())) (y:=C6.F (f,(a:Int),())) (by kernel_rfl) (by kernel_rfl) (sV p)
 rw [lF p] at q
 have e:((((F7 f a).1,(F7 f a).2.2):Int×Int×Unit).1,(0:Int),(((F7 f a).1,(F7 f a).2.2):Int×Int×Unit).2)=F7 f a:=by unfold F7; rfl
 rw [e] at q
 exact De (p:=Fe.pre ((m,f,(a:Int),(b:Int),(c:Int),()),147,())) (v:=Fe.F ((m,f,(a:Int),(b:Int),(c:Int),()),147,())) (by kernel_rfl) (by kernel_rfl) (aHz q) (aAO q)
theorem aIT (m f:Int) {a b c:Nat} (ha:a<2^64) (hb:b<2^64) (hc:c<2^64):CW (some (257,[97+2])) (m,f,(a:Int),(b:Int),(c:Int),()) (Rl f a b false):=by
 have p:=aDD (f:=f) ha hb
 have q:=xT (g:=97) (k:=(m,f,(a:Int),(b:Int),(c:Int),())) (p:=FC.pre (f,(a:Int),(b:Int),())) (y:=FC.F (f,(a:Int),(b:Int),())) (by kernel_rfl) (by kernel_rfl) (aDo p)
 rw [zB p] at q
 exact De (p:=Fh.pre ((m,f,(a:Int),(b:Int),(c:Int),()),97,())) (v:=Fh.F ((m,f,(a:Int),(b:Int),(c:Int),()),97,())) (by kernel_rfl) (by kernel_rfl) (aHM q) (aFI q)
theorem aT5 (m f:Int) {a b c:Nat} (ha:a<2^64) (hb:b<2^64) (hc:c<2^64):CW (some (257,[98+2])) (m,f,(a:Int),(b:Int),(c:Int),()) (Rl f a b true):=by
 have p:=x5 (f:=f) ha hb
 have q:=xT (g:=98) (k:=(m,f,(a:Int),(b:Int),(c:Int),())) (p:=Ff.pre (f,(a:Int),(b:Int),())) (y:=Ff.F (f,(a:Int),(b:Int),())) (by kernel_rfl) (by kernel_rfl) (aHV p)
 rw [aGr p] at q
 exact De (p:=Fh.pre ((m,f,(a:Int),(b:Int),(c:Int),()),98,())) (v:=Fh.F ((m,f,(a:Int),(b:Int),(c:Int),()),98,())) (by kernel_rfl) (by kernel_rfl) (aHM q) (aFI q)
theorem aKi (m f:Int) {a b c:Nat} (ha:a<2^64) (hb:b<2^64) (hc:c<2^64):CW (some (256,[94+2])) (m,f,(a:Int),(b:Int),(c:Int),()) ((EL f a b true).1,(EL f a b true).2.2):=by
 have p:=aCy f ha hb
 have q:=aBg (g:=94) (k:=(m,f,(a:Int),(b:Int),(c:Int),())) (p:=Fc.pre (f,(a:Int),(b:Int),())) (y:=Fc.F (f,(a:Int),(b:Int),())) (by kernel_rfl) (by kernel_rfl) (aCa p)
 rw [xU p] at q
 exact De (p:=FS.pre ((m,f,(a:Int),(b:Int),(c:Int),()),94,())) (v:=FS.F ((m,f,(a:Int),(b:Int),(c:Int),()),94,())) (by kernel_rfl) (by kernel_rfl) (aGv q) (aHn q)
theorem aQi (m f:Int) {a b c:Nat} (ha:a<2^64) (hb:b<2^64) (hc:c<2^64):CW (some (256,[95+2])) (m,f,(a:Int),(b:Int),(c:Int),()) ((EL f a b false).1,(EL f a b false).2.2):=by
 have p:=xJ f ha hb
 have q:=aBg (g:=95) (k:=(m,f,(a:Int),(b:Int),(c:Int),())) (p:=FM.pre (f,(a:Int),(b:Int),())) (y:=FM.F (f,(a:Int),(b:Int),())) (by kernel_rfl) (by kernel_rfl) (aDF p)
 rw [aFc p] at q
 exact De (p:=FS.pre ((m,f,(a:Int),(b:Int),(c:Int),()),95,())) (v:=FS.F ((m,f,(a:Int),(b:Int),(c:Int),()),95,())) (by kernel_rfl) (by kernel_rfl) (aGv q) (aHn q)
theorem aJu (m f:Int) {a b c:Nat} (ha:a<2^64) (hb:b<2^64) (hc:c<2^64):CW (some (258,[0])) (m,f,(a:Int),(b:Int),(c:Int),()) ((IntKind.wrap .u64 (FL f a b false).1,(FL f a b false).2)):=by
 have p:=nP (f:=f) ha hb false
 have q:VI ((m,f,(a:Int),(b:Int),(c:Int),()),false,())=some ((IntKind.wrap .u64 (FL f a b false).1,(FL f a b false).2)):=by
  show Vu E0.pre E0.F (m,f,(a:Int),(b:Int),(c:Int),()) false=_
  unfold Vu
  dsimp only
  rw [tN p,wD p]; rfl
 exact De (p:=Fv.pre ((m,f,(a:Int),(b:Int),(c:Int),()),false,())) (v:=Fv.F ((m,f,(a:Int),(b:Int),(c:Int),()),false,())) (by kernel_rfl) (by kernel_rfl) (aBQ q) (aAq q)
theorem aJY (m f:Int) {a b c:Nat} (ha:a<2^64) (hb:b<2^64) (hc:c<2^64):CW (some (258,[1])) (m,f,(a:Int),(b:Int),(c:Int),()) ((IntKind.wrap .u64 (FL f a b true).1,(FL f a b true).2)):=by
 have p:=nP (f:=f) ha hb true
 have q:VI ((m,f,(a:Int),(b:Int),(c:Int),()),true,())=some ((IntKind.wrap .u64 (FL f a b true).1,(FL f a b true).2)):=by
  show Vu E0.pre E0.F (m,f,(a:Int),(b:Int),(c:Int),()) true=_
  unfold Vu
  dsimp only
  rw [tN p,wD p]; rfl
 exact De (p:=Fv.pre ((m,f,(a:Int),(b:Int),(c:Int),()),true,())) (v:=Fv.F ((m,f,(a:Int),(b:Int),(c:Int),()),true,())) (by kernel_rfl) (by kernel_rfl) (aBQ q) (aAq q)
theorem aPc (m f:Int) {op:Int} (h1:1≤op) (h2:op≤22) {a b c:Nat} (ha:a<2^64) (hb:b<2^64) (hc:c<2^64) :
  ∃ n w,Q7 (op,())=some ((n,w,()),0,())∧0≤n∧n≤3∧CW w (m,f,(a:Int),(b:Int),(c:Int),()) (Hk m op f a b c):=by
 obtain ⟨w1,w2,w3,w4⟩:=aTB m f ha hb (c:Int)
 have hop:op=1∨op=2∨op=3∨op=4∨op=5∨op=6∨op=7∨op=8∨op=9∨op=10∨op=11∨op=12∨op=13∨op=14∨op=15∨op=16∨op=17∨op=18∨op=19∨op=20∨op=21∨op=22:=by omega
 rcases hop with rfl | rfl | rfl | rfl | rfl | rfl | rfl | rfl | rfl | rfl | rfl | rfl | rfl | rfl | rfl | rfl | rfl | rfl | rfl | rfl | rfl | rfl
 ·exact ⟨2,some (255,[15+2]),Dc (by decide) (by decide) (by kernel_rfl),by decide,by decide,w1⟩
 ·exact ⟨2,some (255,[16+2]),Dc (by decide) (by decide) (by kernel_rfl),by decide,by decide,w2⟩
 ·exact ⟨2,some (255,[17+2]),Dc (by decide) (by decide) (by kernel_rfl),by decide,by decide,w3⟩
 ·exact ⟨2,some (255,[18+2]),Dc (by decide) (by decide) (by kernel_rfl),by decide,by decide,w4⟩
 ·exact ⟨1,some (181,[]),Dc (by decide) (by decide) (by kernel_rfl),by decide,by decide,aKJ m f ha hb hc⟩
 ·exact ⟨3,some (182,[]),Dc (by decide) (by decide) (by kernel_rfl),by decide,by decide,aTA m f ha hb hc⟩
 ·exact ⟨2,some (256,[94+2]),Dc (by decide) (by decide) (by kernel_rfl),by decide,by decide,aKi m f ha hb hc⟩
 ·exact ⟨2,some (256,[95+2]),Dc (by decide) (by decide) (by kernel_rfl),by decide,by decide,aQi m f ha hb hc⟩
 ·exact ⟨1,some (184,[]),Dc (by decide) (by decide) (by kernel_rfl),by decide,by decide,aLx m f ha hb hc⟩
 ·exact ⟨1,some (185,[]),Dc (by decide) (by decide) (by kernel_rfl),by decide,by decide,aUr m f ha hb hc⟩
 ·exact ⟨1,some (186,[]),Dc (by decide) (by decide) (by kernel_rfl),by decide,by decide,aKd m f ha hb hc⟩
 ·exact ⟨0,some (187,[]),Dc (by decide) (by decide) (by kernel_rfl),by decide,by decide,aRl m f ha hb hc⟩
 ·exact ⟨2,some (257,[97+2]),Dc (by decide) (by decide) (by kernel_rfl),by decide,by decide,aIT m f ha hb hc⟩
 ·exact ⟨2,some (257,[98+2]),Dc (by decide) (by decide) (by kernel_rfl),by decide,by decide,aT5 m f ha hb hc⟩
 ·exact ⟨2,some (258,[0]),Dc (by decide) (by decide) (by kernel_rfl),by decide,by decide,aJu m f ha hb hc⟩
 ·exact ⟨2,some (258,[1]),Dc (by decide) (by decide) (by kernel_rfl),by decide,by decide,aJY m f ha hb hc⟩
 ·exact ⟨1,some (190,[]),Dc (by decide) (by decide) (by kernel_rfl),by decide,by decide,aSU m f ha hb hc⟩
 ·exact ⟨1,some (191,[]),Dc (by decide) (by decide) (by kernel_rfl),by decide,by decide,aQV m f ha hb hc⟩
 ·exact ⟨1,some (192,[]),Dc (by decide) (by decide) (by kernel_rfl),by decide,by decide,aLa m f ha hb hc⟩
 ·exact ⟨1,some (259,[60+2]),Dc (by decide) (by decide) (by kernel_rfl),by decide,by decide,aSW m f ha hb hc⟩
 ·exact ⟨1,some (259,[147+2]),Dc (by decide) (by decide) (by kernel_rfl),by decide,by decide,aTu m f ha hb hc⟩
 ·exact ⟨2,some (194,[]),Dc (by decide) (by decide) (by kernel_rfl),by decide,by decide,aUU m f ha hb hc⟩
end VL
namespace VL
open Go Vx
def Dy (x:Int):Bool:=RE .i64 x 31==0
def Iz (v:Int×Int×Int×Unit):Int:=if v.1<0∨v.1>5 then 3 else if (Dy v.2.1&&Dy v.2.2.1)=true then 0 else 7
theorem aIB (x:Int):TE (x,())=some (Dy x,()):=rfl
theorem aOn (v:Int×Int×Int×Unit):TA (v,())=some (Iz v,()):=by
 show lX QM.pre QM.F v=_
 unfold lX Iz
 have p:=aIB v.2.1
 have q:TE v.2.2=some (Dy v.2.2.1,()):=aIB v.2.2.1
 rw [aAw p,zL p,aAw q,zL q]
 by_cases h:v.1<0∨v.1>5
 ·have:(decide (v.1<0)||decide (v.1>5))=true:=by rw [Bool.or_eq_true,decide_eq_true_eq,decide_eq_true_eq]; exact h
  rw [this,if_pos h]; rfl
 ·have:(decide (v.1<0)||decide (v.1>5))=false:=by
   rw [decide_eq_false (show ¬ v.1<0 by omega),decide_eq_false (show ¬ v.1>5 by omega)]; rfl
  rw [this,if_neg h]
  cases Dy v.2.1 <;> cases Dy v.2.2.1 <;> rfl
def GU (f:Int):List Nat→Int
 | []=>0
 | a::l=>if Am f a≠0 then Am f a else GU f l
abbrev R5:=Int×Int×Int×Int×Int×Unit
theorem aMo (R:R5) (op:Int) (l:List Nat) (hl:∀ a∈l,a<2^64) (hlen:l.length<1000) :
  eB (((l.length:Int),Wd l,(0:Int),op,(),()),(),R,())=some (if GU R.2.1 l=0 then .inl ((op,(),()),(),R,()) else .inr ((GU R.2.1 l,()),())):=by
 have key:=Df (aGK Aq.pre Aq.F Ar.pre Ar.F) (fun x=>l.length-x.1.2.2.1.toNat)
  (fun x=>∃ i:Nat,i≤l.length∧GU R.2.1 (l.drop i)=GU R.2.1 l∧x=(((l.length:Int),Wd l,(i:Int),op,(),()),(),R,()))
  (fun _=>if GU R.2.1 l=0 then .inl ((op,(),()),(),R,()) else .inr ((GU R.2.1 l,()),())) ?_ _ ⟨0,Nat.zero_le _,rfl,rfl⟩
 ·exact key
 intro L x hx hL
 obtain ⟨i,hi,hok,rfl⟩:=hx
 unfold TP
 rcases Nat.lt_or_ge i l.length with hlt | hge
 ·have hg:l.getD i 0=l[i]:=by simp [List.getD_eq_getElem?_getD,hlt]
  have ha:=hl _ (List.getElem_mem hlt)
  have p0:=En R.2.1 l[i] ha
  have e0:decide ((i:Int)<(l.length:Int))=true:=decide_eq_true (by omega)
  have e1:(decide ((0:Int)≤(i:Int))&&decide ((i:Int)<((Wd l).length:Int)))=true:=by rw [Az,decide_eq_true (by omega),decide_eq_true (by omega)]; rfl
  have e2:(Wd l).getD (Int.toNat (i:Int)) 0=((l[i]:Nat):Int):=by rw [Int.toNat_natCast,Ca,hg]
  have e3:IntKind.wrap .i64 ((i:Int)+1)=((i+1:Nat):Int):=by rw [As (by omega)]; omega
  rw [List.drop_eq_getElem_cons hlt,GU] at hok
  dsimp only
  simp only [e0,e1,e2,e3,cond_true,Dp p0,Dt p0]
  by_cases hc:Am R.2.1 l[i]=0
  ·rw [if_neg (fun h=>h hc)] at hok
   rw [hc,bne_self_eq_false,cond_false]
   exact hL _ ⟨i+1,by omega,hok,rfl⟩ (by simp only [Int.toNat_natCast]; omega)
  ·rw [if_pos hc] at hok
   have:(Am R.2.1 l[i] != 0)=true:=by rw [bne_iff_ne]; exact hc
   rw [this,← hok,if_neg hc]; rfl
 ·have e:i=l.length:=by omega
  subst e
  rw [List.drop_length] at hok
  have e0:decide ((l.length:Int)<(l.length:Int))=false:=decide_eq_false (by omega)
  simp only [e0,cond_false]
  rw [← hok]; rfl
def pP (a c:Int):Bool:=(((IntKind.wrap .i64 c)==0)&&((IntKind.wrap .u64 (IntKind.wrap .i64 (IntKind.wrap .i32 a))) != a))||(((IntKind.wrap .i64 c)==2)&&((AH .u64 a 32) != 0))
def Ik (f op:Int) (n a b c:Nat):Int :=
 if ¬ Fm f then 2 else if op=10∧c>3 then 2 else if (op=11∨op=12)∧c>3 then 9
 else if GU f ([a,b,c].take n)≠0 then GU f ([a,b,c].take n) else if (op==12&&pP a c)=true then 4 else 0
theorem yF (op:Int) (c:Nat) {d:Bool} (hd:d=decide ((c:Int)>3)) (t:Int) (v:Option (Int×Unit)) (hv:v=some (t,())) :
  (bif op==10 then (bif d then some (2,()) else v) else bif op==11 then (bif op==11 then (bif d then some (9,()) else v) else v) else bif op==12 then (bif d then some (9,()) else v) else v) =
  some (if op=10∧c>3 then 2 else if (op=11∨op=12)∧c>3 then 9 else t,()):=by
 rw [hd,hv]
 by_cases h:c>3
 ·rw [decide_eq_true (show (c:Int)>3 by omega)]
  by_cases h1:op=10
  ·subst h1; rw [if_pos ⟨rfl,h⟩]; rfl
  ·rw [beq_false_of_ne h1,if_neg (fun x=>h1 x.1)]
   by_cases h2:op=11
   ·subst h2; rw [if_pos ⟨.inl rfl,h⟩]; rfl
   ·by_cases h3:op=12
    ·subst h3; rw [if_pos ⟨.inr rfl,h⟩]; rfl
    ·rw [beq_false_of_ne h2,beq_false_of_ne h3,if_neg (fun x=>x.1.elim h2 h3)]; rfl
 ·rw [decide_eq_false (show ¬ (c:Int)>3 by omega),if_neg (fun x=>h x.2),if_neg (fun x=>h x.2)]
  cases op==10 <;> cases op==11 <;> cases op==12 <;> rfl
theorem aM0 (m f op:Int) (w:Option (Nat×List Nat)) {n a b c:Nat} (hn:n≤3) (ha:a<2^64) (hb:b<2^64) (hc:c<2^64) :
  XI (op,((n:Int),w,()),(m,f,(a:Int),(b:Int),(c:Int),()),())=some (Ik f op n a b c,()):=by
 show kC Aq.pre Aq.F Ar.pre Ar.F eB op ((n:Int),w,()) (m,f,(a:Int),(b:Int),(c:Int),())=_
 have e3:((((a:Int)::((b:Int)::((c:Int)::[]))).take (Int.toNat (n:Int))).drop (Int.toNat (0:Int)))=Wd ([a,b,c].take n):=by
  have:n=0∨n=1∨n=2∨n=3:=by omega
  rcases this with rfl | rfl | rfl | rfl <;> rfl
 have e2:((decide ((0:Int)≤(n:Int)))&&(decide ((n:Int)≤((((a:Int)::((b:Int)::((c:Int)::[]))).length:Nat):Int))))=true:=by
  rw [decide_eq_true (show (0:Int)≤(n:Int) by omega),decide_eq_true (show ((n:Int)≤((((a:Int)::((b:Int)::((c:Int)::[]))).length:Nat):Int)) from by show (n:Int)≤3; omega)]; rfl
 have hW:=aMo (m,f,(a:Int),(b:Int),(c:Int),()) op ([a,b,c].take n) (by intro x hx; have:=List.mem_of_mem_take hx; simp at this; omega) (by rw [List.length_take]; show min n 3<1000; omega)
 unfold kC Ik
 dsimp only
 by_cases hA:GU f ([a,b,c].take n)=0
 ·rw [if_pos hA] at hW
  rw [e3,e2,Az,hW]
  by_cases hf:Fm f
  ·have p0:=FQ hf
   rw [Dd p0,C8 p0,if_neg (show ¬ ¬ Fm f from fun h=>h hf)]
   refine yF op c rfl _ (bif op==12 then (bif pP a c then some (4,()) else some (0,())) else some (0,())) ?_
   rw [if_neg (fun h=>h hA)]
   cases op==12 <;> cases pP (a:Int) c <;> rfl
  ·have p0:=GG hf
   rw [Dd p0,C8 p0,if_pos hf]; rfl
 ·rw [if_neg hA] at hW
  rw [e3,e2,Az,hW]
  by_cases hf:Fm f
  ·have p0:=FQ hf
   rw [Dd p0,C8 p0,if_neg (show ¬ ¬ Fm f from fun h=>h hf)]
   refine yF op c rfl _ (some (GU f ([a,b,c].take n),())) ?_
   rw [if_pos hA]
  ·have p0:=GG hf
   rw [Dd p0,C8 p0,if_pos hf]; rfl
def P7 (op:Int):Nat:=(Kr.F (op,())).1.1.toNat
def Ey (v:Int×Int×Int×Unit) (op f:Int) (a b c:Nat):Int :=
 if Iz v≠0 then Iz v else if op<1∨op>22 then 190
 else if Ik f op (P7 op) a b c≠0 then Ik f op (P7 op) a b c else (Hk v.1 op f a b c).2.2.1
abbrev t9:=Int×Int×Int×(Int×Int×Int×Unit)×Unit
def x8:t9:=(0,0,0,(0,0,0,()),())
def Ym (v:Int×Int×Int×Unit) (y:Int×Int×Int×Unit):t9 :=
 if A8 .i64 y.2.1 v.2.2.1≠0 then (0,y.2.1,A8 .i64 (A8 .i64 y.2.1 v.2.2.1) (IntKind.wrap .i64 (0-A8 .i64 y.2.1 v.2.2.1)),v,())
 else (y.1,y.2.1,0,(v.1,A9 .i64 v.2.1 y.2.1,v.2.2),())
def Lp (v:Int×Int×Int×Unit) (op f:Int) (a b c:Nat):t9×Int×Unit :=
 if Ey v op f a b c≠0 then (x8,Ey v op f a b c,()) else (Ym v (Hk v.1 op f a b c),0,())
theorem aCP (v:Int×Int×Int×Unit) (op f:Int) {a b c:Nat} (ha:a<2^64) (hb:b<2^64) (hc:c<2^64) :
  Th (v,op,f,(a:Int),(b:Int),(c:Int),())=some (Lp v op f a b c):=by
 show eA Pa.pre Pa.F Kr.pre Kr.F PP.pre PP.F Ka.pre Ka.F v op f a b c=_
 unfold eA Lp
 dsimp only
 have p0:TA ((v.1,v.2),())=some (Iz v,()):=aOn v
 rw [aIZ p0,aNp p0,cond_true]
 by_cases hg:Iz v=0
 ·have hz:((Iz v:Int) != 0)=false:=by rw [hg]; rfl
  rw [hz,cond_false]
  by_cases ho:op<1∨op>22
  ·have p1:=aTW ho
   have he:Ey v op f a b c=190:=by unfold Ey; rw [if_neg (fun h=>h hg),if_pos ho]
   rw [aC8 p1,eY p1,he]; rfl
  ·obtain ⟨n,w,p1,hn0,hn3,hd1,hd2⟩:=aPc v.1 f (op:=op) (by omega) (by omega) ha hb hc
   obtain ⟨k,rfl⟩:=Int.eq_ofNat_of_zero_le hn0
   have hk:P7 op=k:=by unfold P7; rw [eY p1]; rfl
   have p2:=aM0 v.1 f op w (n:=k) (Int.ofNat_le.1 hn3) ha hb hc
   have he:Ey v op f a b c=if Ik f op k a b c≠0 then Ik f op k a b c else (Hk v.1 op f a b c).2.2.1:=by
    unfold Ey; rw [if_neg (fun h=>h hg),if_neg ho,hk]
   rw [he,aC8 p1,eY p1,cond_true]
   dsimp only
   rw [bne_self_eq_false,cond_false,aI1 p2,aUg p2,cond_true]
   dsimp only
   by_cases hc0:Ik f op k a b c=0
   ·rw [hc0,bne_self_eq_false,cond_false,hd1,hd2,cond_true,if_neg (show ¬ ((0:Int)≠0) by decide)]
    by_cases hr:(Hk v.1 op f a b c).2.2.1=0
    ·rw [hr,bne_self_eq_false,cond_false,if_neg (show ¬ ((0:Int)≠0) by decide)]
     unfold Ym
     by_cases ht:A8 .i64 (Hk v.1 op f a b c).2.1 v.2.2.1=0
     ·rw [ht,bne_self_eq_false,cond_false,if_neg (show ¬ ((0:Int)≠0) by decide)]
     ·rw [if_pos ht,bne_iff_ne.2 ht]; rfl
    ·rw [if_pos hr,bne_iff_ne.2 hr]; rfl
   ·rw [if_pos hc0,if_pos hc0,bne_iff_ne.2 hc0]; rfl
 ·have he:Ey v op f a b c=Iz v:=by unfold Ey; rw [if_pos hg]
  rw [he,if_pos hg,bne_iff_ne.2 hg]; rfl
theorem aKM:Ey (0,0,2,()) 4 0 15360 0 7=0:=by
 have p:Q7 (4,())=some (((2:Int),some (255,[18+2]),()),0,()):=Dc (by decide) (by decide) (by kernel_rfl)
 have h:P7 4=2:=by unfold P7; rw [eY p]; rfl
 unfold Ey
 rw [h]
 show _=(0:Int)
 kernel_rfl
theorem aKY:Hk 0 4 0 15360 0 7=(TI 0 0 15360 0):=by kernel_rfl
theorem aI6:TI 0 0 15360 0=(31744,2,0,()):=by kernel_rfl
theorem aN6:YQ ()=some (true,()):=by
 show Z2 F5.pre F5.F=_
 unfold Z2
 have p:Th ((0,0,2,()),4,0,15360,0,7,())=_:=aCP (0,0,2,()) 4 0 (a:=15360) (b:=0) (c:=7) (by decide) (by decide) (by decide)
 dsimp only
 rw [zY p,aHP p,cond_true]
 unfold Lp
 rw [aKM,aKY,aI6]
 rfl
end VL
namespace VL
open Go Vx
theorem aIg (f:Int) (a b:Nat) (near:Bool):0≤(EL f a b near).2.1:=by
 unfold EL
 cases (Hw f a b).2.2.1
 ·show (0:Int)≤(((_%8:Nat):Int)); omega
 ·exact Int.le_refl 0
def aA6 (op f:Int) (a b:Nat):Int×Int×Int×Bool×Unit :=
 if op=19 then ((E4 f a).1,0,(E4 f a).2.2.1,true,()) else if op=20 then ((DC f a).1,0,(DC f a).2.2.1,true,())
 else if op=21 then ((F7 f a).1,0,(F7 f a).2.2.1,true,()) else if op=22 then ((Jg f a b).1,0,(Jg f a b).2.1,true,()) else (0,0,0,false,())
theorem aMT (op f:Int) {a b:Nat} (ha:a<2^64) (hb:b<2^64):Xz (op,f,(a:Int),(b:Int),())=some (aA6 op f a b):=by
 show jQ AB.pre AB.F C1.pre C1.F C6.pre C6.F F0.pre F0.F op f a b=_
 unfold jQ aA6
 have p1:=aFO (f:=f) ha
 have p2:=aAt (f:=f) ha
 have p3:=aE6 f ha hb
 have p0:∃ k:Int,Sh (f,(a:Int),())=some (k,(E4 f a).2.2)∧IntKind.wrap .u64 k=(E4 f a).1:=by
  unfold E4
  by_cases h:Am f a=0
  ·rw [if_pos h]; exact ⟨_,Fr ha h,rfl⟩
  ·rw [if_neg h]; exact ⟨_,Pc ha h,aDT⟩
 obtain ⟨k,p0,hk⟩:=p0
 rw [Dl p0,Dk p0,fQ p1,dI p1,sV p2,lF p2,aD0 p3,aIs p3]
 dsimp only
 rw [hk]
 by_cases h1:op=19
 ·subst h1; rfl
 rw [if_neg h1,beq_false_of_ne h1]
 by_cases h2:op=20
 ·subst h2; rfl
 rw [if_neg h2,beq_false_of_ne h2]
 by_cases h3:op=21
 ·subst h3; rfl
 rw [if_neg h3,beq_false_of_ne h3]
 by_cases h4:op=22
 ·subst h4; rfl
 rw [if_neg h4,beq_false_of_ne h4]
 rfl
theorem pG {c:Nat} (hc:c<2^64) (h:c≤3):A8 .u64 (c:Int) 3=(c:Int):=by
 have:=Ss (n:=2) hc (by decide)
 rw [Nat.mod_eq_of_lt (show c<2^2 by omega)] at this
 exact this
theorem aNt (m op f:Int) {a b c:Nat} (ha:a<2^64) (hb:b<2^64) (hc:c<2^64):∃ y,ZN (m,op,f,(a:Int),(b:Int),(c:Int),())=some y∧(1≤op→op≤22→(op=10∨op=11∨op=12→c≤3)→y=((Hk m op f a b c).1,(Hk m op f a b c).2.1,(Hk m op f a b c).2.2.1,true,())):=by
 show ∃ y,kX DQ.pre DQ.F Fi.pre Fi.F Fb.pre Fb.F Fy.pre Fy.F FX.pre FX.F Gh.pre Gh.F Fc.pre Fc.F FM.pre FM.F Gm.pre Gm.F Gn.pre Gn.F Gb.pre Gb.F FW.pre FW.F FC.pre FC.F Ff.pre Ff.F E0.pre E0.F Ge.pre Ge.F F4.pre F4.F Ol.pre Ol.F m op f a b c=some y∧_
 unfold kX
 dsimp only
 have p27:=fE f m ha hb
 rw [lK p27,eO p27]
 have p25:=yS f m ha hb
 rw [yI p25,aEY p25]
 have p354:=aD3 f m ha hb
 rw [aFG p354,aEO p354]
 have p381:=aHR f m ha hb
 rw [aEg p381,aIk p381]
 have p318:=aDK f m ha
 rw [aFX p318,zJ p318]
 have p401:=zS f m ha hb hc
 rw [aAW p401,aEc p401]
 have p422:=aCy f ha hb
 rw [aCa p422,xU p422]
 have p423:=xJ f ha hb
 rw [aDF p423,aFc p423]
 have p406:=aIq f m ha true
 rw [aF7 p406,aDS p406]
 have p393:=aH8 f (IntKind.wrap .i64 (A8 .u64 (c:Int) 3)) m ha
 rw [aFe p393,aEf p393]
 have p410:=aDa f m (IntKind.wrap .i64 (A8 .u64 (c:Int) 3)) ha
 rw [aAP p410,aAI p410]
 have p412:=aHw f m (IntKind.wrap .i64 (A8 .u64 (c:Int) 3)) ha
 rw [aFN p412,aBm p412]
 have p19:=aDD (f:=f) ha hb
 rw [aDo p19,zB p19]
 have p21:=x5 (f:=f) ha hb
 rw [aHV p21,aGr p21]
 have p14:=nP (f:=f) ha hb (op==16)
 rw [tN p14,wD p14]
 have p41:=aHN (f:=f) ha
 rw [aIr p41,aB4 p41]
 have p38:=aIH f m ha (IntKind.wrap .i64 (b:Int))
 rw [aD7 p38,aIF p38]
 have p440:=aMT op f ha hb
 rw [aJt p440,aKD p440]
 have q1:=aIg f a b true
 have q2:=aIg f a b false
 by_cases h1:op=1
 ·subst h1
  exact ⟨_,rfl,fun _ _ _=>rfl⟩
 by_cases h2:op=2
 ·subst h2
  exact ⟨_,rfl,fun _ _ _=>rfl⟩
 by_cases h3:op=3
 ·subst h3
  exact ⟨_,rfl,fun _ _ _=>rfl⟩
 by_cases h4:op=4
 ·subst h4
  exact ⟨_,rfl,fun _ _ _=>rfl⟩
 by_cases h5:op=5
 ·subst h5
  exact ⟨_,rfl,fun _ _ _=>rfl⟩
 by_cases h6:op=6
 ·subst h6
  exact ⟨_,rfl,fun _ _ _=>rfl⟩
 by_cases h7:op=7
 ·subst h7
  exact ⟨_,rfl,fun _ _ _=>by rw [decide_eq_true (show (EL f a b true).2.1≥0 from q1)]; rfl⟩
 by_cases h8:op=8
 ·subst h8
  exact ⟨_,rfl,fun _ _ _=>by rw [decide_eq_true (show (EL f a b false).2.1≥0 from q2)]; rfl⟩
 by_cases h9:op=9
 ·subst h9
  exact ⟨_,rfl,fun _ _ _=>rfl⟩
 by_cases h10:op=10
 ·subst h10
  exact ⟨_,rfl,fun _ _ h=>by rw [pG hc (h (by omega))]; rfl⟩
 by_cases h11:op=11
 ·subst h11
  exact ⟨_,rfl,fun _ _ h=>by rw [pG hc (h (by omega))]; rfl⟩
 by_cases h12:op=12
 ·subst h12
  exact ⟨_,rfl,fun _ _ h=>by rw [pG hc (h (by omega))]; rfl⟩
 by_cases h13:op=13
 ·subst h13
  exact ⟨_,rfl,fun _ _ _=>rfl⟩
 by_cases h14:op=14
 ·subst h14
  exact ⟨_,rfl,fun _ _ _=>rfl⟩
 by_cases h15:op=15
 ·subst h15
  exact ⟨_,rfl,fun _ _ _=>rfl⟩
 by_cases h16:op=16
 ·subst h16
  exact ⟨_,rfl,fun _ _ _=>rfl⟩
 by_cases h17:op=17
 ·subst h17
  exact ⟨_,rfl,fun _ _ _=>rfl⟩
 by_cases h18:op=18
 ·subst h18
  exact ⟨_,rfl,fun _ _ _=>rfl⟩
 by_cases h19:op=19
 ·subst h19
  exact ⟨_,rfl,fun _ _ _=>by show ((E4 f a).1,(0:Int),(E4 f a).2.2.1,true,())=((E4 f a).1,(E4 f a).2.1,(E4 f a).2.2.1,true,()); unfold E4; split <;> rfl⟩
 by_cases h20:op=20
 ·subst h20
  exact ⟨_,rfl,fun _ _ _=>by show ((DC f a).1,(0:Int),(DC f a).2.2.1,true,())=((DC f a).1,(DC f a).2.1,(DC f a).2.2.1,true,()); rw [aI4]⟩
 by_cases h21:op=21
 ·subst h21
  exact ⟨_,rfl,fun _ _ _=>rfl⟩
 by_cases h22:op=22
 ·subst h22
  exact ⟨_,rfl,fun _ _ _=>rfl⟩
 rw [beq_false_of_ne h1,beq_false_of_ne h2,beq_false_of_ne h3,beq_false_of_ne h4,beq_false_of_ne h5,beq_false_of_ne h6,beq_false_of_ne h7,beq_false_of_ne h8,beq_false_of_ne h9,beq_false_of_ne h10,beq_false_of_ne h11,beq_false_of_ne h12,beq_false_of_ne h13,beq_false_of_ne h14,beq_false_of_ne h15,beq_false_of_ne h16,beq_false_of_ne h17,beq_false_of_ne h18]
 exact ⟨_,rfl,fun _ _ _=>by omega⟩
end VL
namespace VL
open Go Vx
theorem aUQ (x:Int):A8 .i64 x 0=0:=by
 unfold A8
 rw [show BitVec.ofInt IntKind.i64.bits 0=0#_ from rfl,BitVec.and_zero]
 rfl
theorem aQA {v:Int×Int×Int×Unit} {op f:Int} {a b c:Nat} (h:Ey v op f a b c≠0):Lp v op f a b c=(x8,Ey v op f a b c,()):=by unfold Lp; rw [if_pos h]
theorem aO5 {v:Int×Int×Int×Unit} {op f:Int} {a b c:Nat} (h:Ey v op f a b c=0):Lp v op f a b c=(Ym v (Hk v.1 op f a b c),0,()):=by unfold Lp; rw [if_neg (fun x=>x h)]
theorem aJC (m fl:Int) (y:Int×Int×Int×Unit):Ym (m,fl,0,()) y=(y.1,y.2.1,0,(m,A9 .i64 fl y.2.1,0,()),()):=by
 unfold Ym; dsimp only; rw [aUQ,if_neg (fun h=>h rfl)]
theorem aP5 {v:Int×Int×Int×Unit} {op f:Int} {a b c:Nat} (h:Ey v op f a b c=0) :
  Iz v=0∧1≤op∧op≤22∧Ik f op (P7 op) a b c=0∧(Hk v.1 op f a b c).2.2.1=0:=by
 unfold Ey at h
 by_cases h1:Iz v=0
 ·rw [if_neg (fun x=>x h1)] at h
  by_cases h2:op<1∨op>22
  ·rw [if_pos h2] at h; cases h
  ·rw [if_neg h2] at h
   by_cases h3:Ik f op (P7 op) a b c=0
   ·rw [if_neg (fun x=>x h3)] at h
    exact ⟨h1,by omega,by omega,h3,h⟩
   ·rw [if_pos h3] at h; exact absurd h h3
 ·rw [if_pos h1] at h; exact absurd h h1
theorem aQv {f op:Int} {n a b c:Nat} (h:Ik f op n a b c=0):op=10∨op=11∨op=12→c≤3:=by
 intro ho
 unfold Ik at h
 by_cases h0:¬ Fm f
 ·rw [if_pos h0] at h; cases h
 rw [if_neg h0] at h
 by_cases h1:op=10∧c>3
 ·rw [if_pos h1] at h; cases h
 rw [if_neg h1] at h
 by_cases h2:(op=11∨op=12)∧c>3
 ·rw [if_pos h2] at h; cases h
 omega
theorem T442_true (m fl tr op f:Int) {a b c:Nat} (ha:a<2^64) (hb:b<2^64) (hc:c<2^64) :
  T442 (((m,fl,tr,()),op,f,(a:Int),(b:Int),(c:Int),()),())=some (true,()):=by
 show dZ NQ.pre NQ.F F5.pre F5.F PE.pre PE.F ((m,fl,tr,()),op,f,(a:Int),(b:Int),(c:Int),())=_
 unfold dZ
 dsimp only
 have p0:=aN6
 have p1:=aCP (m,fl,0,()) op f ha hb hc
 obtain ⟨y,p2,hy⟩:=aNt m op f ha hb hc
 rw [aNw p0,aNS p0,zY p1,aHP p1,aT3 p2,aSw p2]
 by_cases h:Ey (m,fl,0,()) op f a b c=0
 ·obtain ⟨_,h1,h2,h3,h4⟩:=aP5 h
  have:=hy h1 h2 (aQv h3)
  subst this
  rw [aO5 h,aJC]
  dsimp only at h4 ⊢
  rw [h4]
  simp only [beq_self_eq_true,bne_self_eq_false,Bool.and_self,cond_true,cond_false,Bool.not_true]
 ·rw [aQA h]
  dsimp only
  rw [bne_iff_ne.2 h]
  rfl
end VL
namespace Vx
open Go Go.RowKit Go.ChangeShapes Go.WideShapes
def wfD:(τ:Shape)→Aa τ→Prop
 | .int k,n=>k.min≤n∧n≤k.max
 | .flt _,_=>True
 | .slice e,xs=>xs.length<BM∧∀ x∈xs,wfD e x
 | .pair a b,x=>wfD a x.1∧wfD b x.2
 | .bool,_=>True
 | .str,_=>True
 | .fn,_=>True
 | .unit,_=>True
 | .box a,x=>wfD a x
 | .ifc,_=>True
 | .pfn,_=>True
theorem AN.wfD {w:World} {S:Nat→Prop}:∀ {τ:Shape} {x:Aa τ} {cs:List Value},AN w S τ x cs→wfD τ x
 | .int _,_,_,h=>h.2
 | .flt _,_,_,_=>trivial
 | .bool,_,_,_=>trivial
 | .str,_,_,_=>trivial
 | .fn,_,_,_=>trivial
 | .unit,_,_,_=>trivial
 | .box _,_,_,⟨_,_,_,_,_,_,_,_,_,h,_⟩=>h.wfD
 | .ifc,_,_,_=>trivial
 | .pfn,_,_,_=>trivial
 | .slice _,xs,_,⟨A,c,_,h1,h2,h3⟩=>by
  refine ⟨Nat.lt_of_le_of_lt h1 h2,fun x hx=>?_⟩
  obtain ⟨r,o,vs,T,fz,_,_,_,h⟩:=h3 (List.ne_nil_of_mem hx)
  obtain ⟨i,hi⟩:=List.getElem?_of_mem hx
  obtain ⟨ds,hd,_⟩:=h i x hi
  exact hd.wfD
 | .pair _ _,_,_,⟨c1,c2,_,h1,h2⟩=>⟨h1.wfD,h2.wfD⟩
def wfS:(sg:Ab)→DenS sg→Prop
 | [],_=>True
 | (_,τ)::r,x=>wfD τ x.1∧wfS r x.2
def FR {H:Type}:(τ:Shape)→(DataW H→Option (Aa τ))×(List (DataW H)→Option (Aa τ))
 | .int k=>(fun d=>match d with | .lit (.int k' n)=>if k'=k then some n else none | _=>none,fun _=>none)
 | .bool=>(fun d=>match d with | .lit (.bool b)=>some b | _=>none,fun _=>none)
 | .unit=>(fun d=>match d with | .agg []=>some () | _=>none,fun l=>match l with | []=>some () | _=>none)
 | .pair a b =>
  let f:=fun l=>match l with
   | d::r=>(match (FR a).1 d,(FR b).2 r with | some x,some y=>some (x,y) | _,_=>none)
   | []=>none
  (fun d=>match d with | .agg l=>f l | _=>none,f)
 | .flt _=>(fun _=>none,fun _=>none)
 | .str=>(fun _=>none,fun _=>none)
 | .fn=>(fun _=>none,fun _=>none)
 | .box _=>(fun _=>none,fun _=>none)
 | .ifc=>(fun _=>none,fun _=>none)
 | .pfn=>(fun _=>none,fun _=>none)
 | .slice _=>(fun _=>none,fun _=>none)
def Sw (P:Program) (g:TypeId→Shape→Bool):List Field→Nat→Shape→Bool
 | [],_,.unit=>true
 | f::fs,o,.pair a b=>(f.offset==o)&&(P.cellsOf f.type==a.width)&&g f.type a&&Sw P g fs (o+a.width) b
 | _,_,_=>false
def Dy (P:Program):Nat→TypeId→Shape→Bool
 | 0,_,_=>false
 | n+1,t,τ=>match P.underlying t with
  | some (.int k)=>(match τ with | .int k'=>decide (k=k') | _=>false)
  | some .bool=>(match τ with | .bool=>true | _=>false)
  | some (.slice e)=>(match τ with | .slice σ=>(P.cellsOf e==σ.width)&&decide (0<σ.width)&&Dy P n e σ | _=>false)
  | some (.struct fs)=>(P.cellsOf t==τ.width)&&Sw P (Dy P n) fs.toList 0 τ
  | _=>false
theorem aDx {A:Type} {Q:Nat→A→Prop}:∀ (n:Nat),(∀ i,i<n→∃ x,Q i x)→∃ xs:List A,xs.length=n∧∀ i x,xs[i]? = some x→Q i x
 | 0,_=>⟨[],rfl,fun i x h=>by simp at h⟩
 | n+1,h=>by
  obtain ⟨xs,h1,h2⟩:=aDx n fun i hi=>h i (by omega)
  obtain ⟨x,hx⟩:=h n (by omega)
  refine ⟨xs++[x],by simp [h1],fun i y hy=>?_⟩
  rcases Nat.lt_or_ge i n with hi | hi
  ·rw [List.getElem?_append_left (by omega)] at hy
   exact h2 i y hy
  ·rw [List.getElem?_append_right (by omega)] at hy
   have:i=n:=by
    have:=(List.getElem?_eq_some_iff.1 hy).1
    simp at this; omega
   subst this
   simp [h1] at hy
   exact hy ▸ hx
theorem aPV {k:IntKind} {n:Int} (h:(Lit.int k n).wf=true):k.min≤n∧n≤k.max:=by
 simpa [Lit.wf] using h
section
variable {H:Type} {enc:TypeId×Value→H} {P:Program} {W:World} {spare:Nat→Bool} {held:Bool}
theorem aGg {n:Nat} {m:Nat} {cs:List Value} (ih:∀ (t:TypeId) (τ:Shape) (cs:List Value) (d:DataW H) (p:List MemPlace),Dy P n t τ=true→DataW.trod enc P W 0 spare held m t cs=some (d,p)→∃ x:Aa τ,AN W (fun q=>q<W.heap.size) τ x cs∧∀ y,(FR τ).1 d=some y→x=y) :
  ∀ (l:List Field) (o:Nat) (τ:Shape) (xs:List (DataW H×List MemPlace)),Sw P (Dy P n) l o τ=true→xs.length=l.length→cs.length=o+τ.width →
   (∀ (i:Nat) (f:Field),l[i]? = some f→DataW.trod enc P W 0 spare held m f.type ((cs.drop f.offset).take (P.cellsOf f.type))=xs[i]?) →
   ∃ x:Aa τ,AN W (fun q=>q<W.heap.size) τ x (cs.drop o)∧∀ y,(FR τ).2 (xs.map (·.1))=some y→x=y
 | [],o,τ,xs,hf,hx,hl,_=>by
  cases τ <;> simp [Sw] at hf
  refine ⟨(),?_,fun _ _=>rfl⟩
  show cs.drop o=[]
  apply List.drop_eq_nil_of_le
  simp [Shape.width] at hl
  omega
 | f::fs,o,τ,xs,hf,hx,hl,h=>by
  cases τ with
  | pair a b =>
   simp only [Sw,Bool.and_eq_true,beq_iff_eq] at hf
   obtain ⟨⟨⟨ho,hc⟩,hg⟩,hr⟩:=hf
   cases xs with
   | nil=>simp at hx
   | cons x0 xs =>
    have h0:=h 0 f rfl
    rw [ho,hc] at h0
    simp only [List.getElem?_cons_zero] at h0
    obtain ⟨xa,ha,hua⟩:=ih f.type a _ x0.1 x0.2 hg h0
    simp only [Shape.width] at hl
    obtain ⟨xb,hb,hub⟩:=aGg ih fs (o+a.width) b xs hr (by simpa using hx) (by rw [hl]; omega) fun i g hi=>by
     have:=h (i+1) g (by simpa using hi)
     simpa using this
    refine ⟨(xa,xb),⟨(cs.drop o).take a.width,cs.drop (o+a.width),?_,ha,hb⟩,fun y hy=>?_⟩
    ·rw [← List.drop_drop,List.take_append_drop]
    ·simp only [FR,List.map_cons] at hy
     split at hy
     ·rename_i e1 e2
      have:=hua _ e1; have:=hub _ e2
      subst_vars
      exact Option.some.inj hy
     ·cases hy
  | _=>simp [Sw] at hf
theorem mI:∀ (n:Nat) (m:Nat) (t:TypeId) (τ:Shape) (cs:List Value) (d:DataW H) (p:List MemPlace),Dy P n t τ=true→DataW.trod enc P W 0 spare held m t cs=some (d,p) →
  ∃ x:Aa τ,AN W (fun q=>q<W.heap.size) τ x cs∧∀ y,(FR τ).1 d=some y→x=y
 | 0,_,_,_,_,_,_,h,_=>by simp [Dy] at h
 | n+1,m,t,τ,cs,d,p,h,ht=>by
  unfold Dy at h
  split at h
  ·rename_i k hk
   cases τ with
   | int k' =>
    simp only [decide_eq_true_eq] at h
    subst h
    obtain ⟨v,hv,hx,hw⟩:=DataW.trod_int hk ht
    simp only [Prod.mk.injEq] at hx
    refine ⟨v,⟨hv,aPV hw⟩,fun y hy=>?_⟩
    rw [hx.1] at hy
    simp only [FR,if_true] at hy
    exact Option.some.inj hy
   | _=>cases h
  ·rename_i hk
   cases τ with
   | bool =>
    obtain ⟨v,hv,hx⟩:=DataW.trod_bool hk ht
    simp only [Prod.mk.injEq] at hx
    refine ⟨v,hv,fun y hy=>?_⟩
    rw [hx.1] at hy
    simp only [FR] at hy
    exact Option.some.inj hy
   | _=>cases h
  ·rename_i e hk
   cases τ with
   | slice σ =>
    simp only [Bool.and_eq_true,beq_iff_eq,decide_eq_true_eq] at h
    obtain ⟨⟨hc,hpos⟩,hf⟩:=h
    rcases DataW.trod_slice hk ht with ⟨hcs,hx⟩ | ⟨a,len,cap,elems,rest,m',rfl,hcs,hx,hb,hlc,hcap,hlen,hel,_⟩
    ·exact ⟨[],⟨none,0,hcs,Nat.le_refl _,by decide,fun h=>absurd rfl h⟩,fun y hy=>by simp [FR] at hy⟩
    ·have each:∀ i,i<len→∃ x:Aa σ,∃ ds,W.cells? 0 (a.add (i*P.cellsOf e)) (P.cellsOf e)=some ds∧AN W (fun q=>q<W.heap.size) σ x ds:=fun i hi=>by
      have:=hel i hi
      rw [List.getElem?_eq_getElem (by omega),Option.bind_eq_some_iff] at this
      obtain ⟨ds,h1,h2⟩:=this
      obtain ⟨x,hx,_⟩:=mI n m' e σ ds (elems[i]'(by omega)).1 (elems[i]'(by omega)).2 hf h2
      exact ⟨x,ds,h1,hx⟩
     obtain ⟨xs,hxl,hxs⟩:=aDx len each
     refine ⟨xs,⟨some a,cap,by rw [hxl]; exact hcs,by omega,by unfold BM; unfold maxLen at hcap; omega,fun hne=>?_⟩,fun y hy=>by simp [FR] at hy⟩
     have h0:0<xs.length:=List.length_pos_iff.2 hne
     obtain ⟨ds0,hd0,_⟩:=hxs 0 xs[0] (List.getElem?_eq_getElem h0)
     obtain ⟨_,hl0,hc0⟩:=World.cells?_some hd0
     have hz:a.add (0*P.cellsOf e)=a:=by simp [Addr.add]
     have hz':a.add 0=a:=by simp [Addr.add]
     rw [hz] at hc0
     have hc00:=hc0 0 (by omega)
     rw [hz',List.getElem?_eq_getElem (by omega)] at hc00
     unfold World.cell? at hc00
     split at hc00
     ·rename_i c T fz hheap
      split at hc00
      ·cases hc00
      ·rename_i hspot
       have hs:a.spot=none:=by simpa using hspot
       have hadd:∀ q,a.add q=⟨a.block,a.off+q,none⟩:=fun q=>by
        unfold Addr.add
        split
        ·subst_vars; cases a; simp at hs; simp [hs]
        ·rfl
       have ha:a=⟨a.block,a.off,none⟩:=by cases a; simp at hs; simp [hs]
       refine ⟨a.block,a.off,c,T,fz,by rw [← ha],?_,hheap,fun i x hi=>?_⟩
       ·exact (Array.getElem?_eq_some_iff.1 hheap).1
       ·obtain ⟨ds,hd,hr⟩:=hxs i x hi
        refine ⟨ds,hr,fun j v hj=>?_⟩
        obtain ⟨_,hl,hcj⟩:=World.cells?_some hd
        have hjl:j<P.cellsOf e:=by rw [← hl]; exact (List.getElem?_eq_some_iff.1 hj).1
        have:=hcj j hjl
        rw [hadd,hj] at this
        have hadd2:(⟨a.block,a.off+i*P.cellsOf e,none⟩:Addr).add j=⟨a.block,a.off+i*P.cellsOf e+j,none⟩:=by
         unfold Addr.add
         split
         ·subst_vars; rfl
         ·rfl
        rw [hadd2] at this
        unfold World.cell? at this
        simp only [hheap] at this
        rw [hc] at this
        exact this
     ·cases hc00
   | _=>cases h
  ·rename_i fs hk
   simp only [Bool.and_eq_true,beq_iff_eq] at h
   obtain ⟨hc,hf⟩:=h
   obtain ⟨xs,m',rfl,hx,hl,hxl,hel⟩:=DataW.trod_struct hk ht
   simp only [Prod.mk.injEq] at hx
   obtain ⟨x,h1,h2⟩:=aGg (fun t τ cs d p=>mI n m' t τ cs d p) fs.toList 0 τ xs hf (by simpa using hxl) (by rw [hl,hc]; omega) fun i f hi=>hel i f (by simpa using hi)
   refine ⟨x,by simpa using h1,fun y hy=>h2 y ?_⟩
   rw [hx.1] at hy
   cases τ with
   | pair a b=>exact hy
   | unit =>
    simp only [FR] at hy ⊢
    split at hy
    ·rename_i e; simp only [DataW.agg.injEq] at e; rw [e]
    ·cases hy
   | _=>simp [FR] at hy
  ·cases h
end
end Vx
namespace Vx
open Go Go.RowKit Go.ChangeShapes Go.WideShapes
def R7 (P:Program) (t:TypeId):Bool:=match P.underlying t with
 | some (.struct _)=>true
 | _=>false
def UH (P:Program) (n:Nat):List TypeId→Ab→Bool
 | [],[]=>true
 | t::ts,(a,τ)::r=>Dy P n t τ&&(a==R7 P t)&&UH P n ts r
 | _,_=>false
section
variable {H:Type} {enc:TypeId×Value→H} {P:Program} {W:World}
theorem aTw {n:Nat} {t:TypeId} {τ:Shape} {r:Reach} {b0:Nat} {v:Value} (hf:Dy P n t τ=true) (hs:R7 P t=false) (hv:Value.okWide P W r b0 t v):v.cells.toList=[v]:=by
 cases n with
 | zero=>simp [Dy] at hf
 | succ n =>
  unfold Dy at hf
  split at hf
  ·rename_i k hk; obtain ⟨_,rfl⟩:=okWide_int hk hv; rfl
  ·rename_i hk; obtain ⟨_,rfl⟩:=okWide_bool hk hv; rfl
  ·rename_i e hk; obtain ⟨_,_,_,rfl⟩:=okWide_slice hk hv; rfl
  ·rename_i fs hk; simp [R7,hk] at hs
  ·cases hf
theorem aJM {S:Nat→Prop} {a:Bool} {τ:Shape} {x:Aa τ} {y:Value} (ho:JK a τ=false) (h:DZ W S a τ x y):F6 W S a τ x y []:=by
 cases τ with
 | slice e =>
  cases a with
  | true=>cases ho
  | false=>exact ⟨rfl,h⟩
 | _=>exact ⟨rfl,h⟩
theorem aBc {n:Nat} {sp:Nat→Bool} {held:Bool} {b0:Nat}:∀ (ts:List TypeId) (I:Ab) (vs:List Value) (ds:List (DataW H)) (ps:List MemPlace),UH P n ts I=true →
  (∀ (j:Nat) (t:TypeId) (v:Value),ts[j]? = some t→vs[j]? = some v→Value.okWide P W .any b0 t v)→DataW.TrodAll enc P W 0 sp held ts vs ds ps→∃ x:DenS I,Cq W (fun q=>q<W.heap.size) I x vs []∧wfS I x∧ds.length=ts.length
 | [],[],vs,ds,ps,_,_,h=>by
  cases vs <;> cases ds <;> simp [DataW.TrodAll] at h
  exact ⟨(),⟨rfl,rfl⟩,trivial,rfl⟩
 | [],_::_,_,_,_,hf,_,_=>by simp [UH] at hf
 | _::_,[],_,_,_,hf,_,_=>by simp [UH] at hf
 | t::ts,(a,τ)::I,vs,ds,ps,hf,hv,h=>by
  cases vs with
  | nil=>simp [DataW.TrodAll] at h
  | cons v vs =>
   cases ds with
   | nil=>simp [DataW.TrodAll] at h
   | cons d ds =>
    obtain ⟨p,q,⟨m,hp⟩,hq,_⟩:=h
    simp only [UH,Bool.and_eq_true,beq_iff_eq] at hf
    obtain ⟨⟨h1,h2⟩,h3⟩:=hf
    obtain ⟨x,hx,hw,hl⟩:=aBc ts I vs ds q h3 (fun j t v ht hv'=>hv (j+1) t v (by simpa using ht) (by simpa using hv')) hq
    obtain ⟨y,hy,_⟩:=mI n m t τ _ d p h1 hp
    have hok:=hv 0 t v rfl rfl
    refine ⟨(y,x),⟨v,vs,[],[],rfl,rfl,aJM ?_ ?_,hx⟩,⟨hy.wfD,hw⟩,by simp [hl]⟩
    ·cases τ with
     | slice σ =>
      show a=false
      rw [h2]
      cases n with
      | zero=>simp [Dy] at h1
      | succ n =>
       unfold Dy at h1
       unfold R7
       split at h1 <;> rename_i hk <;> first | (rw [hk]; done) | (simp only [hk]; done) | (simp [Sw] at h1; done) | skip
     | _=>rfl
    cases a with
    | true =>
     have hs:R7 P t=true:=h2.symm
     unfold R7 at hs
     split at hs
     ·rename_i fs hk
      unfold Value.okWide at hok
      rw [hk] at hok
      obtain ⟨cs,rfl,_⟩:=hok
      exact ⟨cs.toList,by simp,hy⟩
     ·cases hs
    | false =>
     have hs:R7 P t=false:=h2.symm
     rw [aTw h1 hs hok] at hy
     exact hy
theorem aCL (hl:laidOutB P=true) {W':World} (hb:Below W.heap.size W W'):∀ (ts:List TypeId) (vs:List Value) (ds:List (DataW H)) (ps:List MemPlace),(ts.all fun t=>P.readableRec t&&decide (t<P.types.size))=true →
  DataW.TrodAll enc P W 0 (fun _=>true) true ts vs ds ps→(∀ x∈ps,x.block<W.heap.size)→DataW.TrodAll enc P W' 0 (fun b=>decide (b<W.heap.size)) true ts vs ds ps
 | [],vs,ds,ps,_,h,_=>by
  cases vs <;> cases ds <;> simp [DataW.TrodAll] at h ⊢
  exact h
 | t::ts,vs,ds,ps,hr,h,hlt=>by
  cases vs with
  | nil=>simp [DataW.TrodAll] at h
  | cons v vs =>
   cases ds with
   | nil=>simp [DataW.TrodAll] at h
   | cons d ds =>
    obtain ⟨p,q,hp,hq,rfl⟩:=h
    simp only [List.all_cons,Bool.and_eq_true,decide_eq_true_eq] at hr
    exact ⟨p,q,Below.trod hl hr.1.1 hr.1.2 hp hb (fun x hx=>hlt x (List.mem_append.2 (.inl hx))),
     aCL hl hb ts vs ds q hr.2 hq (fun x hx=>hlt x (List.mem_append.2 (.inr hx))),rfl⟩
theorem glob_of {n:String} {g:Nat} {t e:TypeId} {m k:Nat} {τ:Shape} {ds:List (DataW Unit)} {xs:List (Aa τ)} {r:List (String×DataW Unit)} {ps:List MemPlace}
  (hL:DataW.LaidVars P W ((n,.agg ds)::r) ps) (hg:P.globalNamed n=some g) (ht:(P.globals[g]?).map (·.type)=some t) (hu:P.underlying t=some (.array m e)) (hc:P.cellsOf e=τ.width) (hf:Dy P k e τ=true)
  (hx:ds.map (FR τ).1=xs.map some) :
  (g<W.heap.size∧∃ vs T fz,W.heap[g]? = some (.cells vs T fz)∧Rows W (fun q=>q<W.heap.size) τ vs 0 xs)∧∃ ps',DataW.LaidVars P W r ps':=by
 obtain ⟨g',t',cs,fuel,p,q,h1,h2,h3,h4,h5,_⟩:=hL
 rw [hg] at h1; cases h1
 rw [ht] at h2; cases h2
 refine ⟨?_,q,h5⟩
 unfold World.var? at h3
 rw [hg] at h3
 simp only [Option.bind_some] at h3
 split at h3
 ·rename_i c T fz hh
  cases h3
  refine ⟨(Array.getElem?_eq_some_iff.1 hh).1,cs,T,fz,hh,?_⟩
  obtain ⟨ys,m',rfl,hy,hl,hyl,hel⟩:=DataW.trod_array hu h4
  simp only [Prod.mk.injEq,DataW.agg.injEq] at hy
  intro i x hi
  have hxl:xs.length=m:=by
   have:=congrArg List.length hx
   simp [hy.1,hyl] at this
   omega
  have him:i<m:=by rw [← hxl]; exact (List.getElem?_eq_some_iff.1 hi).1
  have he:=hel i him
  have hyi:ys[i]? = some (ys[i]'(by omega)):=List.getElem?_eq_getElem (by omega)
  rw [hyi,hc] at he
  obtain ⟨x',h6,h7⟩:=mI k m' e τ _ _ _ hf he
  have hd:(FR τ).1 (ys[i]'(by omega)).1=some x:=by
   have:=congrArg (·[i]?) hx
   simp only [List.getElem?_map,hy.1,hyi,hi,Option.map_some] at this
   exact Option.some.inj this
  have:=h7 x hd
  subst this
  refine ⟨_,h6,fun j v hj=>?_⟩
  rw [List.getElem?_take] at hj
  split at hj
  ·rw [List.getElem?_drop] at hj
   simpa using hj
  ·cases hj
 ·cases h3
theorem aNa {G : List (Nat × Sigma fun τ => List (Aa τ))} {f : FuncId} {I : Ab} {T : DenS I → Option (DenS [(false, .bool)])} {d : DenS [(false, .bool)]} (hS : Sound P G f (Al I [(false, .bool)] T d)) {x : DenS I} (hT : T x = some (true, ())) (hcal : ∃ fn, P.funcs[f]? = some fn ∧ fn.body.isNone = false ∧ (fn.name == "runtime.NumGoroutine") = false) {W : World} {args : Array Value}
  (hG:GlobsOk G W fun q=>q<W.heap.size) (ha:Cq W (fun q=>q<W.heap.size) I x args.toList []):Calls P f args W fun e W'=>e=.returned (.bool true)∧Below W.heap.size W W':=by
 have:=hS.calls x (by show (T x).isSome=true; rw [hT]; rfl) W (fun q=>q<W.heap.size) args.toList [] (fun q h=>h) hG ha List.nodup_nil (fun r h=>by simp at h)
 rw [Array.toArray_toList] at this
 have this:=this.resolve_right (fun ⟨v,hv,_⟩=>by rw [gA hcal] at hv; cases hv)
 refine this.2.mono fun e W' ⟨zs,rs',he,hb,_,_,hz⟩=>⟨?_,⟨hb.os,hb.tape,hb.output,hb.size,fun k hk=>hb.block k hk (fun h=>by simp at h)⟩⟩
 obtain ⟨y,ys,r1,r2,rfl,_,⟨_,h1⟩,rfl,_⟩:=hz
 have h2:[y]=[Value.bool ((T x).getD d).1]:=h1
 rw [hT] at h2
 cases h2
 exact he
theorem law_post {G:List (Nat×Sigma fun τ=>List (Aa τ))} {f:FuncId} {fn:Func} {I:Ab} {T:DenS I→Option (DenS [(false,.bool)])} {d:DenS [(false,.bool)]} {s:ChangeSpec} {n:Nat} {tb:TypeId}
  (hS : Sound P G f (Al I [(false, .bool)] T d)) (hT : ∀ x, wfS I x → T x = some (true, ())) (hcal : ∃ fn, P.funcs[f]? = some fn ∧ fn.body.isNone = false ∧ (fn.name == "runtime.NumGoroutine") = false) (hlay : laidOutB P = true) (hfit : UH P n fn.params.toList I = true)
  (hread:(fn.params.toList.all fun t=>P.readableRec t&&decide (t<P.types.size))=true) (hres:fn.resultTypes=#[tb]) (hbool:P.underlying tb=some .bool) (hvars:s.vars=[])
  (hspec:∀ ds:List (DataW H),ds.length=fn.params.toList.length→s.fn H ds={ results:=[.lit (.bool true)],args:=ds })
  {W:World} {base:Nat} {args:Array Value} {ds gs:List (DataW H)} {before:List MemPlace}
  (hval:∀ (j:Nat) (t:TypeId) (v:Value),fn.params[j]? = some t→args[j]? = some v→Value.okWide P W .any base t v)
  (hW:DataW.Whole enc P fn.params.toList s.vars false W args.toList ds gs before) (hG:GlobsOk G W fun q=>q<W.heap.size) :
  Calls P f args W fun e W'=>∃ v,e=.returned v∧ChangeSpec.post enc P fn s false true false false W args v W':=by
 have hW':=hW
 obtain ⟨p,q,hA,hV,rfl,_,_⟩:=hW
 rw [hvars] at hV
 obtain ⟨rfl,rfl⟩:=trodVars_none hV
 obtain ⟨x,hx,hw,hlen⟩:=aBc (b0:=base) fn.params.toList I args.toList ds p hfit (fun j t v ht hv=>hval j t v (by simpa using ht) (by simpa using hv)) hA
 refine (aNa hS (hT x hw) hcal hG hx).mono fun e W' ⟨he,hb⟩=>⟨.bool true,he,ds,[],p++[],[],p,[],hW',?_,?_,?_,hb.frame _,fun h=>by cases h⟩
 ·rw [List.append_nil,hspec ds hlen,hres]
  exact trodAll_mk1 (shut_bool hbool true)
 ·rw [List.append_nil,hspec ds hlen]
  exact aCL hlay hb _ _ _ _ hread hA fun y hy=>by simpa using hW'.lt y (by simpa using hy)
 ·rw [List.append_nil,hspec ds hlen,hvars]
  rfl
end
theorem globs_nil {W:World} {S:Nat→Prop}:GlobsOk [] W S:=fun _ _ _ h=>by simp [Ms] at h
theorem globs_cons {W:World} {S:Nat→Prop} {g:Nat} {τ:Shape} {xs:List (Aa τ)} {G:List (Nat×Sigma fun τ=>List (Aa τ))} (h:S g∧∃ vs T fz,W.heap[g]? = some (.cells vs T fz)∧Rows W S τ vs 0 xs) (r:GlobsOk G W S) :
  GlobsOk ((g,⟨τ,xs⟩)::G) W S:=fun g' τ' xs' hf=>by
 simp only [Ms] at hf
 cases hb:Nat.beq g g' with
 | true =>
  have:=Nat.eq_of_beq_eq_true hb
  subst this
  rw [hb] at hf
  simp only [cond_true,Option.some.injEq] at hf
  cases hf
  exact h
 | false =>
  rw [hb] at hf
  exact r g' τ' xs' hf
end Vx
end
