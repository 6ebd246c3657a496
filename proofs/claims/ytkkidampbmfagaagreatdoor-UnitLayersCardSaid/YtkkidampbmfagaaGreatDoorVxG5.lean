/- Part 5 of the proof. What is proved: symbolic execution of the functions, proved sound; what each function of the program computes, and that every run ends with it; what these functions compute, in plain numbers. Conditions: each theorem bears its own. -/
import Derived.Test.YtkkidampbmfagaaGreatDoorVxG4
import Derived.IntWalk
set_option linter.all false
set_option exponentiation.threshold 1000000
noncomputable section
namespace Vx
open Go Go.Proofs
variable (p69:BP) (f69:BK) (p66:Ci) (f66:Cl) (p65:D5) (f65:D3) (p70:Ei) (f70:DW) (p98:IK) (f98:Ja) (p119:Y2) (f119:Y4) (p155:C5) (f155:Db) (p123:SD) (f123:SN) (p118:Ib) (f118:Id) (p105:Tk) (f105:Tb) (p173:A4) (f173:A1) (p102:GT) (f102:Hf) (p178:Ii) (f178:H5) (p92:JT) (f92:Ji) (p185:Tv) (f185:Ux) (p141:Ti) (f141:T6) (p143:Qh) (f143:OL) (p97:Qc) (f97:PU) (p107:TN) (f107:Vq) (p122:HS) (f122:Iw) (p115:ZF) (f115:Xk) (p64:RG) (f64:Se) (p315:EJ) (f315:ER) (p316:Vk) (f316:Uf) (p40:Pr) (f40:Oy) (p144:IW) (f144:I8) (p145:UC) (f145:TK) (p311:tL) (f311:nV) (p312:tG) (f312:pM) (p313:oK) (f313:pK) (p314:v6) (f314:tB)
abbrev PJ:Ab:=[(true,.pair (.int .u64) (.pair (.int .u64) (.unit)))]
abbrev OQ:Ab:=[(false,.int .u64),(false,.bool)]
abbrev Hd:Pat:=⟨28,[(6,.one (.v .i64)),(2,.one (.v .u64)),(1,.one (.ptr 0 0))],[.raw [.v .u64,.v .u64]]⟩
abbrev bI:List (Nat×Shape):=[]
abbrev MV:List (Nat×Pat):=[(0,⟨28,[(2,.one (.v .u64)),(1,.one (.ptr 0 0))],[.raw [.v .u64,.v .u64]]⟩)]
abbrev Lg:Option Pat:=none
variable (w317_2:Pat.D Hd→Option (Ah MV Lg))
def S4 (p123:SD) (f123:SN) (p316:Vk) (f316:Uf) {R:Type} (L:Pat.D Hd→Option R) (e:Ah MV Lg→Option R) (x:Pat.D Hd):Option R :=
 let e5_:=(IntKind.wrap .i64 ((63:Int)-x.1.1))
 let e4_:=(A9 .u64 x.1.2.1 (AQ .u64 (1:Int) e5_))
 let e1_:=((f316 (e4_,e4_,())).1,x.2)
 let e2_:=e4_
 let e3_:=(IntKind.wrap .i64 (x.1.1+(1:Int)))
 bif (decide (x.1.1<(64:Int))) then (bif (decide ((0:Int)≤e5_)) then (bif (p316 (e2_,e2_,())) then (bif (p123 e1_) then (bif (decide ((f123 e1_).1≤(0:Int))) then (((L ((e3_,e2_,(),()),x.2))))
 else (L ((e3_,x.1.2.1,(),()),x.2)))
 else none)
 else none)
 else none)
 else (e (.inl ((x.1.2.1,(),()),x.2)))
theorem aST (d:Nat) (R:Type) (L:Pat.D Hd→Option R) (e:Ah MV Lg→Option R) (x:Pat.D Hd) :
  BA (cf [(117,⟨G5,HN,p123,f123⟩),(67,⟨Jd,IF,p316,f316⟩)] [(137,2,LoopSpec.of Hd bI MV Lg w317_2)]) (d+2) 137 (By Tryz.f137 2) Hd bI MV Lg (R:=R) L e x=S4 p123 f123 p316 f316 L e x:=by kernel_rfl
theorem aCQ (p123:SD) (f123:SN) (p316:Vk) (f316:Uf):Bu fun L e x=>S4 p123 f123 p316 f316 L e x:=by intro _ _ _ _ _ _ _ h0 hL he _; unfold S4; repeat' (first | exact h0 | exact hL _ | exact he _ | apply BR | (apply BW h0; intro _) | (apply B9 <;> intro _))
def nE (p123:SD) (f123:SN) (p316:Vk) (f316:Uf) (w317_2:Pat.D Hd→Option (Ah MV Lg)) (a0:Aa (.pair (.int .u64) (.pair (.int .u64) (.unit)))):Option (DenS OQ) :=
 Vx.AZ (w317_2 (((0:Int),(0:Int),(),()),(a0.1,a0.2),())) fun y0 =>
 Vx.A2 y0 (fun y1 =>
 bif (p316 (y1.1.1,y1.1.1,())) then (some (y1.1.1,(((f316 (y1.1.1,y1.1.1,())).1.1==y1.2.1.1)&&((f316 (y1.1.1,y1.1.1,())).1.2.1==y1.2.1.2.1)),()))
 else none) (fun z1 =>
 none)
theorem aK8 (x:DenS PJ):run (cf [(117,⟨G5,HN,p123,f123⟩),(67,⟨Jd,IF,p316,f316⟩)] [(137,2,LoopSpec.of Hd bI MV Lg w317_2)]) 9 137 Tryz.f137 PJ OQ x=nE p123 f123 p316 f316 w317_2 x.1:=by kernel_rfl
def Xs:Hd.D→Option (Ah MV Lg):=Bf fun L=>S4 Dx.pre Dx.F C0.pre C0.F L some
def To (x:DenS PJ):Option (DenS OQ):=nE Dx.pre Dx.F C0.pre C0.F Xs x.1
def Q3:Sum:=Al PJ OQ To (DenS.dflt OQ)
theorem aSE:Sound Tryz.prog G1 137 Q3:=sd (cf [(117,Dx),(67,C0)] [(137,2,LoopSpec.of Hd bI MV Lg Xs)]) 137 Tryz.f137 ⟨aBD,aDM,trivial⟩ ⟨rfl,fun d=>B3 (fun L e x=>S4 Dx.pre Dx.F C0.pre C0.F L e x) (aCQ Dx.pre Dx.F C0.pre C0.F) (fun _ _ _ _=>aST ..),trivial⟩ PJ OQ To _ (fun _=>aK8 ..)
abbrev aGu:=Ak PJ
abbrev yW:=Aj PJ OQ
variable (p317:aGu) (f317:yW)
abbrev KV:Ab:=[(false,.int .i64),(false,.int .i64),(false,.int .u64)]
abbrev Ke:Ab:=[(false,.int .u64),(false,.int .i64),(false,.int .i64)]
def eP (p311:tL) (f311:nV) (p65:D5) (f65:D3) (p312:tG) (f312:pM) (p313:oK) (f313:pK) (p314:v6) (f314:tB) (p119:Y2) (f119:Y4) (p317:aGu) (f317:yW) (p122:HS) (f122:Iw) (a0 a1:Aa (.int .i64)) (a2:Aa (.int .u64)):Option (DenS Ke) :=
 let e16_:=(a0,(f311 (a0,a1,(a2::[]),())).1,a2,())
 let e15_:=(f313 e16_)
 let e14_:=((0:Int),e15_.1,())
 let e13_:=(e14_,())
 let e12_:=(IntKind.wrap .i64 ((126:Int)-(f314 e13_).1))
 let e11_:=(IntKind.wrap .i64 (e12_+(1:Int)))
 let e8_:=(e14_,e11_,())
 let e7_:=(f317 (f119 e8_))
 let e1_:=(a0,a1,false,((0:Int),e7_.1,()),(BB .i64 (IntKind.wrap .i64 (e15_.2.1-e11_)) (2:Int)),(!e7_.2.1),())
 let e10_:=(e14_,e12_,())
 let e9_:=(f317 (f119 e10_))
 let e2_:=(a0,a1,false,((0:Int),e9_.1,()),(BB .i64 (IntKind.wrap .i64 (e15_.2.1-e12_)) (2:Int)),(!e9_.2.1),())
 let e3_:=e8_
 let e4_:=e10_
 let e5_:=e13_
 let e6_:=e16_
 bif (p311 (a0,a1,(a2::[]),())) then (bif ((f311 (a0,a1,(a2::[]),())).2.1 != (0:Int)) then (some ((0:Int),(0:Int),(f311 (a0,a1,(a2::[]),())).2))
 else bif (p65 (a0,a2,())) then (bif (p312 (a0,(f65 (a0,a2,())).1,())) then (bif (f312 (a0,(f65 (a0,a2,())).1,())).2.2.1 then (some ((f312 (a0,(f65 (a0,a2,())).1,())).1,(f312 (a0,(f65 (a0,a2,())).1,())).2.1,(0:Int),()))
 else bif ((((f65 (a0,a2,())).1==(9:Int))||((f65 (a0,a2,())).1==(6:Int)))||((f65 (a0,a2,())).1==(5:Int))) then (some (a2,(0:Int),(0:Int),()))
 else bif (p313 e6_) then (bif (p314 e5_) then (bif ((Int.tmod (IntKind.wrap .i64 ((f313 e6_).2.1-(IntKind.wrap .i64 ((126:Int)-(f314 e5_).1)))) (2:Int)) != (0:Int)) then (bif (p119 e3_) then (bif (p317 (f119 e3_)) then (bif (p122 e1_) then (some (f122 e1_))
 else none)
 else none)
 else none)
 else bif (p119 e4_) then (bif (p317 (f119 e4_)) then (bif (p122 e2_) then (some (f122 e2_))
 else none)
 else none)
 else none)
 else none)
 else none)
 else none)
 else none)
 else none
theorem aS6 (x:DenS KV):run (cf [(133,⟨NR,QH,p311,f311⟩),(55,⟨DB,DG,p65,f65⟩),(134,⟨Om,Oi,p312,f312⟩),(135,⟨Nm,Qg,p313,f313⟩),(136,⟨N1,QP,p314,f314⟩),(114,⟨HY,JP,p119,f119⟩),(137,⟨PJ,OQ,p317,f317⟩),(66,⟨EZ,Fj,p122,f122⟩)] []) 9 92 Tryz.f92 KV Ke x=eP p311 f311 p65 f65 p312 f312 p313 f313 p314 f314 p119 f119 p317 f317 p122 f122 x.1 x.2.1 x.2.2.1:=by kernel_rfl
def Yq (x:DenS KV):Option (DenS Ke):=eP Qy.pre Qy.F AB.pre AB.F Qe.pre Qe.F O0.pre O0.F NV.pre NV.F AE.pre AE.F Q3.pre Q3.F A3.pre A3.F x.1 x.2.1 x.2.2.1
def FX:Sum:=Al KV Ke Yq (DenS.dflt Ke)
theorem aC4:Sound Tryz.prog G1 92 FX:=sd (cf [(133,Qy),(55,AB),(134,Qe),(135,O0),(136,NV),(114,AE),(137,Q3),(66,A3)] []) 92 Tryz.f92 ⟨aPe,G9,aQb,aJ8,aLp,aEH,aSE,TT,trivial⟩ trivial KV Ke Yq _ (fun _=>aS6 ..)
abbrev iP:=Ak KV
abbrev gQ:=Aj KV Ke
variable (p318:iP) (f318:gQ)
abbrev QE:Ab:=[(true,.pair (.int .i64) (.pair (.int .i64) (.pair (.int .u64) (.pair (.int .u64) (.pair (.int .u64) (.unit))))))]
abbrev On:Ab:=[(false,.int .u64),(false,.int .i64),(false,.int .i64)]
def bS (p318:iP) (f318:gQ) (a0:Aa (.pair (.int .i64) (.pair (.int .i64) (.pair (.int .u64) (.pair (.int .u64) (.pair (.int .u64) (.unit))))))):Option (DenS On) :=
 bif (p318 (a0.2.1,a0.1,a0.2.2.1,())) then (some (f318 (a0.2.1,a0.1,a0.2.2.1,())))
 else none
theorem aOI (x:DenS QE):run (cf [(92,⟨KV,Ke,p318,f318⟩)] []) 9 181 Tryz.f181 QE On x=bS p318 f318 x.1:=by kernel_rfl
def Xu (x:DenS QE):Option (DenS On):=bS FX.pre FX.F x.1
def Ln:Sum:=Al QE On Xu (DenS.dflt On)
theorem aCp:Sound Tryz.prog G1 181 Ln:=sd (cf [(92,FX)] []) 181 Tryz.f181 ⟨aC4,trivial⟩ trivial QE On Xu _ (fun _=>aOI ..)
abbrev r9:=Ak QE
abbrev pV:=Aj QE On
variable (p396:r9) (f396:pV)
abbrev Or:Ab:=[(false,.int .i64),(false,.int .i64),(false,.slice (.int .u64))]
abbrev OD:Ab:=[(false,.int .i64)]
abbrev Ia:Pat:=⟨39,[(27,.one (.v .i64)),(26,.one (.sl (.int .u64))),(0,.one (.v .i64)),(28,.one (.v .i64))],[]⟩
abbrev iE:List (Nat×Shape):=[]
abbrev LS:List (Nat×Pat):=[(0,⟨39,[],[]⟩)]
abbrev KI:Option Pat:=(some ⟨39,[(6,.one (.v .i64))],[]⟩)
variable (w397_7:Pat.D Ia→Option (Ah LS KI))
def YA (p69:BP) (f69:BK) (p66:Ci) (f66:Cl) {R:Type} (L:Pat.D Ia→Option R) (e:Ah LS KI→Option R) (x:Pat.D Ia):Option R :=
 let e2_:=(x.1.2.2.1,(x.1.2.1.getD (Int.toNat x.1.2.2.2.1) (0:Int)),())
 let e1_:=(f66 e2_)
 bif (decide (x.1.2.2.2.1<x.1.1)) then (bif ((decide ((0:Int)≤x.1.2.2.2.1))&&(decide (x.1.2.2.2.1<(x.1.2.1.length:Int)))) then (bif (p66 e2_) then (bif (e1_.1 != (0:Int)) then (((e (.inr (e1_,())))))
 else (L ((x.1.1,x.1.2.1,x.1.2.2.1,(IntKind.wrap .i64 (x.1.2.2.2.1+(1:Int))),()),())))
 else none)
 else none)
 else (e (.inl ((),())))
theorem aPw (d:Nat) (R:Type) (L:Pat.D Ia→Option R) (e:Ah LS KI→Option R) (x:Pat.D Ia) :
  BA (cf [(54,⟨Ch,Cj,p69,f69⟩),(59,⟨CH,CJ,p66,f66⟩)] [(138,7,LoopSpec.of Ia iE LS KI w397_7)]) (d+2) 138 (By Tryz.f138 7) Ia iE LS KI (R:=R) L e x=YA p69 f69 p66 f66 L e x:=by kernel_rfl
theorem aTU (p69:BP) (f69:BK) (p66:Ci) (f66:Cl):Bu fun L e x=>YA p69 f69 p66 f66 L e x:=by intro _ _ _ _ _ _ _ h0 hL he _; unfold YA; repeat' (first | exact h0 | exact hL _ | exact he _ | apply BR | (apply BW h0; intro _) | (apply B9 <;> intro _))
def aEi (p69:BP) (f69:BK) (p66:Ci) (f66:Cl) (w397_7:Pat.D Ia→Option (Ah LS KI)) (a0 a1:Aa (.int .i64)) (a2:Aa (.slice (.int .u64))):Option (DenS OD) :=
 bif (p69 (a0,())) then (bif ((f69 (a0,())).2.1 != (0:Int)) then (some (f69 (a0,())).2)
 else bif ((decide (a1<(0:Int)))||(decide (a1>(5:Int)))) then (some ((3:Int),()))
 else Vx.AZ (w397_7 (((a2.length:Int),a2,a0,(0:Int),()),())) fun y3 =>
 Vx.A2 y3 (fun y4 =>
 some ((0:Int),())) (fun z4 =>
 some z4.1))
 else none
theorem aSV (x:DenS Or):run (cf [(54,⟨Ch,Cj,p69,f69⟩),(59,⟨CH,CJ,p66,f66⟩)] [(138,7,LoopSpec.of Ia iE LS KI w397_7)]) 9 138 Tryz.f138 Or OD x=aEi p69 f69 p66 f66 w397_7 x.1 x.2.1 x.2.2.1:=by kernel_rfl
def aBM:Ia.D→Option (Ah LS KI):=Bf fun L=>YA Aq.pre Aq.F Ar.pre Ar.F L some
def UP (x:DenS Or):Option (DenS OD):=aEi Aq.pre Aq.F Ar.pre Ar.F aBM x.1 x.2.1 x.2.2.1
def PM:Sum:=Al Or OD UP (DenS.dflt OD)
theorem aPA:Sound Tryz.prog G1 138 PM:=sd (cf [(54,Aq),(59,Ar)] [(138,7,LoopSpec.of Ia iE LS KI aBM)]) 138 Tryz.f138 ⟨Ek,FU,trivial⟩ ⟨rfl,fun d=>B3 (fun L e x=>YA Aq.pre Aq.F Ar.pre Ar.F L e x) (aTU Aq.pre Aq.F Ar.pre Ar.F) (fun _ _ _ _=>aPw ..),trivial⟩ Or OD UP _ (fun _=>aSV ..)
abbrev aEZ:=Ak Or
abbrev aCC:=Aj Or OD
variable (p397:aEZ) (f397:aCC)
abbrev Kc:Ab:=[(false,.int .i64),(false,.int .u64)]
abbrev Km:Ab:=[(true,.pair (.bool) (.pair (.bool) (.pair (.bool) (.pair (.bool) (.pair (.bool) (.pair (.pair (.bool) (.pair (.slice (.int .u64)) (.pair (.int .i64) (.unit)))) (.unit)))))))]
def aA (p65:D5) (f65:D3) (p98:IK) (f98:Ja) (p40:Pr) (f40:Oy) (a0:Aa (.int .i64)) (a1:Aa (.int .u64)):Option (DenS Km) :=
 let e1_:=(((f65 (a0,a1,())).1==(2:Int))||((f65 (a0,a1,())).1==(9:Int)))
 bif (p65 (a0,a1,())) then (bif (p98 (a0,a1,())) then (bif ((!(decide ((f65 (a0,a1,())).1≤(1:Int))))&&(!e1_)) then (bif (p40 (a0,a1,())) then (some (((decide ((f65 (a0,a1,())).1≤(1:Int))),((f65 (a0,a1,())).1==(0:Int)),false,e1_,(f98 (a0,a1,())).1,(f40 (a0,a1,())).1,()),()))
 else none)
 else some (((decide ((f65 (a0,a1,())).1≤(1:Int))),((f65 (a0,a1,())).1==(0:Int)),false,e1_,(f98 (a0,a1,())).1,(false,[],(0:Int),()),()),()))
 else none)
 else none
theorem aOi (x:DenS Kc):run (cf [(55,⟨DB,DG,p65,f65⟩),(119,⟨FN,FF,p98,f98⟩),(71,⟨Hb,G4,p40,f40⟩)] []) 9 141 Tryz.f141 Kc Km x=aA p65 f65 p98 f98 p40 f40 x.1 x.2.1:=by kernel_rfl
def Yr (x:DenS Kc):Option (DenS Km):=aA AB.pre AB.F Bo.pre Bo.F CB.pre CB.F x.1 x.2.1
def EY:Sum:=Al Kc Km Yr (DenS.dflt Km)
theorem yV:Sound Tryz.prog G1 141 EY:=sd (cf [(55,AB),(119,Bo),(71,CB)] []) 141 Tryz.f141 ⟨G9,R3,YC,trivial⟩ trivial Kc Km Yr _ (fun _=>aOi ..)
abbrev oZ:=Ak Kc
abbrev n8:=Aj Kc Km
variable (p398:oZ) (f398:n8)
abbrev K2:Ab:=[(true,.pair (.bool) (.pair (.slice (.int .u64)) (.pair (.int .i64) (.unit))))]
abbrev KK:Ab:=[(false,.int .i64)]
def kH (p102:GT) (f102:Hf) (a0:Aa (.pair (.bool) (.pair (.slice (.int .u64)) (.pair (.int .i64) (.unit))))):Option (DenS KK) :=
 bif (p102 (a0.2.1,())) then (bif (((f102 (a0.2.1,())).1.length:Int)==(0:Int)) then (some ((0:Int),()))
 else bif a0.1 then (some ((-(1:Int)),()))
 else some ((1:Int),()))
 else none
theorem r47 (x:DenS K2):run (cf [(122,⟨FD,E8,p102,f102⟩)] []) 9 196 Tryz.f196 K2 KK x=kH p102 f102 x.1:=by kernel_rfl
def Vc (x:DenS K2):Option (DenS KK):=kH Bh.pre Bh.F x.1
def DS:Sum:=Al K2 KK Vc (DenS.dflt KK)
theorem aH2:Sound Tryz.prog G1 196 DS:=sd (cf [(122,Bh)] []) 196 Tryz.f196 ⟨X2,trivial⟩ trivial K2 KK Vc _ (fun _=>r47 ..)
abbrev uH:=Ak K2
abbrev oW:=Aj K2 KK
variable (p47:uH) (f47:oW)
abbrev MR:Ab:=[(true,.pair (.bool) (.pair (.slice (.int .u64)) (.pair (.int .i64) (.unit))))]
abbrev Lu:Ab:=[(false,.int .i64)]
def dD (a0:Aa (.pair (.bool) (.pair (.slice (.int .u64)) (.pair (.int .i64) (.unit))))):Option (DenS Lu) :=
 bif (decide ((a0.2.1.length:Int)>(1024:Int))) then (some ((5:Int),()))
 else bif ((decide (a0.2.2.1<(-(40000:Int))))||(decide (a0.2.2.1>(40000:Int)))) then (some ((30:Int),()))
 else some ((0:Int),())
theorem aI3 (x:DenS MR):run (cf [] []) 9 253 Tryz.f253 MR Lu x=dD x.1:=by kernel_rfl
def HI (x:DenS MR):Option (DenS Lu):=dD x.1
def E6:Sum:=Al MR Lu HI (DenS.dflt Lu)
theorem aAA:Sound Tryz.prog G1 253 E6:=sd (cf [] []) 253 Tryz.f253 trivial trivial MR Lu HI _ (fun _=>aI3 ..)
abbrev pD:=Ak MR
abbrev vQ:=Aj MR Lu
variable (p103:pD) (f103:vQ)
abbrev MQ:Ab:=[(true,.pair (.bool) (.pair (.slice (.int .u64)) (.pair (.int .i64) (.unit)))),(true,.pair (.bool) (.pair (.slice (.int .u64)) (.pair (.int .i64) (.unit))))]
abbrev MK:Ab:=[(false,.int .i64)]
def Tw (p103:pD) (f103:vQ) (a0 a1:Aa (.pair (.bool) (.pair (.slice (.int .u64)) (.pair (.int .i64) (.unit))))):Option (DenS MK) :=
 bif (p103 ((a0.1,a0.2),())) then (bif ((f103 ((a0.1,a0.2),())).1 != (0:Int)) then (some (f103 ((a0.1,a0.2),())))
 else bif (p103 ((a1.1,a1.2),())) then (some (f103 ((a1.1,a1.2),())))
 else none)
 else none
theorem r99 (x:DenS MQ):run (cf [(253,⟨MR,Lu,p103,f103⟩)] []) 9 260 Tryz.f260 MQ MK x=Tw p103 f103 x.1 x.2.1:=by kernel_rfl
def PN (x:DenS MQ):Option (DenS MK):=Tw E6.pre E6.F x.1 x.2.1
def Gf:Sum:=Al MQ MK PN (DenS.dflt MK)
theorem aHl:Sound Tryz.prog G1 260 Gf:=sd (cf [(253,E6)] []) 260 Tryz.f260 ⟨aAA,trivial⟩ trivial MQ MK PN _ (fun _=>r99 ..)
abbrev qQ:=Ak MQ
abbrev tI:=Aj MQ MK
variable (p99:qQ) (f99:tI)
abbrev HG:Ab:=[(true,.pair (.bool) (.pair (.slice (.int .u64)) (.pair (.int .i64) (.unit))))]
abbrev HU:Ab:=[(true,.pair (.bool) (.pair (.slice (.int .u64)) (.pair (.int .i64) (.unit))))]
abbrev GS:Pat:=⟨42,[(4,.one (.v .i64)),(3,.one (.sl (.int .u64))),(1,.one (.ptr 0 0)),(2,.one (.ptr 1 0))],[.raw [.bool,.sl (.int .u64),.v .i64],.raw [.bool,.sl (.int .u64),.v .i64]]⟩
abbrev bO:List (Nat×Shape):=[]
abbrev Kl:List (Nat×Pat):=[(0,⟨42,[(4,.one (.v .i64)),(3,.one (.sl (.int .u64))),(1,.one (.ptr 0 0)),(2,.one (.ptr 1 0))],[.raw [.bool,.sl (.int .u64),.v .i64],.raw [.bool,.sl (.int .u64),.v .i64]]⟩)]
abbrev Mu:Option Pat:=none
variable (w100_5:Pat.D GS→Option (Ah Kl Mu))
def Vh (p102:GT) (f102:Hf) (p92:JT) (f92:Ji) (p141:Ti) (f141:T6) {R:Type} (L:Pat.D GS→Option R) (e:Ah Kl Mu→Option R) (x:Pat.D GS):Option R :=
 bif ((decide ((0:Int)≤(BB .i64 x.1.1 (64:Int))))&&(decide ((BB .i64 x.1.1 (64:Int))<(x.1.2.1.length:Int)))) then (bif ((x.1.2.1.getD (Int.toNat (BB .i64 x.1.1 (64:Int))) (0:Int))==(0:Int)) then (((L (((IntKind.wrap .i64 (x.1.1+(64:Int))),x.1.2.1,(),(),()),x.2))))
 else (e (.inl ((x.1.1,x.1.2.1,(),(),()),x.2))))
 else none
theorem aKb (d:Nat) (R:Type) (L:Pat.D GS→Option R) (e:Ah Kl Mu→Option R) (x:Pat.D GS) :
  BA (cf [(122,⟨FD,E8,p102,f102⟩),(127,⟨Gz,Hc,p92,f92⟩),(247,⟨J7,Jy,p141,f141⟩)] [(262,5,LoopSpec.of GS bO Kl Mu w100_5)]) (d+2) 262 (By Tryz.f262 5) GS bO Kl Mu (R:=R) L e x=Vh p102 f102 p92 f92 p141 f141 L e x:=by kernel_rfl
theorem w9 (p102:GT) (f102:Hf) (p92:JT) (f92:Ji) (p141:Ti) (f141:T6):Bu fun L e x=>Vh p102 f102 p92 f92 p141 f141 L e x:=by intro _ _ _ _ _ _ _ h0 hL he _; unfold Vh; repeat' (first | exact h0 | exact hL _ | exact he _ | apply BR | (apply BW h0; intro _) | (apply B9 <;> intro _))
def iU (p102:GT) (f102:Hf) (p92:JT) (f92:Ji) (p141:Ti) (f141:T6) (w100_5:Pat.D GS→Option (Ah Kl Mu)) (a0:Aa (.pair (.bool) (.pair (.slice (.int .u64)) (.pair (.int .i64) (.unit))))):Option (DenS HU) :=
 bif (p102 (a0.2.1,())) then (bif (((f102 (a0.2.1,())).1.length:Int)==(0:Int)) then (some ((false,[],(0:Int),()),()))
 else Vx.AZ (w100_5 (((0:Int),(f102 (a0.2.1,())).1,(),(),()),(a0.1,a0.2),(false,[],(0:Int),()),())) fun y2 =>
 Vx.A2 y2 (fun y3 =>
 bif ((decide ((0:Int)≤(BB .i64 y3.1.1 (64:Int))))&&(decide ((BB .i64 y3.1.1 (64:Int))<(y3.1.2.1.length:Int)))) then (bif (p92 ((y3.1.2.1.getD (Int.toNat (BB .i64 y3.1.1 (64:Int))) (0:Int)),())) then (bif (p141 (y3.1.2.1,(IntKind.wrap .i64 (y3.1.1+(f92 ((y3.1.2.1.getD (Int.toNat (BB .i64 y3.1.1 (64:Int))) (0:Int)),())).1)),())) then (some ((y3.2.1.1,(f141 (y3.1.2.1,(IntKind.wrap .i64 (y3.1.1+(f92 ((y3.1.2.1.getD (Int.toNat (BB .i64 y3.1.1 (64:Int))) (0:Int)),())).1)),())).1,(IntKind.wrap .i64 (y3.2.1.2.2.1+(IntKind.wrap .i64 (y3.1.1+(f92 ((y3.1.2.1.getD (Int.toNat (BB .i64 y3.1.1 (64:Int))) (0:Int)),())).1)))),()),()))
 else none)
 else none)
 else none) (fun z3 =>
 none))
 else none
theorem aUJ (x:DenS HG):run (cf [(122,⟨FD,E8,p102,f102⟩),(127,⟨Gz,Hc,p92,f92⟩),(247,⟨J7,Jy,p141,f141⟩)] [(262,5,LoopSpec.of GS bO Kl Mu w100_5)]) 9 262 Tryz.f262 HG HU x=iU p102 f102 p92 f92 p141 f141 w100_5 x.1:=by kernel_rfl
def XM:GS.D→Option (Ah Kl Mu):=Bf fun L=>Vh Bh.pre Bh.F BI.pre BI.F DT.pre DT.F L some
def ET (x:DenS HG):Option (DenS HU):=iU Bh.pre Bh.F BI.pre BI.F DT.pre DT.F XM x.1
def CF:Sum:=Al HG HU ET (DenS.dflt HU)
theorem aJ:Sound Tryz.prog G1 262 CF:=sd (cf [(122,Bh),(127,BI),(247,DT)] [(262,5,LoopSpec.of GS bO Kl Mu XM)]) 262 Tryz.f262 ⟨X2,sJ,aHF,trivial⟩ ⟨rfl,fun d=>B3 (fun L e x=>Vh Bh.pre Bh.F BI.pre BI.F DT.pre DT.F L e x) (w9 Bh.pre Bh.F BI.pre BI.F DT.pre DT.F) (fun _ _ _ _=>aKb ..),trivial⟩ HG HU ET _ (fun _=>aUJ ..)
abbrev Wj:=Ak HG
abbrev ZM:=Aj HG HU
variable (p100:Wj) (f100:ZM)
abbrev Nk:Ab:=[(false,.slice (.int .u64)),(false,.slice (.int .u64))]
abbrev Nn:Ab:=[(false,.slice (.int .u64))]
abbrev Fa:Pat:=⟨84,[(25,.one (.v .i64)),(24,.one (.sl (.int .u64))),(1,.one (.sl (.int .u64))),(26,.one (.v .i64)),(5,.one (.own 0))],[.arr (.int .u64)]⟩
abbrev XE:List (Nat×Shape):=[]
abbrev IO:List (Nat×Pat):=[(0,⟨84,[(5,.one (.own 0))],[.arr (.int .u64)]⟩)]
abbrev JS:Option Pat:=none
abbrev FH:Pat:=⟨84,[(32,.one (.v .i64)),(31,.one (.sl (.int .u64))),(7,.one (.v .u64)),(33,.one (.v .i64)),(6,.one (.v .i64)),(8,.one (.v .u64)),(26,.one (.v .i64)),(25,.one (.v .i64)),(24,.one (.sl (.int .u64))),(1,.one (.sl (.int .u64))),(5,.one (.own 0))],[.arr (.int .u64)]⟩
abbrev YF:List (Nat×Shape):=[]
abbrev GE:List (Nat×Pat):=[(2,⟨84,[(6,.one (.v .i64)),(8,.one (.v .u64)),(26,.one (.v .i64)),(25,.one (.v .i64)),(24,.one (.sl (.int .u64))),(1,.one (.sl (.int .u64))),(5,.one (.own 0))],[.arr (.int .u64)]⟩)]
abbrev GI:Option Pat:=none
variable (w324_4:Pat.D Fa→Option (Ah IO JS)) (w324_8:Pat.D FH→Option (Ah GE GI))
def Tt (p315:EJ) (f315:ER) (p155:C5) (f155:Db) (p173:A4) (f173:A1) {R:Type} (L:Pat.D FH→Option R) (e:Ah GE GI→Option R) (x:Pat.D FH):Option R :=
 let e10_:=(x.1.2.2.1,(x.1.2.1.getD (Int.toNat x.1.2.2.2.1) (0:Int)),())
 let e8_:=(f315 e10_)
 let e11_:=(IntKind.wrap .i64 (x.1.2.2.2.2.1+x.1.2.2.2.1))
 let e9_:=(Int.toNat e11_)
 let e7_:=(f155 (e8_.2.1,(x.2.1.getD e9_ (0:Int)),(0:Int),()))
 let e1_:=(f155 (e7_.1,x.1.2.2.2.2.2.1,(0:Int),()))
 let e2_:=e7_
 let e3_:=((decide ((0:Int)≤e11_))&&(decide (e11_<(x.2.1.length:Int))))
 let e4_:=(x.1.2.2.2.2.2.2.1,x.1.2.2.2.2.2.2.2.1,x.1.2.2.2.2.2.2.2.2.1,x.1.2.2.2.2.2.2.2.2.2.1,(),())
 let e5_:=e8_
 let e6_:=e9_
 bif (decide (x.1.2.2.2.1<x.1.1)) then (bif ((decide ((0:Int)≤x.1.2.2.2.1))&&(decide (x.1.2.2.2.1<(x.1.2.1.length:Int)))) then (bif (p315 e10_) then (bif e3_ then (bif (p155 (e5_.2.1,(x.2.1.getD e6_ (0:Int)),(0:Int),())) then (bif (p155 (e2_.1,x.1.2.2.2.2.2.1,(0:Int),())) then (bif e3_ then (((L ((x.1.1,x.1.2.1,x.1.2.2.1,(IntKind.wrap .i64 (x.1.2.2.2.1+(1:Int))),x.1.2.2.2.2.1,(IntKind.wrap .u64 ((IntKind.wrap .u64 (e5_.1+e2_.2.1))+e1_.2.1)),e4_),(x.2.1.set e6_ e1_.1),()))))
 else none)
 else none)
 else none)
 else none)
 else none)
 else none)
 else (e (.inl ((x.1.2.2.2.2.1,x.1.2.2.2.2.2.1,e4_),x.2)))
theorem aKz (d:Nat) (R:Type) (L:Pat.D FH→Option R) (e:Ah GE GI→Option R) (x:Pat.D FH) :
  BA (cf [(126,⟨Ew,Ex,p315,f315⟩),(165,⟨E5,Fu,p155,f155⟩),(169,⟨Bt,Bs,p173,f173⟩)] [(307,4,LoopSpec.of Fa XE IO JS w324_4),(307,8,LoopSpec.of FH YF GE GI w324_8)]) (d+2) 307 (By Tryz.f307 8) FH YF GE GI (R:=R) L e x=Tt p315 f315 p155 f155 p173 f173 L e x:=by kernel_rfl
theorem aBe (p315:EJ) (f315:ER) (p155:C5) (f155:Db) (p173:A4) (f173:A1):Bu fun L e x=>Tt p315 f315 p155 f155 p173 f173 L e x:=by intro _ _ _ _ _ _ _ h0 hL he _; unfold Tt; repeat' (first | exact h0 | exact hL _ | exact he _ | apply BR | (apply BW h0; intro _) | (apply B9 <;> intro _))
def UB (p315:EJ) (f315:ER) (p155:C5) (f155:Db) (p173:A4) (f173:A1) (w324_8:Pat.D FH→Option (Ah GE GI)) {R:Type} (L:Pat.D Fa→Option R) (e:Ah IO JS→Option R) (x:Pat.D Fa):Option R :=
 bif (decide (x.1.2.2.2.1<x.1.1)) then (bif ((decide ((0:Int)≤x.1.2.2.2.1))&&(decide (x.1.2.2.2.1<(x.1.2.1.length:Int)))) then (Vx.AZ (w324_8 (((x.1.2.2.1.length:Int),x.1.2.2.1,(x.1.2.1.getD (Int.toNat x.1.2.2.2.1) (0:Int)),(0:Int),x.1.2.2.2.1,(0:Int),x.1.2.2.2.1,x.1.1,x.1.2.1,x.1.2.2.1,(),()),x.2)) fun y2 =>
 Vx.A2 y2 (fun y3 =>
 bif ((decide ((0:Int)≤(IntKind.wrap .i64 (y3.1.1+(y3.1.2.2.2.2.2.1.length:Int)))))&&(decide ((IntKind.wrap .i64 (y3.1.1+(y3.1.2.2.2.2.2.1.length:Int)))<(y3.2.1.length:Int)))) then (((L ((y3.1.2.2.2.1,y3.1.2.2.2.2.1,y3.1.2.2.2.2.2.1,(IntKind.wrap .i64 (y3.1.2.2.1+(1:Int))),(),()),(y3.2.1.set (Int.toNat (IntKind.wrap .i64 (y3.1.1+(y3.1.2.2.2.2.2.1.length:Int)))) y3.1.2.1),()))))
 else none) (fun z3 =>
 none))
 else none)
 else (e (.inl (((),()),x.2)))
theorem aNz (d:Nat) (R:Type) (L:Pat.D Fa→Option R) (e:Ah IO JS→Option R) (x:Pat.D Fa) :
  BA (cf [(126,⟨Ew,Ex,p315,f315⟩),(165,⟨E5,Fu,p155,f155⟩),(169,⟨Bt,Bs,p173,f173⟩)] [(307,4,LoopSpec.of Fa XE IO JS w324_4),(307,8,LoopSpec.of FH YF GE GI w324_8)]) (d+2) 307 (By Tryz.f307 4) Fa XE IO JS (R:=R) L e x=UB p315 f315 p155 f155 p173 f173 w324_8 L e x:=by kernel_rfl
theorem aIi (p315:EJ) (f315:ER) (p155:C5) (f155:Db) (p173:A4) (f173:A1) (w324_8:Pat.D FH→Option (Ah GE GI)):Bu fun L e x=>UB p315 f315 p155 f155 p173 f173 w324_8 L e x:=by intro _ _ _ _ _ _ _ h0 hL he _; unfold UB; repeat' (first | exact h0 | exact hL _ | exact he _ | apply BR | (apply BW h0; intro _) | (apply B9 <;> intro _))
def eI (p315:EJ) (f315:ER) (p155:C5) (f155:Db) (p173:A4) (f173:A1) (w324_4:Pat.D Fa→Option (Ah IO JS)) (w324_8:Pat.D FH→Option (Ah GE GI)) (a0 a1:Aa (.slice (.int .u64))):Option (DenS Nn) :=
 let e1_:=(IntKind.wrap .i64 (((f173 (a0,())).1.length:Int)+((f173 (a1,())).1.length:Int)))
 bif (p173 (a0,())) then (bif (p173 (a1,())) then (bif ((decide ((0:Int)≤e1_))&&(decide ((e1_*(8:Int))≤(140737488355328:Int)))) then (Vx.AZ (w324_4 ((((f173 (a0,())).1.length:Int),(f173 (a0,())).1,(f173 (a1,())).1,(0:Int),(),()),(List.replicate (Int.toNat e1_) (0:Int)),())) fun y3 =>
 Vx.A2 y3 (fun y4 =>
 bif (p173 y4.2) then (some (f173 y4.2))
 else none) (fun z4 =>
 none))
 else none)
 else none)
 else none
theorem aRt (x:DenS Nk):run (cf [(126,⟨Ew,Ex,p315,f315⟩),(165,⟨E5,Fu,p155,f155⟩),(169,⟨Bt,Bs,p173,f173⟩)] [(307,4,LoopSpec.of Fa XE IO JS w324_4),(307,8,LoopSpec.of FH YF GE GI w324_8)]) 9 307 Tryz.f307 Nk Nn x=eI p315 f315 p155 f155 p173 f173 w324_4 w324_8 x.1 x.2.1:=by kernel_rfl
def Od:FH.D→Option (Ah GE GI):=Bf fun L=>Tt AO.pre AO.F Ay.pre Ay.F Af.pre Af.F L some
def YY:Fa.D→Option (Ah IO JS):=Bf fun L=>UB AO.pre AO.F Ay.pre Ay.F Af.pre Af.F Od L some
def YE (x:DenS Nk):Option (DenS Nn):=eI AO.pre AO.F Ay.pre Ay.F Af.pre Af.F YY Od x.1 x.2.1
def O7:Sum:=Al Nk Nn YE (DenS.dflt Nn)
theorem aLG:Sound Tryz.prog G1 307 O7:=sd (cf [(126,AO),(165,Ay),(169,Af)] [(307,4,LoopSpec.of Fa XE IO JS YY),(307,8,LoopSpec.of FH YF GE GI Od)]) 307 Tryz.f307 ⟨i7,SY,DV,trivial⟩ ⟨rfl,fun d=>B3 (fun L e x=>UB AO.pre AO.F Ay.pre Ay.F Af.pre Af.F Od L e x) (aIi AO.pre AO.F Ay.pre Ay.F Af.pre Af.F Od) (fun _ _ _ _=>aNz ..),⟨rfl,fun d=>B3 (fun L e x=>Tt AO.pre AO.F Ay.pre Ay.F Af.pre Af.F L e x) (aBe AO.pre AO.F Ay.pre Ay.F Af.pre Af.F) (fun _ _ _ _=>aKz ..),trivial⟩⟩ Nk Nn YE _ (fun _=>aRt ..)
abbrev aEN:=Ak Nk
abbrev aAb:=Aj Nk Nn
variable (p324:aEN) (f324:aAb)
abbrev PQ:Ab:=[(false,.slice (.int .u64)),(false,.slice (.int .u64))]
abbrev Oo:Ab:=[(false,.slice (.int .u64)),(false,.int .i64)]
def dK (p324:aEN) (f324:aAb) (p185:Tv) (f185:Ux) (a0 a1:Aa (.slice (.int .u64))):Option (DenS Oo) :=
 bif (p185 ((a0::(a1::[])),())) then (bif (f185 ((a0::(a1::[])),())).1 then (some ([],(5:Int),()))
 else bif (p324 (a0,a1,())) then (bif (p185 (((f324 (a0,a1,())).1::[]),())) then (bif (f185 (((f324 (a0,a1,())).1::[]),())).1 then (some ([],(5:Int),()))
 else some ((f324 (a0,a1,())).1,(0:Int),()))
 else none)
 else none)
 else none
theorem aMr (x:DenS PQ):run (cf [(307,⟨Nk,Nn,p324,f324⟩),(249,⟨J3,Jp,p185,f185⟩)] []) 9 263 Tryz.f263 PQ Oo x=dK p324 f324 p185 f185 x.1 x.2.1:=by kernel_rfl
def Tr (x:DenS PQ):Option (DenS Oo):=dK O7.pre O7.F Ea.pre Ea.F x.1 x.2.1
def NA:Sum:=Al PQ Oo Tr (DenS.dflt Oo)
theorem aQp:Sound Tryz.prog G1 263 NA:=sd (cf [(307,O7),(249,Ea)] []) 263 Tryz.f263 ⟨aLG,tK,trivial⟩ trivial PQ Oo Tr _ (fun _=>aMr ..)
abbrev aCN:=Ak PQ
abbrev aEy:=Aj PQ Oo
variable (p325:aCN) (f325:aEy)
abbrev Jf:Ab:=[(true,.pair (.bool) (.pair (.slice (.int .u64)) (.pair (.int .i64) (.unit))))]
abbrev IV:Ab:=[(true,.pair (.bool) (.pair (.slice (.int .u64)) (.pair (.int .i64) (.unit)))),(false,.int .i64)]
def lV (p100:Wj) (f100:ZM) (a0:Aa (.pair (.bool) (.pair (.slice (.int .u64)) (.pair (.int .i64) (.unit))))):Option (DenS IV) :=
 bif (p100 ((a0.1,a0.2),())) then (bif (decide (((f100 ((a0.1,a0.2),())).1.2.1.length:Int)>(1024:Int))) then (some ((false,[],(0:Int),()),(5:Int),()))
 else bif ((decide ((f100 ((a0.1,a0.2),())).1.2.2.1<(-(40000:Int))))||(decide ((f100 ((a0.1,a0.2),())).1.2.2.1>(40000:Int)))) then (some ((false,[],(0:Int),()),(30:Int),()))
 else some ((f100 ((a0.1,a0.2),())).1,(0:Int),()))
 else none
theorem aMJ (x:DenS Jf):run (cf [(262,⟨HG,HU,p100,f100⟩)] []) 9 254 Tryz.f254 Jf IV x=lV p100 f100 x.1:=by kernel_rfl
def OK (x:DenS Jf):Option (DenS IV):=lV CF.pre CF.F x.1
def Eb:Sum:=Al Jf IV OK (DenS.dflt IV)
theorem tU:Sound Tryz.prog G1 254 Eb:=sd (cf [(262,CF)] []) 254 Tryz.f254 ⟨aJ,trivial⟩ trivial Jf IV OK _ (fun _=>aMJ ..)
abbrev mK:=Ak Jf
abbrev aS:=Aj Jf IV
variable (p104:mK) (f104:aS)
abbrev ON:Ab:=[(true,.pair (.bool) (.pair (.slice (.int .u64)) (.pair (.int .i64) (.unit)))),(true,.pair (.bool) (.pair (.slice (.int .u64)) (.pair (.int .i64) (.unit))))]
abbrev Nj:Ab:=[(true,.pair (.bool) (.pair (.slice (.int .u64)) (.pair (.int .i64) (.unit)))),(false,.int .i64)]
def fY (p99:qQ) (f99:tI) (p100:Wj) (f100:ZM) (p325:aCN) (f325:aEy) (p104:mK) (f104:aS) (a0 a1:Aa (.pair (.bool) (.pair (.slice (.int .u64)) (.pair (.int .i64) (.unit))))):Option (DenS Nj) :=
 let e4_:=((f100 ((a0.1,a0.2),())).1.2.1,(f100 ((a1.1,a1.2),())).1.2.1,())
 let e3_:=(f325 e4_)
 let e1_:=(((!((f100 ((a0.1,a0.2),())).1.1==(f100 ((a1.1,a1.2),())).1.1)),e3_.1,(IntKind.wrap .i64 ((f100 ((a0.1,a0.2),())).1.2.2.1+(f100 ((a1.1,a1.2),())).1.2.2.1)),()),())
 let e2_:=e3_
 bif (p99 ((a0.1,a0.2),(a1.1,a1.2),())) then (bif ((f99 ((a0.1,a0.2),(a1.1,a1.2),())).1 != (0:Int)) then (some ((false,[],(0:Int),()),(f99 ((a0.1,a0.2),(a1.1,a1.2),()))))
 else bif (p100 ((a0.1,a0.2),())) then (bif (p100 ((a1.1,a1.2),())) then (bif (p325 e4_) then (bif (e2_.2.1 != (0:Int)) then (some ((false,[],(0:Int),()),e2_.2))
 else bif (p104 e1_) then (some (f104 e1_))
 else none)
 else none)
 else none)
 else none)
 else none
theorem aTe (x:DenS ON):run (cf [(260,⟨MQ,MK,p99,f99⟩),(262,⟨HG,HU,p100,f100⟩),(263,⟨PQ,Oo,p325,f325⟩),(254,⟨Jf,IV,p104,f104⟩)] []) 9 197 Tryz.f197 ON Nj x=fY p99 f99 p100 f100 p325 f325 p104 f104 x.1 x.2.1:=by kernel_rfl
def U7 (x:DenS ON):Option (DenS Nj):=fY Gf.pre Gf.F CF.pre CF.F NA.pre NA.F Eb.pre Eb.F x.1 x.2.1
def IQ:Sum:=Al ON Nj U7 (DenS.dflt Nj)
theorem aQq:Sound Tryz.prog G1 197 IQ:=sd (cf [(260,Gf),(262,CF),(263,NA),(254,Eb)] []) 197 Tryz.f197 ⟨aHl,aJ,aQp,tU,trivial⟩ trivial ON Nj U7 _ (fun _=>aTe ..)
abbrev aEd:=Ak ON
abbrev aFC:=Aj ON Nj
variable (p360:aEd) (f360:aFC)
abbrev NZ:Ab:=[(false,.int .i64),(false,.int .u64),(false,.int .u64)]
abbrev QZ:Ab:=[(true,.pair (.bool) (.pair (.bool) (.pair (.bool) (.pair (.bool) (.pair (.bool) (.pair (.pair (.bool) (.pair (.slice (.int .u64)) (.pair (.int .i64) (.unit)))) (.unit)))))))]
def T9 (p398:oZ) (f398:n8) (p47:uH) (f47:oW) (p360:aEd) (f360:aFC) (a0:Aa (.int .i64)) (a1 a2:Aa (.int .u64)):Option (DenS QZ) :=
 let e7_:=(((f398 (a0,a1,())).1.2.2.2.1&&(!(f398 (a0,a2,())).1.2.2.2.1))&&((f47 (f398 (a0,a2,())).1.2.2.2.2.2).1==(0:Int)))
 let e1_:=(e7_||(((f398 (a0,a2,())).1.2.2.2.1&&(!(f398 (a0,a1,())).1.2.2.2.1))&&((f47 (f398 (a0,a1,())).1.2.2.2.2.2).1==(0:Int))))
 let e8_:=(!((f398 (a0,a1,())).1.2.2.2.2.1==(f398 (a0,a2,())).1.2.2.2.2.1))
 let e2_:=(e8_,(false,[],(0:Int),()),())
 let e3_:=((f398 (a0,a1,())).1.2.2.2.2.2.1,(f398 (a0,a2,())).1.2.2.2.2.2)
 let e4_:=((f398 (a0,a1,())).1.2.2.2.1||(f398 (a0,a2,())).1.2.2.2.1)
 let e5_:=((f398 (a0,a1,())).1.2.1||(f398 (a0,a2,())).1.2.1)
 let e6_:=((f398 (a0,a1,())).1.1||(f398 (a0,a2,())).1.1)
 bif (p398 (a0,a1,())) then (bif (p398 (a0,a2,())) then (bif e6_ then (some ((e6_,e5_,false,false,e2_),()))
 else bif ((p47 (f398 (a0,a2,())).1.2.2.2.2.2)||(!(bif (f398 (a0,a1,())).1.2.2.2.1 then (!(f398 (a0,a2,())).1.2.2.2.1) else false))) then (bif ((p47 (f398 (a0,a1,())).1.2.2.2.2.2)||(!((bif e7_ then false else true)&&(bif (f398 (a0,a2,())).1.2.2.2.1 then (!(f398 (a0,a1,())).1.2.2.2.1) else false)))) then (bif (!e4_) then (bif (p360 e3_) then (some ((e6_,e5_,e1_,e4_,e8_,(f360 e3_).1,()),()))
 else none)
 else some ((e6_,e5_,e1_,e4_,e2_),()))
 else none)
 else none)
 else none)
 else none
theorem aUo (x:DenS NZ):run (cf [(141,⟨Kc,Km,p398,f398⟩),(196,⟨K2,KK,p47,f47⟩),(197,⟨ON,Nj,p360,f360⟩)] []) 9 140 Tryz.f140 NZ QZ x=T9 p398 f398 p47 f47 p360 f360 x.1 x.2.1 x.2.2.1:=by kernel_rfl
def Un (x:DenS NZ):Option (DenS QZ):=T9 EY.pre EY.F DS.pre DS.F IQ.pre IQ.F x.1 x.2.1 x.2.2.1
def Oc:Sum:=Al NZ QZ Un (DenS.dflt QZ)
theorem aQK:Sound Tryz.prog G1 140 Oc:=sd (cf [(141,EY),(196,DS),(197,IQ)] []) 140 Tryz.f140 ⟨yV,aH2,aQq,trivial⟩ trivial NZ QZ Un _ (fun _=>aUo ..)
abbrev aCt:=Ak NZ
abbrev xD:=Aj NZ QZ
variable (p399:aCt) (f399:xD)
abbrev Qo:Ab:=[(false,.slice (.int .u64)),(false,.int .i64)]
abbrev Np:Ab:=[(false,.slice (.int .u64))]
abbrev HQ:Pat:=⟨57,[(25,.one (.v .i64)),(24,.one (.sl (.int .u64))),(5,.one (.v .i64)),(6,.one (.v .u64)),(26,.one (.v .i64)),(7,.one (.own 0))],[.arr (.int .u64)]⟩
abbrev iY:List (Nat×Shape):=[]
abbrev Mb:List (Nat×Pat):=[(0,⟨57,[(7,.one (.own 0))],[.arr (.int .u64)]⟩)]
abbrev MN:Option Pat:=none
variable (w172_6:Pat.D HQ→Option (Ah Mb MN))
def Ur (p102:GT) (f102:Hf) {R:Type} (L:Pat.D HQ→Option R) (e:Ah Mb MN→Option R) (x:Pat.D HQ):Option R :=
 let e6_:=(IntKind.wrap .i64 (x.1.2.2.1+x.1.2.2.2.2.1))
 let e5_:=(Int.toNat e6_)
 let e7_:=(x.1.2.1.getD (Int.toNat x.1.2.2.2.2.1) (0:Int))
 let e1_:=(x.2.1.set e5_ (A9 .u64 (x.2.1.getD e5_ (0:Int)) (AQ .u64 e7_ x.1.2.2.2.1)))
 let e2_:=((decide ((0:Int)≤e6_))&&(decide (e6_<(x.2.1.length:Int))))
 let e3_:=(x.1.1,x.1.2.1,x.1.2.2.1,x.1.2.2.2.1,(IntKind.wrap .i64 (x.1.2.2.2.2.1+(1:Int))),(),())
 let e4_:=(IntKind.wrap .i64 (e6_+(1:Int)))
 bif (decide (x.1.2.2.2.2.1<x.1.1)) then (bif ((decide ((0:Int)≤x.1.2.2.2.2.1))&&(decide (x.1.2.2.2.2.1<(x.1.2.1.length:Int)))) then (bif e2_ then (bif e2_ then (bif (decide (x.1.2.2.2.1>(0:Int))) then (bif ((decide ((0:Int)≤e4_))&&(decide (e4_<(e1_.length:Int)))) then (((L (e3_,(e1_.set (Int.toNat e4_) (AH .u64 e7_ (IntKind.wrap .u64 ((64:Int)-x.1.2.2.2.1)))),()))))
 else none)
 else (L (e3_,e1_,())))
 else none)
 else none)
 else none)
 else (e (.inl (((),()),x.2)))
theorem aLU (d:Nat) (R:Type) (L:Pat.D HQ→Option R) (e:Ah Mb MN→Option R) (x:Pat.D HQ) :
  BA (cf [(122,⟨FD,E8,p102,f102⟩)] [(326,6,LoopSpec.of HQ iY Mb MN w172_6)]) (d+2) 326 (By Tryz.f326 6) HQ iY Mb MN (R:=R) L e x=Ur p102 f102 L e x:=by kernel_rfl
theorem aAr (p102:GT) (f102:Hf):Bu fun L e x=>Ur p102 f102 L e x:=by intro _ _ _ _ _ _ _ h0 hL he _; unfold Ur; repeat' (first | exact h0 | exact hL _ | exact he _ | apply BR | (apply BW h0; intro _) | (apply B9 <;> intro _))
def mJ (p102:GT) (f102:Hf) (w172_6:Pat.D HQ→Option (Ah Mb MN)) (a0:Aa (.slice (.int .u64))) (a1:Aa (.int .i64)):Option (DenS Np) :=
 let e1_:=(IntKind.wrap .i64 ((IntKind.wrap .i64 ((BB .i64 a1 (64:Int))+(a0.length:Int)))+(1:Int)))
 bif ((a0.length:Int)==(0:Int)) then (some ([],()))
 else bif ((decide ((0:Int)≤e1_))&&(decide ((e1_*(8:Int))≤(140737488355328:Int)))) then (Vx.AZ (w172_6 (((a0.length:Int),a0,(BB .i64 a1 (64:Int)),(IntKind.wrap .u64 (Int.tmod a1 (64:Int))),(0:Int),(),()),(List.replicate (Int.toNat e1_) (0:Int)),())) fun y2 =>
 Vx.A2 y2 (fun y3 =>
 bif (p102 y3.2) then (some (f102 y3.2))
 else none) (fun z3 =>
 none))
 else none
theorem aKB (x:DenS Qo):run (cf [(122,⟨FD,E8,p102,f102⟩)] [(326,6,LoopSpec.of HQ iY Mb MN w172_6)]) 9 326 Tryz.f326 Qo Np x=mJ p102 f102 w172_6 x.1 x.2.1:=by kernel_rfl
def iK:HQ.D→Option (Ah Mb MN):=Bf fun L=>Ur Bh.pre Bh.F L some
def XZ (x:DenS Qo):Option (DenS Np):=mJ Bh.pre Bh.F iK x.1 x.2.1
def NK:Sum:=Al Qo Np XZ (DenS.dflt Np)
theorem aNZ:Sound Tryz.prog G1 326 NK:=sd (cf [(122,Bh)] [(326,6,LoopSpec.of HQ iY Mb MN iK)]) 326 Tryz.f326 ⟨X2,trivial⟩ ⟨rfl,fun d=>B3 (fun L e x=>Ur Bh.pre Bh.F L e x) (aAr Bh.pre Bh.F) (fun _ _ _ _=>aLU ..),trivial⟩ Qo Np XZ _ (fun _=>aKB ..)
abbrev aHu:=Ak Qo
abbrev aIf:=Aj Qo Np
variable (p172:aHu) (f172:aIf)
abbrev NO:Ab:=[(true,.pair (.bool) (.pair (.slice (.int .u64)) (.pair (.int .i64) (.unit)))),(true,.pair (.bool) (.pair (.slice (.int .u64)) (.pair (.int .i64) (.unit))))]
abbrev Qx:Ab:=[(false,.slice (.int .u64)),(false,.slice (.int .u64)),(false,.int .i64)]
def aB (p172:aHu) (f172:aIf) (a0 a1:Aa (.pair (.bool) (.pair (.slice (.int .u64)) (.pair (.int .i64) (.unit))))):Option (DenS Qx) :=
 let e3_:=(if (a1.2.2.1<a0.2.2.1) then a1.2.2.1 else a0.2.2.1)
 let e1_:=(a0.2.1,(IntKind.wrap .i64 (a0.2.2.1-e3_)),())
 let e2_:=(a1.2.1,(IntKind.wrap .i64 (a1.2.2.1-e3_)),())
 bif (p172 e1_) then (bif (p172 e2_) then (some ((f172 e1_).1,(f172 e2_).1,e3_,()))
 else none)
 else none
theorem aN0 (x:DenS NO):run (cf [(326,⟨Qo,Np,p172,f172⟩)] []) 9 306 Tryz.f306 NO Qx x=aB p172 f172 x.1 x.2.1:=by kernel_rfl
def Tn (x:DenS NO):Option (DenS Qx):=aB NK.pre NK.F x.1 x.2.1
def G0:Sum:=Al NO Qx Tn (DenS.dflt Qx)
theorem aUK:Sound Tryz.prog G1 306 G0:=sd (cf [(326,NK)] []) 306 Tryz.f306 ⟨aNZ,trivial⟩ trivial NO Qx Tn _ (fun _=>aN0 ..)
abbrev aGo:=Ak NO
abbrev aID:=Aj NO Qx
variable (p142:aGo) (f142:aID)
abbrev Pv:Ab:=[(true,.pair (.bool) (.pair (.slice (.int .u64)) (.pair (.int .i64) (.unit)))),(true,.pair (.bool) (.pair (.slice (.int .u64)) (.pair (.int .i64) (.unit))))]
abbrev Qn:Ab:=[(true,.pair (.bool) (.pair (.slice (.int .u64)) (.pair (.int .i64) (.unit))))]
def Qw (p142:aGo) (f142:aID) (p143:Qh) (f143:OL) (p144:IW) (f144:I8) (p145:UC) (f145:TK) (p100:Wj) (f100:ZM) (a0 a1:Aa (.pair (.bool) (.pair (.slice (.int .u64)) (.pair (.int .i64) (.unit))))):Option (DenS Qn) :=
 let e5_:=((f142 ((a0.1,a0.2),(a1.1,a1.2),())).1,(f142 ((a0.1,a0.2),(a1.1,a1.2),())).2.1,())
 let e1_:=((a0.1,(f143 e5_).1,(f142 ((a0.1,a0.2),(a1.1,a1.2),())).2.2),())
 let e6_:=((f142 ((a0.1,a0.2),(a1.1,a1.2),())).2.1,(f142 ((a0.1,a0.2),(a1.1,a1.2),())).1,())
 let e2_:=((a1.1,(f145 e6_).1,(f142 ((a0.1,a0.2),(a1.1,a1.2),())).2.2),())
 let e3_:=((a0.1,(f145 e5_).1,(f142 ((a0.1,a0.2),(a1.1,a1.2),())).2.2),())
 let e4_:=e5_
 bif ((a0.2.1.length:Int)==(0:Int)) then (some ((a1.1,a1.2),()))
 else bif ((a1.2.1.length:Int)==(0:Int)) then (some ((a0.1,a0.2),()))
 else bif (p142 ((a0.1,a0.2),(a1.1,a1.2),())) then (bif (a0.1==a1.1) then (bif (p143 e4_) then (bif (p100 e1_) then (some (f100 e1_))
 else none)
 else none)
 else bif (p144 e4_) then (bif (decide ((f144 e4_).1<(0:Int))) then (bif (p145 e6_) then (bif (p100 e2_) then (some (f100 e2_))
 else none)
 else none)
 else bif (p145 e4_) then (bif (p100 e3_) then (some (f100 e3_))
 else none)
 else none)
 else none)
 else none
theorem aUS (x:DenS Pv):run (cf [(306,⟨NO,Qx,p142,f142⟩),(176,⟨Hu,G8,p143,f143⟩),(177,⟨Gu,Gt,p144,f144⟩),(178,⟨IM,IS,p145,f145⟩),(262,⟨HG,HU,p100,f100⟩)] []) 9 261 Tryz.f261 Pv Qn x=Qw p142 f142 p143 f143 p144 f144 p145 f145 p100 f100 x.1 x.2.1:=by kernel_rfl
def Sz (x:DenS Pv):Option (DenS Qn):=Qw G0.pre G0.F CC.pre CC.F Bj.pre Bj.F CS.pre CS.F CF.pre CF.F x.1 x.2.1
def NM:Sum:=Al Pv Qn Sz (DenS.dflt Qn)
theorem aOQ:Sound Tryz.prog G1 261 NM:=sd (cf [(306,G0),(176,CC),(177,Bj),(178,CS),(262,CF)] []) 261 Tryz.f261 ⟨aUK,q8,mU,aHS,aJ,trivial⟩ trivial Pv Qn Sz _ (fun _=>aUS ..)
abbrev aHC:=Ak Pv
abbrev aAY:=Aj Pv Qn
variable (p101:aHC) (f101:aAY)
abbrev Nf:Ab:=[(true,.pair (.bool) (.pair (.slice (.int .u64)) (.pair (.int .i64) (.unit)))),(true,.pair (.bool) (.pair (.slice (.int .u64)) (.pair (.int .i64) (.unit))))]
abbrev NI:Ab:=[(true,.pair (.bool) (.pair (.slice (.int .u64)) (.pair (.int .i64) (.unit)))),(false,.int .i64)]
def lM (p99:qQ) (f99:tI) (p100:Wj) (f100:ZM) (p101:aHC) (f101:aAY) (p104:mK) (f104:aS) (a0 a1:Aa (.pair (.bool) (.pair (.slice (.int .u64)) (.pair (.int .i64) (.unit))))):Option (DenS NI) :=
 let e2_:=((f100 ((a0.1,a0.2),())).1,(f100 ((a1.1,a1.2),())))
 let e1_:=(f101 e2_)
 bif (p99 ((a0.1,a0.2),(a1.1,a1.2),())) then (bif ((f99 ((a0.1,a0.2),(a1.1,a1.2),())).1 != (0:Int)) then (some ((false,[],(0:Int),()),(f99 ((a0.1,a0.2),(a1.1,a1.2),()))))
 else bif (p100 ((a0.1,a0.2),())) then (bif (p100 ((a1.1,a1.2),())) then (bif (p101 e2_) then (bif (p104 e1_) then (some (f104 e1_))
 else none)
 else none)
 else none)
 else none)
 else none
theorem r49 (x:DenS Nf):run (cf [(260,⟨MQ,MK,p99,f99⟩),(262,⟨HG,HU,p100,f100⟩),(261,⟨Pv,Qn,p101,f101⟩),(254,⟨Jf,IV,p104,f104⟩)] []) 9 195 Tryz.f195 Nf NI x=lM p99 f99 p100 f100 p101 f101 p104 f104 x.1 x.2.1:=by kernel_rfl
def Vl (x:DenS Nf):Option (DenS NI):=lM Gf.pre Gf.F CF.pre CF.F NM.pre NM.F Eb.pre Eb.F x.1 x.2.1
def GW:Sum:=Al Nf NI Vl (DenS.dflt NI)
theorem aMR:Sound Tryz.prog G1 195 GW:=sd (cf [(260,Gf),(262,CF),(261,NM),(254,Eb)] []) 195 Tryz.f195 ⟨aHl,aJ,aOQ,tU,trivial⟩ trivial Nf NI Vl _ (fun _=>r49 ..)
abbrev Y49:=Ak Nf
abbrev Z49:=Aj Nf NI
variable (p49:Y49) (f49:Z49)
abbrev Qi:Ab:=[(true,.pair (.bool) (.pair (.slice (.int .u64)) (.pair (.int .i64) (.unit))))]
abbrev OG:Ab:=[(true,.pair (.bool) (.pair (.slice (.int .u64)) (.pair (.int .i64) (.unit)))),(false,.int .i64)]
def aZ (p103:pD) (f103:vQ) (p104:mK) (f104:aS) (a0:Aa (.pair (.bool) (.pair (.slice (.int .u64)) (.pair (.int .i64) (.unit))))):Option (DenS OG) :=
 bif (p103 ((a0.1,a0.2),())) then (bif ((f103 ((a0.1,a0.2),())).1 != (0:Int)) then (some ((false,[],(0:Int),()),(f103 ((a0.1,a0.2),()))))
 else bif (p104 ((a0.1,a0.2),())) then (some (f104 ((a0.1,a0.2),())))
 else none)
 else none
theorem aO7 (x:DenS Qi):run (cf [(253,⟨MR,Lu,p103,f103⟩),(254,⟨Jf,IV,p104,f104⟩)] []) 9 179 Tryz.f179 Qi OG x=aZ p103 f103 p104 f104 x.1:=by kernel_rfl
def WB (x:DenS Qi):Option (DenS OG):=aZ E6.pre E6.F Eb.pre Eb.F x.1
def NE:Sum:=Al Qi OG WB (DenS.dflt OG)
theorem aLi:Sound Tryz.prog G1 179 NE:=sd (cf [(253,E6),(254,Eb)] []) 179 Tryz.f179 ⟨aAA,tU,trivial⟩ trivial Qi OG WB _ (fun _=>aO7 ..)
abbrev aIt:=Ak Qi
abbrev aD1:=Aj Qi OG
variable (p106:aIt) (f106:aD1)
abbrev J0:Ab:=[(false,.int .i64),(false,.int .i64),(true,.pair (.bool) (.pair (.slice (.int .u64)) (.pair (.int .i64) (.unit))))]
abbrev Jc:Ab:=[(false,.int .u64),(false,.int .i64),(false,.int .i64)]
def dL (p105:Tk) (f105:Tb) (p106:aIt) (f106:aD1) (p107:TN) (f107:Vq) (a0 a1:Aa (.int .i64)) (a2:Aa (.pair (.bool) (.pair (.slice (.int .u64)) (.pair (.int .i64) (.unit))))):Option (DenS Jc) :=
 let e2_:=(((f106 ((a2.1,a2.2),())).1.1,(f106 ((a2.1,a2.2),())).1.2.1,(f106 ((a2.1,a2.2),())).1.2.2.1,false,()),a0,(f105 (a0,a1,())).1,a1,())
 let e1_:=(f107 e2_)
 bif (p105 (a0,a1,())) then (bif ((f105 (a0,a1,())).2.1 != (0:Int)) then (some ((0:Int),(0:Int),(f105 (a0,a1,())).2))
 else bif (p106 ((a2.1,a2.2),())) then (bif ((f106 ((a2.1,a2.2),())).2.1 != (0:Int)) then (some ((0:Int),(0:Int),(f106 ((a2.1,a2.2),())).2))
 else bif (((f106 ((a2.1,a2.2),())).1.2.1.length:Int)==(0:Int)) then (some ((0:Int),(0:Int),(0:Int),()))
 else bif (p107 e2_) then (some (e1_.1,e1_.2.1,(0:Int),()))
 else none)
 else none)
 else none
theorem r51 (x:DenS J0):run (cf [(121,⟨Jh,JB,p105,f105⟩),(179,⟨Qi,OG,p106,f106⟩),(125,⟨I9,IP,p107,f107⟩)] []) 9 130 Tryz.f130 J0 Jc x=dL p105 f105 p106 f106 p107 f107 x.1 x.2.1 x.2.2.1:=by kernel_rfl
def Nb (x:DenS J0):Option (DenS Jc):=dL EN.pre EN.F NE.pre NE.F EG.pre EG.F x.1 x.2.1 x.2.2.1
def Dn:Sum:=Al J0 Jc Nb (DenS.dflt Jc)
theorem vH:Sound Tryz.prog G1 130 Dn:=sd (cf [(121,EN),(179,NE),(125,EG)] []) 130 Tryz.f130 ⟨nM,aLi,uC,trivial⟩ trivial J0 Jc Nb _ (fun _=>r51 ..)
abbrev iW:=Ak J0
abbrev iN:=Aj J0 Jc
variable (p51:iW) (f51:iN)
abbrev OR:Ab:=[(false,.int .i64),(false,.int .i64),(true,.pair (.bool) (.pair (.bool) (.pair (.bool) (.pair (.bool) (.pair (.bool) (.pair (.pair (.bool) (.pair (.slice (.int .u64)) (.pair (.int .i64) (.unit)))) (.unit))))))),(true,.pair (.bool) (.pair (.bool) (.pair (.bool) (.pair (.bool) (.pair (.bool) (.pair (.pair (.bool) (.pair (.slice (.int .u64)) (.pair (.int .i64) (.unit)))) (.unit)))))))]
abbrev Rc:Ab:=[(false,.int .u64),(false,.int .i64),(false,.int .i64)]
def QI (p70:Ei) (f70:DW) (p97:Qc) (f97:PU) (p49:Y49) (f49:Z49) (p47:uH) (f47:oW) (p118:Ib) (f118:Id) (p51:iW) (f51:iN) (a0 a1:Aa (.int .i64)) (a2:Aa (.pair (.bool) (.pair (.bool) (.pair (.bool) (.pair (.bool) (.pair (.bool) (.pair (.pair (.bool) (.pair (.slice (.int .u64)) (.pair (.int .i64) (.unit)))) (.unit)))))))) (a3:Aa (.pair (.bool) (.pair (.bool) (.pair (.bool) (.pair (.bool) (.pair (.bool) (.pair (.pair (.bool) (.pair (.slice (.int .u64)) (.pair (.int .i64) (.unit)))) (.unit)))))))):Option (DenS Rc) :=
 let e1_:=(a0,a1,(f49 (a2.2.2.2.2.2.1,a3.2.2.2.2.2)).1,())
 let e2_:=((f70 (a0,())).1,(1:Int),(0:Int),())
 bif (p70 (a0,())) then (bif (((a2.2.1||a3.2.1)||a2.2.2.1)||a3.2.2.1) then (some e2_)
 else bif (a2.1||a3.1) then (some ((f70 (a0,())).1,(0:Int),(0:Int),()))
 else bif ((a2.2.2.2.1&&a3.2.2.2.1)&&(!(a2.2.2.2.2.1==a3.2.2.2.2.1))) then (some e2_)
 else bif a2.2.2.2.1 then (bif (p97 (a0,a2.2.2.2.2.1,())) then (some ((f97 (a0,a2.2.2.2.2.1,())).1,(0:Int),(0:Int),()))
 else none)
 else bif a3.2.2.2.1 then (bif (p97 (a0,a3.2.2.2.2.1,())) then (some ((f97 (a0,a3.2.2.2.2.1,())).1,(0:Int),(0:Int),()))
 else none)
 else bif (p49 (a2.2.2.2.2.2.1,a3.2.2.2.2.2)) then (bif ((f49 (a2.2.2.2.2.2.1,a3.2.2.2.2.2)).2.1 != (0:Int)) then (some ((0:Int),(0:Int),(f49 (a2.2.2.2.2.2.1,a3.2.2.2.2.2)).2))
 else bif (p47 ((f49 (a2.2.2.2.2.2.1,a3.2.2.2.2.2)).1,())) then (bif ((f47 ((f49 (a2.2.2.2.2.2.1,a3.2.2.2.2.2)).1,())).1==(0:Int)) then (bif (p47 a2.2.2.2.2.2) then (bif ((p47 a3.2.2.2.2.2)||(!(decide ((f47 a2.2.2.2.2.2).1=(0:Int))))) then (bif ((((f47 a2.2.2.2.2.2).1==(0:Int))&&((f47 a3.2.2.2.2.2).1==(0:Int)))&&(a2.2.2.2.2.1==a3.2.2.2.2.1)) then (bif (p118 (a0,a2.2.2.2.2.1,())) then (some ((f118 (a0,a2.2.2.2.2.1,())).1,(0:Int),(0:Int),()))
 else none)
 else bif (p118 (a0,(a1==(4:Int)),())) then (some ((f118 (a0,(a1==(4:Int)),())).1,(0:Int),(0:Int),()))
 else none)
 else none)
 else none)
 else bif (p51 e1_) then (some (f51 e1_))
 else none)
 else none)
 else none)
 else none
theorem aSH (x:DenS OR):run (cf [(56,⟨DD,DH,p70,f70⟩),(65,⟨GV,Hl,p97,f97⟩),(195,⟨Nf,NI,p49,f49⟩),(196,⟨K2,KK,p47,f47⟩),(38,⟨E1,FG,p118,f118⟩),(130,⟨J0,Jc,p51,f51⟩)] []) 9 139 Tryz.f139 OR Rc x=QI p70 f70 p97 f97 p49 f49 p47 f47 p118 f118 p51 f51 x.1 x.2.1 x.2.2.1 x.2.2.2.1:=by kernel_rfl
def SQ (x:DenS OR):Option (DenS Rc):=QI AC.pre AC.F B7.pre B7.F GW.pre GW.F DS.pre DS.F Be.pre Be.F Dn.pre Dn.F x.1 x.2.1 x.2.2.1 x.2.2.2.1
def Ot:Sum:=Al OR Rc SQ (DenS.dflt Rc)
theorem aRw:Sound Tryz.prog G1 139 Ot:=sd (cf [(56,AC),(65,B7),(195,GW),(196,DS),(38,Be),(130,Dn)] []) 139 Tryz.f139 ⟨GL,VX,aMR,aH2,VA,vH,trivial⟩ trivial OR Rc SQ _ (fun _=>aSH ..)
abbrev xQ:=Ak OR
abbrev aIe:=Aj OR Rc
variable (p400:xQ) (f400:aIe)
abbrev LV:Ab:=[(false,.int .i64),(false,.int .i64),(false,.int .u64),(false,.int .u64),(false,.int .u64)]
abbrev L7:Ab:=[(false,.int .u64),(false,.int .i64),(false,.int .i64)]
def fU (p397:aEZ) (f397:aCC) (p399:aCt) (f399:xD) (p398:oZ) (f398:n8) (p400:xQ) (f400:aIe) (a0 a1:Aa (.int .i64)) (a2 a3 a4:Aa (.int .u64)):Option (DenS L7) :=
 let e1_:=(a0,a1,(f399 (a0,a2,a3,())).1,(f398 (a0,a4,())))
 let e2_:=(f397 (a0,a1,(a2::(a3::(a4::[]))),()))
 bif (p397 (a0,a1,(a2::(a3::(a4::[]))),())) then (bif (e2_.1 != (0:Int)) then (some ((0:Int),(0:Int),e2_))
 else bif (p399 (a0,a2,a3,())) then (bif (p398 (a0,a4,())) then (bif (p400 e1_) then (some (f400 e1_))
 else none)
 else none)
 else none)
 else none
theorem aUB (x:DenS LV):run (cf [(138,⟨Or,OD,p397,f397⟩),(140,⟨NZ,QZ,p399,f399⟩),(141,⟨Kc,Km,p398,f398⟩),(139,⟨OR,Rc,p400,f400⟩)] []) 9 93 Tryz.f93 LV L7 x=fU p397 f397 p399 f399 p398 f398 p400 f400 x.1 x.2.1 x.2.2.1 x.2.2.2.1 x.2.2.2.2.1:=by kernel_rfl
def X8 (x:DenS LV):Option (DenS L7):=fU PM.pre PM.F Oc.pre Oc.F EY.pre EY.F Ot.pre Ot.F x.1 x.2.1 x.2.2.1 x.2.2.2.1 x.2.2.2.2.1
def Gh:Sum:=Al LV L7 X8 (DenS.dflt L7)
theorem aCK:Sound Tryz.prog G1 93 Gh:=sd (cf [(138,PM),(140,Oc),(141,EY),(139,Ot)] []) 93 Tryz.f93 ⟨aPA,aQK,yV,aRw,trivial⟩ trivial LV L7 X8 _ (fun _=>aUB ..)
abbrev gS:=Ak LV
abbrev Z1:=Aj LV L7
variable (p401:gS) (f401:Z1)
abbrev P2:Ab:=[(true,.pair (.int .i64) (.pair (.int .i64) (.pair (.int .u64) (.pair (.int .u64) (.pair (.int .u64) (.unit))))))]
abbrev QX:Ab:=[(false,.int .u64),(false,.int .i64),(false,.int .i64)]
def fM (p401:gS) (f401:Z1) (a0:Aa (.pair (.int .i64) (.pair (.int .i64) (.pair (.int .u64) (.pair (.int .u64) (.pair (.int .u64) (.unit))))))):Option (DenS QX) :=
 bif (p401 (a0.2.1,a0.1,a0.2.2)) then (some (f401 (a0.2.1,a0.1,a0.2.2)))
 else none
theorem aN3 (x:DenS P2):run (cf [(93,⟨LV,L7,p401,f401⟩)] []) 9 182 Tryz.f182 P2 QX x=fM p401 f401 x.1:=by kernel_rfl
def VO (x:DenS P2):Option (DenS QX):=fM Gh.pre Gh.F x.1
def K4:Sum:=Al P2 QX VO (DenS.dflt QX)
theorem aDO:Sound Tryz.prog G1 182 K4:=sd (cf [(93,Gh)] []) 182 Tryz.f182 ⟨aCK,trivial⟩ trivial P2 QX VO _ (fun _=>aN3 ..)
abbrev rE:=Ak P2
abbrev uF:=Aj P2 QX
variable (p402:rE) (f402:uF)
abbrev IA:Ab:=[(false,.int .i64),(false,.int .i64)]
abbrev I2:Ab:=[(false,.int .i64)]
def jT (p69:BP) (f69:BK) (a0 a1:Aa (.int .i64)):Option (DenS I2) :=
 bif (p69 (a0,())) then (bif ((f69 (a0,())).2.1 != (0:Int)) then (some (f69 (a0,())).2)
 else bif ((decide (a1<(0:Int)))||(decide (a1>(5:Int)))) then (some ((3:Int),()))
 else some ((0:Int),()))
 else none
theorem aT9 (x:DenS IA):run (cf [(54,⟨Ch,Cj,p69,f69⟩)] []) 9 80 Tryz.f80 IA I2 x=jT p69 f69 x.1 x.2.1:=by kernel_rfl
def Wf (x:DenS IA):Option (DenS I2):=jT Aq.pre Aq.F x.1 x.2.1
def D7:Sum:=Al IA I2 Wf (DenS.dflt I2)
theorem qA:Sound Tryz.prog G1 80 D7:=sd (cf [(54,Aq)] []) 80 Tryz.f80 ⟨Ek,trivial⟩ trivial IA I2 Wf _ (fun _=>aT9 ..)
abbrev dA:=Ak IA
abbrev j8:=Aj IA I2
variable (p403:dA) (f403:j8)
abbrev LD:Ab:=[(false,.int .i64),(false,.int .u64)]
abbrev ME:Ab:=[(true,.pair (.bool) (.pair (.int .u64) (.pair (.int .i64) (.unit))))]
def Z3 (p69:BP) (f69:BK) (p98:IK) (f98:Ja) (a0:Aa (.int .i64)) (a1:Aa (.int .u64)):Option (DenS ME) :=
 let e1_:=(IntKind.wrap .i64 ((IntKind.wrap .i64 ((f69 (a0,())).1.2.2.1-(f69 (a0,())).1.2.1))+(1:Int)))
 let e2_:=(IntKind.wrap .i64 ((f69 (a0,())).1.2.1-(1:Int)))
 bif (p69 (a0,())) then (bif (p98 (a0,a1,())) then (bif (decide ((f98 (a0,a1,())).2.1>(0:Int))) then (bif (decide ((0:Int)≤e2_)) then (some (((f98 (a0,a1,())).1,(A9 .u64 (f98 (a0,a1,())).2.2.1 (AQ .u64 (1:Int) e2_)),(IntKind.wrap .i64 (e1_+(IntKind.wrap .i64 ((IntKind.wrap .i64 (f98 (a0,a1,())).2.1)-(1:Int))))),()),()))
 else none)
 else some (((f98 (a0,a1,())).1,(f98 (a0,a1,())).2.2.1,e1_,()),()))
 else none)
 else none
theorem aOA (x:DenS LD):run (cf [(54,⟨Ch,Cj,p69,f69⟩),(119,⟨FN,FF,p98,f98⟩)] []) 9 81 Tryz.f81 LD ME x=Z3 p69 f69 p98 f98 x.1 x.2.1:=by kernel_rfl
def WN (x:DenS LD):Option (DenS ME):=Z3 Aq.pre Aq.F Bo.pre Bo.F x.1 x.2.1
def Gc:Sum:=Al LD ME WN (DenS.dflt ME)
theorem aC1:Sound Tryz.prog G1 81 Gc:=sd (cf [(54,Aq),(119,Bo)] []) 81 Tryz.f81 ⟨Ek,R3,trivial⟩ trivial LD ME WN _ (fun _=>aOA ..)
abbrev qU:=Ak LD
abbrev qR:=Aj LD ME
variable (p404:qU) (f404:qR)
abbrev Mg:Ab:=[(false,.int .i64),(true,.pair (.bool) (.pair (.int .u64) (.pair (.int .i64) (.unit))))]
abbrev Im:Ab:=[(false,.int .u64),(false,.bool)]
def aG (a0:Aa (.int .i64)) (a1:Aa (.pair (.bool) (.pair (.int .u64) (.pair (.int .i64) (.unit))))):Option (DenS Im) :=
 let e10_:=(IntKind.wrap .i64 ((0:Int)-a1.2.2.1))
 let e9_:=(if ((63:Int)<e10_) then (63:Int) else e10_)
 let e8_:=(AH .u64 a1.2.1 e9_)
 let e1_:=(IntKind.wrap .u64 (a1.2.1-(AQ .u64 e8_ e9_)))
 let e2_:=((IntKind.wrap .u64 (e8_+(1:Int))),true,())
 let e3_:=(AQ .u64 (1:Int) (IntKind.wrap .i64 (e9_-(1:Int))))
 let e4_:=(Int.tmod e8_ (2:Int))
 let e5_:=(e8_,true,())
 let e6_:=(decide ((0:Int)≤e9_))
 let e7_:=e9_
 bif e6_ then (bif e6_ then (bif (e1_==(0:Int)) then (some ((AH .u64 a1.2.1 e7_),false,()))
 else bif (decide ((0:Int)≤(IntKind.wrap .i64 (e7_-(1:Int))))) then (bif (a0==(0:Int)) then (bif ((decide (e1_>e3_))||((e1_==e3_)&&(e4_==(1:Int)))) then (some e2_)
 else some e5_)
 else bif (a0==(1:Int)) then (bif (decide (e1_≥e3_)) then (some e2_)
 else some e5_)
 else bif (a0==(3:Int)) then (bif (!a1.1) then (some e2_)
 else some e5_)
 else bif (a0==(4:Int)) then (bif a1.1 then (some e2_)
 else some e5_)
 else bif (a0==(5:Int)) then (bif (e4_==(0:Int)) then (some e2_)
 else some e5_)
 else some e5_)
 else none)
 else none)
 else none
theorem aNJ (x:DenS Mg):run (cf [] []) 9 82 Tryz.f82 Mg Im x=aG x.1 x.2.1:=by kernel_rfl
def WS (x:DenS Mg):Option (DenS Im):=aG x.1 x.2.1
def Dh:Sum:=Al Mg Im WS (DenS.dflt Im)
theorem aIp:Sound Tryz.prog G1 82 Dh:=sd (cf [] []) 82 Tryz.f82 trivial trivial Mg Im WS _ (fun _=>aNJ ..)
abbrev wT:=Ak Mg
abbrev u9:=Aj Mg Im
variable (p405:wT) (f405:u9)
abbrev KP:Ab:=[(false,.int .i64),(false,.int .i64),(false,.int .u64),(false,.bool)]
abbrev I6:Ab:=[(false,.int .u64),(false,.int .i64),(false,.int .i64)]
def jX (p403:dA) (f403:j8) (p65:D5) (f65:D3) (p70:Ei) (f70:DW) (p404:qU) (f404:qR) (p405:wT) (f405:u9) (p122:HS) (f122:Iw) (a0 a1:Aa (.int .i64)) (a2:Aa (.int .u64)) (a3:Aa (.bool)):Option (DenS I6) :=
 let e7_:=(a0,a1,(f404 (a0,a2,())).1.1,((0:Int),(f405 (a1,(f404 (a0,a2,())))).1,()),(0:Int),false,())
 let e6_:=(f122 e7_)
 let e1_:=(e6_.1,(16:Int),e6_.2.2)
 let e2_:=(e6_.1,(0:Int),e6_.2.2)
 let e3_:=(p122 e7_)
 let e4_:=(decide ((f404 (a0,a2,())).1.2.2.1≥(0:Int)))
 let e5_:=((f405 (a1,(f404 (a0,a2,())))).2.1&&a3)
 let g1_:Option (DenS I6):=bif (p404 (a0,a2,())) then (bif e4_ then (some (a2,(0:Int),(0:Int),()))
 else bif (p405 (a1,(f404 (a0,a2,())))) then (bif e5_ then (bif e3_ then (some e1_)
 else none)
 else bif e3_ then (some e2_)
 else none)
 else none)
 else none
 bif (p403 (a0,a1,())) then (bif ((f403 (a0,a1,())).1 != (0:Int)) then (some ((0:Int),(0:Int),(f403 (a0,a1,()))))
 else bif (p65 (a0,a2,())) then (bif ((f65 (a0,a2,())).2.1 != (0:Int)) then (some ((0:Int),(0:Int),(f65 (a0,a2,())).2))
 else bif (p70 (a0,())) then (bif ((f65 (a0,a2,())).1==(0:Int)) then (some ((f70 (a0,())).1,(1:Int),(0:Int),()))
 else bif ((f65 (a0,a2,())).1==(1:Int)) then (some ((f70 (a0,())).1,(0:Int),(0:Int),()))
 else bif ((f65 (a0,a2,())).1==(2:Int)) then (bif ((f65 (a0,a2,())).1==(2:Int)) then (some (a2,(0:Int),(0:Int),()))
 else g1_)
 else bif ((f65 (a0,a2,())).1==(9:Int)) then (bif ((f65 (a0,a2,())).1==(9:Int)) then (some (a2,(0:Int),(0:Int),()))
 else g1_)
 else bif ((f65 (a0,a2,())).1==(5:Int)) then (bif ((f65 (a0,a2,())).1==(5:Int)) then (some (a2,(0:Int),(0:Int),()))
 else g1_)
 else bif ((f65 (a0,a2,())).1==(6:Int)) then (some (a2,(0:Int),(0:Int),()))
 else g1_)
 else none)
 else none)
 else none
theorem aR7 (x:DenS KP):run (cf [(80,⟨IA,I2,p403,f403⟩),(55,⟨DB,DG,p65,f65⟩),(56,⟨DD,DH,p70,f70⟩),(81,⟨LD,ME,p404,f404⟩),(82,⟨Mg,Im,p405,f405⟩),(66,⟨EZ,Fj,p122,f122⟩)] []) 9 96 Tryz.f96 KP I6 x=jX p403 f403 p65 f65 p70 f70 p404 f404 p405 f405 p122 f122 x.1 x.2.1 x.2.2.1 x.2.2.2.1:=by kernel_rfl
def WT (x:DenS KP):Option (DenS I6):=jX D7.pre D7.F AB.pre AB.F AC.pre AC.F Gc.pre Gc.F Dh.pre Dh.F A3.pre A3.F x.1 x.2.1 x.2.2.1 x.2.2.2.1
def Gm:Sum:=Al KP I6 WT (DenS.dflt I6)
theorem aG2:Sound Tryz.prog G1 96 Gm:=sd (cf [(80,D7),(55,AB),(56,AC),(81,Gc),(82,Dh),(66,A3)] []) 96 Tryz.f96 ⟨qA,G9,GL,aC1,aIp,TT,trivial⟩ trivial KP I6 WT _ (fun _=>aR7 ..)
abbrev nB:=Ak KP
abbrev kU:=Aj KP I6
variable (p406:nB) (f406:kU)
abbrev O6:Ab:=[(true,.pair (.int .i64) (.pair (.int .i64) (.pair (.int .u64) (.pair (.int .u64) (.pair (.int .u64) (.unit))))))]
abbrev Pk:Ab:=[(false,.int .u64),(false,.int .i64),(false,.int .i64)]
def bP (p406:nB) (f406:kU) (a0:Aa (.pair (.int .i64) (.pair (.int .i64) (.pair (.int .u64) (.pair (.int .u64) (.pair (.int .u64) (.unit))))))):Option (DenS Pk) :=
 bif (p406 (a0.2.1,a0.1,a0.2.2.1,true,())) then (some (f406 (a0.2.1,a0.1,a0.2.2.1,true,())))
 else none
theorem aR2 (x:DenS O6):run (cf [(96,⟨KP,I6,p406,f406⟩)] []) 9 184 Tryz.f184 O6 Pk x=bP p406 f406 x.1:=by kernel_rfl
def Yb (x:DenS O6):Option (DenS Pk):=bP Gm.pre Gm.F x.1
def MU:Sum:=Al O6 Pk Yb (DenS.dflt Pk)
theorem aFm:Sound Tryz.prog G1 184 MU:=sd (cf [(96,Gm)] []) 184 Tryz.f184 ⟨aG2,trivial⟩ trivial O6 Pk Yb _ (fun _=>aR2 ..)
abbrev uT:=Ak O6
abbrev pS:=Aj O6 Pk
variable (p407:uT) (f407:pS)
abbrev QB:Ab:=[(false,.slice (.int .i64)),(false,.slice (.int .i64)),(false,.int .u64)]
abbrev Q4:Ab:=[(false,.int .i64)]
abbrev G2:Pat:=⟨46,[(14,.one (.v .i64)),(13,.one (.sl (.int .i64))),(15,.one (.v .i64)),(1,.one (.sl (.int .i64))),(0,.one (.sl (.int .i64))),(2,.one (.v .u64))],[]⟩
abbrev VP:List (Nat×Shape):=[]
abbrev IJ:List (Nat×Pat):=[(0,⟨46,[(1,.one (.sl (.int .i64))),(0,.one (.sl (.int .i64))),(2,.one (.v .u64))],[]⟩)]
abbrev Js:Option Pat:=(some ⟨46,[(6,.one (.v .i64))],[]⟩)
abbrev G3:Pat:=⟨46,[(29,.one (.v .i64)),(28,.one (.sl (.int .i64))),(30,.one (.v .i64)),(0,.one (.sl (.int .i64))),(2,.one (.v .u64))],[]⟩
abbrev YL:List (Nat×Shape):=[]
abbrev JH:List (Nat×Pat):=[(2,⟨46,[(0,.one (.sl (.int .i64))),(2,.one (.v .u64))],[]⟩)]
abbrev JE:Option Pat:=(some ⟨46,[(6,.one (.v .i64))],[]⟩)
variable (w391_2:Pat.D G2→Option (Ah IJ Js)) (w391_9:Pat.D G3→Option (Ah JH JE))
def VD (p69:BP) (f69:BK) (p66:Ci) (f66:Cl) {R:Type} (L:Pat.D G3→Option R) (e:Ah JH JE→Option R) (x:Pat.D G3):Option R :=
 let e1_:=(x.1.2.1.getD (Int.toNat x.1.2.2.1) (0:Int))
 bif (decide (x.1.2.2.1<x.1.1)) then (bif ((decide ((0:Int)≤x.1.2.2.1))&&(decide (x.1.2.2.1<(x.1.2.1.length:Int)))) then (bif ((decide (e1_<(0:Int)))||(decide (e1_>(5:Int)))) then (((e (.inr (((3:Int),()),())))))
 else (L ((x.1.1,x.1.2.1,(IntKind.wrap .i64 (x.1.2.2.1+(1:Int))),x.1.2.2.2),())))
 else none)
 else (e (.inl (x.1.2.2.2,())))
theorem aPr (d:Nat) (R:Type) (L:Pat.D G3→Option R) (e:Ah JH JE→Option R) (x:Pat.D G3) :
  BA (cf [(54,⟨Ch,Cj,p69,f69⟩),(59,⟨CH,CJ,p66,f66⟩)] [(78,2,LoopSpec.of G2 VP IJ Js w391_2),(78,9,LoopSpec.of G3 YL JH JE w391_9)]) (d+2) 78 (By Tryz.f78 9) G3 YL JH JE (R:=R) L e x=VD p69 f69 p66 f66 L e x:=by kernel_rfl
theorem aFf (p69:BP) (f69:BK) (p66:Ci) (f66:Cl):Bu fun L e x=>VD p69 f69 p66 f66 L e x:=by intro _ _ _ _ _ _ _ h0 hL he _; unfold VD; repeat' (first | exact h0 | exact hL _ | exact he _ | apply BR | (apply BW h0; intro _) | (apply B9 <;> intro _))
def TX (p69:BP) (f69:BK) (p66:Ci) (f66:Cl) {R:Type} (L:Pat.D G2→Option R) (e:Ah IJ Js→Option R) (x:Pat.D G2):Option R :=
 let e2_:=((x.1.2.1.getD (Int.toNat x.1.2.2.1) (0:Int)),())
 let e1_:=(f69 e2_)
 bif (decide (x.1.2.2.1<x.1.1)) then (bif ((decide ((0:Int)≤x.1.2.2.1))&&(decide (x.1.2.2.1<(x.1.2.1.length:Int)))) then (bif (p69 e2_) then (bif (e1_.2.1 != (0:Int)) then (((e (.inr (e1_.2,())))))
 else (L ((x.1.1,x.1.2.1,(IntKind.wrap .i64 (x.1.2.2.1+(1:Int))),x.1.2.2.2),())))
 else none)
 else none)
 else (e (.inl (x.1.2.2.2,())))
theorem aNU (d:Nat) (R:Type) (L:Pat.D G2→Option R) (e:Ah IJ Js→Option R) (x:Pat.D G2) :
  BA (cf [(54,⟨Ch,Cj,p69,f69⟩),(59,⟨CH,CJ,p66,f66⟩)] [(78,2,LoopSpec.of G2 VP IJ Js w391_2),(78,9,LoopSpec.of G3 YL JH JE w391_9)]) (d+2) 78 (By Tryz.f78 2) G2 VP IJ Js (R:=R) L e x=TX p69 f69 p66 f66 L e x:=by kernel_rfl
theorem aFJ (p69:BP) (f69:BK) (p66:Ci) (f66:Cl):Bu fun L e x=>TX p69 f69 p66 f66 L e x:=by intro _ _ _ _ _ _ _ h0 hL he _; unfold TX; repeat' (first | exact h0 | exact hL _ | exact he _ | apply BR | (apply BW h0; intro _) | (apply B9 <;> intro _))
def jI (p69:BP) (f69:BK) (p66:Ci) (f66:Cl) (w391_2:Pat.D G2→Option (Ah IJ Js)) (w391_9:Pat.D G3→Option (Ah JH JE)) (a0 a1:Aa (.slice (.int .i64))) (a2:Aa (.int .u64)):Option (DenS Q4) :=
 Vx.AZ (w391_2 (((a0.length:Int),a0,(0:Int),a1,a0,a2,()),())) fun y0 =>
 Vx.A2 y0 (fun y1 =>
 Vx.AZ (w391_9 (((y1.1.1.length:Int),y1.1.1,(0:Int),y1.1.2),())) fun y2 =>
 Vx.A2 y2 (fun y3 =>
 bif (decide ((0:Int)<(y3.1.1.length:Int))) then (bif (p66 ((y3.1.1.getD (Int.toNat (0:Int)) (0:Int)),y3.1.2)) then (some (f66 ((y3.1.1.getD (Int.toNat (0:Int)) (0:Int)),y3.1.2)))
 else none)
 else none) (fun z3 =>
 some z3.1)) (fun z1 =>
 some z1.1)
theorem aUd (x:DenS QB):run (cf [(54,⟨Ch,Cj,p69,f69⟩),(59,⟨CH,CJ,p66,f66⟩)] [(78,2,LoopSpec.of G2 VP IJ Js w391_2),(78,9,LoopSpec.of G3 YL JH JE w391_9)]) 9 78 Tryz.f78 QB Q4 x=jI p69 f69 p66 f66 w391_2 w391_9 x.1 x.2.1 x.2.2.1:=by kernel_rfl
def Zb:G3.D→Option (Ah JH JE):=Bf fun L=>VD Aq.pre Aq.F Ar.pre Ar.F L some
def mA:G2.D→Option (Ah IJ Js):=Bf fun L=>TX Aq.pre Aq.F Ar.pre Ar.F L some
def VQ (x:DenS QB):Option (DenS Q4):=jI Aq.pre Aq.F Ar.pre Ar.F mA Zb x.1 x.2.1 x.2.2.1
def Ql:Sum:=Al QB Q4 VQ (DenS.dflt Q4)
theorem aUI:Sound Tryz.prog G1 78 Ql:=sd (cf [(54,Aq),(59,Ar)] [(78,2,LoopSpec.of G2 VP IJ Js mA),(78,9,LoopSpec.of G3 YL JH JE Zb)]) 78 Tryz.f78 ⟨Ek,FU,trivial⟩ ⟨rfl,fun d=>B3 (fun L e x=>TX Aq.pre Aq.F Ar.pre Ar.F L e x) (aFJ Aq.pre Aq.F Ar.pre Ar.F) (fun _ _ _ _=>aNU ..),⟨rfl,fun d=>B3 (fun L e x=>VD Aq.pre Aq.F Ar.pre Ar.F L e x) (aFf Aq.pre Aq.F Ar.pre Ar.F) (fun _ _ _ _=>aPr ..),trivial⟩⟩ QB Q4 VQ _ (fun _=>aUd ..)
abbrev aAG:=Ak QB
abbrev aCJ:=Aj QB Q4
variable (p391:aAG) (f391:aCJ)
abbrev NB:Ab:=[(false,.int .i64),(false,.int .i64),(false,.int .i64),(false,.int .u64)]
abbrev FB:Ab:=[(false,.int .u64),(false,.int .i64)]
def cG (p65:D5) (f65:D3) (p98:IK) (f98:Ja) (p70:Ei) (f70:DW) (p97:Qc) (f97:PU) (p118:Ib) (f118:Id) (p40:Pr) (f40:Oy) (p51:iW) (f51:iN) (a0 a1 a2:Aa (.int .i64)) (a3:Aa (.int .u64)):Option (DenS FB) :=
 let e5_:=(f51 (a1,a2,(f40 (a0,a3,())).1,()))
 let e1_:=(e5_.1,e5_.2.1,())
 let e2_:=((f118 (a1,(f98 (a0,a3,())).1,())).1,(0:Int),())
 let e3_:=((f97 (a1,(f98 (a0,a3,())).1,())).1,(0:Int),())
 let e4_:=(p51 (a1,a2,(f40 (a0,a3,())).1,()))
 let g6_:Option (DenS FB):=bif (p97 (a1,(f98 (a0,a3,())).1,())) then (some e3_)
 else none
 let g5_:Option (DenS FB):=bif (p118 (a1,(f98 (a0,a3,())).1,())) then (some e2_)
 else none
 let g4_:Option (DenS FB):=bif (p40 (a0,a3,())) then (bif e4_ then (some e1_)
 else none)
 else none
 let g2_:Option (DenS FB):=bif ((f65 (a0,a3,())).1==(6:Int)) then (bif ((f65 (a0,a3,())).1==(6:Int)) then (g5_)
 else g4_)
 else bif ((f65 (a0,a3,())).1==(5:Int)) then (g5_)
 else g4_
 let g1_:Option (DenS FB):=bif ((f65 (a0,a3,())).1==(9:Int)) then (bif ((f65 (a0,a3,())).1==(9:Int)) then (g6_)
 else g2_)
 else bif ((f65 (a0,a3,())).1==(2:Int)) then (g6_)
 else g2_
 let g3_:Option (DenS FB):=bif (p70 (a1,())) then (bif ((f65 (a0,a3,())).1==(0:Int)) then (some ((f70 (a1,())).1,(1:Int),()))
 else some ((f70 (a1,())).1,(0:Int),()))
 else none
 bif (p65 (a0,a3,())) then (bif (p98 (a0,a3,())) then (bif ((f65 (a0,a3,())).1==(0:Int)) then (bif ((f65 (a0,a3,())).1==(0:Int)) then (g3_)
 else g1_)
 else bif ((f65 (a0,a3,())).1==(1:Int)) then (g3_)
 else g1_)
 else none)
 else none
theorem aIP (x:DenS NB):run (cf [(55,⟨DB,DG,p65,f65⟩),(119,⟨FN,FF,p98,f98⟩),(56,⟨DD,DH,p70,f70⟩),(65,⟨GV,Hl,p97,f97⟩),(38,⟨E1,FG,p118,f118⟩),(71,⟨Hb,G4,p40,f40⟩),(130,⟨J0,Jc,p51,f51⟩)] []) 9 79 Tryz.f79 NB FB x=cG p65 f65 p98 f98 p70 f70 p97 f97 p118 f118 p40 f40 p51 f51 x.1 x.2.1 x.2.2.1 x.2.2.2.1:=by kernel_rfl
def Yf (x:DenS NB):Option (DenS FB):=cG AB.pre AB.F Bo.pre Bo.F AC.pre AC.F B7.pre B7.F Be.pre Be.F CB.pre CB.F Dn.pre Dn.F x.1 x.2.1 x.2.2.1 x.2.2.2.1
def Rj:Sum:=Al NB FB Yf (DenS.dflt FB)
theorem aKl:Sound Tryz.prog G1 79 Rj:=sd (cf [(55,AB),(119,Bo),(56,AC),(65,B7),(38,Be),(71,CB),(130,Dn)] []) 79 Tryz.f79 ⟨G9,R3,GL,VX,VA,YC,vH,trivial⟩ trivial NB FB Yf _ (fun _=>aIP ..)
abbrev aEa:=Ak NB
abbrev aEs:=Aj NB FB
variable (p392:aEa) (f392:aEs)
abbrev Ks:Ab:=[(false,.int .i64),(false,.int .i64),(false,.int .i64),(false,.int .u64)]
abbrev Mk:Ab:=[(false,.int .u64),(false,.int .i64),(false,.int .i64)]
def kN (p391:aAG) (f391:aCJ) (p392:aEa) (f392:aEs) (a0 a1 a2:Aa (.int .i64)) (a3:Aa (.int .u64)):Option (DenS Mk) :=
 let e1_:=(f391 ((a0::(a1::[])),(a2::[]),a3,()))
 bif (p391 ((a0::(a1::[])),(a2::[]),a3,())) then (bif (e1_.1 != (0:Int)) then (some ((0:Int),(0:Int),e1_))
 else bif (p392 (a0,a1,a2,a3,())) then (some ((f392 (a0,a1,a2,a3,())).1,(f392 (a0,a1,a2,a3,())).2.1,(0:Int),()))
 else none)
 else none
theorem aTk (x:DenS Ks):run (cf [(78,⟨QB,Q4,p391,f391⟩),(79,⟨NB,FB,p392,f392⟩)] []) 9 23 Tryz.f23 Ks Mk x=kN p391 f391 p392 f392 x.1 x.2.1 x.2.2.1 x.2.2.2.1:=by kernel_rfl
def Ys (x:DenS Ks):Option (DenS Mk):=kN Ql.pre Ql.F Rj.pre Rj.F x.1 x.2.1 x.2.2.1 x.2.2.2.1
def Gn:Sum:=Al Ks Mk Ys (DenS.dflt Mk)
theorem aAu:Sound Tryz.prog G1 23 Gn:=sd (cf [(78,Ql),(79,Rj)] []) 23 Tryz.f23 ⟨aUI,aKl,trivial⟩ trivial Ks Mk Ys _ (fun _=>aTk ..)
abbrev bM:=Ak Ks
abbrev cO:=Aj Ks Mk
variable (p393:bM) (f393:cO)
abbrev No:Ab:=[(true,.pair (.int .i64) (.pair (.int .i64) (.pair (.int .u64) (.pair (.int .u64) (.pair (.int .u64) (.unit))))))]
abbrev O9:Ab:=[(false,.int .u64),(false,.int .i64),(false,.int .i64)]
def iM (p393:bM) (f393:cO) (a0:Aa (.pair (.int .i64) (.pair (.int .i64) (.pair (.int .u64) (.pair (.int .u64) (.pair (.int .u64) (.unit))))))):Option (DenS O9) :=
 let e1_:=(a0.2.1,(IntKind.wrap .i64 a0.2.2.2.2.1),a0.1,a0.2.2.1,())
 bif (p393 e1_) then (some (f393 e1_))
 else none
theorem aRc (x:DenS No):run (cf [(23,⟨Ks,Mk,p393,f393⟩)] []) 9 185 Tryz.f185 No O9 x=iM p393 f393 x.1:=by kernel_rfl
def W1 (x:DenS No):Option (DenS O9):=iM Gn.pre Gn.F x.1
def Mq:Sum:=Al No O9 W1 (DenS.dflt O9)
theorem xG:Sound Tryz.prog G1 185 Mq:=sd (cf [(23,Gn)] []) 185 Tryz.f185 ⟨aAu,trivial⟩ trivial No O9 W1 _ (fun _=>aRc ..)
abbrev oE:=Ak No
abbrev tR:=Aj No O9
variable (p408:oE) (f408:tR)
abbrev Pl:Ab:=[(true,.pair (.int .u64) (.pair (.int .u64) (.unit))),(false,.bool)]
abbrev OO:Ab:=[(false,.int .u64)]
def kK (a0:Aa (.pair (.int .u64) (.pair (.int .u64) (.unit)))) (a1:Aa (.bool)):Option (DenS OO) :=
 bif a1 then (some ((IntKind.wrap .u64 ((0:Int)-a0.1)),()))
 else some a0.2
theorem aSB (x:DenS Pl):run (cf [] []) 9 84 Tryz.f84 Pl OO x=kK x.1 x.2.1:=by kernel_rfl
def X5 (x:DenS Pl):Option (DenS OO):=kK x.1 x.2.1
def Nr:Sum:=Al Pl OO X5 (DenS.dflt OO)
theorem aPZ:Sound Tryz.prog G1 84 Nr:=sd (cf [] []) 84 Tryz.f84 trivial trivial Pl OO X5 _ (fun _=>aSB ..)
abbrev aIA:=Ak Pl
abbrev aH9:=Aj Pl OO
variable (p409:aIA) (f409:aH9)
abbrev L9:Ab:=[(false,.int .i64),(false,.int .i64),(false,.int .i64),(false,.int .u64)]
abbrev GQ:Ab:=[(false,.int .u64),(false,.int .i64),(false,.int .i64)]
def gW (p403:dA) (f403:j8) (p65:D5) (f65:D3) (p404:qU) (f404:qR) (p405:wT) (f405:u9) (p178:Ii) (f178:H5) (p409:aIA) (f409:aH9) (a0 a1 a2:Aa (.int .i64)) (a3:Aa (.int .u64)):Option (DenS GQ) :=
 let e18_:=(AQ .u64 (f404 (a0,a3,())).1.2.1 (f404 (a0,a3,())).1.2.2.1)
 let e19_:=(Vx.k_kinds.getD (Int.toNat a2) ((0:Int),(0:Int),()))
 let e1_:=(((!(f404 (a0,a3,())).1.1)&&(decide (e18_>e19_.2.1)))||((f404 (a0,a3,())).1.1&&(decide (e18_>e19_.1))))
 let e2_:=(((!(f404 (a0,a3,())).1.1)&&(decide ((f405 (a1,(f404 (a0,a3,())))).1>e19_.2.1)))||((f404 (a0,a3,())).1.1&&(decide ((f405 (a1,(f404 (a0,a3,())))).1>e19_.1))))
 let e3_:=((IntKind.wrap .u64 ((0:Int)-e18_)),(0:Int),(0:Int),())
 let e4_:=((IntKind.wrap .u64 ((0:Int)-e19_.1)),(1:Int),(0:Int),())
 let e16_:=(e19_,(f404 (a0,a3,())).1.1,())
 let e5_:=((f409 e16_).1,(1:Int),(0:Int),())
 let e6_:=(decide ((IntKind.wrap .i64 ((f178 ((f404 (a0,a3,())).1.2.1,())).1+(f404 (a0,a3,())).1.2.2.1))>(64:Int)))
 let e17_:=(IntKind.wrap .u64 ((0:Int)-(f405 (a1,(f404 (a0,a3,())))).1))
 let e7_:=(e17_,(16:Int),(0:Int),())
 let e8_:=(e17_,(0:Int),(0:Int),())
 let e9_:=(e18_,(0:Int),(0:Int),())
 let e10_:=(p409 e16_)
 let e11_:=(e19_.2.1,(1:Int),(0:Int),())
 let e12_:=((f405 (a1,(f404 (a0,a3,())))).1,(16:Int),(0:Int),())
 let e13_:=((f405 (a1,(f404 (a0,a3,())))).1,(0:Int),(0:Int),())
 let e14_:=(decide ((f404 (a0,a3,())).1.2.2.1<(0:Int)))
 let e15_:=(decide ((0:Int)≤(f404 (a0,a3,())).1.2.2.1))
 let g1_:Option (DenS GQ):=bif ((f65 (a0,a3,())).1==(2:Int)) then (some e4_)
 else bif (p404 (a0,a3,())) then (bif e14_ then (bif (p405 (a1,(f404 (a0,a3,())))) then (bif e2_ then (bif e10_ then (some e5_)
 else none)
 else bif (f404 (a0,a3,())).1.1 then (bif (f405 (a1,(f404 (a0,a3,())))).2.1 then (some e7_)
 else some e8_)
 else bif (f405 (a1,(f404 (a0,a3,())))).2.1 then (some e12_)
 else some e13_)
 else none)
 else bif (p178 ((f404 (a0,a3,())).1.2.1,())) then (bif e6_ then (bif e10_ then (some e5_)
 else none)
 else bif e15_ then (bif e1_ then (bif e10_ then (some e5_)
 else none)
 else bif (f404 (a0,a3,())).1.1 then (some e3_)
 else some e9_)
 else none)
 else none)
 else none
 bif (p403 (a0,a1,())) then (bif ((f403 (a0,a1,())).1 != (0:Int)) then (some ((0:Int),(0:Int),(f403 (a0,a1,()))))
 else bif ((decide (a2<(0:Int)))||(decide (a2>(3:Int)))) then (some ((0:Int),(0:Int),(9:Int),()))
 else bif (p65 (a0,a3,())) then (bif ((f65 (a0,a3,())).2.1 != (0:Int)) then (some ((0:Int),(0:Int),(f65 (a0,a3,())).2))
 else bif (bif (decide ((0:Int)≤a2)) then (decide (a2<((4:Nat):Int))) else false) then (bif ((f65 (a0,a3,())).1==(0:Int)) then (bif ((f65 (a0,a3,())).1==(0:Int)) then (some e11_)
 else g1_)
 else bif ((f65 (a0,a3,())).1==(1:Int)) then (bif ((f65 (a0,a3,())).1==(1:Int)) then (some e11_)
 else g1_)
 else bif ((f65 (a0,a3,())).1==(9:Int)) then (some e11_)
 else g1_)
 else none)
 else none)
 else none
theorem aPY (x:DenS L9):run (cf [(80,⟨IA,I2,p403,f403⟩),(55,⟨DB,DG,p65,f65⟩),(81,⟨LD,ME,p404,f404⟩),(82,⟨Mg,Im,p405,f405⟩),(83,⟨Gi,Fx,p178,f178⟩),(84,⟨Pl,OO,p409,f409⟩)] []) 9 28 Tryz.f28 L9 GQ x=gW p403 f403 p65 f65 p404 f404 p405 f405 p178 f178 p409 f409 x.1 x.2.1 x.2.2.1 x.2.2.2.1:=by kernel_rfl
def Zn (x:DenS L9):Option (DenS GQ):=gW D7.pre D7.F AB.pre AB.F Gc.pre Gc.F Dh.pre Dh.F Bw.pre Bw.F Nr.pre Nr.F x.1 x.2.1 x.2.2.1 x.2.2.2.1
def Gb:Sum:=Al L9 GQ Zn (DenS.dflt GQ)
theorem aHX:Sound Tryz.prog G1 28 Gb:=sd (cf [(80,D7),(55,AB),(81,Gc),(82,Dh),(83,Bw),(84,Nr)] []) 28 Tryz.f28 ⟨qA,G9,aC1,aIp,YN,aPZ,trivial⟩ trivial L9 GQ Zn _ (fun _=>aPY ..)
abbrev lZ:=Ak L9
abbrev kW:=Aj L9 GQ
variable (p410:lZ) (f410:kW)
abbrev Q0:Ab:=[(true,.pair (.int .i64) (.pair (.int .i64) (.pair (.int .u64) (.pair (.int .u64) (.pair (.int .u64) (.unit))))))]
abbrev Rs:Ab:=[(false,.int .u64),(false,.int .i64),(false,.int .i64)]
def aN (p410:lZ) (f410:kW) (a0:Aa (.pair (.int .i64) (.pair (.int .i64) (.pair (.int .u64) (.pair (.int .u64) (.pair (.int .u64) (.unit))))))):Option (DenS Rs) :=
 let e1_:=(a0.2.1,a0.1,(IntKind.wrap .i64 a0.2.2.2.2.1),a0.2.2.1,())
 bif (p410 e1_) then (some (f410 e1_))
 else none
theorem aPt (x:DenS Q0):run (cf [(28,⟨L9,GQ,p410,f410⟩)] []) 9 186 Tryz.f186 Q0 Rs x=aN p410 f410 x.1:=by kernel_rfl
def X6 (x:DenS Q0):Option (DenS Rs):=aN Gb.pre Gb.F x.1
def MP:Sum:=Al Q0 Rs X6 (DenS.dflt Rs)
theorem aCI:Sound Tryz.prog G1 186 MP:=sd (cf [(28,Gb)] []) 186 Tryz.f186 ⟨aHX,trivial⟩ trivial Q0 Rs X6 _ (fun _=>aPt ..)
abbrev wC:=Ak Q0
abbrev qY:=Aj Q0 Rs
variable (p411:wC) (f411:qY)
abbrev Mc:Ab:=[(false,.int .i64),(false,.int .i64),(false,.int .i64),(false,.int .u64)]
abbrev Mi:Ab:=[(false,.int .u64),(false,.int .i64),(false,.int .i64)]
def kZ (p403:dA) (f403:j8) (p122:HS) (f122:Iw) (a0 a1 a2:Aa (.int .i64)) (a3:Aa (.int .u64)):Option (DenS Mi) :=
 let e8_:=(Vx.k_kinds.getD (Int.toNat a2) ((0:Int),(0:Int),()))
 let e7_:=((decide (e8_.1>(0:Int)))&&((AH .u64 a3 (63:Int))==(1:Int)))
 let e9_:=(IntKind.wrap .u64 ((0:Int)-a3))
 let e1_:=(a0,a1,e7_,((0:Int),e9_,()),(0:Int),false,())
 let e2_:=(a0,a1,e7_,((0:Int),a3,()),(0:Int),false,())
 let e3_:=(!e7_)
 let e4_:=e7_
 let e5_:=e8_
 let e6_:=e9_
 bif (p403 (a0,a1,())) then (bif ((f403 (a0,a1,())).1 != (0:Int)) then (some ((0:Int),(0:Int),(f403 (a0,a1,()))))
 else bif ((decide (a2<(0:Int)))||(decide (a2>(3:Int)))) then (some ((0:Int),(0:Int),(9:Int),()))
 else bif (bif (decide ((0:Int)≤a2)) then (decide (a2<((4:Nat):Int))) else false) then (bif e4_ then (bif ((e3_&&(decide (e6_>e5_.2.1)))||(e4_&&(decide (e6_>e5_.1)))) then (some ((0:Int),(0:Int),(7:Int),()))
 else bif (p122 e1_) then (some (f122 e1_))
 else none)
 else bif ((e3_&&(decide (a3>e5_.2.1)))||(e4_&&(decide (a3>e5_.1)))) then (some ((0:Int),(0:Int),(7:Int),()))
 else bif (p122 e2_) then (some (f122 e2_))
 else none)
 else none)
 else none
theorem aSj (x:DenS Mc):run (cf [(80,⟨IA,I2,p403,f403⟩),(66,⟨EZ,Fj,p122,f122⟩)] []) 9 26 Tryz.f26 Mc Mi x=kZ p403 f403 p122 f122 x.1 x.2.1 x.2.2.1 x.2.2.2.1:=by kernel_rfl
def WH (x:DenS Mc):Option (DenS Mi):=kZ D7.pre D7.F A3.pre A3.F x.1 x.2.1 x.2.2.1 x.2.2.2.1
def FW:Sum:=Al Mc Mi WH (DenS.dflt Mi)
theorem yZ:Sound Tryz.prog G1 26 FW:=sd (cf [(80,D7),(66,A3)] []) 26 Tryz.f26 ⟨qA,TT,trivial⟩ trivial Mc Mi WH _ (fun _=>aSj ..)
abbrev i6:=Ak Mc
abbrev aM:=Aj Mc Mi
variable (p412:i6) (f412:aM)
abbrev Rt:Ab:=[(true,.pair (.int .i64) (.pair (.int .i64) (.pair (.int .u64) (.pair (.int .u64) (.pair (.int .u64) (.unit))))))]
abbrev QK:Ab:=[(false,.int .u64),(false,.int .i64),(false,.int .i64)]
def lT (p412:i6) (f412:aM) (a0:Aa (.pair (.int .i64) (.pair (.int .i64) (.pair (.int .u64) (.pair (.int .u64) (.pair (.int .u64) (.unit))))))):Option (DenS QK) :=
 let e1_:=(a0.2.1,a0.1,(IntKind.wrap .i64 a0.2.2.2.2.1),a0.2.2.1,())
 bif (p412 e1_) then (some (f412 e1_))
 else none
theorem aMh (x:DenS Rt):run (cf [(26,⟨Mc,Mi,p412,f412⟩)] []) 9 187 Tryz.f187 Rt QK x=lT p412 f412 x.1:=by kernel_rfl
def Zm (x:DenS Rt):Option (DenS QK):=lT FW.pre FW.F x.1
def Lz:Sum:=Al Rt QK Zm (DenS.dflt QK)
theorem aEX:Sound Tryz.prog G1 187 Lz:=sd (cf [(26,FW)] []) 187 Tryz.f187 ⟨yZ,trivial⟩ trivial Rt QK Zm _ (fun _=>aMh ..)
abbrev t6:=Ak Rt
abbrev nX:=Aj Rt QK
variable (p413:t6) (f413:nX)
abbrev J8:Ab:=[(false,.int .i64),(false,.int .u64)]
abbrev JZ:Ab:=[(false,.int .u64),(false,.int .i64)]
def UJ (p66:Ci) (f66:Cl) (p115:ZF) (f115:Xk) (a0:Aa (.int .i64)) (a1:Aa (.int .u64)):Option (DenS JZ) :=
 bif (p66 (a0,a1,())) then (bif ((f66 (a0,a1,())).1 != (0:Int)) then (some ((0:Int),(f66 (a0,a1,()))))
 else bif (p115 (a0,())) then (some ((RE .u64 a1 (f115 (a0,())).1),(0:Int),()))
 else none)
 else none
theorem aND (x:DenS J8):run (cf [(59,⟨CH,CJ,p66,f66⟩),(120,⟨Jv,J4,p115,f115⟩)] []) 9 147 Tryz.f147 J8 JZ x=UJ p66 f66 p115 f115 x.1 x.2.1:=by kernel_rfl
def Sv (x:DenS J8):Option (DenS JZ):=UJ Ar.pre Ar.F Dm.pre Dm.F x.1 x.2.1
def C6:Sum:=Al J8 JZ Sv (DenS.dflt JZ)
theorem aX:Sound Tryz.prog G1 147 C6:=sd (cf [(59,Ar),(120,Dm)] []) 147 Tryz.f147 ⟨FU,vE,trivial⟩ trivial J8 JZ Sv _ (fun _=>aND ..)
abbrev Wu:=Ak J8
abbrev Xf:=Aj J8 JZ
variable (p112:Wu) (f112:Xf)
abbrev IC:Ab:=[(false,.int .i64),(false,.int .u64)]
abbrev I0:Ab:=[(true,.pair (.int .i64) (.pair (.int .i64) (.unit))),(false,.int .i64)]
def Uj (p65:D5) (f65:D3) (p112:Wu) (f112:Xf) (a0:Aa (.int .i64)) (a1:Aa (.int .u64)):Option (DenS I0) :=
 let e1_:=(IntKind.wrap .i64 (f112 (a0,a1,())).1)
 bif (p65 (a0,a1,())) then (bif ((f65 (a0,a1,())).2.1 != (0:Int)) then (some (((0:Int),(0:Int),()),(f65 (a0,a1,())).2))
 else bif (p112 (a0,a1,())) then (bif ((f112 (a0,a1,())).1 != a1) then (some (((f65 (a0,a1,())).1,(IntKind.wrap .i64 ((0:Int)-e1_)),()),(0:Int),()))
 else some (((f65 (a0,a1,())).1,e1_,()),(0:Int),()))
 else none)
 else none
theorem r82 (x:DenS IC):run (cf [(55,⟨DB,DG,p65,f65⟩),(147,⟨J8,JZ,p112,f112⟩)] []) 9 129 Tryz.f129 IC I0 x=Uj p65 f65 p112 f112 x.1 x.2.1:=by kernel_rfl
def VG (x:DenS IC):Option (DenS I0):=Uj AB.pre AB.F C6.pre C6.F x.1 x.2.1
def DE:Sum:=Al IC I0 VG (DenS.dflt I0)
theorem u5:Sound Tryz.prog G1 129 DE:=sd (cf [(55,AB),(147,C6)] []) 129 Tryz.f129 ⟨G9,aX,trivial⟩ trivial IC I0 VG _ (fun _=>r82 ..)
abbrev Yj:=Ak IC
abbrev YJ:=Aj IC I0
variable (p82:Yj) (f82:YJ)
abbrev GH:Ab:=[(true,.pair (.int .i64) (.pair (.int .i64) (.unit)))]
abbrev GO:Ab:=[(false,.bool)]
def zC (a0:Aa (.pair (.int .i64) (.pair (.int .i64) (.unit)))):Option (DenS GO) :=
 some (((a0.1==(1:Int))||(a0.1==(0:Int))),())
theorem r53 (x:DenS GH):run (cf [] []) 9 75 Tryz.f75 GH GO x=zC x.1:=by kernel_rfl
def X0 (x:DenS GH):Option (DenS GO):=zC x.1
def CE:Sum:=Al GH GO X0 (DenS.dflt GO)
theorem Zp:Sound Tryz.prog G1 75 CE:=sd (cf [] []) 75 Tryz.f75 trivial trivial GH GO X0 _ (fun _=>r53 ..)
abbrev Sn:=Ak GH
abbrev RC:=Aj GH GO
variable (p53:Sn) (f53:RC)
abbrev GY:Ab:=[(true,.pair (.int .i64) (.pair (.int .i64) (.unit))),(true,.pair (.int .i64) (.pair (.int .i64) (.unit)))]
abbrev GJ:Ab:=[(false,.int .i64)]
def jM (a0 a1:Aa (.pair (.int .i64) (.pair (.int .i64) (.unit)))):Option (DenS GJ) :=
 bif ((a0.1==(0:Int))||(a1.1==(0:Int))) then (some ((1:Int),()))
 else some ((0:Int),())
theorem r54 (x:DenS GY):run (cf [] []) 9 76 Tryz.f76 GY GJ x=jM x.1 x.2.1:=by kernel_rfl
def XK (x:DenS GY):Option (DenS GJ):=jM x.1 x.2.1
def CD:Sum:=Al GY GJ XK (DenS.dflt GJ)
theorem Yk:Sound Tryz.prog G1 76 CD:=sd (cf [] []) 76 Tryz.f76 trivial trivial GY GJ XK _ (fun _=>r54 ..)
abbrev Rz:=Ak GY
abbrev Sb:=Aj GY GJ
variable (p54:Rz) (f54:Sb)
abbrev PI:Ab:=[(false,.int .i64),(false,.int .u64),(false,.int .i64)]
abbrev O3:Ab:=[(false,.int .u64),(false,.int .i64),(false,.int .i64)]
def mW (p82:Yj) (f82:YJ) (p53:Sn) (f53:RC) (p70:Ei) (f70:DW) (p54:Rz) (f54:Sb) (p64:RG) (f64:Se) (a0:Aa (.int .i64)) (a1:Aa (.int .u64)) (a2:Aa (.int .i64)):Option (DenS O3) :=
 let e4_:=(IntKind.wrap .i64 ((f82 (a0,a1,())).1.2.1+a2))
 let e1_:=(f64 (a0,(IntKind.wrap .u64 (IntKind.wrap .i64 ((0:Int)-e4_))),()))
 let e2_:=e4_
 let e3_:=((f82 (a0,a1,())).1,(f82 (a0,a1,())).1,())
 bif (p82 (a0,a1,())) then (bif ((f82 (a0,a1,())).2.1 != (0:Int)) then (some ((0:Int),(0:Int),(f82 (a0,a1,())).2))
 else bif (p53 ((f82 (a0,a1,())).1,())) then (bif (f53 ((f82 (a0,a1,())).1,())).1 then (bif (p70 (a0,())) then (bif (p54 e3_) then (some ((f70 (a0,())).1,(f54 e3_).1,(0:Int),()))
 else none)
 else none)
 else bif ((((f82 (a0,a1,())).1.1==(9:Int))&&(decide (a2>(0:Int))))||(((f82 (a0,a1,())).1.1==(2:Int))&&(decide (a2<(0:Int))))) then (some (a1,(0:Int),(0:Int),()))
 else bif ((decide (e2_>(0:Int)))||((e2_==(0:Int))&&(decide (a2<(0:Int))))) then (some ((IntKind.wrap .u64 e2_),(0:Int),(0:Int),()))
 else bif (p64 (a0,(IntKind.wrap .u64 (IntKind.wrap .i64 ((0:Int)-e2_))),())) then (some (e1_.1,(0:Int),e1_.2))
 else none)
 else none)
 else none
theorem r93 (x:DenS PI):run (cf [(129,⟨IC,I0,p82,f82⟩),(75,⟨GH,GO,p53,f53⟩),(56,⟨DD,DH,p70,f70⟩),(76,⟨GY,GJ,p54,f54⟩),(60,⟨Ie,Ix,p64,f64⟩)] []) 9 146 Tryz.f146 PI O3 x=mW p82 f82 p53 f53 p70 f70 p54 f54 p64 f64 x.1 x.2.1 x.2.2.1:=by kernel_rfl
def Wb (x:DenS PI):Option (DenS O3):=mW DE.pre DE.F CE.pre CE.F AC.pre AC.F CD.pre CD.F C1.pre C1.F x.1 x.2.1 x.2.2.1
def Rd:Sum:=Al PI O3 Wb (DenS.dflt O3)
theorem aPP:Sound Tryz.prog G1 146 Rd:=sd (cf [(129,DE),(75,CE),(56,AC),(76,CD),(60,C1)] []) 146 Tryz.f146 ⟨u5,Zp,GL,Yk,YX,trivial⟩ trivial PI O3 Wb _ (fun _=>r93 ..)
abbrev Y93:=Ak PI
abbrev Z93:=Aj PI O3
variable (p93:Y93) (f93:Z93)
abbrev Kk:Ab:=[(false,.int .i64),(false,.int .u64)]
abbrev M8:Ab:=[(false,.int .u64),(false,.int .i64),(false,.int .i64)]
def aR (p93:Y93) (f93:Z93) (a0:Aa (.int .i64)) (a1:Aa (.int .u64)):Option (DenS M8) :=
 bif (p93 (a0,a1,(1:Int),())) then (some (f93 (a0,a1,(1:Int),())))
 else none
theorem r41 (x:DenS Kk):run (cf [(146,⟨PI,O3,p93,f93⟩)] []) 9 99 Tryz.f99 Kk M8 x=aR p93 f93 x.1 x.2.1:=by kernel_rfl
def YS (x:DenS Kk):Option (DenS M8):=aR Rd.pre Rd.F x.1 x.2.1
def Ge:Sum:=Al Kk M8 YS (DenS.dflt M8)
theorem aFu:Sound Tryz.prog G1 99 Ge:=sd (cf [(146,Rd)] []) 99 Tryz.f99 ⟨aPP,trivial⟩ trivial Kk M8 YS _ (fun _=>r41 ..)
abbrev lJ:=Ak Kk
abbrev bR:=Aj Kk M8
variable (p41:lJ) (f41:bR)
abbrev PA:Ab:=[(true,.pair (.int .i64) (.pair (.int .i64) (.pair (.int .u64) (.pair (.int .u64) (.pair (.int .u64) (.unit))))))]
abbrev N8:Ab:=[(false,.int .u64),(false,.int .i64),(false,.int .i64)]
def aE (p41:lJ) (f41:bR) (a0:Aa (.pair (.int .i64) (.pair (.int .i64) (.pair (.int .u64) (.pair (.int .u64) (.pair (.int .u64) (.unit))))))):Option (DenS N8) :=
 bif (p41 (a0.2.1,a0.2.2.1,())) then (some (f41 (a0.2.1,a0.2.2.1,())))
 else none
theorem aQ0 (x:DenS PA):run (cf [(99,⟨Kk,M8,p41,f41⟩)] []) 9 190 Tryz.f190 PA N8 x=aE p41 f41 x.1:=by kernel_rfl
def YD (x:DenS PA):Option (DenS N8):=aE Ge.pre Ge.F x.1
def Lx:Sum:=Al PA N8 YD (DenS.dflt N8)
theorem aIu:Sound Tryz.prog G1 190 Lx:=sd (cf [(99,Ge)] []) 190 Tryz.f190 ⟨aFu,trivial⟩ trivial PA N8 YD _ (fun _=>aQ0 ..)
abbrev wM:=Ak PA
abbrev n7:=Aj PA N8
variable (p414:wM) (f414:n7)
abbrev MY:Ab:=[(false,.int .i64),(false,.int .i64),(false,.int .u64),(false,.int .i64)]
abbrev Jq:Ab:=[(false,.int .u64),(false,.int .i64),(false,.int .i64)]
def i5 (p69:BP) (f69:BK) (p82:Yj) (f82:YJ) (p53:Sn) (f53:RC) (p70:Ei) (f70:DW) (p54:Rz) (f54:Sb) (p40:Pr) (f40:Oy) (p51:iW) (f51:iN) (a0 a1:Aa (.int .i64)) (a2:Aa (.int .u64)) (a3:Aa (.int .i64)):Option (DenS Jq) :=
 let e3_:=(if ((10000:Int)<a3) then (10000:Int) else a3)
 let e1_:=(a0,a1,((f40 (a0,a2,())).1.1,(f40 (a0,a2,())).1.2.1,(IntKind.wrap .i64 ((f40 (a0,a2,())).1.2.2.1+(if (e3_>(-(10000:Int))) then e3_ else (-(10000:Int))))),()),())
 let e2_:=((f82 (a0,a2,())).1,(f82 (a0,a2,())).1,())
 bif (p69 (a0,())) then (bif ((f69 (a0,())).2.1 != (0:Int)) then (some ((0:Int),(0:Int),(f69 (a0,())).2))
 else bif ((decide (a1<(0:Int)))||(decide (a1>(5:Int)))) then (some ((0:Int),(0:Int),(3:Int),()))
 else bif (p82 (a0,a2,())) then (bif ((f82 (a0,a2,())).2.1 != (0:Int)) then (some ((0:Int),(0:Int),(f82 (a0,a2,())).2))
 else bif (p53 ((f82 (a0,a2,())).1,())) then (bif (f53 ((f82 (a0,a2,())).1,())).1 then (bif (p70 (a0,())) then (bif (p54 e2_) then (some ((f70 (a0,())).1,(f54 e2_).1,(0:Int),()))
 else none)
 else none)
 else bif (p40 (a0,a2,())) then (bif (((f40 (a0,a2,())).2.1 != (0:Int))||((f82 (a0,a2,())).1.2.1==(0:Int))) then (some (a2,(0:Int),(0:Int),()))
 else bif (p51 e1_) then (some (f51 e1_))
 else none)
 else none)
 else none)
 else none)
 else none
theorem r38 (x:DenS MY):run (cf [(54,⟨Ch,Cj,p69,f69⟩),(129,⟨IC,I0,p82,f82⟩),(75,⟨GH,GO,p53,f53⟩),(56,⟨DD,DH,p70,f70⟩),(76,⟨GY,GJ,p54,f54⟩),(71,⟨Hb,G4,p40,f40⟩),(130,⟨J0,Jc,p51,f51⟩)] []) 9 100 Tryz.f100 MY Jq x=i5 p69 f69 p82 f82 p53 f53 p70 f70 p54 f54 p40 f40 p51 f51 x.1 x.2.1 x.2.2.1 x.2.2.2.1:=by kernel_rfl
def W9 (x:DenS MY):Option (DenS Jq):=i5 Aq.pre Aq.F DE.pre DE.F CE.pre CE.F AC.pre AC.F CD.pre CD.F CB.pre CB.F Dn.pre Dn.F x.1 x.2.1 x.2.2.1 x.2.2.2.1
def F4:Sum:=Al MY Jq W9 (DenS.dflt Jq)
theorem aDJ:Sound Tryz.prog G1 100 F4:=sd (cf [(54,Aq),(129,DE),(75,CE),(56,AC),(76,CD),(71,CB),(130,Dn)] []) 100 Tryz.f100 ⟨Ek,u5,Zp,GL,Yk,YC,vH,trivial⟩ trivial MY Jq W9 _ (fun _=>r38 ..)
abbrev bQ:=Ak MY
abbrev cB:=Aj MY Jq
variable (p38:bQ) (f38:cB)
abbrev Qu:Ab:=[(true,.pair (.int .i64) (.pair (.int .i64) (.pair (.int .u64) (.pair (.int .u64) (.pair (.int .u64) (.unit))))))]
abbrev NW:Ab:=[(false,.int .u64),(false,.int .i64),(false,.int .i64)]
def aO (p38:bQ) (f38:cB) (a0:Aa (.pair (.int .i64) (.pair (.int .i64) (.pair (.int .u64) (.pair (.int .u64) (.pair (.int .u64) (.unit))))))):Option (DenS NW) :=
 let e1_:=(a0.2.1,a0.1,a0.2.2.1,(IntKind.wrap .i64 a0.2.2.2.1),())
 bif (p38 e1_) then (some (f38 e1_))
 else none
theorem aUm (x:DenS Qu):run (cf [(100,⟨MY,Jq,p38,f38⟩)] []) 9 191 Tryz.f191 Qu NW x=aO p38 f38 x.1:=by kernel_rfl
def Wy (x:DenS Qu):Option (DenS NW):=aO F4.pre F4.F x.1
def Kz:Sum:=Al Qu NW Wy (DenS.dflt NW)
theorem aH4:Sound Tryz.prog G1 191 Kz:=sd (cf [(100,F4)] []) 191 Tryz.f191 ⟨aDJ,trivial⟩ trivial Qu NW Wy _ (fun _=>aUm ..)
abbrev uS:=Ak Qu
abbrev v5:=Aj Qu NW
variable (p415:uS) (f415:v5)
abbrev NN:Ab:=[(true,.pair (.int .i64) (.pair (.int .i64) (.pair (.int .u64) (.pair (.int .u64) (.pair (.int .u64) (.unit))))))]
abbrev Q8:Ab:=[(false,.int .u64),(false,.int .i64),(false,.int .i64)]
def j3 (p65:D5) (f65:D3) (a0:Aa (.pair (.int .i64) (.pair (.int .i64) (.pair (.int .u64) (.pair (.int .u64) (.pair (.int .u64) (.unit))))))):Option (DenS Q8) :=
 bif (p65 (a0.2.1,a0.2.2.1,())) then (some ((IntKind.wrap .u64 (f65 (a0.2.1,a0.2.2.1,())).1),(0:Int),(f65 (a0.2.1,a0.2.2.1,())).2))
 else none
theorem aNW (x:DenS NN):run (cf [(55,⟨DB,DG,p65,f65⟩)] []) 9 192 Tryz.f192 NN Q8 x=j3 p65 f65 x.1:=by kernel_rfl
def Zs (x:DenS NN):Option (DenS Q8):=j3 AB.pre AB.F x.1
def KZ:Sum:=Al NN Q8 Zs (DenS.dflt Q8)
theorem aCs:Sound Tryz.prog G1 192 KZ:=sd (cf [(55,AB)] []) 192 Tryz.f192 ⟨G9,trivial⟩ trivial NN Q8 Zs _ (fun _=>aNW ..)
abbrev qN:=Ak NN
abbrev nO:=Aj NN Q8
variable (p416:qN) (f416:nO)
abbrev KE:Ab:=[(false,.int .i64),(false,.int .u64),(false,.int .u64)]
abbrev Kp:Ab:=[(false,.int .u64),(false,.int .i64)]
def kT (p66:Ci) (f66:Cl) (p115:ZF) (f115:Xk) (a0:Aa (.int .i64)) (a1 a2:Aa (.int .u64)):Option (DenS Kp) :=
 bif (p66 (a0,a1,())) then (bif ((f66 (a0,a1,())).1 != (0:Int)) then (some ((0:Int),(f66 (a0,a1,()))))
 else bif (p66 (a0,a2,())) then (bif ((f66 (a0,a2,())).1 != (0:Int)) then (some ((0:Int),(f66 (a0,a2,()))))
 else bif (p115 (a0,())) then (bif (p115 (a0,())) then (some ((A9 .u64 (RE .u64 a1 (f115 (a0,())).1) (A8 .u64 a2 (f115 (a0,())).1)),(0:Int),()))
 else none)
 else none)
 else none)
 else none
theorem aMa (x:DenS KE):run (cf [(59,⟨CH,CJ,p66,f66⟩),(120,⟨Jv,J4,p115,f115⟩)] []) 9 148 Tryz.f148 KE Kp x=kT p66 f66 p115 f115 x.1 x.2.1 x.2.2.1:=by kernel_rfl
def XQ (x:DenS KE):Option (DenS Kp):=kT Ar.pre Ar.F Dm.pre Dm.F x.1 x.2.1 x.2.2.1
def F0:Sum:=Al KE Kp XQ (DenS.dflt Kp)
theorem aC7:Sound Tryz.prog G1 148 F0:=sd (cf [(59,Ar),(120,Dm)] []) 148 Tryz.f148 ⟨FU,vE,trivial⟩ trivial KE Kp XQ _ (fun _=>aMa ..)
abbrev kB:=Ak KE
abbrev bF:=Aj KE Kp
variable (p417:kB) (f417:bF)
abbrev NX:Ab:=[(true,.pair (.int .i64) (.pair (.int .i64) (.pair (.int .u64) (.pair (.int .u64) (.pair (.int .u64) (.unit))))))]
abbrev Q9:Ab:=[(false,.int .u64),(false,.int .i64),(false,.int .i64)]
def fC (p417:kB) (f417:bF) (a0:Aa (.pair (.int .i64) (.pair (.int .i64) (.pair (.int .u64) (.pair (.int .u64) (.pair (.int .u64) (.unit))))))):Option (DenS Q9) :=
 bif (p417 (a0.2.1,a0.2.2.1,a0.2.2.2.1,())) then (some ((f417 (a0.2.1,a0.2.2.1,a0.2.2.2.1,())).1,(0:Int),(f417 (a0.2.1,a0.2.2.1,a0.2.2.2.1,())).2))
 else none
theorem aL9 (x:DenS NX):run (cf [(148,⟨KE,Kp,p417,f417⟩)] []) 9 194 Tryz.f194 NX Q9 x=fC p417 f417 x.1:=by kernel_rfl
def XO (x:DenS NX):Option (DenS Q9):=fC F0.pre F0.F x.1
def K9:Sum:=Al NX Q9 XO (DenS.dflt Q9)
theorem aCT:Sound Tryz.prog G1 194 K9:=sd (cf [(148,F0)] []) 194 Tryz.f194 ⟨aC7,trivial⟩ trivial NX Q9 XO _ (fun _=>aL9 ..)
abbrev vP:=Ak NX
abbrev tE:=Aj NX Q9
variable (p418:vP) (f418:tE)
end Vx
namespace Vx
open Go Go.Proofs
variable (p69:BP) (f69:BK) (p66:Ci) (f66:Cl) (p65:D5) (f65:D3) (p70:Ei) (f70:DW) (p118:Ib) (f118:Id) (p178:Ii) (f178:H5) (p122:HS) (f122:Iw) (p27:Zk) (f27:Wt) (p64:RG) (f64:Se) (p25:eQ) (f25:jL) (p354:iV) (f354:fA) (p40:Pr) (f40:Oy) (p328:EE) (f328:EQ) (p381:nA) (f381:kS) (p395:sM) (f395:tH) (p318:iP) (f318:gQ) (p396:r9) (f396:pV) (p401:gS) (f401:Z1) (p402:rE) (f402:uF) (p406:nB) (f406:kU) (p407:uT) (f407:pS) (p393:bM) (f393:cO) (p408:oE) (f408:tR) (p410:lZ) (f410:kW) (p411:wC) (f411:qY) (p412:i6) (f412:aM) (p413:t6) (f413:nX) (p112:Wu) (f112:Xf) (p82:Yj) (f82:YJ) (p53:Sn) (f53:RC) (p54:Rz) (f54:Sb) (p41:lJ) (f41:bR) (p414:wM) (f414:n7) (p38:bQ) (f38:cB) (p415:uS) (f415:v5) (p416:qN) (f416:nO) (p417:kB) (f417:bF) (p418:vP) (f418:tE)
abbrev Re:Ab:=[(false,.int .i64),(false,.int .u64),(false,.int .u64)]
abbrev P4:Ab:=[(false,.int .u64),(false,.int .i64),(false,.bool),(false,.int .i64)]
abbrev Ht:Pat:=⟨109,[(32,.one (.v .i64)),(31,.one (.sl (.int .u64))),(33,.one (.v .i64)),(2,.one (.v .u64)),(0,.one (.v .i64)),(1,.one (.v .u64))],[]⟩
abbrev aV:List (Nat×Shape):=[]
abbrev ML:List (Nat×Pat):=[(0,⟨109,[(2,.one (.v .u64)),(0,.one (.v .i64)),(1,.one (.v .u64))],[]⟩)]
abbrev LL:Option Pat:=(some ⟨109,[(6,.one (.v .u64)),(7,.one (.v .i64)),(8,.one (.bool)),(9,.one (.v .i64))],[]⟩)
variable (w419_5:Pat.D Ht→Option (Ah ML LL))
def Vf (p69:BP) (f69:BK) (p66:Ci) (f66:Cl) (p65:D5) (f65:D3) (p70:Ei) (f70:DW) {R:Type} (L:Pat.D Ht→Option R) (e:Ah ML LL→Option R) (x:Pat.D Ht):Option R :=
 let e2_:=(x.1.2.2.2.2.1,(x.1.2.1.getD (Int.toNat x.1.2.2.1) (0:Int)),())
 let e1_:=(f66 e2_)
 bif (decide (x.1.2.2.1<x.1.1)) then (bif ((decide ((0:Int)≤x.1.2.2.1))&&(decide (x.1.2.2.1<(x.1.2.1.length:Int)))) then (bif (p66 e2_) then (bif (e1_.1 != (0:Int)) then (((e (.inr (((0:Int),(0:Int),true,e1_),())))))
 else (L ((x.1.1,x.1.2.1,(IntKind.wrap .i64 (x.1.2.2.1+(1:Int))),x.1.2.2.2),())))
 else none)
 else none)
 else (e (.inl (x.1.2.2.2,())))
theorem aRm (d:Nat) (R:Type) (L:Pat.D Ht→Option R) (e:Ah ML LL→Option R) (x:Pat.D Ht) :
  BA (cf [(54,⟨Ch,Cj,p69,f69⟩),(59,⟨CH,CJ,p66,f66⟩),(55,⟨DB,DG,p65,f65⟩),(56,⟨DD,DH,p70,f70⟩)] [(198,5,LoopSpec.of Ht aV ML LL w419_5)]) (d+2) 198 (By Tryz.f198 5) Ht aV ML LL (R:=R) L e x=Vf p69 f69 p66 f66 p65 f65 p70 f70 L e x:=by kernel_rfl
theorem aBK (p69:BP) (f69:BK) (p66:Ci) (f66:Cl) (p65:D5) (f65:D3) (p70:Ei) (f70:DW):Bu fun L e x=>Vf p69 f69 p66 f66 p65 f65 p70 f70 L e x:=by intro _ _ _ _ _ _ _ h0 hL he _; unfold Vf; repeat' (first | exact h0 | exact hL _ | exact he _ | apply BR | (apply BW h0; intro _) | (apply B9 <;> intro _))
def eC (p69:BP) (f69:BK) (p66:Ci) (f66:Cl) (p65:D5) (f65:D3) (p70:Ei) (f70:DW) (w419_5:Pat.D Ht→Option (Ah ML LL)) (a0:Aa (.int .i64)) (a1 a2:Aa (.int .u64)):Option (DenS P4) :=
 bif (p69 (a0,())) then (bif ((f69 (a0,())).2.1 != (0:Int)) then (some ((0:Int),(0:Int),true,(f69 (a0,())).2))
 else Vx.AZ (w419_5 ((((a1::(a2::[])).length:Int),(a1::(a2::[])),(0:Int),a2,a0,a1,()),())) fun y2 =>
 Vx.A2 y2 (fun y3 =>
 bif (p65 y3.1.2) then (bif (p65 (y3.1.2.1,y3.1.1,())) then (bif (p70 (y3.1.2.1,())) then (bif (((f65 y3.1.2).1==(0:Int))||((f65 (y3.1.2.1,y3.1.1,())).1==(0:Int))) then (some ((f70 (y3.1.2.1,())).1,(1:Int),true,(0:Int),()))
 else bif (((f65 y3.1.2).1==(1:Int))||((f65 (y3.1.2.1,y3.1.1,())).1==(1:Int))) then (some ((f70 (y3.1.2.1,())).1,(0:Int),true,(0:Int),()))
 else bif (((((f65 y3.1.2).1==(9:Int))||((f65 y3.1.2).1==(2:Int)))||((f65 (y3.1.2.1,y3.1.1,())).1==(6:Int)))||((f65 (y3.1.2.1,y3.1.1,())).1==(5:Int))) then (some ((f70 (y3.1.2.1,())).1,(1:Int),true,(0:Int),()))
 else bif (((((f65 (y3.1.2.1,y3.1.1,())).1==(9:Int))||((f65 (y3.1.2.1,y3.1.1,())).1==(2:Int)))||((f65 y3.1.2).1==(6:Int)))||((f65 y3.1.2).1==(5:Int))) then (some (y3.1.2.2.1,(0:Int),true,(0:Int),()))
 else some ((0:Int),(0:Int),false,(0:Int),()))
 else none)
 else none)
 else none) (fun z3 =>
 some z3.1))
 else none
theorem aKP (x:DenS Re):run (cf [(54,⟨Ch,Cj,p69,f69⟩),(59,⟨CH,CJ,p66,f66⟩),(55,⟨DB,DG,p65,f65⟩),(56,⟨DD,DH,p70,f70⟩)] [(198,5,LoopSpec.of Ht aV ML LL w419_5)]) 9 198 Tryz.f198 Re P4 x=eC p69 f69 p66 f66 p65 f65 p70 f70 w419_5 x.1 x.2.1 x.2.2.1:=by kernel_rfl
def U6:Ht.D→Option (Ah ML LL):=Bf fun L=>Vf Aq.pre Aq.F Ar.pre Ar.F AB.pre AB.F AC.pre AC.F L some
def ZW (x:DenS Re):Option (DenS P4):=eC Aq.pre Aq.F Ar.pre Ar.F AB.pre AB.F AC.pre AC.F U6 x.1 x.2.1 x.2.2.1
def OW:Sum:=Al Re P4 ZW (DenS.dflt P4)
theorem aQR:Sound Tryz.prog G1 198 OW:=sd (cf [(54,Aq),(59,Ar),(55,AB),(56,AC)] [(198,5,LoopSpec.of Ht aV ML LL U6)]) 198 Tryz.f198 ⟨Ek,FU,G9,GL,trivial⟩ ⟨rfl,fun d=>B3 (fun L e x=>Vf Aq.pre Aq.F Ar.pre Ar.F AB.pre AB.F AC.pre AC.F L e x) (aBK Aq.pre Aq.F Ar.pre Ar.F AB.pre AB.F AC.pre AC.F) (fun _ _ _ _=>aRm ..),trivial⟩ Re P4 ZW _ (fun _=>aKP ..)
abbrev aCr:=Ak Re
abbrev aCB:=Aj Re P4
variable (p419:aCr) (f419:aCB)
abbrev N6:Ab:=[(true,.pair (.bool) (.pair (.slice (.int .u64)) (.pair (.int .i64) (.unit)))),(true,.pair (.bool) (.pair (.slice (.int .u64)) (.pair (.int .i64) (.unit))))]
abbrev Pz:Ab:=[(true,.pair (.int .u64) (.pair (.int .u64) (.pair (.int .i64) (.pair (.int .u64) (.unit)))))]
abbrev H0:Pat:=⟨104,[(6,.one (.v .u64)),(9,.one (.v .i64)),(8,.one (.ptr 3 0)),(4,.one (.ptr 2 0))],[.gone,.gone,.raw [.v .u64,.v .u64,.v .i64,.v .u64],.raw [.v .u64,.v .u64,.v .i64,.v .u64]]⟩
abbrev lO:List (Nat×Shape):=[]
abbrev MM:List (Nat×Pat):=[(0,⟨104,[(8,.one (.ptr 3 0)),(4,.one (.ptr 2 0))],[.gone,.gone,.raw [.v .u64,.v .u64,.v .i64,.v .u64],.raw [.v .u64,.v .u64,.v .i64,.v .u64]]⟩)]
abbrev LM:Option Pat:=none
variable (w420_10:Pat.D H0→Option (Ah MM LM))
def U1 (p178:Ii) (f178:H5) (p328:EE) (f328:EQ) {R:Type} (L:Pat.D H0→Option R) (e:Ah MM LM→Option R) (x:Pat.D H0):Option R :=
 let e6_:=(if ((64:Int)<x.1.2.1) then (64:Int) else x.1.2.1)
 let e5_:=(IntKind.wrap .i64 ((64:Int)-e6_))
 let e1_:=(f328 ((AH .u64 x.2.2.2.2.1.1 e5_),(AQ .u64 x.2.2.2.2.1.1 e6_),x.1.1,()))
 let e2_:=e5_
 let e3_:=(decide ((0:Int)≤e6_))
 let e4_:=e6_
 bif (decide (x.1.2.1>(0:Int))) then (bif (decide ((0:Int)≤e2_)) then (bif e3_ then (bif (p328 ((AH .u64 x.2.2.2.2.1.1 e2_),(AQ .u64 x.2.2.2.2.1.1 e4_),x.1.1,())) then (bif e3_ then (((L ((x.1.1,(IntKind.wrap .i64 (x.1.2.1-e4_)),(),(),()),(),(),x.2.2.2.1,(e1_.2.1,x.2.2.2.2.1.2.1,x.2.2.2.2.1.2.2.1,(IntKind.wrap .u64 ((AQ .u64 x.2.2.2.2.1.2.2.2.1 e4_)+e1_.1)),()),()))))
 else none)
 else none)
 else none)
 else none)
 else (e (.inl (((),(),()),(),(),x.2.2.2)))
theorem aM5 (d:Nat) (R:Type) (L:Pat.D H0→Option R) (e:Ah MM LM→Option R) (x:Pat.D H0) :
  BA (cf [(83,⟨Gi,Fx,p178,f178⟩),(264,⟨EM,ES,p328,f328⟩)] [(199,10,LoopSpec.of H0 lO MM LM w420_10)]) (d+2) 199 (By Tryz.f199 10) H0 lO MM LM (R:=R) L e x=U1 p178 f178 p328 f328 L e x:=by kernel_rfl
theorem aDf (p178:Ii) (f178:H5) (p328:EE) (f328:EQ):Bu fun L e x=>U1 p178 f178 p328 f328 L e x:=by intro _ _ _ _ _ _ _ h0 hL he _; unfold U1; repeat' (first | exact h0 | exact hL _ | exact he _ | apply BR | (apply BW h0; intro _) | (apply B9 <;> intro _))
def gC (p178:Ii) (f178:H5) (p328:EE) (f328:EQ) (w420_10:Pat.D H0→Option (Ah MM LM)) (a0 a1:Aa (.pair (.bool) (.pair (.slice (.int .u64)) (.pair (.int .i64) (.unit))))):Option (DenS Pz) :=
 let e8_:=(IntKind.wrap .i64 (a1.2.2.1-a0.2.2.1))
 let e7_:=(AQ .u64 (a1.2.1.getD (Int.toNat (0:Int)) (0:Int)) e8_)
 let e1_:=(e7_ != (0:Int))
 let e2_:=e7_
 let e3_:=((a1.2.1.getD (Int.toNat (0:Int)) (0:Int)) != (0:Int))
 let e4_:=e8_
 let e5_:=((a1.2.1.getD (Int.toNat (0:Int)) (0:Int)),())
 let e6_:=((a0.2.1.getD (Int.toNat (0:Int)) (0:Int)),())
 bif (decide ((0:Int)<(a0.2.1.length:Int))) then (bif (decide ((0:Int)<(a1.2.1.length:Int))) then (bif (decide (a1.2.2.1>a0.2.2.1)) then (bif (p178 e5_) then (bif (p178 e6_) then (bif (decide ((IntKind.wrap .i64 ((f178 e5_).1+e4_))>(IntKind.wrap .i64 ((f178 e6_).1+(1:Int))))) then (some (((a0.2.1.getD (Int.toNat (0:Int)) (0:Int)),(0:Int),a0.2.2.1,(0:Int),()),()))
 else bif (decide ((0:Int)≤e4_)) then (bif e1_ then (bif e1_ then (some (((Int.tmod (a0.2.1.getD (Int.toNat (0:Int)) (0:Int)) e2_),e2_,a0.2.2.1,(BB .u64 (a0.2.1.getD (Int.toNat (0:Int)) (0:Int)) e2_),()),()))
 else none)
 else none)
 else none)
 else none)
 else none)
 else bif e3_ then (bif e3_ then (Vx.AZ (w420_10 (((a1.2.1.getD (Int.toNat (0:Int)) (0:Int)),(IntKind.wrap .i64 (a0.2.2.1-a1.2.2.1)),(),(),()),(),(),((0:Int),(0:Int),(0:Int),(0:Int),()),((Int.tmod (a0.2.1.getD (Int.toNat (0:Int)) (0:Int)) (a1.2.1.getD (Int.toNat (0:Int)) (0:Int))),(a1.2.1.getD (Int.toNat (0:Int)) (0:Int)),a1.2.2.1,(BB .u64 (a0.2.1.getD (Int.toNat (0:Int)) (0:Int)) (a1.2.1.getD (Int.toNat (0:Int)) (0:Int))),()),())) fun y5 =>
 Vx.A2 y5 (fun y6 =>
 some y6.2.2.2.2) (fun z6 =>
 none))
 else none)
 else none)
 else none)
 else none
theorem aNs (x:DenS N6):run (cf [(83,⟨Gi,Fx,p178,f178⟩),(264,⟨EM,ES,p328,f328⟩)] [(199,10,LoopSpec.of H0 lO MM LM w420_10)]) 9 199 Tryz.f199 N6 Pz x=gC p178 f178 p328 f328 w420_10 x.1 x.2.1:=by kernel_rfl
def cA:H0.D→Option (Ah MM LM):=Bf fun L=>U1 Bw.pre Bw.F AP.pre AP.F L some
def RY (x:DenS N6):Option (DenS Pz):=gC Bw.pre Bw.F AP.pre AP.F cA x.1 x.2.1
def QD:Sum:=Al N6 Pz RY (DenS.dflt Pz)
theorem aMD:Sound Tryz.prog G1 199 QD:=sd (cf [(83,Bw),(264,AP)] [(199,10,LoopSpec.of H0 lO MM LM cA)]) 199 Tryz.f199 ⟨YN,mG,trivial⟩ ⟨rfl,fun d=>B3 (fun L e x=>U1 Bw.pre Bw.F AP.pre AP.F L e x) (aDf Bw.pre Bw.F AP.pre AP.F) (fun _ _ _ _=>aM5 ..),trivial⟩ N6 Pz RY _ (fun _=>aNs ..)
abbrev aDm:=Ak N6
abbrev aAj:=Aj N6 Pz
variable (p420:aDm) (f420:aAj)
abbrev Kq:Ab:=[(false,.int .i64),(false,.int .u64),(false,.int .u64),(false,.bool)]
abbrev HD:Ab:=[(false,.int .u64),(false,.int .i64),(false,.int .i64),(false,.int .i64)]
def dU (p419:aCr) (f419:aCB) (p40:Pr) (f40:Oy) (p420:aDm) (f420:aAj) (p122:HS) (f122:Iw) (a0:Aa (.int .i64)) (a1 a2:Aa (.int .u64)) (a3:Aa (.bool)):Option (DenS HD) :=
 let e24_:=((f40 (a0,a1,())).1,(f40 (a0,a2,())).1,())
 let e23_:=(f420 e24_)
 let e20_:=(IntKind.wrap .u64 (e23_.1.2.1-e23_.1.1))
 let e22_:=(e23_.1.2.2.1,false,())
 let e14_:=(((0:Int),e20_,()),e22_)
 let e13_:=(a0,(2:Int),(f40 (a0,a1,())).1.1,e14_)
 let e12_:=(f122 e13_)
 let e1_:=(e12_.1,(IntKind.wrap .i64 (A8 .u64 (IntKind.wrap .u64 (e23_.1.2.2.2.1+(1:Int))) (7:Int))),(0:Int),e12_.2.2)
 let e19_:=(((0:Int),e23_.1.1,()),e22_)
 let e17_:=(a0,(2:Int),(!(f40 (a0,a1,())).1.1),e19_)
 let e15_:=(f122 e17_)
 let e21_:=(IntKind.wrap .i64 (A8 .u64 e23_.1.2.2.2.1 (7:Int)))
 let e2_:=(e15_.1,e21_,(0:Int),e15_.2.2)
 let e18_:=(a0,(2:Int),(f40 (a0,a1,())).1.1,e19_)
 let e16_:=(f122 e18_)
 let e3_:=(e16_.1,e21_,(0:Int),e16_.2.2)
 let e4_:=(f122 (a0,(2:Int),(!(f40 (a0,a1,())).1.1),e14_))
 let e5_:=(p122 e13_)
 let e6_:=(p122 e17_)
 let e7_:=(p122 e18_)
 let e8_:=(e20_==(0:Int))
 let e9_:=(IntKind.wrap .u64 ((2:Int)*e23_.1.1))
 let e10_:=(e23_.1.1==(0:Int))
 let e11_:=e23_
 let g1_:Option (DenS HD):=bif (a3&&false) then (bif e10_ then (bif e7_ then (some e3_)
 else none)
 else bif e6_ then (some e2_)
 else none)
 else bif e10_ then (bif e7_ then (some e3_)
 else none)
 else bif e7_ then (some e3_)
 else none
 bif (p419 (a0,a1,a2,())) then (bif (f419 (a0,a1,a2,())).2.2.1 then (some ((f419 (a0,a1,a2,())).1,(0:Int),(f419 (a0,a1,a2,())).2.1,(f419 (a0,a1,a2,())).2.2.2))
 else bif (p40 (a0,a1,())) then (bif (p40 (a0,a2,())) then (bif (p420 e24_) then (bif a3 then (bif (((e11_.1.2.1==(0:Int))||(decide (e9_<e11_.1.2.1)))||((e9_==e11_.1.2.1)&&((A8 .u64 e11_.1.2.2.2.1 (1:Int))==(0:Int)))) then (g1_)
 else bif (a3&&true) then (bif e8_ then (bif e5_ then (some e1_)
 else none)
 else bif (p122 (a0,(2:Int),(!(f40 (a0,a1,())).1.1),((0:Int),(IntKind.wrap .u64 (e11_.1.2.1-e11_.1.1)),()),e11_.1.2.2.1,false,())) then (some (e4_.1,(IntKind.wrap .i64 (A8 .u64 (IntKind.wrap .u64 (e11_.1.2.2.2.1+(1:Int))) (7:Int))),(0:Int),e4_.2.2))
 else none)
 else bif e8_ then (bif e5_ then (some e1_)
 else none)
 else bif e5_ then (some e1_)
 else none)
 else g1_)
 else none)
 else none)
 else none)
 else none
theorem aR4 (x:DenS Kq):run (cf [(198,⟨Re,P4,p419,f419⟩),(71,⟨Hb,G4,p40,f40⟩),(199,⟨N6,Pz,p420,f420⟩),(66,⟨EZ,Fj,p122,f122⟩)] []) 9 142 Tryz.f142 Kq HD x=dU p419 f419 p40 f40 p420 f420 p122 f122 x.1 x.2.1 x.2.2.1 x.2.2.2.1:=by kernel_rfl
def Xp (x:DenS Kq):Option (DenS HD):=dU OW.pre OW.F CB.pre CB.F QD.pre QD.F A3.pre A3.F x.1 x.2.1 x.2.2.1 x.2.2.2.1
def Gj:Sum:=Al Kq HD Xp (DenS.dflt HD)
theorem aEe:Sound Tryz.prog G1 142 Gj:=sd (cf [(198,OW),(71,CB),(199,QD),(66,A3)] []) 142 Tryz.f142 ⟨aQR,YC,aMD,TT,trivial⟩ trivial Kq HD Xp _ (fun _=>aR4 ..)
abbrev rH:=Ak Kq
abbrev pF:=Aj Kq HD
variable (p421:rH) (f421:pF)
abbrev LW:Ab:=[(false,.int .i64),(false,.int .u64),(false,.int .u64)]
abbrev MA:Ab:=[(false,.int .u64),(false,.int .i64),(false,.int .i64),(false,.int .i64)]
def dN (p421:rH) (f421:pF) (a0:Aa (.int .i64)) (a1 a2:Aa (.int .u64)):Option (DenS MA) :=
 bif (p421 (a0,a1,a2,true,())) then (some (f421 (a0,a1,a2,true,())))
 else none
theorem aRT (x:DenS LW):run (cf [(142,⟨Kq,HD,p421,f421⟩)] []) 9 94 Tryz.f94 LW MA x=dN p421 f421 x.1 x.2.1 x.2.2.1:=by kernel_rfl
def YU (x:DenS LW):Option (DenS MA):=dN Gj.pre Gj.F x.1 x.2.1 x.2.2.1
def Fc:Sum:=Al LW MA YU (DenS.dflt MA)
theorem r7:Sound Tryz.prog G1 94 Fc:=sd (cf [(142,Gj)] []) 94 Tryz.f94 ⟨aEe,trivial⟩ trivial LW MA YU _ (fun _=>aRT ..)
abbrev qC:=Ak LW
abbrev sT:=Aj LW MA
variable (p422:qC) (f422:sT)
abbrev Ld:Ab:=[(false,.int .i64),(false,.int .u64),(false,.int .u64)]
abbrev MF:Ab:=[(false,.int .u64),(false,.int .i64),(false,.int .i64),(false,.int .i64)]
def eJ (p421:rH) (f421:pF) (a0:Aa (.int .i64)) (a1 a2:Aa (.int .u64)):Option (DenS MF) :=
 bif (p421 (a0,a1,a2,false,())) then (some (f421 (a0,a1,a2,false,())))
 else none
theorem aQQ (x:DenS Ld):run (cf [(142,⟨Kq,HD,p421,f421⟩)] []) 9 95 Tryz.f95 Ld MF x=eJ p421 f421 x.1 x.2.1 x.2.2.1:=by kernel_rfl
def ZX (x:DenS Ld):Option (DenS MF):=eJ Gj.pre Gj.F x.1 x.2.1 x.2.2.1
def FM:Sum:=Al Ld MF ZX (DenS.dflt MF)
theorem wN:Sound Tryz.prog G1 95 FM:=sd (cf [(142,Gj)] []) 95 Tryz.f95 ⟨aEe,trivial⟩ trivial Ld MF ZX _ (fun _=>aQQ ..)
abbrev rT:=Ak Ld
abbrev tJ:=Aj Ld MF
variable (p423:rT) (f423:tJ)
abbrev lE:Ab:=[(false,.int .i64),(false,.int .u64),(false,.int .u64)]
abbrev f8:Ab:=[(false,.int .u64),(false,.int .i64),(false,.int .i64),(false,.int .i64)]
def Q6:SumF:=Jl lE f8 [(94,[],Fc),(95,[],FM)]
theorem aTR:L8 Tryz.prog G1 Q6:=Vs ⟨DF r7,⟨DF wN,trivial⟩⟩
abbrev aIl:=Option (Nat×List Nat)→Ak lE
abbrev aAD:=Option (Nat×List Nat)→Aj lE f8
variable (p100004:aIl) (f100004:aAD)
abbrev O1:Ab:=[(true,.pair (.int .i64) (.pair (.int .i64) (.pair (.int .u64) (.pair (.int .u64) (.pair (.int .u64) .unit))))),(false,.box (.pfn))]
abbrev Ng:Ab:=[(false,.int .u64),(false,.int .i64),(false,.int .i64)]
def gV (p100004:aIl) (f100004:aAD) (a0:Aa (.pair (.int .i64) (.pair (.int .i64) (.pair (.int .u64) (.pair (.int .u64) (.pair (.int .u64) .unit)))))) (a1:Aa (.box (.pfn))):Option (DenS Ng) :=
 let e1_:=(f100004 (some (a1,[])) (a0.2.1,a0.2.2.1,a0.2.2.2.1,()))
 bif (p100004 (some (a1,[])) (a0.2.1,a0.2.2.1,a0.2.2.2.1,())) then (some (e1_.1,e1_.2.2))
 else none
theorem aTq (x:DenS O1):run ({ cf [] [] with fns:=[(186,⟨lE,f8,p100004,f100004⟩)] }) 9 256 Tryz.f256 O1 Ng x=gV p100004 f100004 x.1 x.2.1:=by kernel_rfl
def WP (x:DenS O1):Option (DenS Ng):=gV Q6.pre Q6.F x.1 x.2.1
def FS:Sum:=Al O1 Ng WP (DenS.dflt Ng)
theorem rJ:Sound Tryz.prog G1 256 FS:=sd ({ cf [] [] with fns:=[(186,Q6)] }) 256 Tryz.f256 trivial trivial O1 Ng WP _ (fun _=>aTq ..) (hfs:=⟨aTR,trivial⟩)
abbrev aAp:=Ak O1
abbrev aB6:=Aj O1 Ng
variable (p424:aAp) (f424:aB6)
abbrev Pq:Ab:=[(false,.int .i64),(false,.int .i64)]
abbrev Oq:Ab:=[(false,.bool)]
def t61 (a0 a1:Aa (.int .i64)):Option (DenS Oq) :=
 some ((decide (a1<a0)),())
theorem r61 (x:DenS Pq):run (cf [] []) 9 144 Tryz.f144 Pq Oq x=t61 x.1 x.2.1:=by kernel_rfl
def Zy (x:DenS Pq):Option (DenS Oq):=t61 x.1 x.2.1
def Of:Sum:=Al Pq Oq Zy (DenS.dflt Oq)
theorem aJ5:Sound Tryz.prog G1 144 Of:=sd (cf [] []) 144 Tryz.f144 trivial trivial Pq Oq Zy _ (fun _=>r61 ..)
abbrev Y61:=Ak Pq
abbrev Z61:=Aj Pq Oq
variable (p61:Y61) (f61:Z61)
abbrev J5:Ab:=[(false,.int .i64),(false,.int .u64),(false,.int .u64)]
abbrev IY:Ab:=[(true,.pair (.int .i64) (.pair (.int .i64) (.unit))),(true,.pair (.int .i64) (.pair (.int .i64) (.unit))),(false,.int .i64)]
def Ve (p82:Yj) (f82:YJ) (a0:Aa (.int .i64)) (a1 a2:Aa (.int .u64)):Option (DenS IY) :=
 bif (p82 (a0,a1,())) then (bif ((f82 (a0,a1,())).2.1 != (0:Int)) then (some ((f82 (a0,a1,())).1,((0:Int),(0:Int),()),(f82 (a0,a1,())).2))
 else bif (p82 (a0,a2,())) then (some ((f82 (a0,a1,())).1,(f82 (a0,a2,()))))
 else none)
 else none
theorem r52 (x:DenS J5):run (cf [(129,⟨IC,I0,p82,f82⟩)] []) 9 74 Tryz.f74 J5 IY x=Ve p82 f82 x.1 x.2.1 x.2.2.1:=by kernel_rfl
def Vy (x:DenS J5):Option (DenS IY):=Ve DE.pre DE.F x.1 x.2.1 x.2.2.1
def Ed:Sum:=Al J5 IY Vy (DenS.dflt IY)
theorem v7:Sound Tryz.prog G1 74 Ed:=sd (cf [(129,DE)] []) 74 Tryz.f74 ⟨u5,trivial⟩ trivial J5 IY Vy _ (fun _=>r52 ..)
abbrev cI:=Ak J5
abbrev aT:=Aj J5 IY
variable (p52:cI) (f52:aT)
abbrev KO:Ab:=[(false,.int .i64),(false,.int .u64),(false,.int .u64)]
abbrev Lj:Ab:=[(false,.int .u64),(false,.int .i64),(false,.int .i64)]
def gT (p61:Y61) (f61:Z61) (p52:cI) (f52:aT) (p54:Rz) (f54:Sb) (p70:Ei) (f70:DW) (p53:Sn) (f53:RC) (a0:Aa (.int .i64)) (a1 a2:Aa (.int .u64)):Option (DenS Lj) :=
 let e3_:=((f52 (a0,a1,a2,())).1,(f52 (a0,a1,a2,())).2.1,())
 let e1_:=((f54 e3_).1,(0:Int),())
 let e2_:=((f52 (a0,a1,a2,())).1.2.1,(f52 (a0,a1,a2,())).2.1.2)
 bif (p52 (a0,a1,a2,())) then (bif ((f52 (a0,a1,a2,())).2.2.1 != (0:Int)) then (some ((0:Int),(0:Int),(f52 (a0,a1,a2,())).2.2))
 else bif (p54 e3_) then (bif (p53 ((f52 (a0,a1,a2,())).1,())) then (bif ((p53 ((f52 (a0,a1,a2,())).2.1,()))||(!(f53 ((f52 (a0,a1,a2,())).1,())).1)) then (bif ((f53 ((f52 (a0,a1,a2,())).1,())).1&&(f53 ((f52 (a0,a1,a2,())).2.1,())).1) then (bif (p70 (a0,())) then (some ((f70 (a0,())).1,e1_))
 else none)
 else bif (p53 ((f52 (a0,a1,a2,())).1,())) then (bif ((p53 ((f52 (a0,a1,a2,())).2.1,()))||(!(bif (f53 ((f52 (a0,a1,a2,())).1,())).1 then false else true))) then (bif ((p61 e2_)||(!((bif (f53 ((f52 (a0,a1,a2,())).1,())).1 then false else true)&&(bif (f53 ((f52 (a0,a1,a2,())).2.1,())).1 then false else true)))) then (bif ((f53 ((f52 (a0,a1,a2,())).1,())).1||((!(f53 ((f52 (a0,a1,a2,())).2.1,())).1)&&((f61 e2_).1||(((f52 (a0,a1,a2,())).1.2.1==(0:Int))&&((f52 (a0,a1,a2,())).2.1.1==(5:Int)))))) then (some (a2,e1_))
 else some (a1,e1_))
 else none)
 else none)
 else none)
 else none)
 else none)
 else none)
 else none
theorem r19 (x:DenS KO):run (cf [(144,⟨Pq,Oq,p61,f61⟩),(74,⟨J5,IY,p52,f52⟩),(76,⟨GY,GJ,p54,f54⟩),(56,⟨DD,DH,p70,f70⟩),(75,⟨GH,GO,p53,f53⟩)] []) 9 97 Tryz.f97 KO Lj x=gT p61 f61 p52 f52 p54 f54 p70 f70 p53 f53 x.1 x.2.1 x.2.2.1:=by kernel_rfl
def YK (x:DenS KO):Option (DenS Lj):=gT Of.pre Of.F Ed.pre Ed.F CD.pre CD.F AC.pre AC.F CE.pre CE.F x.1 x.2.1 x.2.2.1
def FC:Sum:=Al KO Lj YK (DenS.dflt Lj)
theorem sZ:Sound Tryz.prog G1 97 FC:=sd (cf [(144,Of),(74,Ed),(76,CD),(56,AC),(75,CE)] []) 97 Tryz.f97 ⟨aJ5,v7,Yk,GL,Zp,trivial⟩ trivial KO Lj YK _ (fun _=>r19 ..)
abbrev tQ:=Ak KO
abbrev pB:=Aj KO Lj
variable (p19:tQ) (f19:pB)
abbrev Ri:Ab:=[(false,.int .i64),(false,.int .i64)]
abbrev QC:Ab:=[(false,.bool)]
def t63 (a0 a1:Aa (.int .i64)):Option (DenS QC) :=
 some ((decide (a1>a0)),())
theorem r63 (x:DenS Ri):run (cf [] []) 9 145 Tryz.f145 Ri QC x=t63 x.1 x.2.1:=by kernel_rfl
def V5 (x:DenS Ri):Option (DenS QC):=t63 x.1 x.2.1
def Qm:Sum:=Al Ri QC V5 (DenS.dflt QC)
theorem aRp:Sound Tryz.prog G1 145 Qm:=sd (cf [] []) 145 Tryz.f145 trivial trivial Ri QC V5 _ (fun _=>r63 ..)
abbrev Y63:=Ak Ri
abbrev yQ:=Aj Ri QC
variable (p63:Y63) (f63:yQ)
abbrev My:Ab:=[(false,.int .i64),(false,.int .u64),(false,.int .u64)]
abbrev M0:Ab:=[(false,.int .u64),(false,.int .i64),(false,.int .i64)]
def fG (p63:Y63) (f63:yQ) (p52:cI) (f52:aT) (p54:Rz) (f54:Sb) (p70:Ei) (f70:DW) (p53:Sn) (f53:RC) (a0:Aa (.int .i64)) (a1 a2:Aa (.int .u64)):Option (DenS M0) :=
 let e3_:=((f52 (a0,a1,a2,())).1,(f52 (a0,a1,a2,())).2.1,())
 let e1_:=((f54 e3_).1,(0:Int),())
 let e2_:=((f52 (a0,a1,a2,())).1.2.1,(f52 (a0,a1,a2,())).2.1.2)
 bif (p52 (a0,a1,a2,())) then (bif ((f52 (a0,a1,a2,())).2.2.1 != (0:Int)) then (some ((0:Int),(0:Int),(f52 (a0,a1,a2,())).2.2))
 else bif (p54 e3_) then (bif (p53 ((f52 (a0,a1,a2,())).1,())) then (bif ((p53 ((f52 (a0,a1,a2,())).2.1,()))||(!(f53 ((f52 (a0,a1,a2,())).1,())).1)) then (bif ((f53 ((f52 (a0,a1,a2,())).1,())).1&&(f53 ((f52 (a0,a1,a2,())).2.1,())).1) then (bif (p70 (a0,())) then (some ((f70 (a0,())).1,e1_))
 else none)
 else bif (p53 ((f52 (a0,a1,a2,())).1,())) then (bif ((p53 ((f52 (a0,a1,a2,())).2.1,()))||(!(bif (f53 ((f52 (a0,a1,a2,())).1,())).1 then false else true))) then (bif ((p63 e2_)||(!((bif (f53 ((f52 (a0,a1,a2,())).1,())).1 then false else true)&&(bif (f53 ((f52 (a0,a1,a2,())).2.1,())).1 then false else true)))) then (bif ((f53 ((f52 (a0,a1,a2,())).1,())).1||((!(f53 ((f52 (a0,a1,a2,())).2.1,())).1)&&((f63 e2_).1||(((f52 (a0,a1,a2,())).1.2.1==(0:Int))&&((f52 (a0,a1,a2,())).2.1.1==(6:Int)))))) then (some (a2,e1_))
 else some (a1,e1_))
 else none)
 else none)
 else none)
 else none)
 else none)
 else none)
 else none
theorem r21 (x:DenS My):run (cf [(145,⟨Ri,QC,p63,f63⟩),(74,⟨J5,IY,p52,f52⟩),(76,⟨GY,GJ,p54,f54⟩),(56,⟨DD,DH,p70,f70⟩),(75,⟨GH,GO,p53,f53⟩)] []) 9 98 Tryz.f98 My M0 x=fG p63 f63 p52 f52 p54 f54 p70 f70 p53 f53 x.1 x.2.1 x.2.2.1:=by kernel_rfl
def X3 (x:DenS My):Option (DenS M0):=fG Qm.pre Qm.F Ed.pre Ed.F CD.pre CD.F AC.pre AC.F CE.pre CE.F x.1 x.2.1 x.2.2.1
def Ff:Sum:=Al My M0 X3 (DenS.dflt M0)
theorem vK:Sound Tryz.prog G1 98 Ff:=sd (cf [(145,Qm),(74,Ed),(76,CD),(56,AC),(75,CE)] []) 98 Tryz.f98 ⟨aRp,v7,Yk,GL,Zp,trivial⟩ trivial My M0 X3 _ (fun _=>r21 ..)
abbrev tS:=Ak My
abbrev uV:=Aj My M0
variable (p21:tS) (f21:uV)
abbrev gZ:Ab:=[(false,.int .i64),(false,.int .u64),(false,.int .u64)]
abbrev oT:Ab:=[(false,.int .u64),(false,.int .i64),(false,.int .i64)]
def QN:SumF:=Jl gZ oT [(97,[],FC),(98,[],Ff)]
theorem aQG:L8 Tryz.prog G1 QN:=Vs ⟨DF sZ,⟨DF vK,trivial⟩⟩
abbrev aBG:=Option (Nat×List Nat)→Ak gZ
abbrev aHT:=Option (Nat×List Nat)→Aj gZ oT
variable (p100003:aBG) (f100003:aHT)
abbrev NL:Ab:=[(true,.pair (.int .i64) (.pair (.int .i64) (.pair (.int .u64) (.pair (.int .u64) (.pair (.int .u64) .unit))))),(false,.box (.pfn))]
abbrev Mx:Ab:=[(false,.int .u64),(false,.int .i64),(false,.int .i64)]
def gX (p100003:aBG) (f100003:aHT) (a0:Aa (.pair (.int .i64) (.pair (.int .i64) (.pair (.int .u64) (.pair (.int .u64) (.pair (.int .u64) .unit)))))) (a1:Aa (.box (.pfn))):Option (DenS Mx) :=
 bif (p100003 (some (a1,[])) (a0.2.1,a0.2.2.1,a0.2.2.2.1,())) then (some (f100003 (some (a1,[])) (a0.2.1,a0.2.2.1,a0.2.2.2.1,())))
 else none
theorem aPC (x:DenS NL):run ({ cf [] [] with fns:=[(31,⟨gZ,oT,p100003,f100003⟩)] }) 9 257 Tryz.f257 NL Mx x=gX p100003 f100003 x.1 x.2.1:=by kernel_rfl
def V3 (x:DenS NL):Option (DenS Mx):=gX QN.pre QN.F x.1 x.2.1
def Fh:Sum:=Al NL Mx V3 (DenS.dflt Mx)
theorem vM:Sound Tryz.prog G1 257 Fh:=sd ({ cf [] [] with fns:=[(31,QN)] }) 257 Tryz.f257 trivial trivial NL Mx V3 _ (fun _=>aPC ..) (hfs:=⟨aQG,trivial⟩)
abbrev aFB:=Ak NL
abbrev aHG:=Aj NL Mx
variable (p425:aFB) (f425:aHG)
abbrev KR:Ab:=[(false,.int .i64),(false,.int .u64),(false,.int .u64),(false,.bool)]
abbrev LY:Ab:=[(false,.int .i64),(false,.int .i64),(false,.int .i64)]
def lW (p52:cI) (f52:aT) (p53:Sn) (f53:RC) (p54:Rz) (f54:Sb) (a0:Aa (.int .i64)) (a1 a2:Aa (.int .u64)) (a3:Aa (.bool)):Option (DenS LY) :=
 let e1_:=((f52 (a0,a1,a2,())).1,(f52 (a0,a1,a2,())).2.1,())
 bif (p52 (a0,a1,a2,())) then (bif ((f52 (a0,a1,a2,())).2.2.1 != (0:Int)) then (some ((0:Int),(0:Int),(f52 (a0,a1,a2,())).2.2))
 else bif (p53 ((f52 (a0,a1,a2,())).1,())) then (bif ((p53 ((f52 (a0,a1,a2,())).2.1,()))||(!(bif (f53 ((f52 (a0,a1,a2,())).1,())).1 then false else true))) then (bif ((f53 ((f52 (a0,a1,a2,())).1,())).1||(f53 ((f52 (a0,a1,a2,())).2.1,())).1) then (bif (p54 e1_) then (bif a3 then (some ((3:Int),(1:Int),(0:Int),()))
 else some ((3:Int),(f54 e1_).1,(0:Int),()))
 else none)
 else bif (decide ((f52 (a0,a1,a2,())).1.2.1<(f52 (a0,a1,a2,())).2.1.2.1)) then (some ((0:Int),(0:Int),(0:Int),()))
 else bif (decide ((f52 (a0,a1,a2,())).1.2.1>(f52 (a0,a1,a2,())).2.1.2.1)) then (some ((2:Int),(0:Int),(0:Int),()))
 else some ((1:Int),(0:Int),(0:Int),()))
 else none)
 else none)
 else none
theorem r14 (x:DenS KR):run (cf [(74,⟨J5,IY,p52,f52⟩),(75,⟨GH,GO,p53,f53⟩),(76,⟨GY,GJ,p54,f54⟩)] []) 9 21 Tryz.f21 KR LY x=lW p52 f52 p53 f53 p54 f54 x.1 x.2.1 x.2.2.1 x.2.2.2.1:=by kernel_rfl
def ZK (x:DenS KR):Option (DenS LY):=lW Ed.pre Ed.F CE.pre CE.F CD.pre CD.F x.1 x.2.1 x.2.2.1 x.2.2.2.1
def E0:Sum:=Al KR LY ZK (DenS.dflt LY)
theorem aGI:Sound Tryz.prog G1 21 E0:=sd (cf [(74,Ed),(75,CE),(76,CD)] []) 21 Tryz.f21 ⟨v7,Zp,Yk,trivial⟩ trivial KR LY ZK _ (fun _=>r14 ..)
abbrev tO:=Ak KR
abbrev qK:=Aj KR LY
variable (p14:tO) (f14:qK)
abbrev Pp:Ab:=[(true,.pair (.int .i64) (.pair (.int .i64) (.pair (.int .u64) (.pair (.int .u64) (.pair (.int .u64) .unit))))),(false,.box (.bool))]
abbrev Nw:Ab:=[(false,.int .u64),(false,.int .i64),(false,.int .i64)]
def Vu (p14:tO) (f14:qK) (a0:Aa (.pair (.int .i64) (.pair (.int .i64) (.pair (.int .u64) (.pair (.int .u64) (.pair (.int .u64) .unit)))))) (a1:Aa (.box (.bool))):Option (DenS Nw) :=
 let e1_:=(f14 (a0.2.1,a0.2.2.1,a0.2.2.2.1,a1,()))
 bif (p14 (a0.2.1,a0.2.2.1,a0.2.2.2.1,a1,())) then (some ((IntKind.wrap .u64 e1_.1),e1_.2))
 else none
theorem aKo (x:DenS Pp):run (cf [(21,⟨KR,LY,p14,f14⟩)] []) 9 258 Tryz.f258 Pp Nw x=Vu p14 f14 x.1 x.2.1:=by kernel_rfl
def VI (x:DenS Pp):Option (DenS Nw):=Vu E0.pre E0.F x.1 x.2.1
def Fv:Sum:=Al Pp Nw VI (DenS.dflt Nw)
theorem rD:Sound Tryz.prog G1 258 Fv:=sd (cf [(21,E0)] []) 258 Tryz.f258 ⟨aGI,trivial⟩ trivial Pp Nw VI _ (fun _=>aKo ..)
abbrev aDV:=Ak Pp
abbrev xW:=Aj Pp Nw
variable (p426:aDV) (f426:xW)
abbrev bU:Ab:=[(false,.int .i64),(false,.int .u64)]
abbrev bV:Ab:=[(false,.int .u64),(false,.int .i64)]
def QO:SumF:=Jl bU bV [(60,[],C1),(147,[],C6)]
theorem aKF:L8 Tryz.prog G1 QO:=Vs ⟨DF YX,⟨DF aX,trivial⟩⟩
abbrev aBS:=Option (Nat×List Nat)→Ak bU
abbrev aCj:=Option (Nat×List Nat)→Aj bU bV
variable (p100005:aBS) (f100005:aCj)
abbrev Pd:Ab:=[(true,.pair (.int .i64) (.pair (.int .i64) (.pair (.int .u64) (.pair (.int .u64) (.pair (.int .u64) .unit))))),(false,.box (.pfn))]
abbrev PO:Ab:=[(false,.int .u64),(false,.int .i64),(false,.int .i64)]
def jH (p100005:aBS) (f100005:aCj) (a0:Aa (.pair (.int .i64) (.pair (.int .i64) (.pair (.int .u64) (.pair (.int .u64) (.pair (.int .u64) .unit)))))) (a1:Aa (.box (.pfn))):Option (DenS PO) :=
 let e1_:=(f100005 (some (a1,[])) (a0.2.1,a0.2.2.1,()))
 bif (p100005 (some (a1,[])) (a0.2.1,a0.2.2.1,())) then (some (e1_.1,(0:Int),e1_.2))
 else none
theorem aM2 (x:DenS Pd):run ({ cf [] [] with fns:=[(35,⟨bU,bV,p100005,f100005⟩)] }) 9 259 Tryz.f259 Pd PO x=jH p100005 f100005 x.1 x.2.1:=by kernel_rfl
def Zg (x:DenS Pd):Option (DenS PO):=jH QO.pre QO.F x.1 x.2.1
def Fe:Sum:=Al Pd PO Zg (DenS.dflt PO)
theorem vT:Sound Tryz.prog G1 259 Fe:=sd ({ cf [] [] with fns:=[(35,QO)] }) 259 Tryz.f259 trivial trivial Pd PO Zg _ (fun _=>aM2 ..) (hfs:=⟨aKF,trivial⟩)
abbrev aIz:=Ak Pd
abbrev aAX:=Aj Pd PO
variable (p427:aIz) (f427:aAX)
abbrev EC:Ab:=[(true,.pair (.int .i64) (.pair (.int .i64) (.pair (.int .u64) (.pair (.int .u64) (.pair (.int .u64) .unit)))))]
abbrev Ec:Ab:=[(false,.int .u64),(false,.int .i64),(false,.int .i64)]
def Ka:SumF:=Jl EC Ec [(255,[17],Hp EC Ec Dg.pre Dg.F 15),(255,[18],Hp EC Ec Dg.pre Dg.F 16),(255,[19],Hp EC Ec Dg.pre Dg.F 17),(255,[20],Hp EC Ec Dg.pre Dg.F 18),(181,[],Ln),(182,[],K4),(184,[],MU),(185,[],Mq),(186,[],MP),(187,[],Lz),(190,[],Lx),(191,[],Kz),(192,[],KZ),(194,[],K9),(256,[96],Hp EC Ec FS.pre FS.F 94),(256,[97],Hp EC Ec FS.pre FS.F 95),(257,[99],Hp EC Ec Fh.pre Fh.F 97),(257,[100],Hp EC Ec Fh.pre Fh.F 98),(258,[0],nT EC Ec Fv.pre Fv.F false),(258,[1],nT EC Ec Fv.pre Fv.F true),(259,[62],Hp EC Ec Fe.pre Fe.F 60),(259,[149],Hp EC Ec Fe.pre Fe.F 147)]
theorem aMC:L8 Tryz.prog G1 Ka:=Vs ⟨Jj ZD 15,⟨Jj ZD 16,⟨Jj ZD 17,⟨Jj ZD 18,⟨DF aCp,⟨DF aDO,⟨DF aFm,⟨DF xG,⟨DF aCI,⟨DF aEX,⟨DF aIu,⟨DF aH4,⟨DF aCs,⟨DF aCT,⟨Jj rJ 94,⟨Jj rJ 95,⟨Jj vM 97,⟨Jj vM 98,⟨aFL rD false,⟨aFL rD true,⟨Jj vT 60,⟨Jj vT 147,trivial⟩⟩⟩⟩⟩⟩⟩⟩⟩⟩⟩⟩⟩⟩⟩⟩⟩⟩⟩⟩⟩⟩
abbrev aE2:=Option (Nat×List Nat)→Ak EC
abbrev yO:=Option (Nat×List Nat)→Aj EC Ec
variable (p100001:aE2) (f100001:yO)
abbrev Rp:Ab:=[(false,.int .i64)]
abbrev PS:Ab:=[(false,.bool)]
def aAV (a0:Aa (.int .i64)):Option (DenS PS) :=
 some (((RE .i64 a0 (31:Int))==(0:Int)),())
theorem aQl (x:DenS Rp):run (cf [] []) 9 108 Tryz.f108 Rp PS x=aAV x.1:=by kernel_rfl
def TE (x:DenS Rp):Option (DenS PS):=aAV x.1
def QM:Sum:=Al Rp PS TE (DenS.dflt PS)
theorem aMg:Sound Tryz.prog G1 108 QM:=sd (cf [] []) 108 Tryz.f108 trivial trivial Rp PS TE _ (fun _=>aQl ..)
abbrev zZ:=Ak Rp
abbrev aA7:=Aj Rp PS
variable (p428:zZ) (f428:aA7)
abbrev Nz:Ab:=[(true,.pair (.int .i64) (.pair (.int .i64) (.pair (.int .i64) (.unit))))]
abbrev N9:Ab:=[(false,.int .i64)]
def lX (p428:zZ) (f428:aA7) (a0:Aa (.pair (.int .i64) (.pair (.int .i64) (.pair (.int .i64) (.unit))))):Option (DenS N9) :=
 bif ((decide (a0.1<(0:Int)))||(decide (a0.1>(5:Int)))) then (some ((3:Int),()))
 else bif (p428 (a0.2.1,())) then (bif ((p428 a0.2.2)||(!(bif (!(f428 (a0.2.1,())).1) then false else true))) then (bif ((!(f428 (a0.2.1,())).1)||(!(f428 a0.2.2).1)) then (some ((7:Int),()))
 else some ((0:Int),()))
 else none)
 else none
theorem aQH (x:DenS Nz):run (cf [(108,⟨Rp,PS,p428,f428⟩)] []) 9 89 Tryz.f89 Nz N9 x=lX p428 f428 x.1:=by kernel_rfl
def TA (x:DenS Nz):Option (DenS N9):=lX QM.pre QM.F x.1
def Pa:Sum:=Al Nz N9 TA (DenS.dflt N9)
theorem aOY:Sound Tryz.prog G1 89 Pa:=sd (cf [(108,QM)] []) 89 Tryz.f89 ⟨aMg,trivial⟩ trivial Nz N9 TA _ (fun _=>aQH ..)
abbrev aIG:=Ak Nz
abbrev aCD:=Aj Nz N9
variable (p429:aIG) (f429:aCD)
abbrev Ni:Ab:=[(false,.pfn)]
abbrev Pb:Ab:=[(true,.pair (.int .i64) (.pair .fn .unit))]
def aCF (p395:sM) (f395:tH) (a0:Aa (.pfn)):Option (DenS Pb) :=
 some (((2:Int),(some ((255:Nat),((a0+(2:Nat))::[]))),()),())
theorem aJL (x:DenS Ni):run (cf [(255,⟨N0,Lo,p395,f395⟩)] []) 9 180 Tryz.f180 Ni Pb x=aCF p395 f395 x.1:=by kernel_rfl
def aHy (x:DenS Ni):Option (DenS Pb):=aCF Dg.pre Dg.F x.1
def dC:Sum:=Al Ni Pb aHy (DenS.dflt Pb)
theorem aLN:Sound Tryz.prog G1 180 dC:=sd (cf [(255,Dg)] []) 180 Tryz.f180 ⟨ZD,trivial⟩ trivial Ni Pb aHy _ (fun _=>aJL ..)
abbrev aGA:=Ak Ni
abbrev aFP:=Aj Ni Pb
variable (p430:aGA) (f430:aFP)
abbrev Q5:Ab:=[(false,.pfn)]
abbrev P8:Ab:=[(true,.pair (.int .i64) (.pair .fn .unit))]
def yX (p424:aAp) (f424:aB6) (a0:Aa (.pfn)):Option (DenS P8) :=
 some (((2:Int),(some ((256:Nat),((a0+(2:Nat))::[]))),()),())
theorem aQa (x:DenS Q5):run (cf [(256,⟨O1,Ng,p424,f424⟩)] []) 9 183 Tryz.f183 Q5 P8 x=yX p424 f424 x.1:=by kernel_rfl
def aCZ (x:DenS Q5):Option (DenS P8):=yX FS.pre FS.F x.1
def dO:Sum:=Al Q5 P8 aCZ (DenS.dflt P8)
theorem aTG:Sound Tryz.prog G1 183 dO:=sd (cf [(256,FS)] []) 183 Tryz.f183 ⟨rJ,trivial⟩ trivial Q5 P8 aCZ _ (fun _=>aQa ..)
abbrev aIy:=Ak Q5
abbrev aCf:=Aj Q5 P8
variable (p431:aIy) (f431:aCf)
abbrev PY:Ab:=[(false,.pfn)]
abbrev Rn:Ab:=[(true,.pair (.int .i64) (.pair .fn .unit))]
def aG5 (p425:aFB) (f425:aHG) (a0:Aa (.pfn)):Option (DenS Rn) :=
 some (((2:Int),(some ((257:Nat),((a0+(2:Nat))::[]))),()),())
theorem aQE (x:DenS PY):run (cf [(257,⟨NL,Mx,p425,f425⟩)] []) 9 188 Tryz.f188 PY Rn x=aG5 p425 f425 x.1:=by kernel_rfl
def aBT (x:DenS PY):Option (DenS Rn):=aG5 Fh.pre Fh.F x.1
def gY:Sum:=Al PY Rn aBT (DenS.dflt Rn)
theorem aMZ:Sound Tryz.prog G1 188 gY:=sd (cf [(257,Fh)] []) 188 Tryz.f188 ⟨vM,trivial⟩ trivial PY Rn aBT _ (fun _=>aQE ..)
abbrev aB0:=Ak PY
abbrev aBR:=Aj PY Rn
variable (p432:aB0) (f432:aBR)
abbrev N4:Ab:=[(false,.bool)]
abbrev Qj:Ab:=[(true,.pair (.int .i64) (.pair .fn .unit))]
def aDE (p426:aDV) (f426:xW) (a0:Aa (.bool)):Option (DenS Qj) :=
 some (((2:Int),(some ((258:Nat),((bif a0 then (1:Nat) else (0:Nat))::[]))),()),())
theorem aKA (x:DenS N4):run (cf [(258,⟨Pp,Nw,p426,f426⟩)] []) 9 189 Tryz.f189 N4 Qj x=aDE p426 f426 x.1:=by kernel_rfl
def aAo (x:DenS N4):Option (DenS Qj):=aDE Fv.pre Fv.F x.1
def jK:Sum:=Al N4 Qj aAo (DenS.dflt Qj)
theorem aKX:Sound Tryz.prog G1 189 jK:=sd (cf [(258,Fv)] []) 189 Tryz.f189 ⟨rD,trivial⟩ trivial N4 Qj aAo _ (fun _=>aKA ..)
abbrev xH:=Ak N4
abbrev aFq:=Aj N4 Qj
variable (p433:xH) (f433:aFq)
abbrev QJ:Ab:=[(false,.pfn)]
abbrev NY:Ab:=[(true,.pair (.int .i64) (.pair .fn .unit))]
def aHQ (p427:aIz) (f427:aAX) (a0:Aa (.pfn)):Option (DenS NY) :=
 some (((1:Int),(some ((259:Nat),((a0+(2:Nat))::[]))),()),())
theorem aMj (x:DenS QJ):run (cf [(259,⟨Pd,PO,p427,f427⟩)] []) 9 193 Tryz.f193 QJ NY x=aHQ p427 f427 x.1:=by kernel_rfl
def aAC (x:DenS QJ):Option (DenS NY):=aHQ Fe.pre Fe.F x.1
def aI:Sum:=Al QJ NY aAC (DenS.dflt NY)
theorem aKt:Sound Tryz.prog G1 193 aI:=sd (cf [(259,Fe)] []) 193 Tryz.f193 ⟨vT,trivial⟩ trivial QJ NY aAC _ (fun _=>aMj ..)
abbrev aBt:=Ak QJ
abbrev xZ:=Aj QJ NY
variable (p434:aBt) (f434:xZ)
abbrev Nd:Ab:=[]
abbrev NC:Ab:=[(false,.slice (.pair (.int .i64) (.pair .fn .unit)))]
def aBC (p27:Zk) (f27:Wt) (p25:eQ) (f25:jL) (p354:iV) (f354:fA) (p381:nA) (f381:kS) (p430:aGA) (f430:aFP) (p396:r9) (f396:pV) (p402:rE) (f402:uF) (p422:qC) (f422:sT) (p423:rT) (f423:tJ) (p431:aIy) (f431:aCf) (p407:uT) (f407:pS) (p408:oE) (f408:tR) (p411:wC) (f411:qY) (p413:t6) (f413:nX) (p19:tQ) (f19:pB) (p21:tS) (f21:uV) (p432:aB0) (f432:aBR) (p433:xH) (f433:aFq) (p414:wM) (f414:n7) (p415:uS) (f415:v5) (p416:qN) (f416:nO) (p64:RG) (f64:Se) (p112:Wu) (f112:Xf) (p434:aBt) (f434:xZ) (p418:vP) (f418:tE):Option (DenS NC) :=
 bif (p430 ((15:Nat),())) then (bif (p430 ((16:Nat),())) then (bif (p430 ((17:Nat),())) then (bif (p430 ((18:Nat),())) then (bif (p431 ((94:Nat),())) then (bif (p431 ((95:Nat),())) then (bif (p432 ((97:Nat),())) then (bif (p432 ((98:Nat),())) then (bif (p433 (false,())) then (bif (p433 (true,())) then (bif (p434 ((60:Nat),())) then (bif (p434 ((147:Nat),())) then (some ((((0:Int),none,())::((f430 ((15:Nat),())).1::((f430 ((16:Nat),())).1::((f430 ((17:Nat),())).1::((f430 ((18:Nat),())).1::(((1:Int),(some ((181:Nat),[])),())::(((3:Int),(some ((182:Nat),[])),())::((f431 ((94:Nat),())).1::((f431 ((95:Nat),())).1::(((1:Int),(some ((184:Nat),[])),())::(((1:Int),(some ((185:Nat),[])),())::(((1:Int),(some ((186:Nat),[])),())::(((0:Int),(some ((187:Nat),[])),())::((f432 ((97:Nat),())).1::((f432 ((98:Nat),())).1::((f433 (false,())).1::((f433 (true,())).1::(((1:Int),(some ((190:Nat),[])),())::(((1:Int),(some ((191:Nat),[])),())::(((1:Int),(some ((192:Nat),[])),())::((f434 ((60:Nat),())).1::((f434 ((147:Nat),())).1::(((2:Int),(some ((194:Nat),[])),())::[]))))))))))))))))))))))),()))
 else none)
 else none)
 else none)
 else none)
 else none)
 else none)
 else none)
 else none)
 else none)
 else none)
 else none)
 else none
theorem aNo (x:DenS Nd):run (cf [(15,⟨J2,JW,p27,f27⟩),(16,⟨Ls,Kd,p25,f25⟩),(17,⟨Ll,MH,p354,f354⟩),(18,⟨Ml,JC,p381,f381⟩),(180,⟨Ni,Pb,p430,f430⟩),(181,⟨QE,On,p396,f396⟩),(182,⟨P2,QX,p402,f402⟩),(94,⟨LW,MA,p422,f422⟩),(95,⟨Ld,MF,p423,f423⟩),(183,⟨Q5,P8,p431,f431⟩),(184,⟨O6,Pk,p407,f407⟩),(185,⟨No,O9,p408,f408⟩),(186,⟨Q0,Rs,p411,f411⟩),(187,⟨Rt,QK,p413,f413⟩),(97,⟨KO,Lj,p19,f19⟩),(98,⟨My,M0,p21,f21⟩),(188,⟨PY,Rn,p432,f432⟩),(189,⟨N4,Qj,p433,f433⟩),(190,⟨PA,N8,p414,f414⟩),(191,⟨Qu,NW,p415,f415⟩),(192,⟨NN,Q8,p416,f416⟩),(60,⟨Ie,Ix,p64,f64⟩),(147,⟨J8,JZ,p112,f112⟩),(193,⟨QJ,NY,p434,f434⟩),(194,⟨NX,Q9,p418,f418⟩)] []) 9 132 Tryz.f132 Nd NC x=aBC p27 f27 p25 f25 p354 f354 p381 f381 p430 f430 p396 f396 p402 f402 p422 f422 p423 f423 p431 f431 p407 f407 p408 f408 p411 f411 p413 f413 p19 f19 p21 f21 p432 f432 p433 f433 p414 f414 p415 f415 p416 f416 p64 f64 p112 f112 p434 f434 p418 f418:=by kernel_rfl
def zH (x:DenS Nd):Option (DenS NC):=aBC DQ.pre DQ.F Fi.pre Fi.F Fb.pre Fb.F Fy.pre Fy.F dC.pre dC.F Ln.pre Ln.F K4.pre K4.F Fc.pre Fc.F FM.pre FM.F dO.pre dO.F MU.pre MU.F Mq.pre Mq.F MP.pre MP.F Lz.pre Lz.F FC.pre FC.F Ff.pre Ff.F gY.pre gY.F jK.pre jK.F Lx.pre Lx.F Kz.pre Kz.F KZ.pre KZ.F C1.pre C1.F C6.pre C6.F aI.pre aI.F K9.pre K9.F
def F2:Sum:=Al Nd NC zH (DenS.dflt NC)
theorem aLs:Sound Tryz.prog G1 132 F2:=sd (cf [(15,DQ),(16,Fi),(17,Fb),(18,Fy),(180,dC),(181,Ln),(182,K4),(94,Fc),(95,FM),(183,dO),(184,MU),(185,Mq),(186,MP),(187,Lz),(97,FC),(98,Ff),(188,gY),(189,jK),(190,Lx),(191,Kz),(192,KZ),(60,C1),(147,C6),(193,aI),(194,K9)] []) 132 Tryz.f132 ⟨j9,tT,pY,rV,aLN,aCp,aDO,r7,wN,aTG,aFm,xG,aCI,aEX,sZ,vK,aMZ,aKX,aIu,aH4,aCs,YX,aX,aKt,aCT,trivial⟩ trivial Nd NC zH _ (fun _=>aNo ..)
abbrev aDy:=Ak Nd
abbrev aGw:=Aj Nd NC
variable (p435:aDy) (f435:aGw)
abbrev ND:Ab:=[(false,.int .i64)]
abbrev QF:Ab:=[(true,.pair (.int .i64) (.pair .fn .unit)),(false,.int .i64)]
def Vi (p435:aDy) (f435:aGw) (a0:Aa (.int .i64)):Option (DenS QF) :=
 bif (p435 ()) then (bif ((decide (a0<(1:Int)))||(decide (a0≥((f435 ()).1.length:Int)))) then (some (((0:Int),none,()),(190:Int),()))
 else bif ((decide ((0:Int)≤a0))&&(decide (a0<((f435 ()).1.length:Int)))) then (some (((f435 ()).1.getD (Int.toNat a0) ((0:Int),none,())),(0:Int),()))
 else none)
 else none
theorem aKu (x:DenS ND):run (cf [(132,⟨Nd,NC,p435,f435⟩)] []) 9 90 Tryz.f90 ND QF x=Vi p435 f435 x.1:=by kernel_rfl
def Q7 (x:DenS ND):Option (DenS QF):=Vi F2.pre F2.F x.1
def Kr:Sum:=Al ND QF Q7 (DenS.dflt QF)
theorem aJD:Sound Tryz.prog G1 90 Kr:=sd (cf [(132,F2)] []) 90 Tryz.f90 ⟨aLs,trivial⟩ trivial ND QF Q7 _ (fun _=>aKu ..)
abbrev aD6:=Ak ND
abbrev aCM:=Aj ND QF
variable (p436:aD6) (f436:aCM)
abbrev Ns:Ab:=[(false,.int .i64),(true,.pair (.int .i64) (.pair .fn .unit)),(true,.pair (.int .i64) (.pair (.int .i64) (.pair (.int .u64) (.pair (.int .u64) (.pair (.int .u64) .unit)))))]
abbrev Jz:Ab:=[(false,.int .i64)]
abbrev HL:Pat:=⟨84,[(43,.one (.v .i64)),(42,.one (.sl (.int .u64))),(44,.one (.v .i64)),(0,.one (.v .i64)),(5,.one (.ptr 1 0))],[.gone,.raw [.v .i64,.v .i64,.v .u64,.v .u64,.v .u64]]⟩
abbrev kQ:List (Nat×Shape):=[]
abbrev Kn:List (Nat×Pat):=[(1,⟨84,[(0,.one (.v .i64)),(5,.one (.ptr 1 0))],[.gone,.raw [.v .i64,.v .i64,.v .u64,.v .u64,.v .u64]]⟩)]
abbrev LR:Option Pat:=(some ⟨84,[(6,.one (.v .i64))],[]⟩)
variable (w437_13:Pat.D HL→Option (Ah Kn LR))
def TP (p69:BP) (f69:BK) (p66:Ci) (f66:Cl) {R:Type} (L:Pat.D HL→Option R) (e:Ah Kn LR→Option R) (x:Pat.D HL):Option R :=
 let e2_:=(x.2.2.1.2.1,(x.1.2.1.getD (Int.toNat x.1.2.2.1) (0:Int)),())
 let e1_:=(f66 e2_)
 bif (decide (x.1.2.2.1<x.1.1)) then (bif ((decide ((0:Int)≤x.1.2.2.1))&&(decide (x.1.2.2.1<(x.1.2.1.length:Int)))) then (bif (p66 e2_) then (bif (e1_.1 != (0:Int)) then (((e (.inr (e1_,())))))
 else (L ((x.1.1,x.1.2.1,(IntKind.wrap .i64 (x.1.2.2.1+(1:Int))),x.1.2.2.2.1,(),()),(),x.2.2)))
 else none)
 else none)
 else (e (.inl ((x.1.2.2.2.1,(),()),(),x.2.2)))
theorem aSZ (d:Nat) (R:Type) (L:Pat.D HL→Option R) (e:Ah Kn LR→Option R) (x:Pat.D HL) :
  BA (cf [(54,⟨Ch,Cj,p69,f69⟩),(59,⟨CH,CJ,p66,f66⟩)] [(91,13,LoopSpec.of HL kQ Kn LR w437_13)]) (d+2) 91 (By Tryz.f91 13) HL kQ Kn LR (R:=R) L e x=TP p69 f69 p66 f66 L e x:=by kernel_rfl
theorem aGK (p69:BP) (f69:BK) (p66:Ci) (f66:Cl):Bu fun L e x=>TP p69 f69 p66 f66 L e x:=by intro _ _ _ _ _ _ _ h0 hL he _; unfold TP; repeat' (first | exact h0 | exact hL _ | exact he _ | apply BR | (apply BW h0; intro _) | (apply B9 <;> intro _))
def kC (p69:BP) (f69:BK) (p66:Ci) (f66:Cl) (w437_13:Pat.D HL→Option (Ah Kn LR)) (a0:Aa (.int .i64)) (a1:Aa (.pair (.int .i64) (.pair .fn .unit))) (a2:Aa (.pair (.int .i64) (.pair (.int .i64) (.pair (.int .u64) (.pair (.int .u64) (.pair (.int .u64) .unit)))))):Option (DenS Jz) :=
 let e4_:=(a2.2.2.1::(a2.2.2.2.1::(a2.2.2.2.2.1::[])))
 let e3_:=((e4_.take (Int.toNat a1.1)).drop (Int.toNat (0:Int)))
 let e1_:=(w437_13 (((e3_.length:Int),e3_,(0:Int),a0,(),()),(),(a2.1,a2.2),()))
 let e2_:=((decide ((0:Int)≤a1.1))&&(decide (a1.1≤(e4_.length:Int))))
 let g1_:Option (DenS Jz):=bif (decide (a2.2.2.2.2.1>(3:Int))) then (some ((9:Int),()))
 else bif e2_ then (Vx.AZ e1_ fun y7 =>
 Vx.A2 y7 (fun y8 =>
 bif (y8.1.1==(12:Int)) then (bif ((((IntKind.wrap .i64 y8.2.2.1.2.2.2.2.1)==(0:Int))&&((IntKind.wrap .u64 (IntKind.wrap .i64 (IntKind.wrap .i32 y8.2.2.1.2.2.1))) != y8.2.2.1.2.2.1))||(((IntKind.wrap .i64 y8.2.2.1.2.2.2.2.1)==(2:Int))&&((AH .u64 y8.2.2.1.2.2.1 (32:Int)) != (0:Int)))) then (some ((4:Int),()))
 else some ((0:Int),()))
 else some ((0:Int),())) (fun z8 =>
 some z8.1))
 else none
 let g2_:Option (DenS Jz):=bif e2_ then (Vx.AZ e1_ fun y6 =>
 Vx.A2 y6 (fun y7 =>
 bif (y7.1.1==(12:Int)) then (bif ((((IntKind.wrap .i64 y7.2.2.1.2.2.2.2.1)==(0:Int))&&((IntKind.wrap .u64 (IntKind.wrap .i64 (IntKind.wrap .i32 y7.2.2.1.2.2.1))) != y7.2.2.1.2.2.1))||(((IntKind.wrap .i64 y7.2.2.1.2.2.2.2.1)==(2:Int))&&((AH .u64 y7.2.2.1.2.2.1 (32:Int)) != (0:Int)))) then (some ((4:Int),()))
 else some ((0:Int),()))
 else some ((0:Int),())) (fun z7 =>
 some z7.1))
 else none
 bif (p69 (a2.2.1,())) then (bif ((f69 (a2.2.1,())).2.1 != (0:Int)) then (some (f69 (a2.2.1,())).2)
 else bif (a0==(10:Int)) then (bif (decide (a2.2.2.2.2.1>(3:Int))) then (some ((2:Int),()))
 else bif e2_ then (Vx.AZ e1_ fun y5 =>
 Vx.A2 y5 (fun y6 =>
 bif (y6.1.1==(12:Int)) then (bif ((((IntKind.wrap .i64 y6.2.2.1.2.2.2.2.1)==(0:Int))&&((IntKind.wrap .u64 (IntKind.wrap .i64 (IntKind.wrap .i32 y6.2.2.1.2.2.1))) != y6.2.2.1.2.2.1))||(((IntKind.wrap .i64 y6.2.2.1.2.2.2.2.1)==(2:Int))&&((AH .u64 y6.2.2.1.2.2.1 (32:Int)) != (0:Int)))) then (some ((4:Int),()))
 else some ((0:Int),()))
 else some ((0:Int),())) (fun z6 =>
 some z6.1))
 else none)
 else bif (a0==(11:Int)) then (bif (a0==(11:Int)) then (g1_)
 else g2_)
 else bif (a0==(12:Int)) then (g1_)
 else g2_)
 else none
theorem aLj (x:DenS Ns):run (cf [(54,⟨Ch,Cj,p69,f69⟩),(59,⟨CH,CJ,p66,f66⟩)] [(91,13,LoopSpec.of HL kQ Kn LR w437_13)]) 9 91 Tryz.f91 Ns Jz x=kC p69 f69 p66 f66 w437_13 x.1 x.2.1 x.2.2.1:=by kernel_rfl
def eB:HL.D→Option (Ah Kn LR):=Bf fun L=>TP Aq.pre Aq.F Ar.pre Ar.F L some
def XI (x:DenS Ns):Option (DenS Jz):=kC Aq.pre Aq.F Ar.pre Ar.F eB x.1 x.2.1 x.2.2.1
def PP:Sum:=Al Ns Jz XI (DenS.dflt Jz)
theorem aJT:Sound Tryz.prog G1 91 PP:=sd (cf [(54,Aq),(59,Ar)] [(91,13,LoopSpec.of HL kQ Kn LR eB)]) 91 Tryz.f91 ⟨Ek,FU,trivial⟩ ⟨rfl,fun d=>B3 (fun L e x=>TP Aq.pre Aq.F Ar.pre Ar.F L e x) (aGK Aq.pre Aq.F Ar.pre Ar.F) (fun _ _ _ _=>aSZ ..),trivial⟩ Ns Jz XI _ (fun _=>aLj ..)
abbrev aHJ:=Ak Ns
abbrev aAz:=Aj Ns Jz
variable (p437:aHJ) (f437:aAz)
abbrev LE:Ab:=[(true,.pair (.int .i64) (.pair (.int .i64) (.pair (.int .i64) (.unit)))),(false,.int .i64),(false,.int .i64),(false,.int .u64),(false,.int .u64),(false,.int .u64)]
abbrev LC:Ab:=[(true,.pair (.int .u64) (.pair (.int .i64) (.pair (.int .i64) (.pair (.pair (.int .i64) (.pair (.int .i64) (.pair (.int .i64) (.unit)))) (.unit))))),(false,.int .i64)]
def eA (p429:aIG) (f429:aCD) (p436:aD6) (f436:aCM) (p437:aHJ) (f437:aAz) (p100001:aE2) (f100001:yO) (a0:Aa (.pair (.int .i64) (.pair (.int .i64) (.pair (.int .i64) (.unit))))) (a1 a2:Aa (.int .i64)) (a3 a4 a5:Aa (.int .u64)):Option (DenS LC) :=
 let e5_:=(f100001 (f436 (a1,())).1.2.1 ((a0.1,a2,a3,a4,a5,()),()))
 let e1_:=(A8 .i64 e5_.2.1 a0.2.2.1)
 let e2_:=((0:Int),(0:Int),(0:Int),((0:Int),(0:Int),(0:Int),()),())
 let e6_:=(a1,(f436 (a1,())).1,(a0.1,a2,a3,a4,a5,()),())
 let e3_:=(f437 e6_)
 let e4_:=e5_
 bif (p429 ((a0.1,a0.2),())) then (bif ((f429 ((a0.1,a0.2),())).1 != (0:Int)) then (some (e2_,(f429 ((a0.1,a0.2),()))))
 else bif (p436 (a1,())) then (bif ((f436 (a1,())).2.1 != (0:Int)) then (some (e2_,(f436 (a1,())).2))
 else bif (p437 e6_) then (bif (e3_.1 != (0:Int)) then (some (e2_,e3_))
 else bif (p100001 (f436 (a1,())).1.2.1 ((a0.1,a2,a3,a4,a5,()),())) then (bif (e4_.2.2.1 != (0:Int)) then (some (e2_,e4_.2.2))
 else bif (e1_ != (0:Int)) then (some (((0:Int),e4_.2.1,(A8 .i64 e1_ (IntKind.wrap .i64 ((0:Int)-e1_))),(a0.1,a0.2),()),(0:Int),()))
 else some ((e4_.1,e4_.2.1,(0:Int),(a0.1,(A9 .i64 a0.2.1 e4_.2.1),a0.2.2),()),(0:Int),()))
 else none)
 else none)
 else none)
 else none
theorem aUn (x:DenS LE):run ({ cf [(89,⟨Nz,N9,p429,f429⟩),(90,⟨ND,QF,p436,f436⟩),(91,⟨Ns,Jz,p437,f437⟩)] [] with fns:=[(31,⟨EC,Ec,p100001,f100001⟩)] }) 9 36 Tryz.f36 LE LC x=eA p429 f429 p436 f436 p437 f437 p100001 f100001 x.1 x.2.1 x.2.2.1 x.2.2.2.1 x.2.2.2.2.1 x.2.2.2.2.2.1:=by kernel_rfl
def Th (x:DenS LE):Option (DenS LC):=eA Pa.pre Pa.F Kr.pre Kr.F PP.pre PP.F Ka.pre Ka.F x.1 x.2.1 x.2.2.1 x.2.2.2.1 x.2.2.2.2.1 x.2.2.2.2.2.1
def F5:Sum:=Al LE LC Th (DenS.dflt LC)
theorem aGN:Sound Tryz.prog G1 36 F5:=sd ({ cf [(89,Pa),(90,Kr),(91,PP)] [] with fns:=[(31,Ka)] }) 36 Tryz.f36 ⟨aOY,aJD,aJT,trivial⟩ trivial LE LC Th _ (fun _=>aUn ..) (hfs:=⟨aMC,trivial⟩)
abbrev tZ:=Ak LE
abbrev nN:=Aj LE LC
variable (p438:tZ) (f438:nN)
abbrev OI:Ab:=[]
abbrev P6:Ab:=[(false,.bool)]
def Z2 (p438:tZ) (f438:nN):Option (DenS P6) :=
 let e2_:=(((0:Int),(0:Int),(2:Int),()),(4:Int),(0:Int),(15360:Int),(0:Int),(7:Int),())
 let e1_:=(f438 e2_)
 bif (p438 e2_) then (some (((e1_.2.1==(0:Int))&&((e1_.1.1==(0:Int))&&((e1_.1.2.1==(2:Int))&&((e1_.1.2.2.1==(2:Int))&&((e1_.1.2.2.2.1.1==(0:Int))&&((e1_.1.2.2.2.1.2.1==(0:Int))&&(e1_.1.2.2.2.1.2.2.1==(2:Int)))))))),()))
 else none
theorem aJc (x:DenS OI):run (cf [(36,⟨LE,LC,p438,f438⟩)] []) 9 35 Tryz.f35 OI P6 x=Z2 p438 f438:=by kernel_rfl
def YQ (x:DenS OI):Option (DenS P6):=Z2 F5.pre F5.F
def NQ:Sum:=Al OI P6 YQ (DenS.dflt P6)
theorem aJ3:Sound Tryz.prog G1 35 NQ:=sd (cf [(36,F5)] []) 35 Tryz.f35 ⟨aGN,trivial⟩ trivial OI P6 YQ _ (fun _=>aJc ..)
abbrev aBh:=Ak OI
abbrev aCX:=Aj OI P6
variable (p439:aBh) (f439:aCX)
abbrev NG:Ab:=[(false,.int .i64),(false,.int .i64),(false,.int .u64),(false,.int .u64)]
abbrev QL:Ab:=[(false,.int .u64),(false,.int .i64),(false,.int .i64),(false,.bool)]
def jQ (p65:D5) (f65:D3) (p64:RG) (f64:Se) (p112:Wu) (f112:Xf) (p417:kB) (f417:bF) (a0 a1:Aa (.int .i64)) (a2 a3:Aa (.int .u64)):Option (DenS QL) :=
 bif (a0==(19:Int)) then (bif (p65 (a1,a2,())) then (some ((IntKind.wrap .u64 (f65 (a1,a2,())).1),(0:Int),(f65 (a1,a2,())).2.1,true,()))
 else none)
 else bif (a0==(20:Int)) then (bif (p64 (a1,a2,())) then (some ((f64 (a1,a2,())).1,(0:Int),(f64 (a1,a2,())).2.1,true,()))
 else none)
 else bif (a0==(21:Int)) then (bif (p112 (a1,a2,())) then (some ((f112 (a1,a2,())).1,(0:Int),(f112 (a1,a2,())).2.1,true,()))
 else none)
 else bif (a0==(22:Int)) then (bif (p417 (a1,a2,a3,())) then (some ((f417 (a1,a2,a3,())).1,(0:Int),(f417 (a1,a2,a3,())).2.1,true,()))
 else none)
 else some ((0:Int),(0:Int),(0:Int),false,())
theorem aOx (x:DenS NG):run (cf [(55,⟨DB,DG,p65,f65⟩),(60,⟨Ie,Ix,p64,f64⟩),(147,⟨J8,JZ,p112,f112⟩),(148,⟨KE,Kp,p417,f417⟩)] []) 9 101 Tryz.f101 NG QL x=jQ p65 f65 p64 f64 p112 f112 p417 f417 x.1 x.2.1 x.2.2.1 x.2.2.2.1:=by kernel_rfl
def Xz (x:DenS NG):Option (DenS QL):=jQ AB.pre AB.F C1.pre C1.F C6.pre C6.F F0.pre F0.F x.1 x.2.1 x.2.2.1 x.2.2.2.1
def Ol:Sum:=Al NG QL Xz (DenS.dflt QL)
theorem aOb:Sound Tryz.prog G1 101 Ol:=sd (cf [(55,AB),(60,C1),(147,C6),(148,F0)] []) 101 Tryz.f101 ⟨G9,YX,aX,aC7,trivial⟩ trivial NG QL Xz _ (fun _=>aOx ..)
abbrev aHY:=Ak NG
abbrev aBv:=Aj NG QL
variable (p440:aHY) (f440:aBv)
abbrev Qt:Ab:=[(false,.int .i64),(false,.int .i64),(false,.int .i64),(false,.int .u64),(false,.int .u64),(false,.int .u64)]
abbrev LF:Ab:=[(false,.int .u64),(false,.int .i64),(false,.int .i64),(false,.bool)]
def kX (p27:Zk) (f27:Wt) (p25:eQ) (f25:jL) (p354:iV) (f354:fA) (p381:nA) (f381:kS) (p318:iP) (f318:gQ) (p401:gS) (f401:Z1) (p422:qC) (f422:sT) (p423:rT) (f423:tJ) (p406:nB) (f406:kU) (p393:bM) (f393:cO) (p410:lZ) (f410:kW) (p412:i6) (f412:aM) (p19:tQ) (f19:pB) (p21:tS) (f21:uV) (p14:tO) (f14:qK) (p41:lJ) (f41:bR) (p38:bQ) (f38:cB) (p440:aHY) (f440:aBv) (a0 a1 a2:Aa (.int .i64)) (a3 a4 a5:Aa (.int .u64)):Option (DenS LF) :=
 let e14_:=(a2,a0,a3,(IntKind.wrap .i64 a4),())
 let e13_:=(f38 e14_)
 let e1_:=(e13_.1,e13_.2.1,e13_.2.2.1,true,())
 let e15_:=(f14 (a2,a3,a4,(a1==(16:Int)),()))
 let e2_:=((IntKind.wrap .u64 e15_.1),e15_.2.1,e15_.2.2.1,true,())
 let e12_:=(IntKind.wrap .i64 (A8 .u64 a5 (3:Int)))
 let e11_:=(a2,e12_,a0,a3,())
 let e3_:=(f393 e11_)
 let e10_:=(a2,a0,e12_,a3,())
 let e4_:=(f410 e10_)
 let e5_:=(f412 e10_)
 let e6_:=e10_
 let e7_:=((f41 (a2,a3,())).1,(f41 (a2,a3,())).2.1,(f41 (a2,a3,())).2.2.1,true,())
 let e8_:=(p38 e14_)
 let e9_:=(p14 (a2,a3,a4,(a1==(16:Int)),()))
 let g1_:Option (DenS LF):=bif (a1==(17:Int)) then (bif (p41 (a2,a3,())) then (some e7_)
 else none)
 else bif (a1==(18:Int)) then (bif e8_ then (some e1_)
 else none)
 else bif (p440 (a1,a2,a3,a4,())) then (some (f440 (a1,a2,a3,a4,())))
 else none
 bif (a1==(1:Int)) then (bif (p27 (a2,a0,a3,a4,())) then (some ((f27 (a2,a0,a3,a4,())).1,(f27 (a2,a0,a3,a4,())).2.1,(f27 (a2,a0,a3,a4,())).2.2.1,true,()))
 else none)
 else bif (a1==(2:Int)) then (bif (p25 (a2,a0,a3,a4,())) then (some ((f25 (a2,a0,a3,a4,())).1,(f25 (a2,a0,a3,a4,())).2.1,(f25 (a2,a0,a3,a4,())).2.2.1,true,()))
 else none)
 else bif (a1==(3:Int)) then (bif (p354 (a2,a0,a3,a4,())) then (some ((f354 (a2,a0,a3,a4,())).1,(f354 (a2,a0,a3,a4,())).2.1,(f354 (a2,a0,a3,a4,())).2.2.1,true,()))
 else none)
 else bif (a1==(4:Int)) then (bif (p381 (a2,a0,a3,a4,())) then (some ((f381 (a2,a0,a3,a4,())).1,(f381 (a2,a0,a3,a4,())).2.1,(f381 (a2,a0,a3,a4,())).2.2.1,true,()))
 else none)
 else bif (a1==(5:Int)) then (bif (p318 (a2,a0,a3,())) then (some ((f318 (a2,a0,a3,())).1,(f318 (a2,a0,a3,())).2.1,(f318 (a2,a0,a3,())).2.2.1,true,()))
 else none)
 else bif (a1==(6:Int)) then (bif (p401 (a2,a0,a3,a4,a5,())) then (some ((f401 (a2,a0,a3,a4,a5,())).1,(f401 (a2,a0,a3,a4,a5,())).2.1,(f401 (a2,a0,a3,a4,a5,())).2.2.1,true,()))
 else none)
 else bif (a1==(7:Int)) then (bif (p422 (a2,a3,a4,())) then (some ((f422 (a2,a3,a4,())).1,(f422 (a2,a3,a4,())).2.2.1,(f422 (a2,a3,a4,())).2.2.2.1,(decide ((f422 (a2,a3,a4,())).2.1≥(0:Int))),()))
 else none)
 else bif (a1==(8:Int)) then (bif (p423 (a2,a3,a4,())) then (some ((f423 (a2,a3,a4,())).1,(f423 (a2,a3,a4,())).2.2.1,(f423 (a2,a3,a4,())).2.2.2.1,(decide ((f423 (a2,a3,a4,())).2.1≥(0:Int))),()))
 else none)
 else bif (a1==(9:Int)) then (bif (p406 (a2,a0,a3,true,())) then (some ((f406 (a2,a0,a3,true,())).1,(f406 (a2,a0,a3,true,())).2.1,(f406 (a2,a0,a3,true,())).2.2.1,true,()))
 else none)
 else bif (a1==(10:Int)) then (bif (p393 e11_) then (some (e3_.1,e3_.2.1,e3_.2.2.1,true,()))
 else none)
 else bif (a1==(11:Int)) then (bif (p410 e6_) then (some (e4_.1,e4_.2.1,e4_.2.2.1,true,()))
 else none)
 else bif (a1==(12:Int)) then (bif (p412 e6_) then (some (e5_.1,e5_.2.1,e5_.2.2.1,true,()))
 else none)
 else bif (a1==(13:Int)) then (bif (p19 (a2,a3,a4,())) then (some ((f19 (a2,a3,a4,())).1,(f19 (a2,a3,a4,())).2.1,(f19 (a2,a3,a4,())).2.2.1,true,()))
 else none)
 else bif (a1==(14:Int)) then (bif (p21 (a2,a3,a4,())) then (some ((f21 (a2,a3,a4,())).1,(f21 (a2,a3,a4,())).2.1,(f21 (a2,a3,a4,())).2.2.1,true,()))
 else none)
 else bif (a1==(15:Int)) then (bif (a1==(15:Int)) then (bif e9_ then (some e2_)
 else none)
 else g1_)
 else bif (a1==(16:Int)) then (bif e9_ then (some e2_)
 else none)
 else g1_
theorem aQg (x:DenS Qt):run (cf [(15,⟨J2,JW,p27,f27⟩),(16,⟨Ls,Kd,p25,f25⟩),(17,⟨Ll,MH,p354,f354⟩),(18,⟨Ml,JC,p381,f381⟩),(92,⟨KV,Ke,p318,f318⟩),(93,⟨LV,L7,p401,f401⟩),(94,⟨LW,MA,p422,f422⟩),(95,⟨Ld,MF,p423,f423⟩),(96,⟨KP,I6,p406,f406⟩),(23,⟨Ks,Mk,p393,f393⟩),(28,⟨L9,GQ,p410,f410⟩),(26,⟨Mc,Mi,p412,f412⟩),(97,⟨KO,Lj,p19,f19⟩),(98,⟨My,M0,p21,f21⟩),(21,⟨KR,LY,p14,f14⟩),(99,⟨Kk,M8,p41,f41⟩),(100,⟨MY,Jq,p38,f38⟩),(101,⟨NG,QL,p440,f440⟩)] []) 9 37 Tryz.f37 Qt LF x=kX p27 f27 p25 f25 p354 f354 p381 f381 p318 f318 p401 f401 p422 f422 p423 f423 p406 f406 p393 f393 p410 f410 p412 f412 p19 f19 p21 f21 p14 f14 p41 f41 p38 f38 p440 f440 x.1 x.2.1 x.2.2.1 x.2.2.2.1 x.2.2.2.2.1 x.2.2.2.2.2.1:=by kernel_rfl
def ZN (x:DenS Qt):Option (DenS LF):=kX DQ.pre DQ.F Fi.pre Fi.F Fb.pre Fb.F Fy.pre Fy.F FX.pre FX.F Gh.pre Gh.F Fc.pre Fc.F FM.pre FM.F Gm.pre Gm.F Gn.pre Gn.F Gb.pre Gb.F FW.pre FW.F FC.pre FC.F Ff.pre Ff.F E0.pre E0.F Ge.pre Ge.F F4.pre F4.F Ol.pre Ol.F x.1 x.2.1 x.2.2.1 x.2.2.2.1 x.2.2.2.2.1 x.2.2.2.2.2.1
def PE:Sum:=Al Qt LF ZN (DenS.dflt LF)
theorem aOO:Sound Tryz.prog G1 37 PE:=sd (cf [(15,DQ),(16,Fi),(17,Fb),(18,Fy),(92,FX),(93,Gh),(94,Fc),(95,FM),(96,Gm),(23,Gn),(28,Gb),(26,FW),(97,FC),(98,Ff),(21,E0),(99,Ge),(100,F4),(101,Ol)] []) 37 Tryz.f37 ⟨j9,tT,pY,rV,aC4,aCK,r7,wN,aG2,aAu,aHX,yZ,sZ,vK,aGI,aFu,aDJ,aOb,trivial⟩ trivial Qt LF ZN _ (fun _=>aQg ..)
abbrev aAk:=Ak Qt
abbrev aG8:=Aj Qt LF
variable (p441:aAk) (f441:aG8)
abbrev I442:Ab:=[(true,.pair (.pair (.int .i64) (.pair (.int .i64) (.pair (.int .i64) (.unit)))) (.pair (.int .i64) (.pair (.int .i64) (.pair (.int .u64) (.pair (.int .u64) (.pair (.int .u64) (.unit)))))))]
abbrev SL:Ab:=[(false,.bool)]
def dZ (p439:aBh) (f439:aCX) (p438:tZ) (f438:nN) (p441:aAk) (f441:aG8) (a0:Aa (.pair (.pair (.int .i64) (.pair (.int .i64) (.pair (.int .i64) (.unit)))) (.pair (.int .i64) (.pair (.int .i64) (.pair (.int .u64) (.pair (.int .u64) (.pair (.int .u64) (.unit)))))))):Option (DenS SL) :=
 let e4_:=(f438 ((a0.1.1,a0.1.2.1,(0:Int),()),a0.2))
 let e1_:=(e4_.1.2.2.2.1.2.2.1==(0:Int))
 let e2_:=(e4_.1.2.2.1==(0:Int))
 let e3_:=e4_
 bif (p439 ()) then (bif (!(f439 ()).1) then (some (false,()))
 else bif (p438 ((a0.1.1,a0.1.2.1,(0:Int),()),a0.2)) then (bif (p441 (a0.1.1,a0.2)) then (bif (e3_.2.1 != (0:Int)) then (some (((e3_.1.1==(0:Int))&&((e3_.1.2.1==(0:Int))&&(e2_&&((e3_.1.2.2.2.1.1==(0:Int))&&((e3_.1.2.2.2.1.2.1==(0:Int))&&e1_))))),()))
 else some ((((f441 (a0.1.1,a0.2)).2.2.2.1&&((f441 (a0.1.1,a0.2)).2.2.1==(0:Int)))&&((e3_.1.1==(f441 (a0.1.1,a0.2)).1)&&((e3_.1.2.1==(f441 (a0.1.1,a0.2)).2.1)&&(e2_&&((e3_.1.2.2.2.1.1==a0.1.1)&&((e3_.1.2.2.2.1.2.1==(A9 .i64 a0.1.2.1 (f441 (a0.1.1,a0.2)).2.1))&&e1_)))))),()))
 else none)
 else none)
 else none
theorem aSz (x:DenS I442):run (cf [(35,⟨OI,P6,p439,f439⟩),(36,⟨LE,LC,p438,f438⟩),(37,⟨Qt,LF,p441,f441⟩)] []) 9 5 Tryz.f5 I442 SL x=dZ p439 f439 p438 f438 p441 f441 x.1:=by kernel_rfl
def T442 (x:DenS I442):Option (DenS SL):=dZ NQ.pre NQ.F F5.pre F5.F PE.pre PE.F x.1
def aTS:Sum:=Al I442 SL T442 (DenS.dflt SL)
theorem S442_sound:Sound Tryz.prog G1 5 aTS:=sd (cf [(35,NQ),(36,F5),(37,PE)] []) 5 Tryz.f5 ⟨aJ3,aGN,aOO,trivial⟩ trivial I442 SL T442 _ (fun _=>aSz ..)
abbrev aQ1:=Ak I442
abbrev aRE:=Aj I442 SL
variable (p442:aQ1) (f442:aRE)
abbrev aIw:Ab:=[(true,.pair (.pair (.int .i64) (.pair (.int .i64) (.pair (.int .i64) (.unit)))) (.pair (.int .i64) (.pair (.int .i64) (.pair (.int .u64) (.pair (.int .u64) (.pair (.int .u64) (.unit)))))))]
abbrev aLS:Ab:=[(false,.bool)]
abbrev aI7:=Ak aIw
abbrev aLv:=Aj aIw aLS
variable (p443:aI7) (f443:aLv)
abbrev aG3:Ab:=[(true,.pair (.pair (.int .i64) (.pair (.int .i64) (.pair (.int .i64) (.unit)))) (.pair (.int .i64) (.pair (.int .i64) (.pair (.int .u64) (.pair (.int .u64) (.pair (.int .u64) (.unit))))))),(false,.int .i64)]
abbrev aQd:Ab:=[(false,.bool)]
abbrev aKp:=Ak aG3
abbrev aRZ:=Aj aG3 aQd
variable (p444:aKp) (f444:aRZ)
end Vx
namespace Vx
open Go
theorem Ao {I O:Ab} {T:DenS I→Option (DenS O)} {d:DenS O} {x:DenS I} {y:DenS O} (h:T x=some y):(Al I O T d).pre x=true:=by
 show (T x).isSome=true
 rw [h]; rfl
theorem Ap {I O:Ab} {T:DenS I→Option (DenS O)} {d:DenS O} {x:DenS I} {y:DenS O} (h:T x=some y):(Al I O T d).F x=y:=by
 show (T x).getD d=y
 rw [h]; rfl
theorem uK {k:LK} {I O:Ab} {T:k.D×DenS I→Option (k.B×DenS O)} {d:k.B×DenS O} {x:k.D×DenS I} {y:k.B×DenS O} (h:T x=some y):(QT k I O T d).pre x=true:=by
 show (T x).isSome=true
 rw [h]; rfl
theorem oU {k:LK} {I O:Ab} {T:k.D×DenS I→Option (k.B×DenS O)} {d:k.B×DenS O} {x:k.D×DenS I} {y:k.B×DenS O} (h:T x=some y):(QT k I O T d).F x=y:=by
 show (T x).getD d=y
 rw [h]; rfl
theorem Dd {x y} (h:SO x=some y):Aq.pre x=true:=Ao h
theorem C8 {x y} (h:SO x=some y):Aq.F x=y:=Ap h
theorem Dp {x y} (h:WE x=some y):Ar.pre x=true:=Ao h
theorem Dt {x y} (h:WE x=some y):Ar.F x=y:=Ap h
theorem YT {x y} (h:Xh x=some y):Br.pre x=true:=Ao h
theorem WK {x y} (h:Xh x=some y):Br.F x=y:=Ap h
theorem iG {x y} (h:Wc x=some y):Di.pre x=true:=Ao h
theorem Z8 {x y} (h:Wc x=some y):Di.F x=y:=Ap h
theorem Dl {x y} (h:Sh x=some y):AB.pre x=true:=Ao h
theorem Dk {x y} (h:Sh x=some y):AB.F x=y:=Ap h
theorem Fs {x y} (h:ZL x=some y):AC.pre x=true:=Ao h
theorem Fq {x y} (h:ZL x=some y):AC.F x=y:=Ap h
theorem SI {x y} (h:VJ x=some y):Bo.pre x=true:=Ao h
theorem Su {x y} (h:VJ x=some y):Bo.F x=y:=Ap h
theorem aD8 {x y} (h:ZT x=some y):Nl.pre x=true:=Ao h
theorem aA1 {x y} (h:ZT x=some y):Nl.F x=y:=Ap h
theorem gN {x y} (h:M9 x=some y):AE.pre x=true:=Ao h
theorem i4 {x y} (h:M9 x=some y):AE.F x=y:=Ap h
theorem aOU {x y} (h:Um x=some y):AK.pre x=true:=Ao h
theorem aUP {x y} (h:Um x=some y):AK.F x=y:=Ap h
theorem aO6 {x y} (h:WJ x=some y):Ma.pre x=true:=Ao h
theorem aPa {x y} (h:WJ x=some y):Ma.F x=y:=Ap h
theorem aEx {x y} (h:W5 x=some y):Dx.pre x=true:=Ao h
theorem aFj {x y} (h:W5 x=some y):Dx.F x=y:=Ap h
theorem uJ {x y} (h:Xi x=some y):BG.pre x=true:=Ao h
theorem nZ {x y} (h:Xi x=some y):BG.F x=y:=Ap h
theorem N2 {x y} (h:Wl x=some y):Be.pre x=true:=Ao h
theorem Ph {x y} (h:Wl x=some y):Be.F x=y:=Ap h
theorem aN8 {x y} (h:Wz x=some y):Qr.pre x=true:=Ao h
theorem aJ2 {x y} (h:Wz x=some y):Qr.F x=y:=Ap h
theorem vR {x y} (h:Wv x=some y):EN.pre x=true:=Ao h
theorem nR {x y} (h:Wv x=some y):EN.F x=y:=Ap h
theorem CV {x y} (h:SP x=some y):Af.pre x=true:=Ao h
theorem CT {x y} (h:SP x=some y):Af.F x=y:=Ap h
theorem aMt {x y} (h:ZI x=some y):CQ.pre x=true:=Ao h
theorem aMx {x y} (h:ZI x=some y):CQ.F x=y:=Ap h
theorem VB {x y} (h:RD x=some y):Bh.pre x=true:=Ao h
theorem UV {x y} (h:RD x=some y):Bh.F x=y:=Ap h
theorem S5 {x y} (h:XN x=some y):Bw.pre x=true:=Ao h
theorem Ut {x y} (h:XN x=some y):Bw.F x=y:=Ap h
theorem Sk {x y} (h:Vp x=some y):Ce.pre x=true:=Ao h
theorem RL {x y} (h:Vp x=some y):Ce.F x=y:=Ap h
theorem aLT {x y} (h:Wo x=some y):In.pre x=true:=Ao h
theorem aMp {x y} (h:Wo x=some y):In.F x=y:=Ap h
theorem aNf {x y} (h:WD x=some y):Vz.pre x=true:=Ao h
theorem aNq {x y} (h:WD x=some y):Vz.F x=y:=Ap h
theorem aGi {x y} (h:Xj x=some y):Cc.pre x=true:=Ao h
theorem aFK {x y} (h:Xj x=some y):Cc.F x=y:=Ap h
theorem aM3 {x y} (h:WO x=some y):Na.pre x=true:=Ao h
theorem aIS {x y} (h:WO x=some y):Na.F x=y:=Ap h
theorem aA4 {x y} (h:TW x=some y):CP.pre x=true:=Ao h
theorem aCv {x y} (h:TW x=some y):CP.F x=y:=Ap h
theorem gH {x y} (h:Wp x=some y):BI.pre x=true:=Ao h
theorem kG {x y} (h:Wp x=some y):BI.F x=y:=Ap h
theorem aOu {x y} (h:YV x=some y):Ow.pre x=true:=Ao h
theorem aUv {x y} (h:YV x=some y):Ow.F x=y:=Ap h
theorem bK {x y} (h:T8 x=some y):Td.pre x=true:=Ao h
theorem lC {x y} (h:T8 x=some y):Td.F x=y:=Ap h
theorem rX {x y} (h:RI x=some y):Dv.pre x=true:=Ao h
theorem uR {x y} (h:RI x=some y):Dv.F x=y:=Ap h
theorem VS {x y} (h:JM x=some y):Ea.pre x=true:=Ao h
theorem XY {x y} (h:JM x=some y):Ea.F x=y:=Ap h
theorem WX {x y} (h:RH x=some y):DP.pre x=true:=Ao h
theorem Xe {x y} (h:RH x=some y):DP.F x=y:=Ap h
theorem Mz {x y} (h:Rk x=some y):DT.pre x=true:=Ao h
theorem LG {x y} (h:Rk x=some y):DT.F x=y:=Ap h
theorem T5 {x y} (h:RJ x=some y):UO.pre x=true:=Ao h
theorem Tj {x y} (h:RJ x=some y):UO.F x=y:=Ap h
theorem I1 {x y} (h:Rx x=some y):CC.pre x=true:=Ao h
theorem I5 {x y} (h:Rx x=some y):CC.F x=y:=Ap h
theorem aHa {x y} (h:UX x=some y):HR.pre x=true:=Ao h
theorem aB8 {x y} (h:UX x=some y):HR.F x=y:=Ap h
theorem TM {x y} (h:WQ x=some y):B7.pre x=true:=Ao h
theorem VH {x y} (h:WQ x=some y):B7.F x=y:=Ap h
theorem aMX {x y} (h:WF x=some y):IG.pre x=true:=Ao h
theorem aSm {x y} (h:WF x=some y):IG.F x=y:=Ap h
theorem nK {x y} (h:XD x=some y):UG.pre x=true:=Ao h
theorem v9 {x y} (h:XD x=some y):UG.F x=y:=Ap h
theorem aGb {x y} (h:XA x=some y):TY.pre x=true:=Ao h
theorem aHo {x y} (h:XA x=some y):TY.F x=y:=Ap h
theorem sY {x y} (h:Yo x=some y):EG.pre x=true:=Ao h
theorem wY {x y} (h:Yo x=some y):EG.F x=y:=Ap h
theorem Ig {x y} (h:RT x=some y):A3.pre x=true:=Ao h
theorem Hy {x y} (h:RT x=some y):A3.F x=y:=Ap h
theorem aQW {x y} (h:Uc x=some y):Qk.pre x=true:=Ao h
theorem aSi {x y} (h:Uc x=some y):Qk.F x=y:=Ap h
theorem lK {x y} (h:Wm x=some y):DQ.pre x=true:=Ao h
theorem eO {x y} (h:Wm x=some y):DQ.F x=y:=Ap h
theorem oC {x y} (h:Yn x=some y):Dm.pre x=true:=Ao h
theorem vO {x y} (h:Yn x=some y):Dm.F x=y:=Ap h
theorem fQ {x y} (h:Sl x=some y):C1.pre x=true:=Ao h
theorem dI {x y} (h:Sl x=some y):C1.F x=y:=Ap h
theorem yI {x y} (h:Xq x=some y):Fi.pre x=true:=Ao h
theorem aEY {x y} (h:Xq x=some y):Fi.F x=y:=Ap h
theorem cF {x y} (h:UL x=some y):NS.pre x=true:=Ao h
theorem lB {x y} (h:UL x=some y):NS.F x=y:=Ap h
theorem aBb {x y} (h:Xl x=some y):PF.pre x=true:=Ao h
theorem aDH {x y} (h:Xl x=some y):PF.F x=y:=Ap h
theorem aAZ {x y} (h:X7 x=some y):O4.pre x=true:=Ao h
theorem aEV {x y} (h:X7 x=some y):O4.F x=y:=Ap h
theorem aBf {x y} (h:Y9 x=some y):NU.pre x=true:=Ao h
theorem zO {x y} (h:Y9 x=some y):NU.F x=y:=Ap h
theorem dB {x y} (h:Zz x=some y):AO.pre x=true:=Ao h
theorem mE {x y} (h:Zz x=some y):AO.F x=y:=Ap h
theorem uA {x y} (h:W3 x=some y):C0.pre x=true:=Ao h
theorem n4 {x y} (h:W3 x=some y):C0.F x=y:=Ap h
theorem aFG {x y} (h:Yl x=some y):Fb.pre x=true:=Ao h
theorem aEO {x y} (h:Yl x=some y):Fb.F x=y:=Ap h
theorem aUl {x y} (h:U8 x=some y):OH.pre x=true:=Ao h
theorem aNI {x y} (h:U8 x=some y):OH.F x=y:=Ap h
theorem aB3 {x y} (h:ZV x=some y):PL.pre x=true:=Ao h
theorem aFp {x y} (h:ZV x=some y):PL.F x=y:=Ap h
theorem aF8 {x y} (h:ZH x=some y):O8.pre x=true:=Ao h
theorem xY {x y} (h:ZH x=some y):O8.F x=y:=Ap h
theorem OM {x y} (h:Sd x=some y):CB.pre x=true:=Ao h
theorem N5 {x y} (h:Sd x=some y):CB.F x=y:=Ap h
theorem sO {x y} (h:Rw x=some y):Du.pre x=true:=Ao h
theorem rB {x y} (h:Rw x=some y):Du.F x=y:=Ap h
theorem aA9 {x y} (h:V0 x=some y):BC.pre x=true:=Ao h
theorem yE {x y} (h:V0 x=some y):BC.F x=y:=Ap h
theorem nI {x y} (h:Xn x=some y):AP.pre x=true:=Ao h
theorem tW {x y} (h:Xn x=some y):AP.F x=y:=Ap h
theorem aNF {x y} (h:W6 x=some y):Ez.pre x=true:=Ao h
theorem aJg {x y} (h:W6 x=some y):Ez.F x=y:=Ap h
theorem V6 {x y} (h:Zx x=some y):Bj.pre x=true:=Ao h
theorem Ww {x y} (h:Zx x=some y):Bj.F x=y:=Ap h
theorem aRA {x y} (h:Zl x=some y):Cn.pre x=true:=uK h
theorem aLd {x y} (h:Zl x=some y):Cn.F x=y:=oU h
theorem aUp {x y} (h:V1 x=some y):CZ.pre x=true:=uK h
theorem aRv {x y} (h:V1 x=some y):CZ.F x=y:=oU h
theorem aKq {x y} (h:Zj x=some y):Ev.pre x=true:=uK h
theorem aJZ {x y} (h:Zj x=some y):Ev.F x=y:=oU h
theorem aO3 {x y} (h:Y1 x=some y):OT.pre x=true:=Ao h
theorem aKf {x y} (h:Y1 x=some y):OT.F x=y:=Ap h
theorem aPT {x y} (h:Xv x=some y):Et.pre x=true:=Ao h
theorem aJs {x y} (h:Xv x=some y):Et.F x=y:=Ap h
theorem aQT {x y} (h:Yc x=some y):N7.pre x=true:=Ao h
theorem aT7 {x y} (h:Yc x=some y):N7.F x=y:=Ap h
theorem nH {x y} (h:Xm x=some y):CS.pre x=true:=Ao h
theorem uQ {x y} (h:Xm x=some y):CS.F x=y:=Ap h
theorem aOH {x y} (h:Y5 x=some y):Oa.pre x=true:=Ao h
theorem aOC {x y} (h:Y5 x=some y):Oa.F x=y:=Ap h
theorem aUD {x y} (h:VM x=some y):Po.pre x=true:=Ao h
theorem aPR {x y} (h:VM x=some y):Po.F x=y:=Ap h
theorem aEg {x y} (h:Yy x=some y):Fy.pre x=true:=Ao h
theorem aIk {x y} (h:Yy x=some y):Fy.F x=y:=Ap h
theorem kY {x y} (h:XV x=some y):Dg.pre x=true:=Ao h
theorem bN {x y} (h:XV x=some y):Dg.F x=y:=Ap h
theorem nL {x y} (h:Uu x=some y):Qy.pre x=true:=Ao h
theorem sL {x y} (h:Uu x=some y):Qy.F x=y:=Ap h
theorem aRy {x y} (h:Zu x=some y):Qe.pre x=true:=Ao h
theorem aTs {x y} (h:Zu x=some y):Qe.F x=y:=Ap h
theorem aLE {x y} (h:Xx x=some y):O0.pre x=true:=Ao h
theorem aOD {x y} (h:Xx x=some y):O0.F x=y:=Ap h
theorem aK7 {x y} (h:YH x=some y):NV.pre x=true:=Ao h
theorem aLk {x y} (h:YH x=some y):NV.F x=y:=Ap h
theorem yD {x y} (h:To x=some y):Q3.pre x=true:=Ao h
theorem aGH {x y} (h:To x=some y):Q3.F x=y:=Ap h
theorem aFX {x y} (h:Yq x=some y):FX.pre x=true:=Ao h
theorem zJ {x y} (h:Yq x=some y):FX.F x=y:=Ap h
theorem aPL {x y} (h:Xu x=some y):Ln.pre x=true:=Ao h
theorem aTj {x y} (h:Xu x=some y):Ln.F x=y:=Ap h
theorem tV {x y} (h:UP x=some y):PM.pre x=true:=Ao h
theorem wS {x y} (h:UP x=some y):PM.F x=y:=Ap h
theorem Vm {x y} (h:Yr x=some y):EY.pre x=true:=Ao h
theorem S7 {x y} (h:Yr x=some y):EY.F x=y:=Ap h
theorem Xr {x y} (h:Vc x=some y):DS.pre x=true:=Ao h
theorem XU {x y} (h:Vc x=some y):DS.F x=y:=Ap h
theorem Wn {x y} (h:HI x=some y):E6.pre x=true:=Ao h
theorem Yp {x y} (h:HI x=some y):E6.F x=y:=Ap h
theorem aCw {x y} (h:PN x=some y):Gf.pre x=true:=Ao h
theorem aFZ {x y} (h:PN x=some y):Gf.F x=y:=Ap h
theorem O5 {x y} (h:ET x=some y):CF.pre x=true:=Ao h
theorem Qv {x y} (h:ET x=some y):CF.F x=y:=Ap h
theorem aJz {x y} (h:YE x=some y):O7.pre x=true:=Ao h
theorem aOP {x y} (h:YE x=some y):O7.F x=y:=Ap h
theorem aQk {x y} (h:Tr x=some y):NA.pre x=true:=Ao h
theorem aN9 {x y} (h:Tr x=some y):NA.F x=y:=Ap h
theorem rQ {x y} (h:OK x=some y):Eb.pre x=true:=Ao h
theorem vU {x y} (h:OK x=some y):Eb.F x=y:=Ap h
theorem aJr {x y} (h:U7 x=some y):IQ.pre x=true:=Ao h
theorem aRU {x y} (h:U7 x=some y):IQ.F x=y:=Ap h
theorem aHO {x y} (h:Un x=some y):Oc.pre x=true:=Ao h
theorem aBZ {x y} (h:Un x=some y):Oc.F x=y:=Ap h
theorem aEF {x y} (h:XZ x=some y):NK.pre x=true:=Ao h
theorem aIm {x y} (h:XZ x=some y):NK.F x=y:=Ap h
theorem aLe {x y} (h:Tn x=some y):G0.pre x=true:=Ao h
theorem aUc {x y} (h:Tn x=some y):G0.F x=y:=Ap h
theorem aL1 {x y} (h:Sz x=some y):NM.pre x=true:=Ao h
theorem aUE {x y} (h:Sz x=some y):NM.F x=y:=Ap h
theorem aQr {x y} (h:Vl x=some y):GW.pre x=true:=Ao h
theorem aMS {x y} (h:Vl x=some y):GW.F x=y:=Ap h
theorem aTN {x y} (h:WB x=some y):NE.pre x=true:=Ao h
theorem aO8 {x y} (h:WB x=some y):NE.F x=y:=Ap h
theorem uG {x y} (h:Nb x=some y):Dn.pre x=true:=Ao h
theorem qE {x y} (h:Nb x=some y):Dn.F x=y:=Ap h
theorem WV {x y} (h:SQ x=some y):Ot.pre x=true:=Ao h
theorem W2 {x y} (h:SQ x=some y):Ot.F x=y:=Ap h
theorem aAW {x y} (h:X8 x=some y):Gh.pre x=true:=Ao h
theorem aEc {x y} (h:X8 x=some y):Gh.F x=y:=Ap h
theorem aNX {x y} (h:VO x=some y):K4.pre x=true:=Ao h
theorem aLu {x y} (h:VO x=some y):K4.F x=y:=Ap h
theorem IR {x y} (h:Wf x=some y):D7.pre x=true:=Ao h
theorem Iy {x y} (h:Wf x=some y):D7.F x=y:=Ap h
theorem aIj {x y} (h:WN x=some y):Gc.pre x=true:=Ao h
theorem aHk {x y} (h:WN x=some y):Gc.F x=y:=Ap h
theorem aCW {x y} (h:WS x=some y):Dh.pre x=true:=Ao h
theorem aFi {x y} (h:WS x=some y):Dh.F x=y:=Ap h
theorem aF7 {x y} (h:WT x=some y):Gm.pre x=true:=Ao h
theorem aDS {x y} (h:WT x=some y):Gm.F x=y:=Ap h
theorem aPE {x y} (h:Yb x=some y):MU.pre x=true:=Ao h
theorem aRd {x y} (h:Yb x=some y):MU.F x=y:=Ap h
theorem aDY {x y} (h:VQ x=some y):Ql.pre x=true:=Ao h
theorem aC2 {x y} (h:VQ x=some y):Ql.F x=y:=Ap h
theorem aRX {x y} (h:Yf x=some y):Rj.pre x=true:=Ao h
theorem aSa {x y} (h:Yf x=some y):Rj.F x=y:=Ap h
theorem aFe {x y} (h:Ys x=some y):Gn.pre x=true:=Ao h
theorem aEf {x y} (h:Ys x=some y):Gn.F x=y:=Ap h
theorem aRq {x y} (h:W1 x=some y):Mq.pre x=true:=Ao h
theorem aLB {x y} (h:W1 x=some y):Mq.F x=y:=Ap h
theorem aK0 {x y} (h:X5 x=some y):Nr.pre x=true:=Ao h
theorem aTM {x y} (h:X5 x=some y):Nr.F x=y:=Ap h
theorem aAP {x y} (h:Zn x=some y):Gb.pre x=true:=Ao h
theorem aAI {x y} (h:Zn x=some y):Gb.F x=y:=Ap h
theorem aJh {x y} (h:X6 x=some y):MP.pre x=true:=Ao h
theorem aNv {x y} (h:X6 x=some y):MP.F x=y:=Ap h
theorem aFN {x y} (h:WH x=some y):FW.pre x=true:=Ao h
theorem aBm {x y} (h:WH x=some y):FW.F x=y:=Ap h
theorem aOy {x y} (h:Zm x=some y):Lz.pre x=true:=Ao h
theorem aLJ {x y} (h:Zm x=some y):Lz.F x=y:=Ap h
theorem sV {x y} (h:Sv x=some y):C6.pre x=true:=Ao h
theorem lF {x y} (h:Sv x=some y):C6.F x=y:=Ap h
theorem LP {x y} (h:VG x=some y):DE.pre x=true:=Ao h
theorem L4 {x y} (h:VG x=some y):DE.F x=y:=Ap h
theorem ZR {x y} (h:X0 x=some y):CE.pre x=true:=Ao h
theorem Xt {x y} (h:X0 x=some y):CE.F x=y:=Ap h
theorem Yw {x y} (h:XK x=some y):CD.pre x=true:=Ao h
theorem Y0 {x y} (h:XK x=some y):CD.F x=y:=Ap h
theorem aQs {x y} (h:Wb x=some y):Rd.pre x=true:=Ao h
theorem aKg {x y} (h:Wb x=some y):Rd.F x=y:=Ap h
theorem aIr {x y} (h:YS x=some y):Ge.pre x=true:=Ao h
theorem aB4 {x y} (h:YS x=some y):Ge.F x=y:=Ap h
theorem aJO {x y} (h:YD x=some y):Lx.pre x=true:=Ao h
theorem aI8 {x y} (h:YD x=some y):Lx.F x=y:=Ap h
theorem aD7 {x y} (h:W9 x=some y):F4.pre x=true:=Ao h
theorem aIF {x y} (h:W9 x=some y):F4.F x=y:=Ap h
theorem aSd {x y} (h:Wy x=some y):Kz.pre x=true:=Ao h
theorem aLM {x y} (h:Wy x=some y):Kz.F x=y:=Ap h
theorem aSb {x y} (h:Zs x=some y):KZ.pre x=true:=Ao h
theorem aSl {x y} (h:Zs x=some y):KZ.F x=y:=Ap h
theorem aD0 {x y} (h:XQ x=some y):F0.pre x=true:=Ao h
theorem aIs {x y} (h:XQ x=some y):F0.F x=y:=Ap h
theorem aO9 {x y} (h:XO x=some y):K9.pre x=true:=Ao h
theorem aRa {x y} (h:XO x=some y):K9.F x=y:=Ap h
theorem aCe {x y} (h:ZW x=some y):OW.pre x=true:=Ao h
theorem aDR {x y} (h:ZW x=some y):OW.F x=y:=Ap h
theorem aSF {x y} (h:RY x=some y):QD.pre x=true:=Ao h
theorem aKG {x y} (h:RY x=some y):QD.F x=y:=Ap h
theorem aDG {x y} (h:Xp x=some y):Gj.pre x=true:=Ao h
theorem aF2 {x y} (h:Xp x=some y):Gj.F x=y:=Ap h
theorem aCa {x y} (h:YU x=some y):Fc.pre x=true:=Ao h
theorem xU {x y} (h:YU x=some y):Fc.F x=y:=Ap h
theorem aDF {x y} (h:ZX x=some y):FM.pre x=true:=Ao h
theorem aFc {x y} (h:ZX x=some y):FM.F x=y:=Ap h
theorem aGv {x y} (h:WP x=some y):FS.pre x=true:=Ao h
theorem aHn {x y} (h:WP x=some y):FS.F x=y:=Ap h
theorem aLg {x y} (h:Zy x=some y):Of.pre x=true:=Ao h
theorem aJU {x y} (h:Zy x=some y):Of.F x=y:=Ap h
theorem Tz {x y} (h:Vy x=some y):Ed.pre x=true:=Ao h
theorem UU {x y} (h:Vy x=some y):Ed.F x=y:=Ap h
theorem aDo {x y} (h:YK x=some y):FC.pre x=true:=Ao h
theorem zB {x y} (h:YK x=some y):FC.F x=y:=Ap h
theorem aL7 {x y} (h:V5 x=some y):Qm.pre x=true:=Ao h
theorem aOG {x y} (h:V5 x=some y):Qm.F x=y:=Ap h
theorem aHV {x y} (h:X3 x=some y):Ff.pre x=true:=Ao h
theorem aGr {x y} (h:X3 x=some y):Ff.F x=y:=Ap h
theorem aHM {x y} (h:V3 x=some y):Fh.pre x=true:=Ao h
theorem aFI {x y} (h:V3 x=some y):Fh.F x=y:=Ap h
theorem tN {x y} (h:ZK x=some y):E0.pre x=true:=Ao h
theorem wD {x y} (h:ZK x=some y):E0.F x=y:=Ap h
theorem aBQ {x y} (h:VI x=some y):Fv.pre x=true:=Ao h
theorem aAq {x y} (h:VI x=some y):Fv.F x=y:=Ap h
theorem aHz {x y} (h:Zg x=some y):Fe.pre x=true:=Ao h
theorem aAO {x y} (h:Zg x=some y):Fe.F x=y:=Ap h
theorem aAw {x y} (h:TE x=some y):QM.pre x=true:=Ao h
theorem zL {x y} (h:TE x=some y):QM.F x=y:=Ap h
theorem aIZ {x y} (h:TA x=some y):Pa.pre x=true:=Ao h
theorem aNp {x y} (h:TA x=some y):Pa.F x=y:=Ap h
theorem aC8 {x y} (h:Q7 x=some y):Kr.pre x=true:=Ao h
theorem eY {x y} (h:Q7 x=some y):Kr.F x=y:=Ap h
theorem aI1 {x y} (h:XI x=some y):PP.pre x=true:=Ao h
theorem aUg {x y} (h:XI x=some y):PP.F x=y:=Ap h
theorem zY {x y} (h:Th x=some y):F5.pre x=true:=Ao h
theorem aHP {x y} (h:Th x=some y):F5.F x=y:=Ap h
theorem aNw {x y} (h:YQ x=some y):NQ.pre x=true:=Ao h
theorem aNS {x y} (h:YQ x=some y):NQ.F x=y:=Ap h
theorem aJt {x y} (h:Xz x=some y):Ol.pre x=true:=Ao h
theorem aKD {x y} (h:Xz x=some y):Ol.F x=y:=Ap h
theorem aT3 {x y} (h:ZN x=some y):PE.pre x=true:=Ao h
theorem aSw {x y} (h:ZN x=some y):PE.F x=y:=Ap h
end Vx
namespace Vx
open Go
theorem aGX {a:Int} (n:Nat) (hn:n≤64):AH .u64 a (n:Int)=a/2^n:=by
 unfold AH
 rw [Int.fdiv_eq_ediv_of_nonneg]
 ·congr 2
  simp [IntKind.bits]
  omega
 ·exact Int.pow_nonneg (by omega)
theorem GD {m:Nat} (h:m<2^64):(BitVec.ofInt 64 (m:Int)).toNat=m:=by
 rw [BitVec.toNat_ofInt]
 omega
theorem Ss {m n:Nat} (h:m<2^64) (hn:n≤64):A8 .u64 (m:Int) ((2^n-1:Nat):Int)=((m%2^n:Nat):Int):=by
 have h2:2^n≤2^64:=Nat.pow_le_pow_right (by omega) hn
 have h3:0<2^n:=Nat.two_pow_pos n
 have hlt:m%2^n<2^n:=Nat.mod_lt _ h3
 have key:(BitVec.ofInt 64 (m:Int) &&& BitVec.ofInt 64 ((2^n-1:Nat):Int)).toNat=m%2^n:=by
  rw [BitVec.toNat_and,GD h,GD (by omega),Nat.and_two_pow_sub_one_eq_mod]
 show IntKind.u64.wrap (((BitVec.ofInt 64 (m:Int) &&& BitVec.ofInt 64 ((2^n-1:Nat):Int)).toNat:Nat):Int)=_
 rw [key]
 exact IntWalk.u64_in _ (by omega)
theorem L5 {n:Nat} (hn:n≤63):AQ .u64 1 (n:Int)=((2^n:Nat):Int):=by
 have h2:2^n≤2^63:=Nat.pow_le_pow_right (by omega) hn
 have:(min (n:Int).toNat IntKind.u64.bits)=n:=by simp [IntKind.bits]; omega
 unfold AQ
 rw [this,Int.one_mul]
 have e:(2:Int)^n=((2^n:Nat):Int):=by simp
 rw [e]
 refine IntWalk.u64_in _ ⟨Int.natCast_nonneg _,?_⟩
 have:((2^n:Nat):Int)≤((2^63:Nat):Int):=Int.ofNat_le.2 h2
 exact Int.le_trans this (by decide)
theorem aBd {m n:Nat} (hn:n≤63) (h:m<2^(n+1)):RE .u64 (m:Int) ((2^n:Nat):Int)=((m%2^n:Nat):Int):=by
 have h1:2^(n+1)≤2^64:=Nat.pow_le_pow_right (by omega) (by omega)
 have h2:2^n<2^64:=Nat.pow_lt_pow_right (by omega) (by omega)
 have hlt:m%2^n<2^n:=Nat.mod_lt _ (Nat.two_pow_pos n)
 have key:(BitVec.ofInt 64 (m:Int) &&& ~~~(BitVec.ofInt 64 ((2^n:Nat):Int))).toNat=m%2^n:=by
  apply Nat.eq_of_testBit_eq
  intro i
  rw [BitVec.toNat_and,Nat.testBit_and,GD (by omega),Nat.testBit_mod_two_pow]
  have e:(~~~(BitVec.ofInt 64 ((2^n:Nat):Int))).toNat.testBit i=(decide (i<64)&&!decide (n=i)):=by
   rw [← BitVec.getLsbD,BitVec.getLsbD_not,BitVec.getLsbD,GD h2,Nat.testBit_two_pow]
  rw [e]
  rcases Nat.lt_trichotomy i n with hi | hi | hi
  ·have:i<64:=by omega
   have hne:¬ n=i:=by omega
   simp [this,hne,hi]
  ·subst hi; simp
  ·have hz:m.testBit i=false:=Nat.testBit_lt_two_pow (Nat.lt_of_lt_of_le h (Nat.pow_le_pow_right (by omega) (by omega)))
   simp [hz]
 show IntKind.u64.wrap (((BitVec.ofInt 64 (m:Int) &&& ~~~(BitVec.ofInt 64 ((2^n:Nat):Int))).toNat:Nat):Int)=_
 rw [key]
 exact IntWalk.u64_in _ (by omega)
end Vx
namespace VL
open Go Vx
def Fm (f:Int):Prop:=0≤f∧f<4
instance (f:Int):Decidable (Fm f):=by unfold Fm; infer_instance
def fW (f:Int):Nat:=if f=0 then 16 else if f=1 then 16 else if f=2 then 32 else 64
def fP (f:Int):Nat:=if f=0 then 11 else if f=1 then 8 else if f=2 then 24 else 53
def fX (f:Int):Nat:=if f=0 then 15 else if f=1 then 127 else if f=2 then 127 else 1023
def Bp (f:Int):Aa rowsSh:=((fW f:Int),((fP f:Int),((1-(fX f:Int)),((fX f:Int),()))))
theorem Dr {f:Int} (h:Fm f):f=0∨f=1∨f=2∨f=3:=by
 obtain ⟨h1,h2⟩:=h
 omega
theorem hJ {f:Int} (h:Fm f) (d:Aa rowsSh):k_rows.getD (Int.toNat f) d=Bp f:=by
 rcases Dr h with rfl | rfl | rfl | rfl <;> rfl
theorem Dz {f:Int} (h:Fm f):8≤fP f:=by
 rcases Dr h with rfl | rfl | rfl | rfl <;> decide
theorem EP {f:Int} (h:Fm f):fP f+5≤fW f:=by
 rcases Dr h with rfl | rfl | rfl | rfl <;> decide
theorem D4 {f:Int} (h:Fm f):fW f≤64:=by
 rcases Dr h with rfl | rfl | rfl | rfl <;> decide
theorem H2 {f:Int} (h:Fm f):fX f≤1023:=by
 rcases Dr h with rfl | rfl | rfl | rfl <;> decide
theorem aAT {f:Int} (h:Fm f):2*fX f+1=2^(fW f-fP f)-1:=by
 rcases Dr h with rfl | rfl | rfl | rfl <;> decide
theorem As {n:Int} (h:-9223372036854775808≤n∧n<9223372036854775808):IntKind.wrap .i64 n=n:=IntWalk.i64_in n ⟨h.1,by omega⟩
theorem Ee {n:Int} (h:0≤n∧n<18446744073709551616):IntKind.wrap .u64 n=n:=IntWalk.u64_in n ⟨h.1,by omega⟩
theorem Dq (a n:Nat) (hn:n≤64):AH .u64 (a:Int) (n:Int)=((a/2^n:Nat):Int):=by
 rw [aGX n hn]
 simp
theorem Eo (m n:Nat) (h:n≤m) (hm:m≤4611686018427387904):IntKind.wrap .i64 ((m:Int)-(n:Int))=((m-n:Nat):Int):=by
 rw [As (by omega)]
 omega
theorem H8 (m n:Nat):((m:Int)==(n:Int))=(m==n):=by
 rw [Bool.eq_iff_iff]; simp only [beq_iff_eq]; omega
theorem Fo (m:Nat):((m:Int)==0)=(m==0):=H8 m 0
theorem aBr (m n:Nat):((m:Int) != (n:Int))=(m != n):=by
 show (!((m:Int)==(n:Int)))=!(m==n)
 rw [H8]
theorem Uk (m:Nat):((m:Int) != 0)=(m != 0):=aBr m 0
theorem r5 (m n:Nat):(decide ((m:Int)<(n:Int)))=decide (m<n):=by
 rw [Bool.eq_iff_iff]; simp
theorem AU (m:Nat):(decide (0≤(m:Int)))=true:=by simp
def Am (f:Int) (a:Nat):Int:=if Fm f then (if a<2^fW f then 0 else 4) else 2
def eF (f:Int) (a:Nat):Nat:=a/2^(fP f-1)%2^(fW f-fP f)
def mF (f:Int) (a:Nat):Nat:=a%2^(fP f-1)
def sF (f:Int) (a:Nat):Bool:=a/2^(fW f-1) != 0
def BE (f:Int):Nat:=2^(fW f-fP f)-1
def Bv (f:Int) (a:Nat):Nat:=a%2^(fW f-1)
theorem FQ {f:Int} (h:Fm f):SO (f,())=some (Bp f,0,()):=by
 rcases Dr h with rfl | rfl | rfl | rfl <;> kernel_rfl
theorem GG {f:Int} (h:¬ Fm f):SO (f,())=some ((0,0,0,0,()),2,()):=by
 show mR f=_
 unfold mR
 have:(decide (f<(0:Int))||decide (f≥(4:Int)))=true:=by
  simp only [Fm] at h
  simp only [Bool.or_eq_true,decide_eq_true_eq]
  omega
 rw [this]
 rfl
theorem aN2 {f:Int} (h:¬ Fm f) (a:Nat):Am f a=2:=by unfold Am; rw [if_neg h]
theorem aG4 {f:Int} (h:Fm f) {a:Nat} (ha:a<2^fW f):Am f a=0:=by unfold Am; rw [if_pos h,if_pos ha]
theorem aTi {f:Int} (h:Fm f) {a:Nat} (ha:¬ a<2^fW f):Am f a=4:=by unfold Am; rw [if_pos h,if_neg ha]
theorem CO {f:Int} {a:Nat} (h:Am f a=0):Fm f∧a<2^fW f:=by
 unfold Am at h
 split at h
 ·split at h
  ·exact ⟨by assumption,by assumption⟩
  ·cases h
 ·cases h
theorem iT {a n:Nat}:(a/2^n != 0)=decide (2^n≤a):=by
 rw [Bool.eq_iff_iff]
 simp [Nat.div_eq_zero_iff,Nat.two_pow_pos]
theorem En (f:Int) (a:Nat) (ha:a<2^64):WE (f,(a:Int),())=some (Am f a,()):=by
 show eR Aq.pre Aq.F f a=_
 unfold eR
 by_cases hf:Fm f
 ·simp only [Dd (FQ hf),C8 (FQ hf),cond_true,Bp,AU,Bool.true_or]
  rw [Dq _ _ (D4 hf),Uk,iT]
  show (bif decide ((fW f:Int)<((64:Nat):Int))&&_ then _ else _)=_
  rw [r5]
  have hw:=D4 hf
  by_cases h:a<2^fW f
  ·have:(decide (fW f<64)&&decide (2^fW f≤a))=false:=by simp; intro _; exact h
   rw [this,aG4 hf h]; rfl
  ·have:(decide (fW f<64)&&decide (2^fW f≤a))=true:=by
    simp only [Bool.and_eq_true,decide_eq_true_eq]
    refine ⟨?_,by omega⟩
    rcases Nat.lt_or_ge (fW f) 64 with h1 | h1
    ·exact h1
    ·have:fW f=64:=by omega
     rw [this] at h; omega
   rw [this,aTi hf h]; rfl
 ·simp only [Dd (GG hf),C8 (GG hf),cond_true,aN2 hf]
  rfl
theorem Za (n:Nat) (hn:n≤63):Xh ((n:Int),())=some (((2^n-1:Nat):Int),()):=by
 show bZ n=_
 unfold bZ
 have h2:2^n≤2^63:=Nat.pow_le_pow_right (by omega) hn
 have h1:0<2^n:=Nat.two_pow_pos n
 rw [AU,cond_true,L5 hn]
 generalize 2^n=c at *
 rw [Ee (by omega)]
 have:(c:Int)-1=((c-1:Nat):Int):=by omega
 rw [this]
theorem jA {f:Int} (hf:Fm f) (a:Nat) (ha:a<2^64):Wc (Bp f,(a:Int),())=some (sF f a,(eF f a:Int),(mF f a:Int),()):=by
 show cQ Br.pre Br.F (Bp f) a=_
 unfold cQ
 have h1:=Dz hf
 have h2:=EP hf
 have h3:=D4 hf
 have e1:IntKind.wrap .i64 ((Bp f).1-1)=((fW f-1:Nat):Int):=Eo (fW f) 1 (by omega) (by omega)
 have e2:IntKind.wrap .i64 ((Bp f).2.1-1)=((fP f-1:Nat):Int):=Eo (fP f) 1 (by omega) (by omega)
 have e3:IntKind.wrap .i64 ((Bp f).1-(Bp f).2.1)=((fW f-fP f:Nat):Int):=Eo (fW f) (fP f) (by omega) (by omega)
 have p1:=Za (fW f-fP f) (by omega)
 have p2:=Za (fP f-1) (by omega)
 rw [e1,e2,e3]
 simp only [AU,cond_true,YT p1,YT p2,WK p1,WK p2]
 rw [Dq _ _ (by omega),Dq _ _ (by omega),Ss (Nat.lt_of_le_of_lt (Nat.div_le_self _ _) ha) (by omega),Ss ha (by omega),Uk]
 rfl
def Av (f:Int) (a:Nat):Int :=
 bif eF f a==BE f&&mF f a==0 then (bif sF f a then 2 else 9)
 else bif eF f a==BE f&&mF f a/2^(fP f-2) != 0 then 1
 else bif eF f a==BE f then 0
 else bif eF f a==0&&mF f a==0 then (bif sF f a then 5 else 6)
 else bif eF f a==0 then (bif sF f a then 4 else 7)
 else (bif sF f a then 3 else 8)
theorem Fr {f:Int} {a:Nat} (ha:a<2^64) (h:Am f a=0):Sh (f,(a:Int),())=some (Av f a,0,()):=by
 obtain ⟨hf,h0⟩:=CO h
 show Tm Ar.pre Ar.F Di.pre Di.F Br.pre Br.F f a=_
 unfold Tm
 have h1:=Dz hf
 have h2:=EP hf
 have h3:=D4 hf
 have e3:IntKind.wrap .i64 ((Bp f).1-(Bp f).2.1)=((fW f-fP f:Nat):Int):=Eo (fW f) (fP f) (by omega) (by omega)
 have e4:IntKind.wrap .i64 ((Bp f).2.1-2)=((fP f-2:Nat):Int):=Eo (fP f) 2 (by omega) (by omega)
 have p0:=En f a ha
 have p1:=Za (fW f-fP f) (by omega)
 have p2:=jA hf a ha
 have hr:(decide (0≤f)&&decide (f<((4:Nat):Int)))=true:=by
  simp only [Bool.and_eq_true,decide_eq_true_eq]; exact hf
 simp only [hJ hf,e3,e4,hr,Dp p0,Dt p0,YT p1,WK p1,iG p2,Z8 p2,h,cond_true,AU,Bool.true_or,bne_self_eq_false,cond_false]
 rw [Dq _ _ (by omega),H8,Fo,Fo,Uk]
 unfold Av BE
 generalize (eF f a==2^(fW f-fP f)-1)=b1
 generalize (mF f a==0)=b2
 generalize (mF f a/2^(fP f-2) != 0)=b3
 generalize (eF f a==0)=b4
 generalize sF f a=b5
 cases b1 <;> cases b2 <;> cases b3 <;> cases b4 <;> cases b5 <;> rfl
theorem Pc {f:Int} {a:Nat} (ha:a<2^64) (h:Am f a≠0):Sh (f,(a:Int),())=some (0,Am f a,()):=by
 show Tm Ar.pre Ar.F Di.pre Di.F Br.pre Br.F f a=_
 unfold Tm
 have p0:=En f a ha
 have:(Am f a != 0)=true:=by simpa using h
 simp only [Dp p0,Dt p0,this,cond_true]
theorem uU {f:Int} (hf:Fm f):Yn (f,())=some (((2^(fW f-1):Nat):Int),()):=by
 rcases Dr hf with rfl | rfl | rfl | rfl <;> kernel_rfl
theorem aEU {f:Int} {a:Nat} (ha:a<2^64) (h:Am f a=0):Sv (f,(a:Int),())=some ((Bv f a:Int),0,()):=by
 obtain ⟨hf,h0⟩:=CO h
 show UJ Ar.pre Ar.F Dm.pre Dm.F f a=_
 unfold UJ
 have h2:=EP hf
 have h3:=D4 hf
 have p0:=En f a ha
 have p1:=uU hf
 simp only [Dp p0,Dt p0,oC p1,vO p1,h,cond_true,bne_self_eq_false,cond_false]
 rw [aBd (by omega) (by rw [Nat.sub_add_cancel (by omega)]; exact h0)]
 rfl
def At (f:Int) (a:Nat):Int:=bif sF f a then -(Bv f a:Int) else Bv f a
theorem aSn (f:Int) (hf:Fm f) (a:Nat):Bv f a<2^63:=by
 have h3:=D4 hf
 exact Nat.lt_of_lt_of_le (Nat.mod_lt _ (Nat.two_pow_pos _)) (Nat.pow_le_pow_right (by omega) (by omega))
theorem aNL {f:Int} (a:Nat):((Bv f a:Int) != (a:Int))=sF f a:=by
 rw [aBr]
 unfold Bv sF
 rw [iT,Bool.eq_iff_iff]
 simp only [bne_iff_ne,ne_eq,decide_eq_true_eq]
 constructor
 ·intro h
  rcases Nat.lt_or_ge a (2^(fW f-1)) with h1 | h1
  ·exact absurd (Nat.mod_eq_of_lt h1) h
  ·exact h1
 ·intro h h1
  have:=Nat.mod_lt a (Nat.two_pow_pos (fW f-1))
  omega
theorem Wx {f:Int} {a:Nat} (ha:a<2^64) (h:Am f a=0):VG (f,(a:Int),())=some ((Av f a,At f a,()),0,()):=by
 show Uj AB.pre AB.F C6.pre C6.F f a=_
 unfold Uj
 have hl:=aSn f (CO h).1 a
 have p0:=Fr ha h
 have p1:=aEU ha h
 simp only [Dl p0,Dk p0,sV p1,lF p1,cond_true,bne_self_eq_false,cond_false,aNL]
 rw [As (n:=(Bv f a:Int)) (by omega),As (by omega)]
 unfold At
 cases sF f a
 ·rfl
 ·simp
theorem gR {f:Int} {a:Nat} (ha:a<2^64) (h:Am f a≠0):VG (f,(a:Int),())=some ((0,0,()),Am f a,()):=by
 show Uj AB.pre AB.F C6.pre C6.F f a=_
 unfold Uj
 have p0:=Pc ha h
 have:(Am f a != 0)=true:=by simpa using h
 simp only [Dl p0,Dk p0,this,cond_true]
def Eh (f:Int) (a b:Nat):Int:=if Am f a=0 then Am f b else Am f a
theorem rM {f:Int} {a b:Nat} (ha:a<2^64) (hb:b<2^64) (h:Am f a=0) (h':Am f b=0):Vy (f,(a:Int),(b:Int),())=some ((Av f a,At f a,()),(Av f b,At f b,()),0,()):=by
 show Ve DE.pre DE.F f a b=_
 unfold Ve
 have p0:=Wx ha h
 have p1:=Wx hb h'
 simp only [LP p0,L4 p0,LP p1,L4 p1,cond_true,bne_self_eq_false,cond_false]
theorem vG {f:Int} {a b:Nat} (ha:a<2^64) (hb:b<2^64) (h:Eh f a b≠0):∃ x y,Vy (f,(a:Int),(b:Int),())=some (x,y,Eh f a b,()):=by
 show ∃ x y,Ve DE.pre DE.F f a b=_
 unfold Ve
 unfold Eh at h ⊢
 split at h
 ·rename_i h0
  have p0:=Wx ha h0
  have p1:=gR hb h
  refine ⟨(Av f a,At f a,()),(0,0,()),?_⟩
  simp only [LP p0,L4 p0,LP p1,L4 p1,cond_true,bne_self_eq_false,cond_false,if_pos h0]
 ·rename_i h0
  have p0:=gR ha h0
  have:(Am f a != 0)=true:=by simpa using h
  refine ⟨(0,0,()),(0,0,()),?_⟩
  simp only [LP p0,L4 p0,cond_true,this,if_neg h0]
def nan (f:Int) (a:Nat):Bool:=eF f a==BE f&&mF f a != 0
def AG (f:Int) (a:Nat):Bool:=nan f a&&mF f a/2^(fP f-2)==0
theorem GR (f:Int) (a:Nat):(Av f a==1||Av f a==0)=nan f a:=by
 unfold Av nan
 simp only [bne]
 cases eF f a==BE f <;> cases mF f a==0 <;> cases sF f a <;> cases eF f a==0 <;> cases mF f a/2^(fP f-2)==0 <;> rfl
theorem E3 (f:Int) (a:Nat):(Av f a==0)=AG f a:=by
 unfold Av AG nan
 simp only [bne]
 cases eF f a==BE f <;> cases hm:mF f a==0 <;> cases sF f a <;> cases eF f a==0 <;> cases mF f a/2^(fP f-2)==0 <;> rfl
def FL (f:Int) (a b:Nat) (signal:Bool):Int×Int×Int×Unit :=
 if Eh f a b≠0 then (0,0,Eh f a b,())
 else bif nan f a||nan f b then (3,(bif signal then 1 else bif AG f a||AG f b then 1 else 0),0,())
 else if At f a<At f b then (0,0,0,())
 else if At f a>At f b then (2,0,0,())
 else (1,0,0,())
theorem nW {f:Int} {a b:Nat} (h:Eh f a b=0):Am f a=0∧Am f b=0:=by
 unfold Eh at h
 split at h
 ·exact ⟨by assumption,h⟩
 ·exact absurd h (by assumption)
theorem KX (x:Aa (.pair (.int .i64) (.pair (.int .i64) .unit))):X0 (x,())=some ((x.1==1||x.1==0),()):=rfl
theorem KY (x y:Aa (.pair (.int .i64) (.pair (.int .i64) .unit))):XK (x,y,())=some ((bif x.1==0||y.1==0 then 1 else 0),()):=by
 show jM x y=_
 unfold jM
 cases (x.1==(0:Int)||y.1==(0:Int)) <;> rfl
theorem nP {f:Int} {a b:Nat} (ha:a<2^64) (hb:b<2^64) (s:Bool):ZK (f,(a:Int),(b:Int),s,())=some (FL f a b s):=by
 show lW Ed.pre Ed.F CE.pre CE.F CD.pre CD.F f a b s=_
 unfold lW FL
 by_cases h:Eh f a b=0
 ·obtain ⟨h1,h2⟩:=nW h
  have p0:=rM ha hb h1 h2
  simp only [Tz p0,UU p0,ZR (KX _),Xt (KX _),Yw (KY _ _),Y0 (KY _ _),cond_true,bne_self_eq_false,cond_false,GR,Bool.true_or,h,ne_eq,not_true_eq_false,if_false,gt_iff_lt]
  simp only [E3]
  cases nan f a||nan f b <;> cases s <;> by_cases hlt:At f a<At f b <;> by_cases hgt:At f b<At f a <;> simp [hlt,hgt]
 ·obtain ⟨x,y,p0⟩:=vG ha hb h
  have:(Eh f a b != 0)=true:=by simpa using h
  simp only [Tz p0,UU p0,cond_true,this,if_pos (show Eh f a b≠0 from h)]
end VL
namespace VL
open Go Vx
theorem gP {f:Int} {a:Nat} (h:nan f a=false):AG f a=false:=by
 unfold AG; rw [h]; rfl
end VL
namespace VL
open Go Vx
theorem aPF {f:Int} (hf:Fm f):2^(fW f-1)=2^(fP f-1)*2^(fW f-fP f):=by
 have h1:=Dz hf
 have h2:=EP hf
 rw [← Nat.pow_add]
 congr 1
 omega
theorem ZA {f:Int} (hf:Fm f) (a:Nat):Bv f a=mF f a+2^(fP f-1)*eF f a:=by
 unfold Bv mF eF
 rw [aPF hf,Nat.mod_mul]
theorem kO {f:Int} {a:Nat} (h:Am f a=0):a=Bv f a+(bif sF f a then 2^(fW f-1) else 0):=by
 obtain ⟨hf,h0⟩:=CO h
 have h2:=EP hf
 have e:2^fW f=2*2^(fW f-1):=by rw [← Nat.pow_succ']; congr 1; omega
 unfold Bv sF
 rw [iT]
 by_cases hc:2^(fW f-1)≤a
 ·rw [decide_eq_true hc]
  simp only [cond_true]
  have:a%2^(fW f-1)=a-2^(fW f-1):=by
   rw [Nat.mod_eq_sub_mod hc,Nat.mod_eq_of_lt (by omega)]
  omega
 ·rw [decide_eq_false hc]
  simp only [cond_false]
  rw [Nat.mod_eq_of_lt (by omega)]
  rfl
theorem lS {f:Int} (a:Nat):Bv f a<2^(fW f-1):=Nat.mod_lt _ (Nat.two_pow_pos _)
theorem PX {f:Int} (hf:Fm f):0<BE f:=by
 rcases Dr hf with rfl | rfl | rfl | rfl <;> decide
theorem t7 {f:Int} (hf:Fm f) (a:Nat):Bv f a=0↔eF f a=0∧mF f a=0:=by
 rw [ZA hf]
 have:=Nat.two_pow_pos (fP f-1)
 constructor
 ·intro h
  have h1:2^(fP f-1)*eF f a=0:=by omega
  rcases Nat.mul_eq_zero.1 h1 with h2 | h2
  ·omega
  ·exact ⟨h2,by omega⟩
 ·rintro ⟨h1,h2⟩
  rw [h1,h2]; rfl
theorem aMH {f:Int} (hf:Fm f) {a:Nat} (h:Bv f a=0):Av f a=bif sF f a then 5 else 6:=by
 obtain ⟨h1,h2⟩:=(t7 hf a).1 h
 have h3:=PX hf
 unfold Av
 have e1:(eF f a==BE f)=false:=by rw [h1]; simp; omega
 have e2:(eF f a==0)=true:=by rw [h1]; rfl
 have e3:(mF f a==0)=true:=by rw [h2]; rfl
 rw [e1,e2,e3]
 rfl
theorem aED {f:Int} (hf:Fm f) {a:Nat} {c:Int} (hc:c=5∨c=6) (h:Av f a=c):Bv f a=0:=by
 rw [t7 hf]
 unfold Av at h
 cases e1:eF f a==BE f <;> cases e2:eF f a==0 <;> cases e3:mF f a==0 <;> cases e4:sF f a <;> cases e5:mF f a/2^(fP f-2) != 0 <;>
  simp [e1,e2,e3,e4,e5] at h <;> first | (exfalso; omega) | (exact ⟨by simpa using e2,by simpa using e3⟩)
def Cz (f:Int):Nat:=2^(fW f-1)-2^(fP f-2)
def oG (f:Int) (neg:Bool):Nat:=bif neg then 2^(fW f-1) else 0
theorem Es {f:Int} (hf:Fm f):ZL (f,())=some ((Cz f:Int),0,()):=by
 rcases Dr hf with rfl | rfl | rfl | rfl <;> kernel_rfl
def oS (f:Int) (a b:Nat) (g:Bool):Nat :=
 if At f a=At f b∧a≠b then oG f (!g)
 else if (At f b<At f a∧g=false)∨(At f a<At f b∧g=true) then b else a
theorem aQx {f:Int} {a b:Nat} (h1:Am f a=0) (h2:Am f b=0) (hp:At f a=At f b) (hne:a≠b):Bv f a=0∧Bv f b=0∧sF f a=!sF f b:=by
 have ea:=kO h1
 have eb:=kO h2
 unfold At at hp
 cases hs:sF f a <;> cases hs':sF f b <;> rw [hs] at ea hp <;> rw [hs'] at eb hp <;> simp only [cond_true,cond_false] at ea eb hp
 ·omega
 ·exact ⟨by omega,by omega,rfl⟩
 ·exact ⟨by omega,by omega,rfl⟩
 ·omega
theorem aHH {f:Int} {a:Nat} (h:Am f a=0) (hz:Bv f a=0):a=oG f (sF f a):=by
 have:=kO h
 unfold oG
 rw [hz] at this
 omega
theorem aCY {f:Int} {a b:Nat} (h1:Am f a=0) (h2:Am f b=0) (g:Bool) :
  (bif (bif g then decide (At f a<At f b) else decide (At f b<At f a))||(At f a==0&&Av f b==(bif g then 6 else 5)) then b else a)=oS f a b g:=by
 have hf:=(CO h1).1
 unfold oS
 by_cases hab:a=b
 ·subst hab
  have:¬ ((At f a<At f a∧g=false)∨(At f a<At f a∧g=true)):=by omega
  simp only [ne_eq,not_true_eq_false,and_false,if_false,if_neg this]
  cases ((bif g then decide (At f a<At f a) else decide (At f a<At f a))||(At f a==0&&Av f a==(bif g then 6 else 5))) <;> rfl
 ·rcases Int.lt_trichotomy (At f a) (At f b) with hlt | heq | hgt
  ·have n0:¬ (At f a=At f b∧a≠b):=by omega
   rw [if_neg n0]
   cases g
   ·have n1:¬ ((At f b<At f a∧false=false)∨(At f a<At f b∧false=true)):=by simp; omega
    have n2:¬ At f b<At f a:=by omega
    rw [if_neg n1]
    simp only [cond_false,decide_eq_false n2,Bool.false_or]
    cases e1:At f a==0 <;> cases e2:Av f b==5
    ·rfl
    ·rfl
    ·rfl
    ·exfalso
     have z:=aED hf (.inl rfl) (by simpa using e2)
     have e3:At f a=0:=by simpa using e1
     have:At f b=0:=by unfold At; rw [z]; cases sF f b <;> rfl
     omega
   ·rw [if_pos (.inr ⟨hlt,rfl⟩)]
    simp only [cond_true,decide_eq_true hlt,Bool.true_or]
  ·obtain ⟨z1,z2,z3⟩:=aQx h1 h2 heq hab
   rw [if_pos ⟨heq,hab⟩]
   have e0:At f a=0:=by unfold At; rw [z1]; cases sF f a <;> rfl
   have c2:=aMH hf z2
   have za:=aHH h1 z1
   have zb:=aHH h2 z2
   have e1:(At f a==0)=true:=by simpa using e0
   have e2:At f b=0:=heq ▸ e0
   have n3:((bif g then decide (At f a<At f b) else decide (At f b<At f a)))=false:=by
    cases g <;> simp [e0,e2]
   rw [n3,e1,c2]
   cases g <;> cases hs:sF f b <;> rw [hs] at z3 zb <;> rw [z3] at za <;> first | exact za | exact zb
  ·have n0:¬ (At f a=At f b∧a≠b):=by omega
   rw [if_neg n0]
   cases g
   ·rw [if_pos (.inl ⟨hgt,rfl⟩)]
    simp only [cond_false,decide_eq_true hgt,Bool.true_or,cond_true]
   ·have n1:¬ ((At f b<At f a∧true=false)∨(At f a<At f b∧true=true)):=by simp; omega
    have n2:¬ At f a<At f b:=by omega
    rw [if_neg n1]
    simp only [cond_true,decide_eq_false n2,Bool.false_or]
    cases e1:At f a==0 <;> cases e2:Av f b==6
    ·rfl
    ·rfl
    ·rfl
    ·exfalso
     have z:=aED hf (.inr rfl) (by simpa using e2)
     have e3:At f a=0:=by simpa using e1
     have:At f b=0:=by unfold At; rw [z]; cases sF f b <;> rfl
     omega
def SM (f:Int) (a b:Nat):Int:=bif AG f a||AG f b then 1 else 0
def Rl (f:Int) (a b:Nat) (g:Bool):Int×Int×Int×Unit :=
 if Eh f a b≠0 then (0,0,Eh f a b,())
 else bif nan f a&&nan f b then ((Cz f:Int),SM f a b,0,())
 else bif nan f a then ((b:Int),SM f a b,0,())
 else bif nan f b then ((a:Int),SM f a b,0,())
 else ((oS f a b g:Int),0,0,())
theorem zK {f:Int} {a b:Nat} (h1:nan f a=false) (h2:nan f b=false):SM f a b=0:=by
 unfold SM; rw [gP h1,gP h2]; rfl
theorem aBp (x y:Int):Zy (x,y,())=some (decide (y<x),()):=rfl
theorem aCl (x y:Int):V5 (x,y,())=some (decide (y>x),()):=rfl
theorem aDD {f:Int} {a b:Nat} (ha:a<2^64) (hb:b<2^64):YK (f,(a:Int),(b:Int),())=some (Rl f a b false):=by
 show gT Of.pre Of.F Ed.pre Ed.F CD.pre CD.F AC.pre AC.F CE.pre CE.F f a b=_
 unfold gT Rl
 by_cases h:Eh f a b=0
 ·obtain ⟨h1,h2⟩:=nW h
  have hf:=(CO h1).1
  have p0:=rM ha hb h1 h2
  have key:=aCY h1 h2 false
  simp only [Tz p0,UU p0,ZR (KX _),Xt (KX _),Yw (KY _ _),Y0 (KY _ _),aLg (aBp _ _),aJU (aBp _ _),Fs (Es hf),Fq (Es hf),
   cond_true,bne_self_eq_false,cond_false,GR,Bool.true_or,h,ne_eq,not_true_eq_false,if_false]
  simp only [E3]
  have fl:(bif AG f a||AG f b then (1:Int) else 0)=SM f a b:=rfl
  simp only [fl]
  cases n1:nan f a <;> cases n2:nan f b <;> simp only [Bool.not_true,Bool.not_false,Bool.true_or,Bool.false_or,Bool.true_and,Bool.false_and,Bool.and_true,Bool.and_false,Bool.or_true,Bool.or_false,cond_true,cond_false]
  rw [zK n1 n2,← key]
  simp only [cond_false]
  cases (decide (At f b<At f a)||(At f a==0&&Av f b==5)) <;> rfl
 ·obtain ⟨x,y,p0⟩:=vG ha hb h
  have:(Eh f a b != 0)=true:=by simpa using h
  simp only [Tz p0,UU p0,cond_true,this,if_pos (show Eh f a b≠0 from h)]
theorem x5 {f:Int} {a b:Nat} (ha:a<2^64) (hb:b<2^64):X3 (f,(a:Int),(b:Int),())=some (Rl f a b true):=by
 show fG Qm.pre Qm.F Ed.pre Ed.F CD.pre CD.F AC.pre AC.F CE.pre CE.F f a b=_
 unfold fG Rl
 by_cases h:Eh f a b=0
 ·obtain ⟨h1,h2⟩:=nW h
  have hf:=(CO h1).1
  have p0:=rM ha hb h1 h2
  have key:=aCY h1 h2 true
  simp only [Tz p0,UU p0,ZR (KX _),Xt (KX _),Yw (KY _ _),Y0 (KY _ _),aL7 (aCl _ _),aOG (aCl _ _),Fs (Es hf),Fq (Es hf),
   cond_true,bne_self_eq_false,cond_false,GR,Bool.true_or,h,ne_eq,not_true_eq_false,if_false]
  simp only [E3]
  have fl:(bif AG f a||AG f b then (1:Int) else 0)=SM f a b:=rfl
  simp only [fl]
  cases n1:nan f a <;> cases n2:nan f b <;> simp only [Bool.not_true,Bool.not_false,Bool.true_or,Bool.false_or,Bool.true_and,Bool.false_and,Bool.and_true,Bool.and_false,Bool.or_true,Bool.or_false,cond_true,cond_false]
  rw [zK n1 n2,← key]
  simp only [cond_true,gt_iff_lt]
  cases (decide (At f a<At f b)||(At f a==0&&Av f b==6)) <;> rfl
 ·obtain ⟨x,y,p0⟩:=vG ha hb h
  have:(Eh f a b != 0)=true:=by simpa using h
  simp only [Tz p0,UU p0,cond_true,this,if_pos (show Eh f a b≠0 from h)]
end VL
namespace VL
open Go Vx
theorem aGc (k:Nat):Nat.testBit 1 k=decide (k=0):=by
 rw [Bool.eq_iff_iff]
 simp [Nat.testBit_one_eq_true_iff_self_eq_zero]
theorem aSo {m n:Nat} (h:m<2^(n+1)):m ^^^ 2^n=if m<2^n then m+2^n else m-2^n:=by
 apply Nat.eq_of_testBit_eq
 intro i
 rw [Nat.testBit_xor,Nat.testBit_two_pow]
 have h2:2^(n+1)=2*2^n:=Nat.pow_succ'
 split
 ·rename_i hm
  have:m+2^n=2^n*1+m:=by omega
  rw [this,Nat.testBit_two_pow_mul_add _ hm]
  by_cases hi:i<n
  ·have:¬ n=i:=by omega
   simp [hi,this]
  ·rw [if_neg hi,Nat.testBit_lt_two_pow (Nat.lt_of_lt_of_le hm (Nat.pow_le_pow_right (by omega) (by omega)))]
   rw [aGc]
   by_cases hn:n=i
   ·subst hn; simp
   ·have:¬ i-n=0:=by omega
    simp [hn,this]
 ·rename_i hm
  have e:m=2^n*1+(m-2^n):=by omega
  have hr:m-2^n<2^n:=by omega
  rw [e,Nat.testBit_two_pow_mul_add _ hr]
  have e2:2^n*1+(m-2^n)-2^n=m-2^n:=by omega
  rw [e2]
  by_cases hi:i<n
  ·have:¬ n=i:=by omega
   simp [hi,this]
  ·rw [if_neg hi,Nat.testBit_lt_two_pow (x:=m-2^n) (Nat.lt_of_lt_of_le hr (Nat.pow_le_pow_right (by omega) (by omega))),aGc]
   by_cases hn:n=i
   ·subst hn; simp
   ·have:¬ i-n=0:=by omega
    simp [hn,this]
theorem aT1 {m n:Nat} (hn:n≤63) (h:m<2^(n+1)):jY .u64 (m:Int) ((2^n:Nat):Int)=((if m<2^n then m+2^n else m-2^n:Nat):Int):=by
 have h1:2^(n+1)≤2^64:=Nat.pow_le_pow_right (by omega) (by omega)
 have h2:2^n<2^64:=Nat.pow_lt_pow_right (by omega) (by omega)
 have h3:2^(n+1)=2*2^n:=Nat.pow_succ'
 have key:(BitVec.ofInt 64 (m:Int) ^^^ BitVec.ofInt 64 ((2^n:Nat):Int)).toNat=if m<2^n then m+2^n else m-2^n:=by
  rw [BitVec.toNat_xor,GD (by omega),GD h2,aSo h]
 show IntKind.u64.wrap (((BitVec.ofInt 64 (m:Int) ^^^ BitVec.ofInt 64 ((2^n:Nat):Int)).toNat:Nat):Int)=_
 rw [key]
 refine Ee ⟨Int.natCast_nonneg _,?_⟩
 split <;> omega
def Gr (f:Int) (s:Bool) (n:Nat):Nat:=n+(bif s then 2^(fW f-1) else 0)
theorem aTb {f:Int} (hf:Fm f):2^fW f=2*2^(fW f-1):=by
 have h2:=EP hf
 rw [← Nat.pow_succ']; congr 1; omega
theorem aGF {f:Int} (hf:Fm f) (s:Bool) {n:Nat} (hn:n<2^(fW f-1)):Am f (Gr f s n)=0:=by
 apply aG4 hf
 rw [aTb hf]
 unfold Gr
 cases s <;> simp <;> omega
theorem aQ7 {f:Int} (s:Bool) {n:Nat} (hn:n<2^(fW f-1)):Bv f (Gr f s n)=n:=by
 unfold Bv Gr
 cases s
 ·simp only [cond_false,Nat.add_zero]; exact Nat.mod_eq_of_lt hn
 ·simp only [cond_true,Nat.add_mod_right]; exact Nat.mod_eq_of_lt hn
theorem aOr {f:Int} (s:Bool) {n:Nat} (hn:n<2^(fW f-1)):sF f (Gr f s n)=s:=by
 unfold sF Gr
 rw [iT]
 cases s
 ·simp only [cond_false,Nat.add_zero,decide_eq_false_iff_not]; omega
 ·simp
theorem aGQ {f:Int} {a:Nat} (h:Am f a=0):a=Gr f (sF f a) (Bv f a):=kO h
theorem MX {f:Int} {a:Nat} (h:Am f a=0):a<2^64:=by
 obtain ⟨hf,h0⟩:=CO h
 exact Nat.lt_of_lt_of_le h0 (Nat.pow_le_pow_right (by omega) (D4 hf))
theorem aS3 {f:Int} (hf:Fm f) (a:Nat):eF f a=Bv f a/2^(fP f-1):=by
 rw [ZA hf,Nat.add_mul_div_left _ _ (Nat.two_pow_pos _)]
 have:mF f a/2^(fP f-1)=0:=Nat.div_eq_of_lt (Nat.mod_lt _ (Nat.two_pow_pos _))
 omega
theorem aMW {f:Int} (hf:Fm f) (a:Nat):mF f a=Bv f a%2^(fP f-1):=by
 rw [ZA hf,Nat.add_mul_mod_self_left]
 exact (Nat.mod_eq_of_lt (Nat.mod_lt _ (Nat.two_pow_pos _))).symm
def F8 (f:Int):Nat:=2^(fP f-1)*BE f
theorem aJv {f:Int} (hf:Fm f):F8 f+128≤2^(fW f-1):=by
 rcases Dr hf with rfl | rfl | rfl | rfl <;> decide
theorem aE1 {f:Int} (a:Nat):eF f a≤BE f:=by
 have:eF f a<2^(fW f-fP f):=Nat.mod_lt _ (Nat.two_pow_pos _)
 unfold BE; omega
theorem aPW {f:Int} (hf:Fm f) {a:Nat} (h:nan f a=false):Bv f a≤F8 f:=by
 rw [ZA hf]
 have h1:=aE1 (f:=f) a
 have hm:mF f a<2^(fP f-1):=Nat.mod_lt _ (Nat.two_pow_pos _)
 unfold nan at h
 unfold F8
 rcases Nat.lt_or_ge (eF f a) (BE f) with h2 | h2
 ·have:2^(fP f-1)*(eF f a+1)≤2^(fP f-1)*BE f:=Nat.mul_le_mul_left _ h2
  rw [Nat.mul_add] at this
  omega
 ·have e:eF f a=BE f:=by omega
  rw [e] at h ⊢
  simp at h
  omega
theorem aQY {f:Int} (hf:Fm f) (a:Nat):Bv f a=F8 f↔eF f a=BE f∧mF f a=0:=by
 have hp:=Nat.two_pow_pos (fP f-1)
 constructor
 ·intro h
  rw [aS3 hf,aMW hf,h]
  unfold F8
  exact ⟨Nat.mul_div_cancel_left _ hp,Nat.mul_mod_right _ _⟩
 ·rintro ⟨h1,h2⟩
  rw [ZA hf,h1,h2]
  unfold F8; omega
theorem aJP {f:Int} (hf:Fm f) {a:Nat} (h:Bv f a=F8 f):Av f a=bif sF f a then 2 else 9:=by
 obtain ⟨h1,h2⟩:=(aQY hf a).1 h
 unfold Av
 rw [h1,h2]
 simp
def Hn (f:Int) (a:Nat):Nat:=Gr f (!sF f a) (Bv f a)
theorem aK1 {f:Int} (hf:Fm f) (a:Nat):Am f (Hn f a)=0:=aGF hf _ (lS a)
theorem neg_neg {f:Int} {a:Nat} (h:Am f a=0):Hn f (Hn f a)=a:=by
 unfold Hn
 rw [aQ7 _ (lS a),aOr _ (lS a),Bool.not_not]
 exact (aGQ h).symm
theorem oM {f:Int} {a:Nat} (h:Am f a=0):Sl (f,(a:Int),())=some ((Hn f a:Int),0,()):=by
 obtain ⟨hf,h0⟩:=CO h
 show Vv Ar.pre Ar.F Dm.pre Dm.F f a=_
 unfold Vv
 have h2:=EP hf
 have h3:=D4 hf
 have p0:=En f a (MX h)
 have p1:=uU hf
 simp only [Dp p0,Dt p0,oC p1,vO p1,h,cond_true,bne_self_eq_false,cond_false]
 rw [aT1 (by omega) (by rw [Nat.sub_add_cancel (by omega)]; exact h0)]
 have e:(if a<2^(fW f-1) then a+2^(fW f-1) else a-2^(fW f-1))=Hn f a:=by
  have hp:=aGQ h
  have hl:=lS (f:=f) a
  unfold Hn
  unfold Gr at hp ⊢
  cases hs:sF f a <;> rw [hs] at hp <;> simp only [cond_true,cond_false,Bool.not_true,Bool.not_false] at hp ⊢
  ·rw [if_pos (by omega)]; omega
  ·rw [if_neg (by omega)]; omega
 rw [e]
theorem aRD {f:Int} {a:Nat} (ha:a<2^64) (h:Am f a≠0):Sl (f,(a:Int),())=some (0,Am f a,()):=by
 show Vv Ar.pre Ar.F Dm.pre Dm.F f a=_
 unfold Vv
 have p0:=En f a ha
 have:(Am f a != 0)=true:=by simpa using h
 simp only [Dp p0,Dt p0,this,cond_true]
def aEI (f:Int) (a:Nat) (w:Int):Nat :=
 bif (Av f a==9&&decide (w>0))||(Av f a==2&&decide (w<0)) then a
 else if At f a+w>0∨(At f a+w=0∧w<0) then (At f a+w).toNat
 else Hn f (-(At f a+w)).toNat
def aEb (f:Int) (a:Nat) (w:Int):Nat:=bif nan f a then Cz f else aEI f a w
def TH (f:Int) (a:Nat) (w:Int):Int×Int×Int×Unit :=
 if Am f a≠0 then (0,0,Am f a,()) else ((aEb f a w:Int),(bif AG f a then 1 else 0),0,())
theorem aPq {f:Int} {a:Nat} (h:Am f a=0) (hn:nan f a=false) {w:Int} (hw:w=1∨w=-1) (hi:((Av f a==9&&decide (w>0))||(Av f a==2&&decide (w<0)))=false) :
  -(F8 f:Int)≤At f a+w∧At f a+w≤F8 f:=by
 have hf:=(CO h).1
 have hl:=aPW hf hn
 rcases Nat.lt_or_ge (Bv f a) (F8 f) with h1 | h1
 ·unfold At
  cases sF f a <;> simp only [cond_true,cond_false] <;> omega
 ·have e:Bv f a=F8 f:=by omega
  have hc:=aJP hf e
  have hpos:0<F8 f:=Nat.mul_pos (Nat.two_pow_pos _) (PX hf)
  unfold At
  rw [hc] at hi
  cases hs:sF f a <;> rw [hs] at hi <;> rcases hw with rfl | rfl <;> simp at hi <;> simp only [cond_true,cond_false] <;> rw [e] <;> constructor <;> omega
theorem aKh {f:Int} {a:Nat} (ha:a<2^64) {w:Int} (hw:w=1∨w=-1):Wb (f,(a:Int),w,())=some (TH f a w):=by
 show mW DE.pre DE.F CE.pre CE.F AC.pre AC.F CD.pre CD.F C1.pre C1.F f a w=_
 unfold mW TH
 by_cases h:Am f a=0
 ·have hf:=(CO h).1
  have p0:=Wx ha h
  simp only [LP p0,L4 p0,ZR (KX _),Xt (KX _),Yw (KY _ _),Y0 (KY _ _),Fs (Es hf),Fq (Es hf),cond_true,bne_self_eq_false,cond_false,GR,h,ne_eq,not_true_eq_false,if_false]
  simp only [E3,Bool.or_self]
  unfold aEb
  cases hn:nan f a
  ·have hs:=gP hn
   rw [hs]
   simp only [cond_false]
   unfold aEI
   cases hi:(Av f a==9&&decide (w>0))||(Av f a==2&&decide (w<0))
   ·obtain ⟨r1,r2⟩:=aPq h hn hw hi
    have hroom:=aJv hf
    have hW:=D4 hf
    have h63:2^(fW f-1)≤2^63:=Nat.pow_le_pow_right (by omega) (by omega)
    have e1:IntKind.wrap .i64 (At f a+w)=At f a+w:=As (by omega)
    simp only [cond_false,e1]
    by_cases ht:At f a+w>0∨(At f a+w=0∧w<0)
    ·have:(decide (At f a+w>0)||(At f a+w==0&&decide (w<0)))=true:=by
      simp only [Bool.or_eq_true,decide_eq_true_eq,Bool.and_eq_true,beq_iff_eq]; exact ht
     rw [this,if_pos ht,cond_true,Ee (by omega)]
     have:((At f a+w).toNat:Int)=At f a+w:=by omega
     rw [this]
    ·have:(decide (At f a+w>0)||(At f a+w==0&&decide (w<0)))=false:=by
      rw [Bool.eq_false_iff]
      simp only [ne_eq,Bool.or_eq_true,decide_eq_true_eq,Bool.and_eq_true,beq_iff_eq]; exact ht
     rw [this,if_neg ht,cond_false]
     have e2:IntKind.wrap .u64 (IntKind.wrap .i64 (0-(At f a+w)))=(((-(At f a+w)).toNat:Nat):Int):=by
      rw [As (by omega),Ee (by omega)]; omega
     rw [e2]
     have hc:Am f (-(At f a+w)).toNat=0:=by
      have:=aGF hf false (n:=(-(At f a+w)).toNat) (by omega)
      simpa [Gr] using this
     have p1:=oM hc
     simp only [fQ p1,dI p1,cond_true]
   ·simp only [cond_true]
  ·simp only [cond_true]
 ·have p0:=gR ha h
  have:(Am f a != 0)=true:=by simpa using h
  simp only [LP p0,L4 p0,this,cond_true,if_pos (show Am f a≠0 from h)]
theorem aHN {f:Int} {a:Nat} (ha:a<2^64):YS (f,(a:Int),())=some (TH f a 1):=by
 show aR Rd.pre Rd.F f a=_
 unfold aR
 have p:=aKh (f:=f) ha (.inl rfl)
 simp only [aQs p,aKg p,cond_true]
end VL
namespace VL
open Go Vx
def nv (B:Nat):List Nat→Nat
 | []=>0
 | x::r=>x+B*nv B r
def Ai:List Nat→List Nat
 | []=>[]
 | x::r=>match Ai r with
  | []=>if x=0 then [] else [x]
  | y::t=>x::y::t
def dg (B:Nat) (n:Nat):List Nat :=
 if h:n=0∨B<2 then [] else n%B::dg B (n/B)
termination_by n
decreasing_by exact Nat.div_lt_self (by omega) (by omega)
theorem Eq (B:Nat):dg B 0=[]:=by rw [dg]; simp
theorem F9 {B n:Nat} (hB:2≤B) (hn:0<n):dg B n=n%B::dg B (n/B):=by
 rw [dg]; rw [dif_neg (by omega)]
theorem FT {B:Nat} (hB:2≤B):∀ (n:Nat),∀ x∈dg B n,x<B:=by
 intro n
 induction n using Nat.strongRecOn with
 | ind n ih =>
  intro x hx
  rcases Nat.eq_zero_or_pos n with rfl | hn
  ·rw [Eq] at hx; simp at hx
  ·rw [F9 hB hn] at hx
   rcases List.mem_cons.1 hx with rfl | hx
   ·exact Nat.mod_lt _ (by omega)
   ·exact ih (n/B) (Nat.div_lt_self hn (by omega)) x hx
theorem lD {B:Nat} (hB:2≤B):∀ (n:Nat),nv B (dg B n)=n:=by
 intro n
 induction n using Nat.strongRecOn with
 | ind n ih =>
  rcases Nat.eq_zero_or_pos n with rfl | hn
  ·rw [Eq]; rfl
  ·rw [F9 hB hn]
   simp only [nv]
   rw [ih (n/B) (Nat.div_lt_self hn (by omega))]
   exact Nat.mod_add_div n B
theorem aG7 {B x v:Nat} (hB:2≤B) (hx:x<B) (h:0<x+B*v):dg B (x+B*v)=x::dg B v:=by
 rw [F9 hB h,Nat.add_mul_mod_self_left,Nat.mod_eq_of_lt hx,Nat.add_mul_div_left _ _ (by omega),Nat.div_eq_of_lt hx,Nat.zero_add]
theorem Hj {B:Nat} (hB:2≤B):∀ (l:List Nat),(∀ x∈l,x<B)→Ai l=dg B (nv B l)
 | [],_=>by simp only [nv]; rw [Eq]; rfl
 | x::r,h=>by
  have ih:=Hj hB r fun y hy=>h y (by simp [hy])
  simp only [Ai,nv]
  rcases Nat.eq_zero_or_pos (nv B r) with h0 | h0
  ·rw [ih,h0,Eq,Nat.mul_zero,Nat.add_zero]
   simp only
   rcases Nat.eq_zero_or_pos x with rfl | hx
   ·rw [Eq]; rfl
   ·rw [if_neg (by omega)]
    have:=aG7 (v:=0) hB (h x (by simp)) (by omega)
    rw [Nat.mul_zero,Nat.add_zero,Eq] at this
    exact this.symm
  ·have hp:0<B*nv B r:=Nat.mul_pos (by omega) h0
   rw [aG7 hB (h x (by simp)) (by omega),ih]
   rw [F9 hB h0]
theorem DX:∀ (l:List Nat),(Ai l).length≤l.length∧Ai l=l.take (Ai l).length
 | []=>⟨Nat.le_refl _,rfl⟩
 | x::r=>by
  obtain ⟨h1,h2⟩:=DX r
  simp only [Ai]
  cases e:Ai r with
  | nil =>
   simp only
   split
   ·exact ⟨by simp,rfl⟩
   ·exact ⟨by simp,rfl⟩
  | cons y t =>
   rw [e] at h1 h2
   simp only
   refine ⟨by simp at h1 ⊢; omega,?_⟩
   simp only [List.length_cons,List.take_succ_cons]
   congr 1
theorem uE:∀ (l:List Nat) (i:Nat),(Ai l).length≤i→l.getD i 0=0
 | [],i,_=>by simp
 | x::r,i,h=>by
  have ih:=uE r
  simp only [Ai] at h
  cases e:Ai r with
  | nil =>
   rw [e] at h ih
   simp only at h
   cases i with
   | zero =>
    split at h
    ·rename_i hx; simp [hx]
    ·simp at h
   | succ i=>simpa using ih i (by simp)
  | cons y t =>
   rw [e] at h ih
   simp only at h
   cases i with
   | zero=>simp at h
   | succ i=>simpa using ih i (by simpa using h)
theorem XC:∀ (l:List Nat),0<(Ai l).length→l.getD ((Ai l).length-1) 0≠0
 | [],h=>by simp [Ai] at h
 | x::r,h=>by
  have ih:=XC r
  simp only [Ai] at h ⊢
  cases e:Ai r with
  | nil =>
   rw [e] at h
   simp only at h ⊢
   split at h
   ·simp at h
   ·rename_i hx; rw [if_neg hx]; simpa using hx
  | cons y t =>
   rw [e] at ih
   simp only [List.length_cons] at ih ⊢
   have:=ih (by simp)
   simpa using this
def Wd (l:List Nat):List Int:=l.map fun n:Nat=>(n:Int)
theorem Az (l:List Nat):(Wd l).length=l.length:=by simp [Wd]
theorem Ca (l:List Nat) (i:Nat):(Wd l).getD i 0=((l.getD i 0:Nat):Int):=by
 unfold Wd
 rw [List.getD_eq_getElem?_getD,List.getD_eq_getElem?_getD,List.getElem?_map]
 cases l[i]? <;> simp
theorem aU (l:List Nat) (n:Nat):(Wd l).take n=Wd (l.take n):=by simp [Wd,List.map_take]
theorem aRC (l:List Nat) (n:Nat):(Wd l).drop n=Wd (l.drop n):=by simp [Wd,List.map_drop]
theorem Ef (l:List Nat) (i n:Nat):(Wd l).set i (n:Int)=Wd (l.set i n):=by simp [Wd,List.map_set]
theorem SE (n:Nat):List.replicate n (0:Int)=Wd (List.replicate n 0):=by simp [Wd]
end VL
namespace VL
open Go Vx
def Ws (l:List Nat):Prop:=(∀ x∈l,x<2^64)∧l.length≤1000000
theorem aMc (l:List Nat) (hl:l.length≤1000000) (n:Nat) (hn:n≤l.length) (ht:(Ai l).length≤n) :
  cJ ((Wd l,((n:Int),())),())=some (.inl ((Wd l,(((Ai l).length:Int),())),())):=by
 have key:=Df xI (fun x=>x.1.2.1.toNat)
  (fun x=>∃ n:Nat,n≤l.length∧(Ai l).length≤n∧x=((Wd l,((n:Int),())),()))
  (fun _=>.inl ((Wd l,(((Ai l).length:Int),())),())) ?_ ((Wd l,((n:Int),())),()) ⟨n,hn,ht,rfl⟩
 ·exact key
 intro L x hx hL
 obtain ⟨n,hn,ht,rfl⟩:=hx
 unfold UN
 rcases Nat.eq_zero_or_pos n with rfl | hpos
 ·have e1:decide (((0:Nat):Int)>0)=false:=rfl
  simp only [e1,Bool.not_false,Bool.or_true,cond_true,Bool.false_and,cond_false]
  have:(Ai l).length=0:=by omega
  rw [this]
 ·have e0:IntKind.wrap .i64 ((n:Int)-1)=((n-1:Nat):Int):=Eo n 1 (by omega) (by omega)
  have e1:decide ((n:Int)>0)=true:=by simp; omega
  have e2:(decide ((0:Int)≤((n-1:Nat):Int))&&decide (((n-1:Nat):Int)<((Wd l).length:Int)))=true:=by
   rw [Az]; simp; omega
  simp only [e0,e1,e2,Bool.true_or,cond_true,Bool.true_and,Int.toNat_natCast,Ca,Fo]
  cases hz:(l.getD (n-1) 0==0) with
  | true =>
   simp only [cond_true]
   refine hL _ ⟨n-1,by omega,?_,rfl⟩ (by simp only [Int.toNat_natCast]; omega)
   rcases Nat.lt_or_ge (n-1) (Ai l).length with h | h
   ·exfalso
    have e:n=(Ai l).length:=by omega
    have:=XC l (by omega)
    rw [← e] at this
    exact this (by simpa using hz)
   ·exact h
  | false =>
   simp only [cond_false]
   have:(Ai l).length=n:=by
    rcases Nat.lt_or_ge (n-1) (Ai l).length with h | h
    ·omega
    ·exfalso
     have:=uE l (n-1) h
     rw [this] at hz
     simp at hz
   rw [this]
theorem DU (l:List Nat) (hl:l.length≤1000000):SP (Wd l,())=some (Wd (Ai l),()):=by
 show fN cJ (Wd l)=_
 unfold fN
 have h:=aMc l hl l.length (Nat.le_refl _) (DX l).1
 rw [Az]
 rw [h]
 have e:(decide ((0:Int)≤((Ai l).length:Int))&&decide (((Ai l).length:Int)≤((Wd l).length:Int)))=true:=by
  rw [Az]; have:=(DX l).1; simp; omega
 show (bif (decide ((0:Int)≤((Ai l).length:Int))&&decide (((Ai l).length:Int)≤((Wd l).length:Int))) then some (List.drop (Int.toNat 0) (List.take (Int.toNat ((Ai l).length:Int)) (Wd l)),()) else none)=_
 rw [e,cond_true,Int.toNat_natCast,Int.toNat_zero,List.drop_zero,aU]
 have:=(DX l).2
 rw [← this]
def An (n:Nat):Nat:=if n=0 then 0 else Nat.log2 n+1
theorem He (n:Nat):n<2^An n:=by
 unfold An
 split
 ·subst_vars; decide
 ·exact Nat.lt_log2_self
theorem I3 {n:Nat} (h:n≠0):2^(An n-1)≤n:=by
 unfold An
 rw [if_neg h]
 exact Nat.log2_self_le h
theorem aP1 {n k:Nat} (h1:2^k≤n) (h2:n<2^(k+1)):An n=k+1:=by
 have hp:=Nat.two_pow_pos k
 have hn:n≠0:=by omega
 have a1:=He n
 have a2:=I3 hn
 have b1:An n-1<k+1:=(Nat.pow_lt_pow_iff_right (by decide)).1 (Nat.lt_of_le_of_lt a2 h2)
 have b2:k<An n:=(Nat.pow_lt_pow_iff_right (by decide)).1 (Nat.lt_of_le_of_lt h1 a1)
 omega
theorem rW {n k:Nat} (h:2^k≤n):An n=k+An (n/2^k):=by
 have hp:=Nat.two_pow_pos k
 have hq:0<n/2^k:=Nat.div_pos h hp
 have a1:=He (n/2^k)
 have a2:=I3 (n:=n/2^k) (by omega)
 have hb:0<An (n/2^k):=by unfold An; rw [if_neg (by omega)]; omega
 have h1:2^(k+(An (n/2^k)-1))≤n:=by
  rw [Nat.pow_add]
  calc 2^k*2^(An (n/2^k)-1)≤2^k*(n/2^k):=Nat.mul_le_mul_left _ a2
   _≤n:=Nat.mul_div_le n _
 have h2:n<2^(k+(An (n/2^k)-1)+1):=by
  rw [show k+(An (n/2^k)-1)+1=k+An (n/2^k) by omega,Nat.pow_add,Nat.mul_comm]
  exact (Nat.div_lt_iff_lt_mul hp).1 a1
 have:=aP1 h1 h2
 omega
theorem aHK:∀ i:Nat,i<256→(Ih.getD i 0).toNat=An i:=by
 have h:((List.range 256).all fun i=>decide ((Ih.getD i 0).toNat=An i))=true:=by decide +kernel
 intro i hi
 have:=List.all_eq_true.1 h i (List.mem_range.2 hi)
 simpa using this
theorem Ta (n:Nat) (hn:n<2^64):XN ((n:Int),())=some ((An n:Int),()):=by
 have hs:∀ m k:Nat,k≤64→AH .u64 (m:Int) (k:Int)=((m/2^k:Nat):Int):=fun m k hk=>Dq m k hk
 have SA:∀ m:Nat,AH .u64 (m:Int) 32=((m/2^32:Nat):Int):=fun m=>hs m 32 (by decide)
 have s16:∀ m:Nat,AH .u64 (m:Int) 16=((m/2^16:Nat):Int):=fun m=>hs m 16 (by decide)
 have s8:∀ m:Nat,AH .u64 (m:Int) 8=((m/2^8:Nat):Int):=fun m=>hs m 8 (by decide)
 have ge:∀ m k:Nat,decide ((m:Int)≥(k:Int))=decide (k≤m):=fun m k=>by rw [Bool.eq_iff_iff]; simp
 have g32:∀ m:Nat,decide ((m:Int)≥4294967296)=decide (2^32≤m):=fun m=>ge m (2^32)
 have g16:∀ m:Nat,decide ((m:Int)≥65536)=decide (2^16≤m):=fun m=>ge m (2^16)
 have g8:∀ m:Nat,decide ((m:Int)≥256)=decide (2^8≤m):=fun m=>ge m (2^8)
 have tab:∀ m:Nat,m<256→IntKind.wrap .u8 (m:Int)=(m:Int):=fun m hm=>IntWalk.u8_in _ (by omega)
 have look:∀ (m:Nat) (c:Int) (d:Nat),m<256→c=(d:Int)→d≤56→(bif (decide ((0:Int)≤IntKind.wrap .u8 (m:Int))&&decide (IntKind.wrap .u8 (m:Int)<(256:Int))) then (some (IntKind.wrap .i64 (c+IntKind.wrap .i64 ((UInt8.toNat (Ih.getD (Int.toNat (IntKind.wrap .u8 (m:Int))) 0):Nat):Int)),()):Option (DenS Fx)) else none)=some (((d+An m:Nat):Int),()):=fun m c d hm hc hd=>by
  have e:(decide ((0:Int)≤(m:Int))&&decide ((m:Int)<(256:Int)))=true:=by simp; omega
  have hb:An m≤8:=by
   have:=aHK m hm
   rcases Nat.eq_zero_or_pos m with rfl | hpos
   ·decide
   ·have:=I3 (n:=m) (by omega)
    have h8:An m-1<8:=(Nat.pow_lt_pow_iff_right (a:=2) (by decide)).1 (Nat.lt_of_le_of_lt this hm)
    omega
  rw [tab m hm,e,cond_true,Int.toNat_natCast,aHK m hm,hc,As (n:=((An m:Nat):Int)) (by omega),As (by omega)]
  rfl
 show Z9 n=_
 unfold Z9
 have BN:∀ (k:Nat),2^k≤n→k+An (n/2^k)=An n:=fun k h=>(rW h).symm
 have dd:∀ a b:Nat,n/2^a/2^b=n/2^(a+b):=fun a b=>by rw [Nat.div_div_eq_div_mul,← Nat.pow_add]
 have up:∀ a b:Nat,2^b≤n/2^a→2^(a+b)≤n:=fun a b h=>by
  rw [Nat.pow_add,Nat.mul_comm]
  exact (Nat.le_div_iff_mul_le (Nat.two_pow_pos a)).1 h
 have down:∀ a b:Nat,n/2^a<2^b→n<2^(a+b):=fun a b h=>by
  rw [Nat.pow_add,Nat.mul_comm]
  exact (Nat.div_lt_iff_lt_mul (Nat.two_pow_pos a)).1 h
 have small:∀ a:Nat,n<2^(a+8)→n/2^a<256:=fun a h=>by
  rw [Nat.div_lt_iff_lt_mul (Nat.two_pow_pos a),Nat.mul_comm]
  rw [Nat.pow_add] at h; exact h
 simp only [SA,s16,s8,g32,g16,g8]
 by_cases h1:2^32≤n
 ·rw [decide_eq_true h1,cond_true]
  by_cases h2:2^16≤n/2^32
  ·rw [decide_eq_true h2,cond_true]
   by_cases h3:2^8≤n/2^32/2^16
   ·rw [decide_eq_true h3,cond_true]
    rw [dd 32 16] at h3
    have hm:n/2^32/2^16/2^8=n/2^56:=by rw [dd 32 16,dd 48 8]
    refine (look (n/2^32/2^16/2^8) _ 56 (by rw [hm]; exact small 56 hn) rfl (by decide)).trans ?_
    rw [hm,BN 56 (up 48 8 h3)]
   ·rw [decide_eq_false h3,cond_false]
    rw [dd 32 16] at h3
    refine (look (n/2^32/2^16) _ 48 (by rw [dd 32 16]; exact small 48 (down 48 8 (by omega))) rfl (by decide)).trans ?_
    rw [dd 32 16,BN 48 (up 32 16 h2)]
  ·rw [decide_eq_false h2,cond_false]
   by_cases h3:2^8≤n/2^32
   ·rw [decide_eq_true h3,cond_true]
    refine (look (n/2^32/2^8) _ 40 (by rw [dd 32 8]; exact small 40 (down 32 16 (by omega))) rfl (by decide)).trans ?_
    rw [dd 32 8,BN 40 (up 32 8 h3)]
   ·rw [decide_eq_false h3,cond_false]
    refine (look (n/2^32) _ 32 (small 32 (down 32 8 (by omega))) rfl (by decide)).trans ?_
    rw [BN 32 h1]
 ·rw [decide_eq_false h1,cond_false]
  by_cases h2:2^16≤n
  ·rw [decide_eq_true h2,cond_true]
   by_cases h3:2^8≤n/2^16
   ·rw [decide_eq_true h3,cond_true]
    refine (look (n/2^16/2^8) _ 24 (by rw [dd 16 8]; exact small 24 (by omega)) rfl (by decide)).trans ?_
    rw [dd 16 8,BN 24 (up 16 8 h3)]
   ·rw [decide_eq_false h3,cond_false]
    refine (look (n/2^16) _ 16 (small 16 (down 16 8 (by omega))) rfl (by decide)).trans ?_
    rw [BN 16 h2]
  ·rw [decide_eq_false h2,cond_false]
   by_cases h3:2^8≤n
   ·rw [decide_eq_true h3,cond_true]
    refine (look (n/2^8) _ 8 (small 8 (by omega)) rfl (by decide)).trans ?_
    rw [BN 8 h3]
   ·rw [decide_eq_false h3,cond_false]
    refine (look n 0 0 (by omega) rfl (by decide)).trans ?_
    rw [Nat.zero_add]
end VL
namespace VL
open Go Vx
theorem RK (B:Nat):∀ (l m:List Nat),nv B (l++m)=nv B l+B^l.length*nv B m
 | [],m=>by simp [nv]
 | x::r,m=>by
  simp only [List.cons_append,nv,List.length_cons]
  rw [RK B r m,Nat.pow_succ,Nat.mul_add,Nat.add_assoc]
  congr 2
  rw [Nat.mul_comm (B^r.length) B,Nat.mul_assoc]
theorem DM {B:Nat} (hB:2≤B):∀ (l:List Nat),(∀ x∈l,x<B)→nv B l<B^l.length
 | [],_=>by simp [nv]
 | x::r,h=>by
  have ih:=DM hB r fun y hy=>h y (by simp [hy])
  have hx:=h x (by simp)
  simp only [nv,List.length_cons,Nat.pow_succ]
  have:B*nv B r≤B*(B^r.length-1):=Nat.mul_le_mul_left _ (by omega)
  have hp:0<B^r.length:=Nat.pow_pos (by omega)
  rw [Nat.mul_sub] at this
  have h1:B*1≤B*B^r.length:=Nat.mul_le_mul_left _ hp
  rw [Nat.mul_comm (B^r.length) B]
  omega
theorem Lb (B:Nat) (l:List Nat) (i:Nat) (h:i≤l.length):nv B l=nv B (l.take i)+B^i*nv B (l.drop i):=by
 conv=>lhs; rw [← List.take_append_drop i l]
 rw [RK]
 simp [h]
theorem Jn {B:Nat} (hB:2≤B) {l:List Nat} (h:∀ x∈l,x<B):nv B (Ai l)=nv B l:=by
 rw [Hj hB l h,lD hB]
theorem Sm {l:List Nat} {x:Nat} (h:x∈Ai l):x∈l:=by
 rw [(DX l).2] at h
 exact List.mem_of_mem_take h
theorem aDn {l:List Nat} {i:Nat} (h:i<(Ai l).length):(Ai l)[i]? = l[i]?:=by
 have:(Ai l)[i]? = (l.take (Ai l).length)[i]?:=congrArg (fun t:List Nat=>t[i]?) (DX l).2
 rw [this,List.getElem?_take_of_lt h]
theorem aLX {a b k:Nat} (ha:a<2^k) (hb:0<b):An (a+2^k*b)=k+An b:=by
 have hp:=Nat.two_pow_pos k
 have h1:2^k*1≤2^k*b:=Nat.mul_le_mul_left _ hb
 rw [rW (n:=a+2^k*b) (k:=k) (by omega),Nat.add_mul_div_left _ _ hp,Nat.div_eq_of_lt ha,Nat.zero_add]
theorem Cr (i:Nat):(2^64)^i=2^(64*i):=by rw [← Nat.pow_mul]
theorem yH {l:List Nat} (h:∀ x∈l,x<2^64) (hl:0<(Ai l).length):An (nv (2^64) l)=64*((Ai l).length-1)+An (l.getD ((Ai l).length-1) 0):=by
 have hlast:=XC l hl
 have hle:=(DX l).1
 rw [← Jn (by decide) h]
 have hm:∀ x∈Ai l,x<2^64:=fun x hx=>h x (Sm hx)
 rw [Lb _ (Ai l) ((Ai l).length-1) (by omega),Cr]
 have hd:(Ai l).drop ((Ai l).length-1)=[l.getD ((Ai l).length-1) 0]:=by
  have hlt:(Ai l).length-1<(Ai l).length:=by omega
  rw [List.drop_eq_getElem_cons hlt]
  have e1:(Ai l).length-1+1=(Ai l).length:=by omega
  rw [e1,List.drop_length]
  congr 1
  have:(Ai l)[(Ai l).length-1]? = l[(Ai l).length-1]?:=aDn hlt
  rw [List.getElem?_eq_getElem hlt] at this
  rw [List.getD_eq_getElem?_getD,← this]
  rfl
 rw [hd]
 have hlow:=DM (B:=2^64) (by decide) ((Ai l).take ((Ai l).length-1)) fun x hx=>hm x (List.mem_of_mem_take hx)
 rw [List.length_take,Nat.min_eq_left (by omega),Cr] at hlow
 have:nv (2^64) [l.getD ((Ai l).length-1) 0]=l.getD ((Ai l).length-1) 0:=by simp [nv]
 rw [this]
 exact aLX hlow (by omega)
theorem aAH {l:List Nat} (h:∀ x∈l,x<2^64) (h0:(Ai l).length=0):nv (2^64) l=0:=by
 have:Ai l=[]:=List.eq_nil_of_length_eq_zero h0
 rw [← Jn (by decide) h,this]; rfl
theorem Cm {l:List Nat} {B:Nat} (hB:0<B) (h:∀ x∈l,x<B) (i:Nat):l.getD i 0<B:=by
 rw [List.getD_eq_getElem?_getD]
 cases e:l[i]? with
 | none=>exact hB
 | some x=>exact h x (List.mem_of_getElem? e)
theorem aQU (l:List Nat) (hl:Ws l):Vp (Wd l,())=some ((An (nv (2^64) l):Int),()):=by
 obtain ⟨h,hlen⟩:=hl
 show eE Af.pre Af.F Bw.pre Bw.F (Wd l)=_
 unfold eE
 have p0:=DU l hlen
 have hle:=(DX l).1
 simp only [CV p0,CT p0,cond_true,Az]
 rcases Nat.eq_zero_or_pos (Ai l).length with h0 | h0
 ·rw [h0,aAH h h0]; rfl
 ·have e0:(((Ai l).length:Int)==0)=false:=by rw [Fo]; exact beq_false_of_ne (by omega)
  have e1:IntKind.wrap .i64 (((Ai l).length:Int)-1)=(((Ai l).length-1:Nat):Int):=Eo (Ai l).length 1 (by omega) (by omega)
  have e2:(decide ((0:Int)≤(((Ai l).length-1:Nat):Int))&&decide ((((Ai l).length-1:Nat):Int)<((Ai l).length:Int)))=true:=by simp only [Bool.and_eq_true,decide_eq_true_eq]; omega
  have e3:(Wd (Ai l)).getD ((Ai l).length-1) 0=((l.getD ((Ai l).length-1) 0:Nat):Int):=by
   rw [Ca]
   congr 1
   rw [List.getD_eq_getElem?_getD,List.getD_eq_getElem?_getD]
   rw [aDn (by omega)]
  have hd:=Cm (by decide) h ((Ai l).length-1)
  have p1:=Ta _ hd
  have hb:An (l.getD ((Ai l).length-1) 0)≤64:=by
   rcases Nat.eq_zero_or_pos (l.getD ((Ai l).length-1) 0) with z | z
   ·rw [z]; decide
   ·have:=I3 (n:=l.getD ((Ai l).length-1) 0) (by omega)
    have:An (l.getD ((Ai l).length-1) 0)-1<64:=(Nat.pow_lt_pow_iff_right (a:=2) (by decide)).1 (Nat.lt_of_le_of_lt this hd)
    omega
  rw [e0,e1,e2,cond_false,cond_true,Int.toNat_natCast,e3]
  simp only [S5 p1,Ut p1,cond_true]
  rw [yH h h0,As (n:=64*(((Ai l).length-1:Nat):Int)) (by omega),As (by omega)]
  congr 2
end VL
namespace VL
open Go Vx
theorem JV (x:Nat):IntKind.wrap .u64 (x:Int)=((x%2^64:Nat):Int):=by
 simp [IntKind.wrap,IntKind.bits,IntKind.signed]
 try omega
theorem Eg (x n:Nat) (hn:n≤64):AQ .u64 (x:Int) (n:Int)=((x*2^n%2^64:Nat):Int):=by
 have hm:(min (n:Int).toNat IntKind.u64.bits)=n:=by simp [IntKind.bits]; omega
 unfold AQ
 rw [hm]
 have e:(x:Int)*2^n=((x*2^n:Nat):Int):=by simp
 rw [e]
 exact JV _
theorem Fk {a b k:Nat} (ha:a<2^k) (h:a+b*2^k<2^64):A9 .u64 (a:Int) ((b*2^k:Nat):Int)=((a+b*2^k:Nat):Int):=by
 have key:(BitVec.ofInt 64 (a:Int) ||| BitVec.ofInt 64 ((b*2^k:Nat):Int)).toNat=a+b*2^k:=by
  rw [BitVec.toNat_or,GD (by omega),GD (by omega),Nat.mul_comm b,Nat.or_comm,← Nat.two_pow_add_eq_or_of_lt ha]
  omega
 show IntKind.u64.wrap (((BitVec.ofInt 64 (a:Int) ||| BitVec.ofInt 64 ((b*2^k:Nat):Int)).toNat:Nat):Int)=_
 rw [key]
 exact Ee (by omega)
def Bb (s:Nat):List Nat→List Nat
 | []=>[]
 | x::r=>(x/2^s+(r.getD 0 0%2^s)*2^(64-s))::Bb s r
theorem Li (s:Nat):∀ l,(Bb s l).length=l.length
 | []=>rfl
 | _::r=>by simp [Bb,Li s r]
theorem Zh (s:Nat):∀ (l:List Nat) (i:Nat),i<l.length→(Bb s l)[i]? = some (l.getD i 0/2^s+(l.getD (i+1) 0%2^s)*2^(64-s))
 | [],i,h=>by simp at h
 | x::r,0,_=>by simp [Bb]
 | x::r,i+1,h=>by
  simp only [Bb,List.getElem?_cons_succ]
  rw [Zh s r i (by simpa using h)]
  simp
theorem T3 {s:Nat} (hs:s≤64):2^64=2^s*2^(64-s):=by rw [← Nat.pow_add]; congr 1; omega
theorem gI {s:Nat} (hs:s≤64) {x y:Nat} (hx:x<2^64):x/2^s<2^(64-s)∧x/2^s+(y%2^s)*2^(64-s)<2^64:=by
 have hp:=Nat.two_pow_pos s
 have h1:x/2^s<2^(64-s):=by
  rw [Nat.div_lt_iff_lt_mul hp,Nat.mul_comm,← T3 hs]; exact hx
 refine ⟨h1,?_⟩
 have h2:y%2^s+1≤2^s:=Nat.mod_lt _ hp
 have h3:=Nat.mul_le_mul_right (2^(64-s)) h2
 rw [← T3 hs,Nat.add_mul,Nat.one_mul] at h3
 omega
theorem aLw {B:Nat} {s:Nat} (hB:B%2^s=0):∀ l:List Nat,nv B l%2^s=l.getD 0 0%2^s
 | []=>by simp [nv]
 | x::r=>by
  simp only [nv,List.getD_cons_zero]
  obtain ⟨c,hc⟩:=Nat.dvd_of_mod_eq_zero hB
  rw [hc,Nat.mul_assoc,Nat.add_mul_mod_self_left]
theorem wR {s:Nat} (hs:s≤64):∀ l:List Nat,nv (2^64) (Bb s l)=nv (2^64) l/2^s
 | []=>by simp [Bb,nv]
 | x::r=>by
  have ih:=wR hs r
  simp only [Bb,nv]
  rw [ih]
  have hp:=Nat.two_pow_pos s
  have hm:=aLw (B:=2^64) (s:=s) (by rw [T3 hs]; exact Nat.mul_mod_right _ _) r
  rw [← hm]
  have hN:nv (2^64) r=2^s*(nv (2^64) r/2^s)+nv (2^64) r%2^s:=(Nat.div_add_mod _ _).symm
  generalize nv (2^64) r/2^s=q at *
  generalize nv (2^64) r%2^s=t at *
  rw [hN]
  have e:x+2^64*(2^s*q+t)=x+2^s*(2^64*q+2^(64-s)*t):=by
   rw [Nat.mul_add,Nat.mul_add]
   have e1:2^64*(2^s*q)=2^s*(2^64*q):=by rw [← Nat.mul_assoc,← Nat.mul_assoc,Nat.mul_comm (2^64) (2^s)]
   have e2:2^64*t=2^s*(2^(64-s)*t):=by rw [← Nat.mul_assoc,← T3 hs]
   rw [e1,e2]
  rw [e,Nat.add_mul_div_left _ _ hp,Nat.mul_comm t]
  omega
end VL
end
