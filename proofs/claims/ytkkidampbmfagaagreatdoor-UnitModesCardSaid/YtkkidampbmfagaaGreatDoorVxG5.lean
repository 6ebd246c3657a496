/- Part 5 of the proof. What is proved: symbolic execution of the functions, proved sound; what each function of the program computes, and that every run ends with it; what these functions compute, in plain numbers. Conditions: each theorem bears its own. -/
import Derived.Test.YtkkidampbmfagaaGreatDoorVxG4
import Derived.IntWalk
set_option linter.all false
set_option exponentiation.threshold 1000000
noncomputable section
namespace Vx
open Go Go.Proofs
variable (p69:BM) (f69:BQ) (p66:Cm) (f66:Cj) (p65:Ex) (f65:Ez) (p70:D3) (f70:D8) (p98:JH) (f98:II) (p119:XY) (f119:Yh) (p155:Df) (f155:Dd) (p123:Sb) (f123:So) (p118:G8) (f118:GD) (p105:Vv) (f105:TH) (p173:A7) (f173:A8) (p102:GM) (f102:G3) (p178:He) (f178:Hx) (p92:JE) (f92:JQ) (p185:Vu) (f185:UC) (p141:Vk) (f141:Vi) (p143:Nj) (f143:PH) (p97:NO) (f97:MQ) (p107:Uh) (f107:UX) (p122:HX) (f122:Ik) (p115:Zd) (f115:XA) (p64:TT) (f64:Vr) (p315:EF) (f315:EH) (p316:Tk) (f316:Uv) (p40:Pk) (f40:Rd) (p144:Jm) (f144:IB) (p145:UV) (f145:TG) (p311:uB) (f311:tG) (p312:u5) (f312:wH) (p313:r4) (f313:qC) (p314:oB) (f314:tF)
abbrev PS:Ab:=[(true,.pair (.int .u64) (.pair (.int .u64) (.unit)))]
abbrev RF:Ab:=[(false,.int .u64),(false,.bool)]
abbrev G2:Pat:=⟨28,[(6,.one (.v .i64)),(2,.one (.v .u64)),(1,.one (.ptr 0 0))],[.raw [.v .u64,.v .u64]]⟩
abbrev mI:List (Nat×Shape):=[]
abbrev KJ:List (Nat×Pat):=[(0,⟨28,[(2,.one (.v .u64)),(1,.one (.ptr 0 0))],[.raw [.v .u64,.v .u64]]⟩)]
abbrev L6:Option Pat:=none
variable (w317_2:Pat.D G2->Option (Ah KJ L6))
def Vf (p123:Sb) (f123:So) (p316:Tk) (f316:Uv) {R:Type} (L:Pat.D G2->Option R) (e:Ah KJ L6->Option R) (x:Pat.D G2):Option R :=
 let e5_:=(IntKind.wrap .i64 ((63:Int)-x.1.1))
 let e4_:=(AW .u64 x.1.2.1 (AT .u64 (1:Int) e5_))
 let e1_:=((f316 (e4_,e4_,())).1,x.2)
 let e2_:=e4_
 let e3_:=(IntKind.wrap .i64 (x.1.1+(1:Int)))
 bif (decide (x.1.1<(64:Int))) then (bif (decide ((0:Int)<=e5_)) then (bif (p316 (e2_,e2_,())) then (bif (p123 e1_) then (bif (decide ((f123 e1_).1<=(0:Int))) then (((L ((e3_,e2_,(),()),x.2))))
 else (L ((e3_,x.1.2.1,(),()),x.2)))
 else none)
 else none)
 else none)
 else (e (.inl ((x.1.2.1,(),()),x.2)))
theorem aRl (d:Nat) (R:Type) (L:Pat.D G2->Option R) (e:Ah KJ L6->Option R) (x:Pat.D G2) :
  BB (cf [(117,⟨GH,Ht,p123,f123⟩),(67,⟨Jq,Jv,p316,f316⟩)] [(137,2,LoopSpec.of G2 mI KJ L6 w317_2)]) (d+2) 137 (By Tryz.f137 2) G2 mI KJ L6 (R:=R) L e x=Vf p123 f123 p316 f316 L e x:=by kernel_rfl
theorem aGv (p123:Sb) (f123:So) (p316:Tk) (f316:Uv):Bs fun L e x=>Vf p123 f123 p316 f316 L e x:=by intro _ _ _ _ _ _ _ h0 hL he _; unfold Vf; repeat' (first | exact h0 | exact hL _ | exact he _ | apply BU | (apply BX h0; intro _) | (apply B5 <;> intro _))
def lV (p123:Sb) (f123:So) (p316:Tk) (f316:Uv) (w317_2:Pat.D G2->Option (Ah KJ L6)) (a0:Aa (.pair (.int .u64) (.pair (.int .u64) (.unit)))):Option (DenS RF) :=
 Vx.A1 (w317_2 (((0:Int),(0:Int),(),()),(a0.1,a0.2),())) fun y0 =>
 Vx.A6 y0 (fun y1 =>
 bif (p316 (y1.1.1,y1.1.1,())) then (some (y1.1.1,(((f316 (y1.1.1,y1.1.1,())).1.1==y1.2.1.1)&&((f316 (y1.1.1,y1.1.1,())).1.2.1==y1.2.1.2.1)),()))
 else none) (fun z1 =>
 none)
theorem aPV (x:DenS PS):run (cf [(117,⟨GH,Ht,p123,f123⟩),(67,⟨Jq,Jv,p316,f316⟩)] [(137,2,LoopSpec.of G2 mI KJ L6 w317_2)]) 9 137 Tryz.f137 PS RF x=lV p123 f123 p316 f316 w317_2 x.1:=by kernel_rfl
def Wq:G2.D->Option (Ah KJ L6):=Bf fun L=>Vf Dt.pre Dt.F C7.pre C7.F L some
def U8 (x:DenS PS):Option (DenS RF):=lV Dt.pre Dt.F C7.pre C7.F Wq x.1
def QN:Sum:=Al PS RF U8 (DenS.dflt RF)
theorem aMn:Sound Tryz.prog G1 137 QN:=sd (cf [(117,Dt),(67,C7)] [(137,2,LoopSpec.of G2 mI KJ L6 Wq)]) 137 Tryz.f137 ⟨aFU,aBY,trivial⟩ ⟨rfl,fun d=>Ca (fun L e x=>Vf Dt.pre Dt.F C7.pre C7.F L e x) (aGv Dt.pre Dt.F C7.pre C7.F) (fun _ _ _ _=>aRl ..),trivial⟩ PS RF U8 _ (fun _=>aPV ..)
abbrev aEP:=Ak PS
abbrev aHc:=Aj PS RF
variable (p317:aEP) (f317:aHc)
abbrev Qn:Ab:=[(false,.int .i64),(false,.int .i64),(false,.int .u64)]
abbrev Od:Ab:=[(false,.int .u64),(false,.int .i64),(false,.int .i64)]
def fG (p311:uB) (f311:tG) (p65:Ex) (f65:Ez) (p312:u5) (f312:wH) (p313:r4) (f313:qC) (p314:oB) (f314:tF) (p119:XY) (f119:Yh) (p317:aEP) (f317:aHc) (p122:HX) (f122:Ik) (a0 a1:Aa (.int .i64)) (a2:Aa (.int .u64)):Option (DenS Od) :=
 let e16_:=(a0,(f311 (a0,a1,(a2::[]),())).1,a2,())
 let e15_:=(f313 e16_)
 let e14_:=((0:Int),e15_.1,())
 let e13_:=(e14_,())
 let e12_:=(IntKind.wrap .i64 ((126:Int)-(f314 e13_).1))
 let e11_:=(IntKind.wrap .i64 (e12_+(1:Int)))
 let e8_:=(e14_,e11_,())
 let e7_:=(f317 (f119 e8_))
 let e1_:=(a0,a1,false,((0:Int),e7_.1,()),(Bz .i64 (IntKind.wrap .i64 (e15_.2.1-e11_)) (2:Int)),(!e7_.2.1),())
 let e10_:=(e14_,e12_,())
 let e9_:=(f317 (f119 e10_))
 let e2_:=(a0,a1,false,((0:Int),e9_.1,()),(Bz .i64 (IntKind.wrap .i64 (e15_.2.1-e12_)) (2:Int)),(!e9_.2.1),())
 let e3_:=e8_
 let e4_:=e10_
 let e5_:=e13_
 let e6_:=e16_
 bif (p311 (a0,a1,(a2::[]),())) then (bif ((f311 (a0,a1,(a2::[]),())).2.1 != (0:Int)) then (some ((0:Int),(0:Int),(f311 (a0,a1,(a2::[]),())).2))
 else bif (p65 (a0,a2,())) then (bif (p312 (a0,(f65 (a0,a2,())).1,())) then (bif (f312 (a0,(f65 (a0,a2,())).1,())).2.2.1 then (some ((f312 (a0,(f65 (a0,a2,())).1,())).1,(f312 (a0,(f65 (a0,a2,())).1,())).2.1,(0:Int),()))
 else bif ((((f65 (a0,a2,())).1==(9:Int))||((f65 (a0,a2,())).1==(6:Int)))||((f65 (a0,a2,())).1==(5:Int))) then (some (a2,(0:Int),(0:Int),()))
 else bif (p313 e6_) then (bif (p314 e5_) then (bif ((Int.tmod (IntKind.wrap .i64 ((f313 e6_).2.1-(IntKind.wrap .i64 ((126:Int)-(f314 e5_).1)))) (2:Int)) != (0:Int)) then (bif (p119 e3_) then (bif (p317 (f119 e3_)) then (bif (p122 e1_) then (some (f122 e1_))
 else none)
 else none)
 else none)
 else bif (p119 e4_) then (bif (p317 (f119 e4_)) then (bif (p122 e2_) then (some (f122 e2_))
 else none)
 else none)
 else none)
 else none)
 else none)
 else none)
 else none)
 else none
theorem aUX (x:DenS Qn):run (cf [(133,⟨Q6,Rs,p311,f311⟩),(55,⟨DO,DV,p65,f65⟩),(134,⟨Qj,PK,p312,f312⟩),(135,⟨Qo,Rj,p313,f313⟩),(136,⟨M4,OK,p314,f314⟩),(114,⟨H2,JP,p119,f119⟩),(137,⟨PS,RF,p317,f317⟩),(66,⟨E1,Fc,p122,f122⟩)] []) 9 92 Tryz.f92 Qn Od x=fG p311 f311 p65 f65 p312 f312 p313 f313 p314 f314 p119 f119 p317 f317 p122 f122 x.1 x.2.1 x.2.2.1:=by kernel_rfl
def WV (x:DenS Qn):Option (DenS Od):=fG QC.pre QC.F AF.pre AF.F Nk.pre Nk.F Ri.pre Ri.F Ql.pre Ql.F AG.pre AG.F QN.pre QN.F A4.pre A4.F x.1 x.2.1 x.2.2.1
def M6:Sum:=Al Qn Od WV (DenS.dflt Od)
theorem aNL:Sound Tryz.prog G1 92 M6:=sd (cf [(133,QC),(55,AF),(134,Nk),(135,Ri),(136,Ql),(114,AG),(137,QN),(66,A4)] []) 92 Tryz.f92 ⟨aQv,HW,aSY,aNs,aPI,aBu,aMn,Vn,trivial⟩ trivial Qn Od WV _ (fun _=>aUX ..)
abbrev uV:=Ak Qn
abbrev oC:=Aj Qn Od
variable (p318:uV) (f318:oC)
abbrev Po:Ab:=[(true,.pair (.int .i64) (.pair (.int .i64) (.pair (.int .u64) (.pair (.int .u64) (.pair (.int .u64) (.unit))))))]
abbrev ON:Ab:=[(false,.int .u64),(false,.int .i64),(false,.int .i64)]
def lO (p318:uV) (f318:oC) (a0:Aa (.pair (.int .i64) (.pair (.int .i64) (.pair (.int .u64) (.pair (.int .u64) (.pair (.int .u64) (.unit))))))):Option (DenS ON) :=
 bif (p318 (a0.2.1,a0.1,a0.2.2.1,())) then (some (f318 (a0.2.1,a0.1,a0.2.2.1,())))
 else none
theorem aKX (x:DenS Po):run (cf [(92,⟨Qn,Od,p318,f318⟩)] []) 9 181 Tryz.f181 Po ON x=lO p318 f318 x.1:=by kernel_rfl
def Zv (x:DenS Po):Option (DenS ON):=lO M6.pre M6.F x.1
def K6:Sum:=Al Po ON Zv (DenS.dflt ON)
theorem aGW:Sound Tryz.prog G1 181 K6:=sd (cf [(92,M6)] []) 181 Tryz.f181 ⟨aNL,trivial⟩ trivial Po ON Zv _ (fun _=>aKX ..)
abbrev oT:=Ak Po
abbrev tW:=Aj Po ON
variable (p396:oT) (f396:tW)
abbrev Ob:Ab:=[(false,.int .i64),(false,.int .i64),(false,.slice (.int .u64))]
abbrev Pb:Ab:=[(false,.int .i64)]
abbrev Hq:Pat:=⟨39,[(27,.one (.v .i64)),(26,.one (.sl (.int .u64))),(0,.one (.v .i64)),(28,.one (.v .i64))],[]⟩
abbrev aA:List (Nat×Shape):=[]
abbrev KR:List (Nat×Pat):=[(0,⟨39,[],[]⟩)]
abbrev KX:Option Pat:=(some ⟨39,[(6,.one (.v .i64))],[]⟩)
variable (w397_7:Pat.D Hq->Option (Ah KR KX))
def Xe (p69:BM) (f69:BQ) (p66:Cm) (f66:Cj) {R:Type} (L:Pat.D Hq->Option R) (e:Ah KR KX->Option R) (x:Pat.D Hq):Option R :=
 let e2_:=(x.1.2.2.1,(x.1.2.1.getD (Int.toNat x.1.2.2.2.1) (0:Int)),())
 let e1_:=(f66 e2_)
 bif (decide (x.1.2.2.2.1<x.1.1)) then (bif ((decide ((0:Int)<=x.1.2.2.2.1))&&(decide (x.1.2.2.2.1<(x.1.2.1.length:Int)))) then (bif (p66 e2_) then (bif (e1_.1 != (0:Int)) then (((e (.inr (e1_,())))))
 else (L ((x.1.1,x.1.2.1,x.1.2.2.1,(IntKind.wrap .i64 (x.1.2.2.2.1+(1:Int))),()),())))
 else none)
 else none)
 else (e (.inl ((),())))
theorem aRW (d:Nat) (R:Type) (L:Pat.D Hq->Option R) (e:Ah KR KX->Option R) (x:Pat.D Hq) :
  BB (cf [(54,⟨Ck,Cn,p69,f69⟩),(59,⟨CJ,CM,p66,f66⟩)] [(138,7,LoopSpec.of Hq aA KR KX w397_7)]) (d+2) 138 (By Tryz.f138 7) Hq aA KR KX (R:=R) L e x=Xe p69 f69 p66 f66 L e x:=by kernel_rfl
theorem aSd (p69:BM) (f69:BQ) (p66:Cm) (f66:Cj):Bs fun L e x=>Xe p69 f69 p66 f66 L e x:=by intro _ _ _ _ _ _ _ h0 hL he _; unfold Xe; repeat' (first | exact h0 | exact hL _ | exact he _ | apply BU | (apply BX h0; intro _) | (apply B5 <;> intro _))
def aHI (p69:BM) (f69:BQ) (p66:Cm) (f66:Cj) (w397_7:Pat.D Hq->Option (Ah KR KX)) (a0 a1:Aa (.int .i64)) (a2:Aa (.slice (.int .u64))):Option (DenS Pb) :=
 bif (p69 (a0,())) then (bif ((f69 (a0,())).2.1 != (0:Int)) then (some (f69 (a0,())).2)
 else bif ((decide (a1<(0:Int)))||(decide (a1>(5:Int)))) then (some ((3:Int),()))
 else Vx.A1 (w397_7 (((a2.length:Int),a2,a0,(0:Int),()),())) fun y3 =>
 Vx.A6 y3 (fun y4 =>
 some ((0:Int),())) (fun z4 =>
 some z4.1))
 else none
theorem aTG (x:DenS Ob):run (cf [(54,⟨Ck,Cn,p69,f69⟩),(59,⟨CJ,CM,p66,f66⟩)] [(138,7,LoopSpec.of Hq aA KR KX w397_7)]) 9 138 Tryz.f138 Ob Pb x=aHI p69 f69 p66 f66 w397_7 x.1 x.2.1 x.2.2.1:=by kernel_rfl
def aDY:Hq.D->Option (Ah KR KX):=Bf fun L=>Xe Aq.pre Aq.F Ar.pre Ar.F L some
def VO (x:DenS Ob):Option (DenS Pb):=aHI Aq.pre Aq.F Ar.pre Ar.F aDY x.1 x.2.1 x.2.2.1
def Nt:Sum:=Al Ob Pb VO (DenS.dflt Pb)
theorem aPb:Sound Tryz.prog G1 138 Nt:=sd (cf [(54,Aq),(59,Ar)] [(138,7,LoopSpec.of Hq aA KR KX aDY)]) 138 Tryz.f138 ⟨Er,Ge,trivial⟩ ⟨rfl,fun d=>Ca (fun L e x=>Xe Aq.pre Aq.F Ar.pre Ar.F L e x) (aSd Aq.pre Aq.F Ar.pre Ar.F) (fun _ _ _ _=>aRW ..),trivial⟩ Ob Pb VO _ (fun _=>aTG ..)
abbrev yQ:=Ak Ob
abbrev aAZ:=Aj Ob Pb
variable (p397:yQ) (f397:aAZ)
abbrev Mo:Ab:=[(false,.int .i64),(false,.int .u64)]
abbrev MB:Ab:=[(true,.pair (.bool) (.pair (.bool) (.pair (.bool) (.pair (.bool) (.pair (.bool) (.pair (.pair (.bool) (.pair (.slice (.int .u64)) (.pair (.int .i64) (.unit)))) (.unit)))))))]
def jB (p65:Ex) (f65:Ez) (p98:JH) (f98:II) (p40:Pk) (f40:Rd) (a0:Aa (.int .i64)) (a1:Aa (.int .u64)):Option (DenS MB) :=
 let e1_:=(((f65 (a0,a1,())).1==(2:Int))||((f65 (a0,a1,())).1==(9:Int)))
 bif (p65 (a0,a1,())) then (bif (p98 (a0,a1,())) then (bif ((!(decide ((f65 (a0,a1,())).1<=(1:Int))))&&(!e1_)) then (bif (p40 (a0,a1,())) then (some (((decide ((f65 (a0,a1,())).1<=(1:Int))),((f65 (a0,a1,())).1==(0:Int)),false,e1_,(f98 (a0,a1,())).1,(f40 (a0,a1,())).1,()),()))
 else none)
 else some (((decide ((f65 (a0,a1,())).1<=(1:Int))),((f65 (a0,a1,())).1==(0:Int)),false,e1_,(f98 (a0,a1,())).1,(false,[],(0:Int),()),()),()))
 else none)
 else none
theorem aH1 (x:DenS Mo):run (cf [(55,⟨DO,DV,p65,f65⟩),(119,⟨FL,Fi,p98,f98⟩),(71,⟨Gp,GG,p40,f40⟩)] []) 9 141 Tryz.f141 Mo MB x=jB p65 f65 p98 f98 p40 f40 x.1 x.2.1:=by kernel_rfl
def Y9 (x:DenS Mo):Option (DenS MB):=jB AF.pre AF.F Bo.pre Bo.F CA.pre CA.F x.1 x.2.1
def E4:Sum:=Al Mo MB Y9 (DenS.dflt MB)
theorem aCR:Sound Tryz.prog G1 141 E4:=sd (cf [(55,AF),(119,Bo),(71,CA)] []) 141 Tryz.f141 ⟨HW,RU,ZR,trivial⟩ trivial Mo MB Y9 _ (fun _=>aH1 ..)
abbrev rB:=Ak Mo
abbrev qD:=Aj Mo MB
variable (p398:rB) (f398:qD)
abbrev Ls:Ab:=[(true,.pair (.bool) (.pair (.slice (.int .u64)) (.pair (.int .i64) (.unit))))]
abbrev LA:Ab:=[(false,.int .i64)]
def bB (p102:GM) (f102:G3) (a0:Aa (.pair (.bool) (.pair (.slice (.int .u64)) (.pair (.int .i64) (.unit))))):Option (DenS LA) :=
 bif (p102 (a0.2.1,())) then (bif (((f102 (a0.2.1,())).1.length:Int)==(0:Int)) then (some ((0:Int),()))
 else bif a0.1 then (some ((-(1:Int)),()))
 else some ((1:Int),()))
 else none
theorem r47 (x:DenS Ls):run (cf [(122,⟨FI,FD,p102,f102⟩)] []) 9 196 Tryz.f196 Ls LA x=bB p102 f102 x.1:=by kernel_rfl
def VC (x:DenS Ls):Option (DenS LA):=bB Bg.pre Bg.F x.1
def DK:Sum:=Al Ls LA VC (DenS.dflt LA)
theorem aEh:Sound Tryz.prog G1 196 DK:=sd (cf [(122,Bg)] []) 196 Tryz.f196 ⟨Xl,trivial⟩ trivial Ls LA VC _ (fun _=>r47 ..)
abbrev qH:=Ak Ls
abbrev qS:=Aj Ls LA
variable (p47:qH) (f47:qS)
abbrev KY:Ab:=[(true,.pair (.bool) (.pair (.slice (.int .u64)) (.pair (.int .i64) (.unit))))]
abbrev Ko:Ab:=[(false,.int .i64)]
def aZ (a0:Aa (.pair (.bool) (.pair (.slice (.int .u64)) (.pair (.int .i64) (.unit))))):Option (DenS Ko) :=
 bif (decide ((a0.2.1.length:Int)>(1024:Int))) then (some ((5:Int),()))
 else bif ((decide (a0.2.2.1<(-(40000:Int))))||(decide (a0.2.2.1>(40000:Int)))) then (some ((30:Int),()))
 else some ((0:Int),())
theorem aQR (x:DenS KY):run (cf [] []) 9 253 Tryz.f253 KY Ko x=aZ x.1:=by kernel_rfl
def H9 (x:DenS KY):Option (DenS Ko):=aZ x.1
def E8:Sum:=Al KY Ko H9 (DenS.dflt Ko)
theorem aC7:Sound Tryz.prog G1 253 E8:=sd (cf [] []) 253 Tryz.f253 trivial trivial KY Ko H9 _ (fun _=>aQR ..)
abbrev uY:=Ak KY
abbrev q7:=Aj KY Ko
variable (p103:uY) (f103:q7)
abbrev Mn:Ab:=[(true,.pair (.bool) (.pair (.slice (.int .u64)) (.pair (.int .i64) (.unit)))),(true,.pair (.bool) (.pair (.slice (.int .u64)) (.pair (.int .i64) (.unit))))]
abbrev Ly:Ab:=[(false,.int .i64)]
def Vg (p103:uY) (f103:q7) (a0 a1:Aa (.pair (.bool) (.pair (.slice (.int .u64)) (.pair (.int .i64) (.unit))))):Option (DenS Ly) :=
 bif (p103 ((a0.1,a0.2),())) then (bif ((f103 ((a0.1,a0.2),())).1 != (0:Int)) then (some (f103 ((a0.1,a0.2),())))
 else bif (p103 ((a1.1,a1.2),())) then (some (f103 ((a1.1,a1.2),())))
 else none)
 else none
theorem r99 (x:DenS Mn):run (cf [(253,⟨KY,Ko,p103,f103⟩)] []) 9 260 Tryz.f260 Mn Ly x=Vg p103 f103 x.1 x.2.1:=by kernel_rfl
def PR (x:DenS Mn):Option (DenS Ly):=Vg E8.pre E8.F x.1 x.2.1
def F2:Sum:=Al Mn Ly PR (DenS.dflt Ly)
theorem aDW:Sound Tryz.prog G1 260 F2:=sd (cf [(253,E8)] []) 260 Tryz.f260 ⟨aC7,trivial⟩ trivial Mn Ly PR _ (fun _=>r99 ..)
abbrev nB:=Ak Mn
abbrev m8:=Aj Mn Ly
variable (p99:nB) (f99:m8)
abbrev HM:Ab:=[(true,.pair (.bool) (.pair (.slice (.int .u64)) (.pair (.int .i64) (.unit))))]
abbrev HD:Ab:=[(true,.pair (.bool) (.pair (.slice (.int .u64)) (.pair (.int .i64) (.unit))))]
abbrev Gn:Pat:=⟨42,[(4,.one (.v .i64)),(3,.one (.sl (.int .u64))),(1,.one (.ptr 0 0)),(2,.one (.ptr 1 0))],[.raw [.bool,.sl (.int .u64),.v .i64],.raw [.bool,.sl (.int .u64),.v .i64]]⟩
abbrev fZ:List (Nat×Shape):=[]
abbrev KD:List (Nat×Pat):=[(0,⟨42,[(4,.one (.v .i64)),(3,.one (.sl (.int .u64))),(1,.one (.ptr 0 0)),(2,.one (.ptr 1 0))],[.raw [.bool,.sl (.int .u64),.v .i64],.raw [.bool,.sl (.int .u64),.v .i64]]⟩)]
abbrev LO:Option Pat:=none
variable (w100_5:Pat.D Gn->Option (Ah KD LO))
def VP (p102:GM) (f102:G3) (p92:JE) (f92:JQ) (p141:Vk) (f141:Vi) {R:Type} (L:Pat.D Gn->Option R) (e:Ah KD LO->Option R) (x:Pat.D Gn):Option R :=
 bif ((decide ((0:Int)<=(Bz .i64 x.1.1 (64:Int))))&&(decide ((Bz .i64 x.1.1 (64:Int))<(x.1.2.1.length:Int)))) then (bif ((x.1.2.1.getD (Int.toNat (Bz .i64 x.1.1 (64:Int))) (0:Int))==(0:Int)) then (((L (((IntKind.wrap .i64 (x.1.1+(64:Int))),x.1.2.1,(),(),()),x.2))))
 else (e (.inl ((x.1.1,x.1.2.1,(),(),()),x.2))))
 else none
theorem aNI (d:Nat) (R:Type) (L:Pat.D Gn->Option R) (e:Ah KD LO->Option R) (x:Pat.D Gn) :
  BB (cf [(122,⟨FI,FD,p102,f102⟩),(127,⟨GZ,G9,p92,f92⟩),(247,⟨JL,Jy,p141,f141⟩)] [(262,5,LoopSpec.of Gn fZ KD LO w100_5)]) (d+2) 262 (By Tryz.f262 5) Gn fZ KD LO (R:=R) L e x=VP p102 f102 p92 f92 p141 f141 L e x:=by kernel_rfl
theorem aA4 (p102:GM) (f102:G3) (p92:JE) (f92:JQ) (p141:Vk) (f141:Vi):Bs fun L e x=>VP p102 f102 p92 f92 p141 f141 L e x:=by intro _ _ _ _ _ _ _ h0 hL he _; unfold VP; repeat' (first | exact h0 | exact hL _ | exact he _ | apply BU | (apply BX h0; intro _) | (apply B5 <;> intro _))
def dA (p102:GM) (f102:G3) (p92:JE) (f92:JQ) (p141:Vk) (f141:Vi) (w100_5:Pat.D Gn->Option (Ah KD LO)) (a0:Aa (.pair (.bool) (.pair (.slice (.int .u64)) (.pair (.int .i64) (.unit))))):Option (DenS HD) :=
 bif (p102 (a0.2.1,())) then (bif (((f102 (a0.2.1,())).1.length:Int)==(0:Int)) then (some ((false,[],(0:Int),()),()))
 else Vx.A1 (w100_5 (((0:Int),(f102 (a0.2.1,())).1,(),(),()),(a0.1,a0.2),(false,[],(0:Int),()),())) fun y2 =>
 Vx.A6 y2 (fun y3 =>
 bif ((decide ((0:Int)<=(Bz .i64 y3.1.1 (64:Int))))&&(decide ((Bz .i64 y3.1.1 (64:Int))<(y3.1.2.1.length:Int)))) then (bif (p92 ((y3.1.2.1.getD (Int.toNat (Bz .i64 y3.1.1 (64:Int))) (0:Int)),())) then (bif (p141 (y3.1.2.1,(IntKind.wrap .i64 (y3.1.1+(f92 ((y3.1.2.1.getD (Int.toNat (Bz .i64 y3.1.1 (64:Int))) (0:Int)),())).1)),())) then (some ((y3.2.1.1,(f141 (y3.1.2.1,(IntKind.wrap .i64 (y3.1.1+(f92 ((y3.1.2.1.getD (Int.toNat (Bz .i64 y3.1.1 (64:Int))) (0:Int)),())).1)),())).1,(IntKind.wrap .i64 (y3.2.1.2.2.1+(IntKind.wrap .i64 (y3.1.1+(f92 ((y3.1.2.1.getD (Int.toNat (Bz .i64 y3.1.1 (64:Int))) (0:Int)),())).1)))),()),()))
 else none)
 else none)
 else none) (fun z3 =>
 none))
 else none
theorem aOK (x:DenS HM):run (cf [(122,⟨FI,FD,p102,f102⟩),(127,⟨GZ,G9,p92,f92⟩),(247,⟨JL,Jy,p141,f141⟩)] [(262,5,LoopSpec.of Gn fZ KD LO w100_5)]) 9 262 Tryz.f262 HM HD x=dA p102 f102 p92 f92 p141 f141 w100_5 x.1:=by kernel_rfl
def Ys:Gn.D->Option (Ah KD LO):=Bf fun L=>VP Bg.pre Bg.F BG.pre BG.F DS.pre DS.F L some
def E5 (x:DenS HM):Option (DenS HD):=dA Bg.pre Bg.F BG.pre BG.F DS.pre DS.F Ys x.1
def CN:Sum:=Al HM HD E5 (DenS.dflt HD)
theorem aH:Sound Tryz.prog G1 262 CN:=sd (cf [(122,Bg),(127,BG),(247,DS)] [(262,5,LoopSpec.of Gn fZ KD LO Ys)]) 262 Tryz.f262 ⟨Xl,pN,xZ,trivial⟩ ⟨rfl,fun d=>Ca (fun L e x=>VP Bg.pre Bg.F BG.pre BG.F DS.pre DS.F L e x) (aA4 Bg.pre Bg.F BG.pre BG.F DS.pre DS.F) (fun _ _ _ _=>aNI ..),trivial⟩ HM HD E5 _ (fun _=>aOK ..)
abbrev Xi:=Ak HM
abbrev WA:=Aj HM HD
variable (p100:Xi) (f100:WA)
abbrev MS:Ab:=[(false,.slice (.int .u64)),(false,.slice (.int .u64))]
abbrev OZ:Ab:=[(false,.slice (.int .u64))]
abbrev Fw:Pat:=⟨84,[(25,.one (.v .i64)),(24,.one (.sl (.int .u64))),(1,.one (.sl (.int .u64))),(26,.one (.v .i64)),(5,.one (.own 0))],[.arr (.int .u64)]⟩
abbrev YK:List (Nat×Shape):=[]
abbrev Jz:List (Nat×Pat):=[(0,⟨84,[(5,.one (.own 0))],[.arr (.int .u64)]⟩)]
abbrev I6:Option Pat:=none
abbrev Fx:Pat:=⟨84,[(32,.one (.v .i64)),(31,.one (.sl (.int .u64))),(7,.one (.v .u64)),(33,.one (.v .i64)),(6,.one (.v .i64)),(8,.one (.v .u64)),(26,.one (.v .i64)),(25,.one (.v .i64)),(24,.one (.sl (.int .u64))),(1,.one (.sl (.int .u64))),(5,.one (.own 0))],[.arr (.int .u64)]⟩
abbrev Yi:List (Nat×Shape):=[]
abbrev GQ:List (Nat×Pat):=[(2,⟨84,[(6,.one (.v .i64)),(8,.one (.v .u64)),(26,.one (.v .i64)),(25,.one (.v .i64)),(24,.one (.sl (.int .u64))),(1,.one (.sl (.int .u64))),(5,.one (.own 0))],[.arr (.int .u64)]⟩)]
abbrev GL:Option Pat:=none
variable (w324_4:Pat.D Fw->Option (Ah Jz I6)) (w324_8:Pat.D Fx->Option (Ah GQ GL))
def U3 (p315:EF) (f315:EH) (p155:Df) (f155:Dd) (p173:A7) (f173:A8) {R:Type} (L:Pat.D Fx->Option R) (e:Ah GQ GL->Option R) (x:Pat.D Fx):Option R :=
 let e10_:=(x.1.2.2.1,(x.1.2.1.getD (Int.toNat x.1.2.2.2.1) (0:Int)),())
 let e8_:=(f315 e10_)
 let e11_:=(IntKind.wrap .i64 (x.1.2.2.2.2.1+x.1.2.2.2.1))
 let e9_:=(Int.toNat e11_)
 let e7_:=(f155 (e8_.2.1,(x.2.1.getD e9_ (0:Int)),(0:Int),()))
 let e1_:=(f155 (e7_.1,x.1.2.2.2.2.2.1,(0:Int),()))
 let e2_:=e7_
 let e3_:=((decide ((0:Int)<=e11_))&&(decide (e11_<(x.2.1.length:Int))))
 let e4_:=(x.1.2.2.2.2.2.2.1,x.1.2.2.2.2.2.2.2.1,x.1.2.2.2.2.2.2.2.2.1,x.1.2.2.2.2.2.2.2.2.2.1,(),())
 let e5_:=e8_
 let e6_:=e9_
 bif (decide (x.1.2.2.2.1<x.1.1)) then (bif ((decide ((0:Int)<=x.1.2.2.2.1))&&(decide (x.1.2.2.2.1<(x.1.2.1.length:Int)))) then (bif (p315 e10_) then (bif e3_ then (bif (p155 (e5_.2.1,(x.2.1.getD e6_ (0:Int)),(0:Int),())) then (bif (p155 (e2_.1,x.1.2.2.2.2.2.1,(0:Int),())) then (bif e3_ then (((L ((x.1.1,x.1.2.1,x.1.2.2.1,(IntKind.wrap .i64 (x.1.2.2.2.1+(1:Int))),x.1.2.2.2.2.1,(IntKind.wrap .u64 ((IntKind.wrap .u64 (e5_.1+e2_.2.1))+e1_.2.1)),e4_),(x.2.1.set e6_ e1_.1),()))))
 else none)
 else none)
 else none)
 else none)
 else none)
 else none)
 else (e (.inl ((x.1.2.2.2.2.1,x.1.2.2.2.2.2.1,e4_),x.2)))
theorem aQE (d:Nat) (R:Type) (L:Pat.D Fx->Option R) (e:Ah GQ GL->Option R) (x:Pat.D Fx) :
  BB (cf [(126,⟨EL,EA,p315,f315⟩),(165,⟨E3,Fr,p155,f155⟩),(169,⟨Bt,Bu,p173,f173⟩)] [(307,4,LoopSpec.of Fw YK Jz I6 w324_4),(307,8,LoopSpec.of Fx Yi GQ GL w324_8)]) (d+2) 307 (By Tryz.f307 8) Fx Yi GQ GL (R:=R) L e x=U3 p315 f315 p155 f155 p173 f173 L e x:=by kernel_rfl
theorem aAg (p315:EF) (f315:EH) (p155:Df) (f155:Dd) (p173:A7) (f173:A8):Bs fun L e x=>U3 p315 f315 p155 f155 p173 f173 L e x:=by intro _ _ _ _ _ _ _ h0 hL he _; unfold U3; repeat' (first | exact h0 | exact hL _ | exact he _ | apply BU | (apply BX h0; intro _) | (apply B5 <;> intro _))
def Vt (p315:EF) (f315:EH) (p155:Df) (f155:Dd) (p173:A7) (f173:A8) (w324_8:Pat.D Fx->Option (Ah GQ GL)) {R:Type} (L:Pat.D Fw->Option R) (e:Ah Jz I6->Option R) (x:Pat.D Fw):Option R :=
 bif (decide (x.1.2.2.2.1<x.1.1)) then (bif ((decide ((0:Int)<=x.1.2.2.2.1))&&(decide (x.1.2.2.2.1<(x.1.2.1.length:Int)))) then (Vx.A1 (w324_8 (((x.1.2.2.1.length:Int),x.1.2.2.1,(x.1.2.1.getD (Int.toNat x.1.2.2.2.1) (0:Int)),(0:Int),x.1.2.2.2.1,(0:Int),x.1.2.2.2.1,x.1.1,x.1.2.1,x.1.2.2.1,(),()),x.2)) fun y2 =>
 Vx.A6 y2 (fun y3 =>
 bif ((decide ((0:Int)<=(IntKind.wrap .i64 (y3.1.1+(y3.1.2.2.2.2.2.1.length:Int)))))&&(decide ((IntKind.wrap .i64 (y3.1.1+(y3.1.2.2.2.2.2.1.length:Int)))<(y3.2.1.length:Int)))) then (((L ((y3.1.2.2.2.1,y3.1.2.2.2.2.1,y3.1.2.2.2.2.2.1,(IntKind.wrap .i64 (y3.1.2.2.1+(1:Int))),(),()),(y3.2.1.set (Int.toNat (IntKind.wrap .i64 (y3.1.1+(y3.1.2.2.2.2.2.1.length:Int)))) y3.1.2.1),()))))
 else none) (fun z3 =>
 none))
 else none)
 else (e (.inl (((),()),x.2)))
theorem aQ9 (d:Nat) (R:Type) (L:Pat.D Fw->Option R) (e:Ah Jz I6->Option R) (x:Pat.D Fw) :
  BB (cf [(126,⟨EL,EA,p315,f315⟩),(165,⟨E3,Fr,p155,f155⟩),(169,⟨Bt,Bu,p173,f173⟩)] [(307,4,LoopSpec.of Fw YK Jz I6 w324_4),(307,8,LoopSpec.of Fx Yi GQ GL w324_8)]) (d+2) 307 (By Tryz.f307 4) Fw YK Jz I6 (R:=R) L e x=Vt p315 f315 p155 f155 p173 f173 w324_8 L e x:=by kernel_rfl
theorem xM (p315:EF) (f315:EH) (p155:Df) (f155:Dd) (p173:A7) (f173:A8) (w324_8:Pat.D Fx->Option (Ah GQ GL)):Bs fun L e x=>Vt p315 f315 p155 f155 p173 f173 w324_8 L e x:=by intro _ _ _ _ _ _ _ h0 hL he _; unfold Vt; repeat' (first | exact h0 | exact hL _ | exact he _ | apply BU | (apply BX h0; intro _) | (apply B5 <;> intro _))
def j3 (p315:EF) (f315:EH) (p155:Df) (f155:Dd) (p173:A7) (f173:A8) (w324_4:Pat.D Fw->Option (Ah Jz I6)) (w324_8:Pat.D Fx->Option (Ah GQ GL)) (a0 a1:Aa (.slice (.int .u64))):Option (DenS OZ) :=
 let e1_:=(IntKind.wrap .i64 (((f173 (a0,())).1.length:Int)+((f173 (a1,())).1.length:Int)))
 bif (p173 (a0,())) then (bif (p173 (a1,())) then (bif ((decide ((0:Int)<=e1_))&&(decide ((e1_*(8:Int))<=(140737488355328:Int)))) then (Vx.A1 (w324_4 ((((f173 (a0,())).1.length:Int),(f173 (a0,())).1,(f173 (a1,())).1,(0:Int),(),()),(List.replicate (Int.toNat e1_) (0:Int)),())) fun y3 =>
 Vx.A6 y3 (fun y4 =>
 bif (p173 y4.2) then (some (f173 y4.2))
 else none) (fun z4 =>
 none))
 else none)
 else none)
 else none
theorem aRa (x:DenS MS):run (cf [(126,⟨EL,EA,p315,f315⟩),(165,⟨E3,Fr,p155,f155⟩),(169,⟨Bt,Bu,p173,f173⟩)] [(307,4,LoopSpec.of Fw YK Jz I6 w324_4),(307,8,LoopSpec.of Fx Yi GQ GL w324_8)]) 9 307 Tryz.f307 MS OZ x=j3 p315 f315 p155 f155 p173 f173 w324_4 w324_8 x.1 x.2.1:=by kernel_rfl
def PA:Fx.D->Option (Ah GQ GL):=Bf fun L=>U3 AP.pre AP.F Ay.pre Ay.F Ag.pre Ag.F L some
def WU:Fw.D->Option (Ah Jz I6):=Bf fun L=>Vt AP.pre AP.F Ay.pre Ay.F Ag.pre Ag.F PA L some
def ZS (x:DenS MS):Option (DenS OZ):=j3 AP.pre AP.F Ay.pre Ay.F Ag.pre Ag.F WU PA x.1 x.2.1
def OC:Sum:=Al MS OZ ZS (DenS.dflt OZ)
theorem aTT:Sound Tryz.prog G1 307 OC:=sd (cf [(126,AP),(165,Ay),(169,Ag)] [(307,4,LoopSpec.of Fw YK Jz I6 WU),(307,8,LoopSpec.of Fx Yi GQ GL PA)]) 307 Tryz.f307 ⟨cU,UF,Ea,trivial⟩ ⟨rfl,fun d=>Ca (fun L e x=>Vt AP.pre AP.F Ay.pre Ay.F Ag.pre Ag.F PA L e x) (xM AP.pre AP.F Ay.pre Ay.F Ag.pre Ag.F PA) (fun _ _ _ _=>aQ9 ..),⟨rfl,fun d=>Ca (fun L e x=>U3 AP.pre AP.F Ay.pre Ay.F Ag.pre Ag.F L e x) (aAg AP.pre AP.F Ay.pre Ay.F Ag.pre Ag.F) (fun _ _ _ _=>aQE ..),trivial⟩⟩ MS OZ ZS _ (fun _=>aRa ..)
abbrev aA2:=Ak MS
abbrev aHP:=Aj MS OZ
variable (p324:aA2) (f324:aHP)
abbrev RE:Ab:=[(false,.slice (.int .u64)),(false,.slice (.int .u64))]
abbrev M7:Ab:=[(false,.slice (.int .u64)),(false,.int .i64)]
def cK (p324:aA2) (f324:aHP) (p185:Vu) (f185:UC) (a0 a1:Aa (.slice (.int .u64))):Option (DenS M7) :=
 bif (p185 ((a0::(a1::[])),())) then (bif (f185 ((a0::(a1::[])),())).1 then (some ([],(5:Int),()))
 else bif (p324 (a0,a1,())) then (bif (p185 (((f324 (a0,a1,())).1::[]),())) then (bif (f185 (((f324 (a0,a1,())).1::[]),())).1 then (some ([],(5:Int),()))
 else some ((f324 (a0,a1,())).1,(0:Int),()))
 else none)
 else none)
 else none
theorem aLW (x:DenS RE):run (cf [(307,⟨MS,OZ,p324,f324⟩),(249,⟨I1,IR,p185,f185⟩)] []) 9 263 Tryz.f263 RE M7 x=cK p324 f324 p185 f185 x.1 x.2.1:=by kernel_rfl
def UY (x:DenS RE):Option (DenS M7):=cK OC.pre OC.F Eb.pre Eb.F x.1 x.2.1
def QI:Sum:=Al RE M7 UY (DenS.dflt M7)
theorem aTJ:Sound Tryz.prog G1 263 QI:=sd (cf [(307,OC),(249,Eb)] []) 263 Tryz.f263 ⟨aTT,uJ,trivial⟩ trivial RE M7 UY _ (fun _=>aLW ..)
abbrev aC4:=Ak RE
abbrev aFH:=Aj RE M7
variable (p325:aC4) (f325:aFH)
abbrev IL:Ab:=[(true,.pair (.bool) (.pair (.slice (.int .u64)) (.pair (.int .i64) (.unit))))]
abbrev Js:Ab:=[(true,.pair (.bool) (.pair (.slice (.int .u64)) (.pair (.int .i64) (.unit)))),(false,.int .i64)]
def kA (p100:Xi) (f100:WA) (a0:Aa (.pair (.bool) (.pair (.slice (.int .u64)) (.pair (.int .i64) (.unit))))):Option (DenS Js) :=
 bif (p100 ((a0.1,a0.2),())) then (bif (decide (((f100 ((a0.1,a0.2),())).1.2.1.length:Int)>(1024:Int))) then (some ((false,[],(0:Int),()),(5:Int),()))
 else bif ((decide ((f100 ((a0.1,a0.2),())).1.2.2.1<(-(40000:Int))))||(decide ((f100 ((a0.1,a0.2),())).1.2.2.1>(40000:Int)))) then (some ((false,[],(0:Int),()),(30:Int),()))
 else some ((f100 ((a0.1,a0.2),())).1,(0:Int),()))
 else none
theorem aJs (x:DenS IL):run (cf [(262,⟨HM,HD,p100,f100⟩)] []) 9 254 Tryz.f254 IL Js x=kA p100 f100 x.1:=by kernel_rfl
def PI (x:DenS IL):Option (DenS Js):=kA CN.pre CN.F x.1
def D4:Sum:=Al IL Js PI (DenS.dflt Js)
theorem qP:Sound Tryz.prog G1 254 D4:=sd (cf [(262,CN)] []) 254 Tryz.f254 ⟨aH,trivial⟩ trivial IL Js PI _ (fun _=>aJs ..)
abbrev kM:=Ak IL
abbrev gL:=Aj IL Js
variable (p104:kM) (f104:gL)
abbrev Nr:Ab:=[(true,.pair (.bool) (.pair (.slice (.int .u64)) (.pair (.int .i64) (.unit)))),(true,.pair (.bool) (.pair (.slice (.int .u64)) (.pair (.int .i64) (.unit))))]
abbrev Or:Ab:=[(true,.pair (.bool) (.pair (.slice (.int .u64)) (.pair (.int .i64) (.unit)))),(false,.int .i64)]
def i5 (p99:nB) (f99:m8) (p100:Xi) (f100:WA) (p325:aC4) (f325:aFH) (p104:kM) (f104:gL) (a0 a1:Aa (.pair (.bool) (.pair (.slice (.int .u64)) (.pair (.int .i64) (.unit))))):Option (DenS Or) :=
 let e4_:=((f100 ((a0.1,a0.2),())).1.2.1,(f100 ((a1.1,a1.2),())).1.2.1,())
 let e3_:=(f325 e4_)
 let e1_:=(((!((f100 ((a0.1,a0.2),())).1.1==(f100 ((a1.1,a1.2),())).1.1)),e3_.1,(IntKind.wrap .i64 ((f100 ((a0.1,a0.2),())).1.2.2.1+(f100 ((a1.1,a1.2),())).1.2.2.1)),()),())
 let e2_:=e3_
 bif (p99 ((a0.1,a0.2),(a1.1,a1.2),())) then (bif ((f99 ((a0.1,a0.2),(a1.1,a1.2),())).1 != (0:Int)) then (some ((false,[],(0:Int),()),(f99 ((a0.1,a0.2),(a1.1,a1.2),()))))
 else bif (p100 ((a0.1,a0.2),())) then (bif (p100 ((a1.1,a1.2),())) then (bif (p325 e4_) then (bif (e2_.2.1 != (0:Int)) then (some ((false,[],(0:Int),()),e2_.2))
 else bif (p104 e1_) then (some (f104 e1_))
 else none)
 else none)
 else none)
 else none)
 else none
theorem aQg (x:DenS Nr):run (cf [(260,⟨Mn,Ly,p99,f99⟩),(262,⟨HM,HD,p100,f100⟩),(263,⟨RE,M7,p325,f325⟩),(254,⟨IL,Js,p104,f104⟩)] []) 9 197 Tryz.f197 Nr Or x=i5 p99 f99 p100 f100 p325 f325 p104 f104 x.1 x.2.1:=by kernel_rfl
def Uy (x:DenS Nr):Option (DenS Or):=i5 F2.pre F2.F CN.pre CN.F QI.pre QI.F D4.pre D4.F x.1 x.2.1
def JO:Sum:=Al Nr Or Uy (DenS.dflt Or)
theorem aQO:Sound Tryz.prog G1 197 JO:=sd (cf [(260,F2),(262,CN),(263,QI),(254,D4)] []) 197 Tryz.f197 ⟨aDW,aH,aTJ,qP,trivial⟩ trivial Nr Or Uy _ (fun _=>aQg ..)
abbrev aGc:=Ak Nr
abbrev aBz:=Aj Nr Or
variable (p360:aGc) (f360:aBz)
abbrev Ru:Ab:=[(false,.int .i64),(false,.int .u64),(false,.int .u64)]
abbrev QA:Ab:=[(true,.pair (.bool) (.pair (.bool) (.pair (.bool) (.pair (.bool) (.pair (.bool) (.pair (.pair (.bool) (.pair (.slice (.int .u64)) (.pair (.int .i64) (.unit)))) (.unit)))))))]
def Tz (p398:rB) (f398:qD) (p47:qH) (f47:qS) (p360:aGc) (f360:aBz) (a0:Aa (.int .i64)) (a1 a2:Aa (.int .u64)):Option (DenS QA) :=
 let e7_:=(((f398 (a0,a1,())).1.2.2.2.1&&(!(f398 (a0,a2,())).1.2.2.2.1))&&((f47 (f398 (a0,a2,())).1.2.2.2.2.2).1==(0:Int)))
 let e1_:=(e7_||(((f398 (a0,a2,())).1.2.2.2.1&&(!(f398 (a0,a1,())).1.2.2.2.1))&&((f47 (f398 (a0,a1,())).1.2.2.2.2.2).1==(0:Int))))
 let e8_:=(!((f398 (a0,a1,())).1.2.2.2.2.1==(f398 (a0,a2,())).1.2.2.2.2.1))
 let e2_:=(e8_,(false,[],(0:Int),()),())
 let e3_:=((f398 (a0,a1,())).1.2.2.2.2.2.1,(f398 (a0,a2,())).1.2.2.2.2.2)
 let e4_:=((f398 (a0,a1,())).1.2.2.2.1||(f398 (a0,a2,())).1.2.2.2.1)
 let e5_:=((f398 (a0,a1,())).1.2.1||(f398 (a0,a2,())).1.2.1)
 let e6_:=((f398 (a0,a1,())).1.1||(f398 (a0,a2,())).1.1)
 bif (p398 (a0,a1,())) then (bif (p398 (a0,a2,())) then (bif e6_ then (some ((e6_,e5_,false,false,e2_),()))
 else bif ((p47 (f398 (a0,a2,())).1.2.2.2.2.2)||(!(bif (f398 (a0,a1,())).1.2.2.2.1 then (!(f398 (a0,a2,())).1.2.2.2.1) else false))) then (bif ((p47 (f398 (a0,a1,())).1.2.2.2.2.2)||(!((bif e7_ then false else true)&&(bif (f398 (a0,a2,())).1.2.2.2.1 then (!(f398 (a0,a1,())).1.2.2.2.1) else false)))) then (bif (!e4_) then (bif (p360 e3_) then (some ((e6_,e5_,e1_,e4_,e8_,(f360 e3_).1,()),()))
 else none)
 else some ((e6_,e5_,e1_,e4_,e2_),()))
 else none)
 else none)
 else none)
 else none
theorem aRr (x:DenS Ru):run (cf [(141,⟨Mo,MB,p398,f398⟩),(196,⟨Ls,LA,p47,f47⟩),(197,⟨Nr,Or,p360,f360⟩)] []) 9 140 Tryz.f140 Ru QA x=Tz p398 f398 p47 f47 p360 f360 x.1 x.2.1 x.2.2.1:=by kernel_rfl
def Uz (x:DenS Ru):Option (DenS QA):=Tz E4.pre E4.F DK.pre DK.F JO.pre JO.F x.1 x.2.1 x.2.2.1
def Nd:Sum:=Al Ru QA Uz (DenS.dflt QA)
theorem aQA:Sound Tryz.prog G1 140 Nd:=sd (cf [(141,E4),(196,DK),(197,JO)] []) 140 Tryz.f140 ⟨aCR,aEh,aQO,trivial⟩ trivial Ru QA Uz _ (fun _=>aRr ..)
abbrev aCB:=Ak Ru
abbrev zE:=Aj Ru QA
variable (p399:aCB) (f399:zE)
abbrev O2:Ab:=[(false,.slice (.int .u64)),(false,.int .i64)]
abbrev Rn:Ab:=[(false,.slice (.int .u64))]
abbrev Hw:Pat:=⟨57,[(25,.one (.v .i64)),(24,.one (.sl (.int .u64))),(5,.one (.v .i64)),(6,.one (.v .u64)),(26,.one (.v .i64)),(7,.one (.own 0))],[.arr (.int .u64)]⟩
abbrev Z6:List (Nat×Shape):=[]
abbrev Lu:List (Nat×Pat):=[(0,⟨57,[(7,.one (.own 0))],[.arr (.int .u64)]⟩)]
abbrev LL:Option Pat:=none
variable (w172_6:Pat.D Hw->Option (Ah Lu LL))
def UH (p102:GM) (f102:G3) {R:Type} (L:Pat.D Hw->Option R) (e:Ah Lu LL->Option R) (x:Pat.D Hw):Option R :=
 let e6_:=(IntKind.wrap .i64 (x.1.2.2.1+x.1.2.2.2.2.1))
 let e5_:=(Int.toNat e6_)
 let e7_:=(x.1.2.1.getD (Int.toNat x.1.2.2.2.2.1) (0:Int))
 let e1_:=(x.2.1.set e5_ (AW .u64 (x.2.1.getD e5_ (0:Int)) (AT .u64 e7_ x.1.2.2.2.1)))
 let e2_:=((decide ((0:Int)<=e6_))&&(decide (e6_<(x.2.1.length:Int))))
 let e3_:=(x.1.1,x.1.2.1,x.1.2.2.1,x.1.2.2.2.1,(IntKind.wrap .i64 (x.1.2.2.2.2.1+(1:Int))),(),())
 let e4_:=(IntKind.wrap .i64 (e6_+(1:Int)))
 bif (decide (x.1.2.2.2.2.1<x.1.1)) then (bif ((decide ((0:Int)<=x.1.2.2.2.2.1))&&(decide (x.1.2.2.2.2.1<(x.1.2.1.length:Int)))) then (bif e2_ then (bif e2_ then (bif (decide (x.1.2.2.2.1>(0:Int))) then (bif ((decide ((0:Int)<=e4_))&&(decide (e4_<(e1_.length:Int)))) then (((L (e3_,(e1_.set (Int.toNat e4_) (AI .u64 e7_ (IntKind.wrap .u64 ((64:Int)-x.1.2.2.2.1)))),()))))
 else none)
 else (L (e3_,e1_,())))
 else none)
 else none)
 else none)
 else (e (.inl (((),()),x.2)))
theorem aLo (d:Nat) (R:Type) (L:Pat.D Hw->Option R) (e:Ah Lu LL->Option R) (x:Pat.D Hw) :
  BB (cf [(122,⟨FI,FD,p102,f102⟩)] [(326,6,LoopSpec.of Hw Z6 Lu LL w172_6)]) (d+2) 326 (By Tryz.f326 6) Hw Z6 Lu LL (R:=R) L e x=UH p102 f102 L e x:=by kernel_rfl
theorem aEa (p102:GM) (f102:G3):Bs fun L e x=>UH p102 f102 L e x:=by intro _ _ _ _ _ _ _ h0 hL he _; unfold UH; repeat' (first | exact h0 | exact hL _ | exact he _ | apply BU | (apply BX h0; intro _) | (apply B5 <;> intro _))
def aC (p102:GM) (f102:G3) (w172_6:Pat.D Hw->Option (Ah Lu LL)) (a0:Aa (.slice (.int .u64))) (a1:Aa (.int .i64)):Option (DenS Rn) :=
 let e1_:=(IntKind.wrap .i64 ((IntKind.wrap .i64 ((Bz .i64 a1 (64:Int))+(a0.length:Int)))+(1:Int)))
 bif ((a0.length:Int)==(0:Int)) then (some ([],()))
 else bif ((decide ((0:Int)<=e1_))&&(decide ((e1_*(8:Int))<=(140737488355328:Int)))) then (Vx.A1 (w172_6 (((a0.length:Int),a0,(Bz .i64 a1 (64:Int)),(IntKind.wrap .u64 (Int.tmod a1 (64:Int))),(0:Int),(),()),(List.replicate (Int.toNat e1_) (0:Int)),())) fun y2 =>
 Vx.A6 y2 (fun y3 =>
 bif (p102 y3.2) then (some (f102 y3.2))
 else none) (fun z3 =>
 none))
 else none
theorem aOu (x:DenS O2):run (cf [(122,⟨FI,FD,p102,f102⟩)] [(326,6,LoopSpec.of Hw Z6 Lu LL w172_6)]) 9 326 Tryz.f326 O2 Rn x=aC p102 f102 w172_6 x.1 x.2.1:=by kernel_rfl
def aE:Hw.D->Option (Ah Lu LL):=Bf fun L=>UH Bg.pre Bg.F L some
def V0 (x:DenS O2):Option (DenS Rn):=aC Bg.pre Bg.F aE x.1 x.2.1
def Qf:Sum:=Al O2 Rn V0 (DenS.dflt Rn)
theorem aLR:Sound Tryz.prog G1 326 Qf:=sd (cf [(122,Bg)] [(326,6,LoopSpec.of Hw Z6 Lu LL aE)]) 326 Tryz.f326 ⟨Xl,trivial⟩ ⟨rfl,fun d=>Ca (fun L e x=>UH Bg.pre Bg.F L e x) (aEa Bg.pre Bg.F) (fun _ _ _ _=>aLo ..),trivial⟩ O2 Rn V0 _ (fun _=>aOu ..)
abbrev aFM:=Ak O2
abbrev aDJ:=Aj O2 Rn
variable (p172:aFM) (f172:aDJ)
abbrev OO:Ab:=[(true,.pair (.bool) (.pair (.slice (.int .u64)) (.pair (.int .i64) (.unit)))),(true,.pair (.bool) (.pair (.slice (.int .u64)) (.pair (.int .i64) (.unit))))]
abbrev Qm:Ab:=[(false,.slice (.int .u64)),(false,.slice (.int .u64)),(false,.int .i64)]
def iS (p172:aFM) (f172:aDJ) (a0 a1:Aa (.pair (.bool) (.pair (.slice (.int .u64)) (.pair (.int .i64) (.unit))))):Option (DenS Qm) :=
 let e3_:=(if (a1.2.2.1<a0.2.2.1) then a1.2.2.1 else a0.2.2.1)
 let e1_:=(a0.2.1,(IntKind.wrap .i64 (a0.2.2.1-e3_)),())
 let e2_:=(a1.2.1,(IntKind.wrap .i64 (a1.2.2.1-e3_)),())
 bif (p172 e1_) then (bif (p172 e2_) then (some ((f172 e1_).1,(f172 e2_).1,e3_,()))
 else none)
 else none
theorem aOf (x:DenS OO):run (cf [(326,⟨O2,Rn,p172,f172⟩)] []) 9 306 Tryz.f306 OO Qm x=iS p172 f172 x.1 x.2.1:=by kernel_rfl
def Up (x:DenS OO):Option (DenS Qm):=iS Qf.pre Qf.F x.1 x.2.1
def GX:Sum:=Al OO Qm Up (DenS.dflt Qm)
theorem aQr:Sound Tryz.prog G1 306 GX:=sd (cf [(326,Qf)] []) 306 Tryz.f306 ⟨aLR,trivial⟩ trivial OO Qm Up _ (fun _=>aOf ..)
abbrev aEr:=Ak OO
abbrev aFe:=Aj OO Qm
variable (p142:aEr) (f142:aFe)
abbrev Qc:Ab:=[(true,.pair (.bool) (.pair (.slice (.int .u64)) (.pair (.int .i64) (.unit)))),(true,.pair (.bool) (.pair (.slice (.int .u64)) (.pair (.int .i64) (.unit))))]
abbrev Oq:Ab:=[(true,.pair (.bool) (.pair (.slice (.int .u64)) (.pair (.int .i64) (.unit))))]
def Ol (p142:aEr) (f142:aFe) (p143:Nj) (f143:PH) (p144:Jm) (f144:IB) (p145:UV) (f145:TG) (p100:Xi) (f100:WA) (a0 a1:Aa (.pair (.bool) (.pair (.slice (.int .u64)) (.pair (.int .i64) (.unit))))):Option (DenS Oq) :=
 let e5_:=((f142 ((a0.1,a0.2),(a1.1,a1.2),())).1,(f142 ((a0.1,a0.2),(a1.1,a1.2),())).2.1,())
 let e1_:=((a0.1,(f143 e5_).1,(f142 ((a0.1,a0.2),(a1.1,a1.2),())).2.2),())
 let e6_:=((f142 ((a0.1,a0.2),(a1.1,a1.2),())).2.1,(f142 ((a0.1,a0.2),(a1.1,a1.2),())).1,())
 let e2_:=((a1.1,(f145 e6_).1,(f142 ((a0.1,a0.2),(a1.1,a1.2),())).2.2),())
 let e3_:=((a0.1,(f145 e5_).1,(f142 ((a0.1,a0.2),(a1.1,a1.2),())).2.2),())
 let e4_:=e5_
 bif ((a0.2.1.length:Int)==(0:Int)) then (some ((a1.1,a1.2),()))
 else bif ((a1.2.1.length:Int)==(0:Int)) then (some ((a0.1,a0.2),()))
 else bif (p142 ((a0.1,a0.2),(a1.1,a1.2),())) then (bif (a0.1==a1.1) then (bif (p143 e4_) then (bif (p100 e1_) then (some (f100 e1_))
 else none)
 else none)
 else bif (p144 e4_) then (bif (decide ((f144 e4_).1<(0:Int))) then (bif (p145 e6_) then (bif (p100 e2_) then (some (f100 e2_))
 else none)
 else none)
 else bif (p145 e4_) then (bif (p100 e3_) then (some (f100 e3_))
 else none)
 else none)
 else none)
 else none
theorem aQj (x:DenS Qc):run (cf [(306,⟨OO,Qm,p142,f142⟩),(176,⟨Ij,GU,p143,f143⟩),(177,⟨FQ,FZ,p144,f144⟩),(178,⟨IV,JN,p145,f145⟩),(262,⟨HM,HD,p100,f100⟩)] []) 9 261 Tryz.f261 Qc Oq x=Ol p142 f142 p143 f143 p144 f144 p145 f145 p100 f100 x.1 x.2.1:=by kernel_rfl
def S6 (x:DenS Qc):Option (DenS Oq):=Ol GX.pre GX.F CG.pre CG.F Bm.pre Bm.F CY.pre CY.F CN.pre CN.F x.1 x.2.1
def O0:Sum:=Al Qc Oq S6 (DenS.dflt Oq)
theorem aTh:Sound Tryz.prog G1 261 O0:=sd (cf [(306,GX),(176,CG),(177,Bm),(178,CY),(262,CN)] []) 261 Tryz.f261 ⟨aQr,n7,iZ,aGm,aH,trivial⟩ trivial Qc Oq S6 _ (fun _=>aQj ..)
abbrev aGC:=Ak Qc
abbrev aBF:=Aj Qc Oq
variable (p101:aGC) (f101:aBF)
abbrev Nm:Ab:=[(true,.pair (.bool) (.pair (.slice (.int .u64)) (.pair (.int .i64) (.unit)))),(true,.pair (.bool) (.pair (.slice (.int .u64)) (.pair (.int .i64) (.unit))))]
abbrev Ph:Ab:=[(true,.pair (.bool) (.pair (.slice (.int .u64)) (.pair (.int .i64) (.unit)))),(false,.int .i64)]
def dU (p99:nB) (f99:m8) (p100:Xi) (f100:WA) (p101:aGC) (f101:aBF) (p104:kM) (f104:gL) (a0 a1:Aa (.pair (.bool) (.pair (.slice (.int .u64)) (.pair (.int .i64) (.unit))))):Option (DenS Ph) :=
 let e2_:=((f100 ((a0.1,a0.2),())).1,(f100 ((a1.1,a1.2),())))
 let e1_:=(f101 e2_)
 bif (p99 ((a0.1,a0.2),(a1.1,a1.2),())) then (bif ((f99 ((a0.1,a0.2),(a1.1,a1.2),())).1 != (0:Int)) then (some ((false,[],(0:Int),()),(f99 ((a0.1,a0.2),(a1.1,a1.2),()))))
 else bif (p100 ((a0.1,a0.2),())) then (bif (p100 ((a1.1,a1.2),())) then (bif (p101 e2_) then (bif (p104 e1_) then (some (f104 e1_))
 else none)
 else none)
 else none)
 else none)
 else none
theorem r49 (x:DenS Nm):run (cf [(260,⟨Mn,Ly,p99,f99⟩),(262,⟨HM,HD,p100,f100⟩),(261,⟨Qc,Oq,p101,f101⟩),(254,⟨IL,Js,p104,f104⟩)] []) 9 195 Tryz.f195 Nm Ph x=dU p99 f99 p100 f100 p101 f101 p104 f104 x.1 x.2.1:=by kernel_rfl
def VF (x:DenS Nm):Option (DenS Ph):=dU F2.pre F2.F CN.pre CN.F O0.pre O0.F D4.pre D4.F x.1 x.2.1
def Gy:Sum:=Al Nm Ph VF (DenS.dflt Ph)
theorem aM4:Sound Tryz.prog G1 195 Gy:=sd (cf [(260,F2),(262,CN),(261,O0),(254,D4)] []) 195 Tryz.f195 ⟨aDW,aH,aTh,qP,trivial⟩ trivial Nm Ph VF _ (fun _=>r49 ..)
abbrev Y49:=Ak Nm
abbrev Z49:=Aj Nm Ph
variable (p49:Y49) (f49:Z49)
abbrev Rb:Ab:=[(true,.pair (.bool) (.pair (.slice (.int .u64)) (.pair (.int .i64) (.unit))))]
abbrev Qe:Ab:=[(true,.pair (.bool) (.pair (.slice (.int .u64)) (.pair (.int .i64) (.unit)))),(false,.int .i64)]
def k9 (p103:uY) (f103:q7) (p104:kM) (f104:gL) (a0:Aa (.pair (.bool) (.pair (.slice (.int .u64)) (.pair (.int .i64) (.unit))))):Option (DenS Qe) :=
 bif (p103 ((a0.1,a0.2),())) then (bif ((f103 ((a0.1,a0.2),())).1 != (0:Int)) then (some ((false,[],(0:Int),()),(f103 ((a0.1,a0.2),()))))
 else bif (p104 ((a0.1,a0.2),())) then (some (f104 ((a0.1,a0.2),())))
 else none)
 else none
theorem aTH (x:DenS Rb):run (cf [(253,⟨KY,Ko,p103,f103⟩),(254,⟨IL,Js,p104,f104⟩)] []) 9 179 Tryz.f179 Rb Qe x=k9 p103 f103 p104 f104 x.1:=by kernel_rfl
def YH (x:DenS Rb):Option (DenS Qe):=k9 E8.pre E8.F D4.pre D4.F x.1
def NX:Sum:=Al Rb Qe YH (DenS.dflt Qe)
theorem aQ2:Sound Tryz.prog G1 179 NX:=sd (cf [(253,E8),(254,D4)] []) 179 Tryz.f179 ⟨aC7,qP,trivial⟩ trivial Rb Qe YH _ (fun _=>aTH ..)
abbrev aHi:=Ak Rb
abbrev aC8:=Aj Rb Qe
variable (p106:aHi) (f106:aC8)
abbrev Jx:Ab:=[(false,.int .i64),(false,.int .i64),(true,.pair (.bool) (.pair (.slice (.int .u64)) (.pair (.int .i64) (.unit))))]
abbrev IY:Ab:=[(false,.int .u64),(false,.int .i64),(false,.int .i64)]
def cI (p105:Vv) (f105:TH) (p106:aHi) (f106:aC8) (p107:Uh) (f107:UX) (a0 a1:Aa (.int .i64)) (a2:Aa (.pair (.bool) (.pair (.slice (.int .u64)) (.pair (.int .i64) (.unit))))):Option (DenS IY) :=
 let e2_:=(((f106 ((a2.1,a2.2),())).1.1,(f106 ((a2.1,a2.2),())).1.2.1,(f106 ((a2.1,a2.2),())).1.2.2.1,false,()),a0,(f105 (a0,a1,())).1,a1,())
 let e1_:=(f107 e2_)
 bif (p105 (a0,a1,())) then (bif ((f105 (a0,a1,())).2.1 != (0:Int)) then (some ((0:Int),(0:Int),(f105 (a0,a1,())).2))
 else bif (p106 ((a2.1,a2.2),())) then (bif ((f106 ((a2.1,a2.2),())).2.1 != (0:Int)) then (some ((0:Int),(0:Int),(f106 ((a2.1,a2.2),())).2))
 else bif (((f106 ((a2.1,a2.2),())).1.2.1.length:Int)==(0:Int)) then (some ((0:Int),(0:Int),(0:Int),()))
 else bif (p107 e2_) then (some (e1_.1,e1_.2.1,(0:Int),()))
 else none)
 else none)
 else none
theorem r51 (x:DenS Jx):run (cf [(121,⟨Ju,Jj,p105,f105⟩),(179,⟨Rb,Qe,p106,f106⟩),(125,⟨I8,IT,p107,f107⟩)] []) 9 130 Tryz.f130 Jx IY x=cI p105 f105 p106 f106 p107 f107 x.1 x.2.1 x.2.2.1:=by kernel_rfl
def Nb (x:DenS Jx):Option (DenS IY):=cI EI.pre EI.F NX.pre NX.F EV.pre EV.F x.1 x.2.1 x.2.2.1
def Dm:Sum:=Al Jx IY Nb (DenS.dflt IY)
theorem uK:Sound Tryz.prog G1 130 Dm:=sd (cf [(121,EI),(179,NX),(125,EV)] []) 130 Tryz.f130 ⟨tL,aQ2,nT,trivial⟩ trivial Jx IY Nb _ (fun _=>r51 ..)
abbrev cH:=Ak Jx
abbrev iO:=Aj Jx IY
variable (p51:cH) (f51:iO)
abbrev QE:Ab:=[(false,.int .i64),(false,.int .i64),(true,.pair (.bool) (.pair (.bool) (.pair (.bool) (.pair (.bool) (.pair (.bool) (.pair (.pair (.bool) (.pair (.slice (.int .u64)) (.pair (.int .i64) (.unit)))) (.unit))))))),(true,.pair (.bool) (.pair (.bool) (.pair (.bool) (.pair (.bool) (.pair (.bool) (.pair (.pair (.bool) (.pair (.slice (.int .u64)) (.pair (.int .i64) (.unit)))) (.unit)))))))]
abbrev OL:Ab:=[(false,.int .u64),(false,.int .i64),(false,.int .i64)]
def Nz (p70:D3) (f70:D8) (p97:NO) (f97:MQ) (p49:Y49) (f49:Z49) (p47:qH) (f47:qS) (p118:G8) (f118:GD) (p51:cH) (f51:iO) (a0 a1:Aa (.int .i64)) (a2:Aa (.pair (.bool) (.pair (.bool) (.pair (.bool) (.pair (.bool) (.pair (.bool) (.pair (.pair (.bool) (.pair (.slice (.int .u64)) (.pair (.int .i64) (.unit)))) (.unit)))))))) (a3:Aa (.pair (.bool) (.pair (.bool) (.pair (.bool) (.pair (.bool) (.pair (.bool) (.pair (.pair (.bool) (.pair (.slice (.int .u64)) (.pair (.int .i64) (.unit)))) (.unit)))))))):Option (DenS OL) :=
 let e1_:=(a0,a1,(f49 (a2.2.2.2.2.2.1,a3.2.2.2.2.2)).1,())
 let e2_:=((f70 (a0,())).1,(1:Int),(0:Int),())
 bif (p70 (a0,())) then (bif (((a2.2.1||a3.2.1)||a2.2.2.1)||a3.2.2.1) then (some e2_)
 else bif (a2.1||a3.1) then (some ((f70 (a0,())).1,(0:Int),(0:Int),()))
 else bif ((a2.2.2.2.1&&a3.2.2.2.1)&&(!(a2.2.2.2.2.1==a3.2.2.2.2.1))) then (some e2_)
 else bif a2.2.2.2.1 then (bif (p97 (a0,a2.2.2.2.2.1,())) then (some ((f97 (a0,a2.2.2.2.2.1,())).1,(0:Int),(0:Int),()))
 else none)
 else bif a3.2.2.2.1 then (bif (p97 (a0,a3.2.2.2.2.1,())) then (some ((f97 (a0,a3.2.2.2.2.1,())).1,(0:Int),(0:Int),()))
 else none)
 else bif (p49 (a2.2.2.2.2.2.1,a3.2.2.2.2.2)) then (bif ((f49 (a2.2.2.2.2.2.1,a3.2.2.2.2.2)).2.1 != (0:Int)) then (some ((0:Int),(0:Int),(f49 (a2.2.2.2.2.2.1,a3.2.2.2.2.2)).2))
 else bif (p47 ((f49 (a2.2.2.2.2.2.1,a3.2.2.2.2.2)).1,())) then (bif ((f47 ((f49 (a2.2.2.2.2.2.1,a3.2.2.2.2.2)).1,())).1==(0:Int)) then (bif (p47 a2.2.2.2.2.2) then (bif ((p47 a3.2.2.2.2.2)||(!(decide ((f47 a2.2.2.2.2.2).1=(0:Int))))) then (bif ((((f47 a2.2.2.2.2.2).1==(0:Int))&&((f47 a3.2.2.2.2.2).1==(0:Int)))&&(a2.2.2.2.2.1==a3.2.2.2.2.1)) then (bif (p118 (a0,a2.2.2.2.2.1,())) then (some ((f118 (a0,a2.2.2.2.2.1,())).1,(0:Int),(0:Int),()))
 else none)
 else bif (p118 (a0,(a1==(4:Int)),())) then (some ((f118 (a0,(a1==(4:Int)),())).1,(0:Int),(0:Int),()))
 else none)
 else none)
 else none)
 else bif (p51 e1_) then (some (f51 e1_))
 else none)
 else none)
 else none)
 else none
theorem aKO (x:DenS QE):run (cf [(56,⟨DG,DJ,p70,f70⟩),(65,⟨GJ,GP,p97,f97⟩),(195,⟨Nm,Ph,p49,f49⟩),(196,⟨Ls,LA,p47,f47⟩),(38,⟨EG,EZ,p118,f118⟩),(130,⟨Jx,IY,p51,f51⟩)] []) 9 139 Tryz.f139 QE OL x=Nz p70 f70 p97 f97 p49 f49 p47 f47 p118 f118 p51 f51 x.1 x.2.1 x.2.2.1 x.2.2.2.1:=by kernel_rfl
def R1 (x:DenS QE):Option (DenS OL):=Nz AB.pre AB.F B4.pre B4.F Gy.pre Gy.F DK.pre DK.F A3.pre A3.F Dm.pre Dm.F x.1 x.2.1 x.2.2.1 x.2.2.2.1
def MP:Sum:=Al QE OL R1 (DenS.dflt OL)
theorem aMa:Sound Tryz.prog G1 139 MP:=sd (cf [(56,AB),(65,B4),(195,Gy),(196,DK),(38,A3),(130,Dm)] []) 139 Tryz.f139 ⟨Ha,Y5,aM4,aEh,SR,uK,trivial⟩ trivial QE OL R1 _ (fun _=>aKO ..)
abbrev aAr:=Ak QE
abbrev aBb:=Aj QE OL
variable (p400:aAr) (f400:aBb)
abbrev OV:Ab:=[(false,.int .i64),(false,.int .i64),(false,.int .u64),(false,.int .u64),(false,.int .u64)]
abbrev Pi:Ab:=[(false,.int .u64),(false,.int .i64),(false,.int .i64)]
def hZ (p397:yQ) (f397:aAZ) (p399:aCB) (f399:zE) (p398:rB) (f398:qD) (p400:aAr) (f400:aBb) (a0 a1:Aa (.int .i64)) (a2 a3 a4:Aa (.int .u64)):Option (DenS Pi) :=
 let e1_:=(a0,a1,(f399 (a0,a2,a3,())).1,(f398 (a0,a4,())))
 let e2_:=(f397 (a0,a1,(a2::(a3::(a4::[]))),()))
 bif (p397 (a0,a1,(a2::(a3::(a4::[]))),())) then (bif (e2_.1 != (0:Int)) then (some ((0:Int),(0:Int),e2_))
 else bif (p399 (a0,a2,a3,())) then (bif (p398 (a0,a4,())) then (bif (p400 e1_) then (some (f400 e1_))
 else none)
 else none)
 else none)
 else none
theorem aRt (x:DenS OV):run (cf [(138,⟨Ob,Pb,p397,f397⟩),(140,⟨Ru,QA,p399,f399⟩),(141,⟨Mo,MB,p398,f398⟩),(139,⟨QE,OL,p400,f400⟩)] []) 9 93 Tryz.f93 OV Pi x=hZ p397 f397 p399 f399 p398 f398 p400 f400 x.1 x.2.1 x.2.2.1 x.2.2.2.1 x.2.2.2.2.1:=by kernel_rfl
def Y8 (x:DenS OV):Option (DenS Pi):=hZ Nt.pre Nt.F Nd.pre Nd.F E4.pre E4.F MP.pre MP.F x.1 x.2.1 x.2.2.1 x.2.2.2.1 x.2.2.2.2.1
def O4:Sum:=Al OV Pi Y8 (DenS.dflt Pi)
theorem aPo:Sound Tryz.prog G1 93 O4:=sd (cf [(138,Nt),(140,Nd),(141,E4),(139,MP)] []) 93 Tryz.f93 ⟨aPb,aQA,aCR,aMa,trivial⟩ trivial OV Pi Y8 _ (fun _=>aRt ..)
abbrev mX:=Ak OV
abbrev pO:=Aj OV Pi
variable (p401:mX) (f401:pO)
abbrev Pz:Ab:=[(true,.pair (.int .i64) (.pair (.int .i64) (.pair (.int .u64) (.pair (.int .u64) (.pair (.int .u64) (.unit))))))]
abbrev OM:Ab:=[(false,.int .u64),(false,.int .i64),(false,.int .i64)]
def cT (p401:mX) (f401:pO) (a0:Aa (.pair (.int .i64) (.pair (.int .i64) (.pair (.int .u64) (.pair (.int .u64) (.pair (.int .u64) (.unit))))))):Option (DenS OM) :=
 bif (p401 (a0.2.1,a0.1,a0.2.2)) then (some (f401 (a0.2.1,a0.1,a0.2.2)))
 else none
theorem aH4 (x:DenS Pz):run (cf [(93,⟨OV,Pi,p401,f401⟩)] []) 9 182 Tryz.f182 Pz OM x=cT p401 f401 x.1:=by kernel_rfl
def XF (x:DenS Pz):Option (DenS OM):=cT O4.pre O4.F x.1
def LZ:Sum:=Al Pz OM XF (DenS.dflt OM)
theorem aF0:Sound Tryz.prog G1 182 LZ:=sd (cf [(93,O4)] []) 182 Tryz.f182 ⟨aPo,trivial⟩ trivial Pz OM XF _ (fun _=>aH4 ..)
abbrev rX:=Ak Pz
abbrev nU:=Aj Pz OM
variable (p402:rX) (f402:nU)
abbrev I0:Ab:=[(false,.int .i64),(false,.int .i64)]
abbrev I7:Ab:=[(false,.int .i64)]
def iR (p69:BM) (f69:BQ) (a0 a1:Aa (.int .i64)):Option (DenS I7) :=
 bif (p69 (a0,())) then (bif ((f69 (a0,())).2.1 != (0:Int)) then (some (f69 (a0,())).2)
 else bif ((decide (a1<(0:Int)))||(decide (a1>(5:Int)))) then (some ((3:Int),()))
 else some ((0:Int),()))
 else none
theorem aUU (x:DenS I0):run (cf [(54,⟨Ck,Cn,p69,f69⟩)] []) 9 80 Tryz.f80 I0 I7 x=iR p69 f69 x.1 x.2.1:=by kernel_rfl
def Yy (x:DenS I0):Option (DenS I7):=iR Aq.pre Aq.F x.1 x.2.1
def Ej:Sum:=Al I0 I7 Yy (DenS.dflt I7)
theorem vG:Sound Tryz.prog G1 80 Ej:=sd (cf [(54,Aq)] []) 80 Tryz.f80 ⟨Er,trivial⟩ trivial I0 I7 Yy _ (fun _=>aUU ..)
abbrev kW:=Ak I0
abbrev Z8:=Aj I0 I7
variable (p403:kW) (f403:Z8)
abbrev Ml:Ab:=[(false,.int .i64),(false,.int .u64)]
abbrev Ln:Ab:=[(true,.pair (.bool) (.pair (.int .u64) (.pair (.int .i64) (.unit))))]
def jU (p69:BM) (f69:BQ) (p98:JH) (f98:II) (a0:Aa (.int .i64)) (a1:Aa (.int .u64)):Option (DenS Ln) :=
 let e1_:=(IntKind.wrap .i64 ((IntKind.wrap .i64 ((f69 (a0,())).1.2.2.1-(f69 (a0,())).1.2.1))+(1:Int)))
 let e2_:=(IntKind.wrap .i64 ((f69 (a0,())).1.2.1-(1:Int)))
 bif (p69 (a0,())) then (bif (p98 (a0,a1,())) then (bif (decide ((f98 (a0,a1,())).2.1>(0:Int))) then (bif (decide ((0:Int)<=e2_)) then (some (((f98 (a0,a1,())).1,(AW .u64 (f98 (a0,a1,())).2.2.1 (AT .u64 (1:Int) e2_)),(IntKind.wrap .i64 (e1_+(IntKind.wrap .i64 ((IntKind.wrap .i64 (f98 (a0,a1,())).2.1)-(1:Int))))),()),()))
 else none)
 else some (((f98 (a0,a1,())).1,(f98 (a0,a1,())).2.2.1,e1_,()),()))
 else none)
 else none
theorem aIx (x:DenS Ml):run (cf [(54,⟨Ck,Cn,p69,f69⟩),(119,⟨FL,Fi,p98,f98⟩)] []) 9 81 Tryz.f81 Ml Ln x=jU p69 f69 p98 f98 x.1 x.2.1:=by kernel_rfl
def YP (x:DenS Ml):Option (DenS Ln):=jU Aq.pre Aq.F Bo.pre Bo.F x.1 x.2.1
def Gc:Sum:=Al Ml Ln YP (DenS.dflt Ln)
theorem aEI:Sound Tryz.prog G1 81 Gc:=sd (cf [(54,Aq),(119,Bo)] []) 81 Tryz.f81 ⟨Er,RU,trivial⟩ trivial Ml Ln YP _ (fun _=>aIx ..)
abbrev rM:=Ak Ml
abbrev nL:=Aj Ml Ln
variable (p404:rM) (f404:nL)
abbrev Kq:Ab:=[(false,.int .i64),(true,.pair (.bool) (.pair (.int .u64) (.pair (.int .i64) (.unit))))]
abbrev H0:Ab:=[(false,.int .u64),(false,.bool)]
def gZ (a0:Aa (.int .i64)) (a1:Aa (.pair (.bool) (.pair (.int .u64) (.pair (.int .i64) (.unit))))):Option (DenS H0) :=
 let e10_:=(IntKind.wrap .i64 ((0:Int)-a1.2.2.1))
 let e9_:=(if ((63:Int)<e10_) then (63:Int) else e10_)
 let e8_:=(AI .u64 a1.2.1 e9_)
 let e1_:=(IntKind.wrap .u64 (a1.2.1-(AT .u64 e8_ e9_)))
 let e2_:=((IntKind.wrap .u64 (e8_+(1:Int))),true,())
 let e3_:=(AT .u64 (1:Int) (IntKind.wrap .i64 (e9_-(1:Int))))
 let e4_:=(Int.tmod e8_ (2:Int))
 let e5_:=(e8_,true,())
 let e6_:=(decide ((0:Int)<=e9_))
 let e7_:=e9_
 bif e6_ then (bif e6_ then (bif (e1_==(0:Int)) then (some ((AI .u64 a1.2.1 e7_),false,()))
 else bif (decide ((0:Int)<=(IntKind.wrap .i64 (e7_-(1:Int))))) then (bif (a0==(0:Int)) then (bif ((decide (e1_>e3_))||((e1_==e3_)&&(e4_==(1:Int)))) then (some e2_)
 else some e5_)
 else bif (a0==(1:Int)) then (bif (decide (e1_>=e3_)) then (some e2_)
 else some e5_)
 else bif (a0==(3:Int)) then (bif (!a1.1) then (some e2_)
 else some e5_)
 else bif (a0==(4:Int)) then (bif a1.1 then (some e2_)
 else some e5_)
 else bif (a0==(5:Int)) then (bif (e4_==(0:Int)) then (some e2_)
 else some e5_)
 else some e5_)
 else none)
 else none)
 else none
theorem aSG (x:DenS Kq):run (cf [] []) 9 82 Tryz.f82 Kq H0 x=gZ x.1 x.2.1:=by kernel_rfl
def Yx (x:DenS Kq):Option (DenS H0):=gZ x.1 x.2.1
def Dl:Sum:=Al Kq H0 Yx (DenS.dflt H0)
theorem aGd:Sound Tryz.prog G1 82 Dl:=sd (cf [] []) 82 Tryz.f82 trivial trivial Kq H0 Yx _ (fun _=>aSG ..)
abbrev nO:=Ak Kq
abbrev rJ:=Aj Kq H0
variable (p405:nO) (f405:rJ)
abbrev Qd:Ab:=[(false,.int .i64),(false,.int .i64),(false,.int .u64),(false,.bool)]
abbrev Li:Ab:=[(false,.int .u64),(false,.int .i64),(false,.int .i64)]
def bY (p403:kW) (f403:Z8) (p65:Ex) (f65:Ez) (p70:D3) (f70:D8) (p404:rM) (f404:nL) (p405:nO) (f405:rJ) (p122:HX) (f122:Ik) (a0 a1:Aa (.int .i64)) (a2:Aa (.int .u64)) (a3:Aa (.bool)):Option (DenS Li) :=
 let e7_:=(a0,a1,(f404 (a0,a2,())).1.1,((0:Int),(f405 (a1,(f404 (a0,a2,())))).1,()),(0:Int),false,())
 let e6_:=(f122 e7_)
 let e1_:=(e6_.1,(16:Int),e6_.2.2)
 let e2_:=(e6_.1,(0:Int),e6_.2.2)
 let e3_:=(p122 e7_)
 let e4_:=(decide ((f404 (a0,a2,())).1.2.2.1>=(0:Int)))
 let e5_:=((f405 (a1,(f404 (a0,a2,())))).2.1&&a3)
 let g1_:Option (DenS Li):=bif (p404 (a0,a2,())) then (bif e4_ then (some (a2,(0:Int),(0:Int),()))
 else bif (p405 (a1,(f404 (a0,a2,())))) then (bif e5_ then (bif e3_ then (some e1_)
 else none)
 else bif e3_ then (some e2_)
 else none)
 else none)
 else none
 bif (p403 (a0,a1,())) then (bif ((f403 (a0,a1,())).1 != (0:Int)) then (some ((0:Int),(0:Int),(f403 (a0,a1,()))))
 else bif (p65 (a0,a2,())) then (bif ((f65 (a0,a2,())).2.1 != (0:Int)) then (some ((0:Int),(0:Int),(f65 (a0,a2,())).2))
 else bif (p70 (a0,())) then (bif ((f65 (a0,a2,())).1==(0:Int)) then (some ((f70 (a0,())).1,(1:Int),(0:Int),()))
 else bif ((f65 (a0,a2,())).1==(1:Int)) then (some ((f70 (a0,())).1,(0:Int),(0:Int),()))
 else bif ((f65 (a0,a2,())).1==(2:Int)) then (bif ((f65 (a0,a2,())).1==(2:Int)) then (some (a2,(0:Int),(0:Int),()))
 else g1_)
 else bif ((f65 (a0,a2,())).1==(9:Int)) then (bif ((f65 (a0,a2,())).1==(9:Int)) then (some (a2,(0:Int),(0:Int),()))
 else g1_)
 else bif ((f65 (a0,a2,())).1==(5:Int)) then (bif ((f65 (a0,a2,())).1==(5:Int)) then (some (a2,(0:Int),(0:Int),()))
 else g1_)
 else bif ((f65 (a0,a2,())).1==(6:Int)) then (some (a2,(0:Int),(0:Int),()))
 else g1_)
 else none)
 else none)
 else none
theorem aTF (x:DenS Qd):run (cf [(80,⟨I0,I7,p403,f403⟩),(55,⟨DO,DV,p65,f65⟩),(56,⟨DG,DJ,p70,f70⟩),(81,⟨Ml,Ln,p404,f404⟩),(82,⟨Kq,H0,p405,f405⟩),(66,⟨E1,Fc,p122,f122⟩)] []) 9 96 Tryz.f96 Qd Li x=bY p403 f403 p65 f65 p70 f70 p404 f404 p405 f405 p122 f122 x.1 x.2.1 x.2.2.1 x.2.2.2.1:=by kernel_rfl
def ZH (x:DenS Qd):Option (DenS Li):=bY Ej.pre Ej.F AF.pre AF.F AB.pre AB.F Gc.pre Gc.F Dl.pre Dl.F A4.pre A4.F x.1 x.2.1 x.2.2.1 x.2.2.2.1
def PE:Sum:=Al Qd Li ZH (DenS.dflt Li)
theorem aVg:Sound Tryz.prog G1 96 PE:=sd (cf [(80,Ej),(55,AF),(56,AB),(81,Gc),(82,Dl),(66,A4)] []) 96 Tryz.f96 ⟨vG,HW,Ha,aEI,aGd,Vn,trivial⟩ trivial Qd Li ZH _ (fun _=>aTF ..)
abbrev wD:=Ak Qd
abbrev uO:=Aj Qd Li
variable (p406:wD) (f406:uO)
abbrev Q1:Ab:=[(true,.pair (.int .i64) (.pair (.int .i64) (.pair (.int .u64) (.pair (.int .u64) (.pair (.int .u64) (.unit))))))]
abbrev Oa:Ab:=[(false,.int .u64),(false,.int .i64),(false,.int .i64)]
def iG (p406:wD) (f406:uO) (a0:Aa (.pair (.int .i64) (.pair (.int .i64) (.pair (.int .u64) (.pair (.int .u64) (.pair (.int .u64) (.unit))))))):Option (DenS Oa) :=
 bif (p406 (a0.2.1,a0.1,a0.2.2.1,true,())) then (some (f406 (a0.2.1,a0.1,a0.2.2.1,true,())))
 else none
theorem aOG (x:DenS Q1):run (cf [(96,⟨Qd,Li,p406,f406⟩)] []) 9 184 Tryz.f184 Q1 Oa x=iG p406 f406 x.1:=by kernel_rfl
def WQ (x:DenS Q1):Option (DenS Oa):=iG PE.pre PE.F x.1
def KQ:Sum:=Al Q1 Oa WQ (DenS.dflt Oa)
theorem aGM:Sound Tryz.prog G1 184 KQ:=sd (cf [(96,PE)] []) 184 Tryz.f184 ⟨aVg,trivial⟩ trivial Q1 Oa WQ _ (fun _=>aOG ..)
abbrev wC:=Ak Q1
abbrev qL:=Aj Q1 Oa
variable (p407:wC) (f407:qL)
abbrev N0:Ab:=[(false,.slice (.int .i64)),(false,.slice (.int .i64)),(false,.int .u64)]
abbrev PM:Ab:=[(false,.int .i64)]
abbrev GS:Pat:=⟨46,[(14,.one (.v .i64)),(13,.one (.sl (.int .i64))),(15,.one (.v .i64)),(1,.one (.sl (.int .i64))),(0,.one (.sl (.int .i64))),(2,.one (.v .u64))],[]⟩
abbrev W6:List (Nat×Shape):=[]
abbrev Iw:List (Nat×Pat):=[(0,⟨46,[(1,.one (.sl (.int .i64))),(0,.one (.sl (.int .i64))),(2,.one (.v .u64))],[]⟩)]
abbrev IH:Option Pat:=(some ⟨46,[(6,.one (.v .i64))],[]⟩)
abbrev G0:Pat:=⟨46,[(29,.one (.v .i64)),(28,.one (.sl (.int .i64))),(30,.one (.v .i64)),(0,.one (.sl (.int .i64))),(2,.one (.v .u64))],[]⟩
abbrev WH:List (Nat×Shape):=[]
abbrev IE:List (Nat×Pat):=[(2,⟨46,[(0,.one (.sl (.int .i64))),(2,.one (.v .u64))],[]⟩)]
abbrev Is:Option Pat:=(some ⟨46,[(6,.one (.v .i64))],[]⟩)
variable (w391_2:Pat.D GS->Option (Ah Iw IH)) (w391_9:Pat.D G0->Option (Ah IE Is))
def UO (p69:BM) (f69:BQ) (p66:Cm) (f66:Cj) {R:Type} (L:Pat.D G0->Option R) (e:Ah IE Is->Option R) (x:Pat.D G0):Option R :=
 let e1_:=(x.1.2.1.getD (Int.toNat x.1.2.2.1) (0:Int))
 bif (decide (x.1.2.2.1<x.1.1)) then (bif ((decide ((0:Int)<=x.1.2.2.1))&&(decide (x.1.2.2.1<(x.1.2.1.length:Int)))) then (bif ((decide (e1_<(0:Int)))||(decide (e1_>(5:Int)))) then (((e (.inr (((3:Int),()),())))))
 else (L ((x.1.1,x.1.2.1,(IntKind.wrap .i64 (x.1.2.2.1+(1:Int))),x.1.2.2.2),())))
 else none)
 else (e (.inl (x.1.2.2.2,())))
theorem aRC (d:Nat) (R:Type) (L:Pat.D G0->Option R) (e:Ah IE Is->Option R) (x:Pat.D G0) :
  BB (cf [(54,⟨Ck,Cn,p69,f69⟩),(59,⟨CJ,CM,p66,f66⟩)] [(78,2,LoopSpec.of GS W6 Iw IH w391_2),(78,9,LoopSpec.of G0 WH IE Is w391_9)]) (d+2) 78 (By Tryz.f78 9) G0 WH IE Is (R:=R) L e x=UO p69 f69 p66 f66 L e x:=by kernel_rfl
theorem aGn (p69:BM) (f69:BQ) (p66:Cm) (f66:Cj):Bs fun L e x=>UO p69 f69 p66 f66 L e x:=by intro _ _ _ _ _ _ _ h0 hL he _; unfold UO; repeat' (first | exact h0 | exact hL _ | exact he _ | apply BU | (apply BX h0; intro _) | (apply B5 <;> intro _))
def TK (p69:BM) (f69:BQ) (p66:Cm) (f66:Cj) {R:Type} (L:Pat.D GS->Option R) (e:Ah Iw IH->Option R) (x:Pat.D GS):Option R :=
 let e2_:=((x.1.2.1.getD (Int.toNat x.1.2.2.1) (0:Int)),())
 let e1_:=(f69 e2_)
 bif (decide (x.1.2.2.1<x.1.1)) then (bif ((decide ((0:Int)<=x.1.2.2.1))&&(decide (x.1.2.2.1<(x.1.2.1.length:Int)))) then (bif (p69 e2_) then (bif (e1_.2.1 != (0:Int)) then (((e (.inr (e1_.2,())))))
 else (L ((x.1.1,x.1.2.1,(IntKind.wrap .i64 (x.1.2.2.1+(1:Int))),x.1.2.2.2),())))
 else none)
 else none)
 else (e (.inl (x.1.2.2.2,())))
theorem aLe (d:Nat) (R:Type) (L:Pat.D GS->Option R) (e:Ah Iw IH->Option R) (x:Pat.D GS) :
  BB (cf [(54,⟨Ck,Cn,p69,f69⟩),(59,⟨CJ,CM,p66,f66⟩)] [(78,2,LoopSpec.of GS W6 Iw IH w391_2),(78,9,LoopSpec.of G0 WH IE Is w391_9)]) (d+2) 78 (By Tryz.f78 2) GS W6 Iw IH (R:=R) L e x=TK p69 f69 p66 f66 L e x:=by kernel_rfl
theorem aDG (p69:BM) (f69:BQ) (p66:Cm) (f66:Cj):Bs fun L e x=>TK p69 f69 p66 f66 L e x:=by intro _ _ _ _ _ _ _ h0 hL he _; unfold TK; repeat' (first | exact h0 | exact hL _ | exact he _ | apply BU | (apply BX h0; intro _) | (apply B5 <;> intro _))
def iL (p69:BM) (f69:BQ) (p66:Cm) (f66:Cj) (w391_2:Pat.D GS->Option (Ah Iw IH)) (w391_9:Pat.D G0->Option (Ah IE Is)) (a0 a1:Aa (.slice (.int .i64))) (a2:Aa (.int .u64)):Option (DenS PM) :=
 Vx.A1 (w391_2 (((a0.length:Int),a0,(0:Int),a1,a0,a2,()),())) fun y0 =>
 Vx.A6 y0 (fun y1 =>
 Vx.A1 (w391_9 (((y1.1.1.length:Int),y1.1.1,(0:Int),y1.1.2),())) fun y2 =>
 Vx.A6 y2 (fun y3 =>
 bif (decide ((0:Int)<(y3.1.1.length:Int))) then (bif (p66 ((y3.1.1.getD (Int.toNat (0:Int)) (0:Int)),y3.1.2)) then (some (f66 ((y3.1.1.getD (Int.toNat (0:Int)) (0:Int)),y3.1.2)))
 else none)
 else none) (fun z3 =>
 some z3.1)) (fun z1 =>
 some z1.1)
theorem aSX (x:DenS N0):run (cf [(54,⟨Ck,Cn,p69,f69⟩),(59,⟨CJ,CM,p66,f66⟩)] [(78,2,LoopSpec.of GS W6 Iw IH w391_2),(78,9,LoopSpec.of G0 WH IE Is w391_9)]) 9 78 Tryz.f78 N0 PM x=iL p69 f69 p66 f66 w391_2 w391_9 x.1 x.2.1 x.2.2.1:=by kernel_rfl
def Wx:G0.D->Option (Ah IE Is):=Bf fun L=>UO Aq.pre Aq.F Ar.pre Ar.F L some
def gU:GS.D->Option (Ah Iw IH):=Bf fun L=>TK Aq.pre Aq.F Ar.pre Ar.F L some
def XL (x:DenS N0):Option (DenS PM):=iL Aq.pre Aq.F Ar.pre Ar.F gU Wx x.1 x.2.1 x.2.2.1
def Rf:Sum:=Al N0 PM XL (DenS.dflt PM)
theorem aK1:Sound Tryz.prog G1 78 Rf:=sd (cf [(54,Aq),(59,Ar)] [(78,2,LoopSpec.of GS W6 Iw IH gU),(78,9,LoopSpec.of G0 WH IE Is Wx)]) 78 Tryz.f78 ⟨Er,Ge,trivial⟩ ⟨rfl,fun d=>Ca (fun L e x=>TK Aq.pre Aq.F Ar.pre Ar.F L e x) (aDG Aq.pre Aq.F Ar.pre Ar.F) (fun _ _ _ _=>aLe ..),⟨rfl,fun d=>Ca (fun L e x=>UO Aq.pre Aq.F Ar.pre Ar.F L e x) (aGn Aq.pre Aq.F Ar.pre Ar.F) (fun _ _ _ _=>aRC ..),trivial⟩⟩ N0 PM XL _ (fun _=>aSX ..)
abbrev yM:=Ak N0
abbrev aFN:=Aj N0 PM
variable (p391:yM) (f391:aFN)
abbrev Qa:Ab:=[(false,.int .i64),(false,.int .i64),(false,.int .i64),(false,.int .u64)]
abbrev Fy:Ab:=[(false,.int .u64),(false,.int .i64)]
def cD (p65:Ex) (f65:Ez) (p98:JH) (f98:II) (p70:D3) (f70:D8) (p97:NO) (f97:MQ) (p118:G8) (f118:GD) (p40:Pk) (f40:Rd) (p51:cH) (f51:iO) (a0 a1 a2:Aa (.int .i64)) (a3:Aa (.int .u64)):Option (DenS Fy) :=
 let e5_:=(f51 (a1,a2,(f40 (a0,a3,())).1,()))
 let e1_:=(e5_.1,e5_.2.1,())
 let e2_:=((f118 (a1,(f98 (a0,a3,())).1,())).1,(0:Int),())
 let e3_:=((f97 (a1,(f98 (a0,a3,())).1,())).1,(0:Int),())
 let e4_:=(p51 (a1,a2,(f40 (a0,a3,())).1,()))
 let g6_:Option (DenS Fy):=bif (p97 (a1,(f98 (a0,a3,())).1,())) then (some e3_)
 else none
 let g5_:Option (DenS Fy):=bif (p118 (a1,(f98 (a0,a3,())).1,())) then (some e2_)
 else none
 let g4_:Option (DenS Fy):=bif (p40 (a0,a3,())) then (bif e4_ then (some e1_)
 else none)
 else none
 let g2_:Option (DenS Fy):=bif ((f65 (a0,a3,())).1==(6:Int)) then (bif ((f65 (a0,a3,())).1==(6:Int)) then (g5_)
 else g4_)
 else bif ((f65 (a0,a3,())).1==(5:Int)) then (g5_)
 else g4_
 let g1_:Option (DenS Fy):=bif ((f65 (a0,a3,())).1==(9:Int)) then (bif ((f65 (a0,a3,())).1==(9:Int)) then (g6_)
 else g2_)
 else bif ((f65 (a0,a3,())).1==(2:Int)) then (g6_)
 else g2_
 let g3_:Option (DenS Fy):=bif (p70 (a1,())) then (bif ((f65 (a0,a3,())).1==(0:Int)) then (some ((f70 (a1,())).1,(1:Int),()))
 else some ((f70 (a1,())).1,(0:Int),()))
 else none
 bif (p65 (a0,a3,())) then (bif (p98 (a0,a3,())) then (bif ((f65 (a0,a3,())).1==(0:Int)) then (bif ((f65 (a0,a3,())).1==(0:Int)) then (g3_)
 else g1_)
 else bif ((f65 (a0,a3,())).1==(1:Int)) then (g3_)
 else g1_)
 else none)
 else none
theorem aQZ (x:DenS Qa):run (cf [(55,⟨DO,DV,p65,f65⟩),(119,⟨FL,Fi,p98,f98⟩),(56,⟨DG,DJ,p70,f70⟩),(65,⟨GJ,GP,p97,f97⟩),(38,⟨EG,EZ,p118,f118⟩),(71,⟨Gp,GG,p40,f40⟩),(130,⟨Jx,IY,p51,f51⟩)] []) 9 79 Tryz.f79 Qa Fy x=cD p65 f65 p98 f98 p70 f70 p97 f97 p118 f118 p40 f40 p51 f51 x.1 x.2.1 x.2.2.1 x.2.2.2.1:=by kernel_rfl
def Y6 (x:DenS Qa):Option (DenS Fy):=cD AF.pre AF.F Bo.pre Bo.F AB.pre AB.F B4.pre B4.F A3.pre A3.F CA.pre CA.F Dm.pre Dm.F x.1 x.2.1 x.2.2.1 x.2.2.2.1
def Oz:Sum:=Al Qa Fy Y6 (DenS.dflt Fy)
theorem aP7:Sound Tryz.prog G1 79 Oz:=sd (cf [(55,AF),(119,Bo),(56,AB),(65,B4),(38,A3),(71,CA),(130,Dm)] []) 79 Tryz.f79 ⟨HW,RU,Ha,Y5,SR,ZR,uK,trivial⟩ trivial Qa Fy Y6 _ (fun _=>aQZ ..)
abbrev aE5:=Ak Qa
abbrev aFP:=Aj Qa Fy
variable (p392:aE5) (f392:aFP)
abbrev Oe:Ab:=[(false,.int .i64),(false,.int .i64),(false,.int .i64),(false,.int .u64)]
abbrev Ry:Ab:=[(false,.int .u64),(false,.int .i64),(false,.int .i64)]
def aM (p391:yM) (f391:aFN) (p392:aE5) (f392:aFP) (a0 a1 a2:Aa (.int .i64)) (a3:Aa (.int .u64)):Option (DenS Ry) :=
 let e1_:=(f391 ((a0::(a1::[])),(a2::[]),a3,()))
 bif (p391 ((a0::(a1::[])),(a2::[]),a3,())) then (bif (e1_.1 != (0:Int)) then (some ((0:Int),(0:Int),e1_))
 else bif (p392 (a0,a1,a2,a3,())) then (some ((f392 (a0,a1,a2,a3,())).1,(f392 (a0,a1,a2,a3,())).2.1,(0:Int),()))
 else none)
 else none
theorem aQ0 (x:DenS Oe):run (cf [(78,⟨N0,PM,p391,f391⟩),(79,⟨Qa,Fy,p392,f392⟩)] []) 9 23 Tryz.f23 Oe Ry x=aM p391 f391 p392 f392 x.1 x.2.1 x.2.2.1 x.2.2.2.1:=by kernel_rfl
def YZ (x:DenS Oe):Option (DenS Ry):=aM Rf.pre Rf.F Oz.pre Oz.F x.1 x.2.1 x.2.2.1 x.2.2.2.1
def Qy:Sum:=Al Oe Ry YZ (DenS.dflt Ry)
theorem aTx:Sound Tryz.prog G1 23 Qy:=sd (cf [(78,Rf),(79,Oz)] []) 23 Tryz.f23 ⟨aK1,aP7,trivial⟩ trivial Oe Ry YZ _ (fun _=>aQ0 ..)
abbrev uP:=Ak Oe
abbrev vD:=Aj Oe Ry
variable (p393:uP) (f393:vD)
abbrev OU:Ab:=[(true,.pair (.int .i64) (.pair (.int .i64) (.pair (.int .u64) (.pair (.int .u64) (.pair (.int .u64) (.unit))))))]
abbrev QP:Ab:=[(false,.int .u64),(false,.int .i64),(false,.int .i64)]
def bF (p393:uP) (f393:vD) (a0:Aa (.pair (.int .i64) (.pair (.int .i64) (.pair (.int .u64) (.pair (.int .u64) (.pair (.int .u64) (.unit))))))):Option (DenS QP) :=
 let e1_:=(a0.2.1,(IntKind.wrap .i64 a0.2.2.2.2.1),a0.1,a0.2.2.1,())
 bif (p393 e1_) then (some (f393 e1_))
 else none
theorem aIS (x:DenS OU):run (cf [(23,⟨Oe,Ry,p393,f393⟩)] []) 9 185 Tryz.f185 OU QP x=bF p393 f393 x.1:=by kernel_rfl
def Zm (x:DenS OU):Option (DenS QP):=bF Qy.pre Qy.F x.1
def Kc:Sum:=Al OU QP Zm (DenS.dflt QP)
theorem aDd:Sound Tryz.prog G1 185 Kc:=sd (cf [(23,Qy)] []) 185 Tryz.f185 ⟨aTx,trivial⟩ trivial OU QP Zm _ (fun _=>aIS ..)
abbrev tD:=Ak OU
abbrev nP:=Aj OU QP
variable (p408:tD) (f408:nP)
abbrev Nu:Ab:=[(true,.pair (.int .u64) (.pair (.int .u64) (.unit))),(false,.bool)]
abbrev OF:Ab:=[(false,.int .u64)]
def jO (a0:Aa (.pair (.int .u64) (.pair (.int .u64) (.unit)))) (a1:Aa (.bool)):Option (DenS OF) :=
 bif a1 then (some ((IntKind.wrap .u64 ((0:Int)-a0.1)),()))
 else some a0.2
theorem aSt (x:DenS Nu):run (cf [] []) 9 84 Tryz.f84 Nu OF x=jO x.1 x.2.1:=by kernel_rfl
def Yb (x:DenS Nu):Option (DenS OF):=jO x.1 x.2.1
def M5:Sum:=Al Nu OF Yb (DenS.dflt OF)
theorem aMg:Sound Tryz.prog G1 84 M5:=sd (cf [] []) 84 Tryz.f84 trivial trivial Nu OF Yb _ (fun _=>aSt ..)
abbrev aAi:=Ak Nu
abbrev x8:=Aj Nu OF
variable (p409:aAi) (f409:x8)
abbrev NA:Ab:=[(false,.int .i64),(false,.int .i64),(false,.int .i64),(false,.int .u64)]
abbrev Hr:Ab:=[(false,.int .u64),(false,.int .i64),(false,.int .i64)]
def bC (p403:kW) (f403:Z8) (p65:Ex) (f65:Ez) (p404:rM) (f404:nL) (p405:nO) (f405:rJ) (p178:He) (f178:Hx) (p409:aAi) (f409:x8) (a0 a1 a2:Aa (.int .i64)) (a3:Aa (.int .u64)):Option (DenS Hr) :=
 let e18_:=(AT .u64 (f404 (a0,a3,())).1.2.1 (f404 (a0,a3,())).1.2.2.1)
 let e19_:=(Vx.k_kinds.getD (Int.toNat a2) ((0:Int),(0:Int),()))
 let e1_:=(((!(f404 (a0,a3,())).1.1)&&(decide (e18_>e19_.2.1)))||((f404 (a0,a3,())).1.1&&(decide (e18_>e19_.1))))
 let e2_:=(((!(f404 (a0,a3,())).1.1)&&(decide ((f405 (a1,(f404 (a0,a3,())))).1>e19_.2.1)))||((f404 (a0,a3,())).1.1&&(decide ((f405 (a1,(f404 (a0,a3,())))).1>e19_.1))))
 let e3_:=((IntKind.wrap .u64 ((0:Int)-e18_)),(0:Int),(0:Int),())
 let e4_:=((IntKind.wrap .u64 ((0:Int)-e19_.1)),(1:Int),(0:Int),())
 let e16_:=(e19_,(f404 (a0,a3,())).1.1,())
 let e5_:=((f409 e16_).1,(1:Int),(0:Int),())
 let e6_:=(decide ((IntKind.wrap .i64 ((f178 ((f404 (a0,a3,())).1.2.1,())).1+(f404 (a0,a3,())).1.2.2.1))>(64:Int)))
 let e17_:=(IntKind.wrap .u64 ((0:Int)-(f405 (a1,(f404 (a0,a3,())))).1))
 let e7_:=(e17_,(16:Int),(0:Int),())
 let e8_:=(e17_,(0:Int),(0:Int),())
 let e9_:=(e18_,(0:Int),(0:Int),())
 let e10_:=(p409 e16_)
 let e11_:=(e19_.2.1,(1:Int),(0:Int),())
 let e12_:=((f405 (a1,(f404 (a0,a3,())))).1,(16:Int),(0:Int),())
 let e13_:=((f405 (a1,(f404 (a0,a3,())))).1,(0:Int),(0:Int),())
 let e14_:=(decide ((f404 (a0,a3,())).1.2.2.1<(0:Int)))
 let e15_:=(decide ((0:Int)<=(f404 (a0,a3,())).1.2.2.1))
 let g1_:Option (DenS Hr):=bif ((f65 (a0,a3,())).1==(2:Int)) then (some e4_)
 else bif (p404 (a0,a3,())) then (bif e14_ then (bif (p405 (a1,(f404 (a0,a3,())))) then (bif e2_ then (bif e10_ then (some e5_)
 else none)
 else bif (f404 (a0,a3,())).1.1 then (bif (f405 (a1,(f404 (a0,a3,())))).2.1 then (some e7_)
 else some e8_)
 else bif (f405 (a1,(f404 (a0,a3,())))).2.1 then (some e12_)
 else some e13_)
 else none)
 else bif (p178 ((f404 (a0,a3,())).1.2.1,())) then (bif e6_ then (bif e10_ then (some e5_)
 else none)
 else bif e15_ then (bif e1_ then (bif e10_ then (some e5_)
 else none)
 else bif (f404 (a0,a3,())).1.1 then (some e3_)
 else some e9_)
 else none)
 else none)
 else none
 bif (p403 (a0,a1,())) then (bif ((f403 (a0,a1,())).1 != (0:Int)) then (some ((0:Int),(0:Int),(f403 (a0,a1,()))))
 else bif ((decide (a2<(0:Int)))||(decide (a2>(3:Int)))) then (some ((0:Int),(0:Int),(9:Int),()))
 else bif (p65 (a0,a3,())) then (bif ((f65 (a0,a3,())).2.1 != (0:Int)) then (some ((0:Int),(0:Int),(f65 (a0,a3,())).2))
 else bif (bif (decide ((0:Int)<=a2)) then (decide (a2<((4:Nat):Int))) else false) then (bif ((f65 (a0,a3,())).1==(0:Int)) then (bif ((f65 (a0,a3,())).1==(0:Int)) then (some e11_)
 else g1_)
 else bif ((f65 (a0,a3,())).1==(1:Int)) then (bif ((f65 (a0,a3,())).1==(1:Int)) then (some e11_)
 else g1_)
 else bif ((f65 (a0,a3,())).1==(9:Int)) then (some e11_)
 else g1_)
 else none)
 else none)
 else none
theorem aN9 (x:DenS NA):run (cf [(80,⟨I0,I7,p403,f403⟩),(55,⟨DO,DV,p65,f65⟩),(81,⟨Ml,Ln,p404,f404⟩),(82,⟨Kq,H0,p405,f405⟩),(83,⟨FS,FA,p178,f178⟩),(84,⟨Nu,OF,p409,f409⟩)] []) 9 28 Tryz.f28 NA Hr x=bC p403 f403 p65 f65 p404 f404 p405 f405 p178 f178 p409 f409 x.1 x.2.1 x.2.2.1 x.2.2.2.1:=by kernel_rfl
def XI (x:DenS NA):Option (DenS Hr):=bC Ej.pre Ej.F AF.pre AF.F Gc.pre Gc.F Dl.pre Dl.F Bw.pre Bw.F M5.pre M5.F x.1 x.2.1 x.2.2.1 x.2.2.2.1
def Pl:Sum:=Al NA Hr XI (DenS.dflt Hr)
theorem aK8:Sound Tryz.prog G1 28 Pl:=sd (cf [(80,Ej),(55,AF),(81,Gc),(82,Dl),(83,Bw),(84,M5)] []) 28 Tryz.f28 ⟨vG,HW,aEI,aGd,V7,aMg,trivial⟩ trivial NA Hr XI _ (fun _=>aN9 ..)
abbrev mZ:=Ak NA
abbrev uX:=Aj NA Hr
variable (p410:mZ) (f410:uX)
abbrev NK:Ab:=[(true,.pair (.int .i64) (.pair (.int .i64) (.pair (.int .u64) (.pair (.int .u64) (.pair (.int .u64) (.unit))))))]
abbrev MT:Ab:=[(false,.int .u64),(false,.int .i64),(false,.int .i64)]
def dL (p410:mZ) (f410:uX) (a0:Aa (.pair (.int .i64) (.pair (.int .i64) (.pair (.int .u64) (.pair (.int .u64) (.pair (.int .u64) (.unit))))))):Option (DenS MT) :=
 let e1_:=(a0.2.1,a0.1,(IntKind.wrap .i64 a0.2.2.2.2.1),a0.2.2.1,())
 bif (p410 e1_) then (some (f410 e1_))
 else none
theorem aKv (x:DenS NK):run (cf [(28,⟨NA,Hr,p410,f410⟩)] []) 9 186 Tryz.f186 NK MT x=dL p410 f410 x.1:=by kernel_rfl
def X5 (x:DenS NK):Option (DenS MT):=dL Pl.pre Pl.F x.1
def Le:Sum:=Al NK MT X5 (DenS.dflt MT)
theorem aGV:Sound Tryz.prog G1 186 Le:=sd (cf [(28,Pl)] []) 186 Tryz.f186 ⟨aK8,trivial⟩ trivial NK MT X5 _ (fun _=>aKv ..)
abbrev tN:=Ak NK
abbrev rH:=Aj NK MT
variable (p411:tN) (f411:rH)
abbrev Pg:Ab:=[(false,.int .i64),(false,.int .i64),(false,.int .i64),(false,.int .u64)]
abbrev Nq:Ab:=[(false,.int .u64),(false,.int .i64),(false,.int .i64)]
def i3 (p403:kW) (f403:Z8) (p122:HX) (f122:Ik) (a0 a1 a2:Aa (.int .i64)) (a3:Aa (.int .u64)):Option (DenS Nq) :=
 let e8_:=(Vx.k_kinds.getD (Int.toNat a2) ((0:Int),(0:Int),()))
 let e7_:=((decide (e8_.1>(0:Int)))&&((AI .u64 a3 (63:Int))==(1:Int)))
 let e9_:=(IntKind.wrap .u64 ((0:Int)-a3))
 let e1_:=(a0,a1,e7_,((0:Int),e9_,()),(0:Int),false,())
 let e2_:=(a0,a1,e7_,((0:Int),a3,()),(0:Int),false,())
 let e3_:=(!e7_)
 let e4_:=e7_
 let e5_:=e8_
 let e6_:=e9_
 bif (p403 (a0,a1,())) then (bif ((f403 (a0,a1,())).1 != (0:Int)) then (some ((0:Int),(0:Int),(f403 (a0,a1,()))))
 else bif ((decide (a2<(0:Int)))||(decide (a2>(3:Int)))) then (some ((0:Int),(0:Int),(9:Int),()))
 else bif (bif (decide ((0:Int)<=a2)) then (decide (a2<((4:Nat):Int))) else false) then (bif e4_ then (bif ((e3_&&(decide (e6_>e5_.2.1)))||(e4_&&(decide (e6_>e5_.1)))) then (some ((0:Int),(0:Int),(7:Int),()))
 else bif (p122 e1_) then (some (f122 e1_))
 else none)
 else bif ((e3_&&(decide (a3>e5_.2.1)))||(e4_&&(decide (a3>e5_.1)))) then (some ((0:Int),(0:Int),(7:Int),()))
 else bif (p122 e2_) then (some (f122 e2_))
 else none)
 else none)
 else none
theorem aRP (x:DenS Pg):run (cf [(80,⟨I0,I7,p403,f403⟩),(66,⟨E1,Fc,p122,f122⟩)] []) 9 26 Tryz.f26 Pg Nq x=i3 p403 f403 p122 f122 x.1 x.2.1 x.2.2.1 x.2.2.2.1:=by kernel_rfl
def XC (x:DenS Pg):Option (DenS Nq):=i3 Ej.pre Ej.F A4.pre A4.F x.1 x.2.1 x.2.2.1 x.2.2.2.1
def PT:Sum:=Al Pg Nq XC (DenS.dflt Nq)
theorem aID:Sound Tryz.prog G1 26 PT:=sd (cf [(80,Ej),(66,A4)] []) 26 Tryz.f26 ⟨vG,Vn,trivial⟩ trivial Pg Nq XC _ (fun _=>aRP ..)
abbrev pX:=Ak Pg
abbrev m9:=Aj Pg Nq
variable (p412:pX) (f412:m9)
abbrev NI:Ab:=[(true,.pair (.int .i64) (.pair (.int .i64) (.pair (.int .u64) (.pair (.int .u64) (.pair (.int .u64) (.unit))))))]
abbrev P4:Ab:=[(false,.int .u64),(false,.int .i64),(false,.int .i64)]
def gA (p412:pX) (f412:m9) (a0:Aa (.pair (.int .i64) (.pair (.int .i64) (.pair (.int .u64) (.pair (.int .u64) (.pair (.int .u64) (.unit))))))):Option (DenS P4) :=
 let e1_:=(a0.2.1,a0.1,(IntKind.wrap .i64 a0.2.2.2.2.1),a0.2.2.1,())
 bif (p412 e1_) then (some (f412 e1_))
 else none
theorem aMq (x:DenS NI):run (cf [(26,⟨Pg,Nq,p412,f412⟩)] []) 9 187 Tryz.f187 NI P4 x=gA p412 f412 x.1:=by kernel_rfl
def Zr (x:DenS NI):Option (DenS P4):=gA PT.pre PT.F x.1
def J3:Sum:=Al NI P4 Zr (DenS.dflt P4)
theorem aBx:Sound Tryz.prog G1 187 J3:=sd (cf [(26,PT)] []) 187 Tryz.f187 ⟨aID,trivial⟩ trivial NI P4 Zr _ (fun _=>aMq ..)
abbrev t0:=Ak NI
abbrev rQ:=Aj NI P4
variable (p413:t0) (f413:rQ)
abbrev Kf:Ab:=[(false,.int .i64),(false,.int .u64)]
abbrev LY:Ab:=[(false,.int .u64),(false,.int .i64)]
def S8 (p66:Cm) (f66:Cj) (p115:Zd) (f115:XA) (a0:Aa (.int .i64)) (a1:Aa (.int .u64)):Option (DenS LY) :=
 bif (p66 (a0,a1,())) then (bif ((f66 (a0,a1,())).1 != (0:Int)) then (some ((0:Int),(f66 (a0,a1,()))))
 else bif (p115 (a0,())) then (some ((Sm .u64 a1 (f115 (a0,())).1),(0:Int),()))
 else none)
 else none
theorem aKb (x:DenS Kf):run (cf [(59,⟨CJ,CM,p66,f66⟩),(120,⟨JG,I4,p115,f115⟩)] []) 9 147 Tryz.f147 Kf LY x=S8 p66 f66 p115 f115 x.1 x.2.1:=by kernel_rfl
def S4 (x:DenS Kf):Option (DenS LY):=S8 Ar.pre Ar.F Dq.pre Dq.F x.1 x.2.1
def D6:Sum:=Al Kf LY S4 (DenS.dflt LY)
theorem oN:Sound Tryz.prog G1 147 D6:=sd (cf [(59,Ar),(120,Dq)] []) 147 Tryz.f147 ⟨Ge,pZ,trivial⟩ trivial Kf LY S4 _ (fun _=>aKb ..)
abbrev bH:=Ak Kf
abbrev kQ:=Aj Kf LY
variable (p112:bH) (f112:kQ)
abbrev Jb:Ab:=[(false,.int .i64),(false,.int .u64)]
abbrev IQ:Ab:=[(true,.pair (.int .i64) (.pair (.int .i64) (.unit))),(false,.int .i64)]
def Tn (p65:Ex) (f65:Ez) (p112:bH) (f112:kQ) (a0:Aa (.int .i64)) (a1:Aa (.int .u64)):Option (DenS IQ) :=
 let e1_:=(IntKind.wrap .i64 (f112 (a0,a1,())).1)
 bif (p65 (a0,a1,())) then (bif ((f65 (a0,a1,())).2.1 != (0:Int)) then (some (((0:Int),(0:Int),()),(f65 (a0,a1,())).2))
 else bif (p112 (a0,a1,())) then (bif ((f112 (a0,a1,())).1 != a1) then (some (((f65 (a0,a1,())).1,(IntKind.wrap .i64 ((0:Int)-e1_)),()),(0:Int),()))
 else some (((f65 (a0,a1,())).1,e1_,()),(0:Int),()))
 else none)
 else none
theorem r82 (x:DenS Jb):run (cf [(55,⟨DO,DV,p65,f65⟩),(147,⟨Kf,LY,p112,f112⟩)] []) 9 129 Tryz.f129 Jb IQ x=Tn p65 f65 p112 f112 x.1 x.2.1:=by kernel_rfl
def UG (x:DenS Jb):Option (DenS IQ):=Tn AF.pre AF.F D6.pre D6.F x.1 x.2.1
def DH:Sum:=Al Jb IQ UG (DenS.dflt IQ)
theorem nQ:Sound Tryz.prog G1 129 DH:=sd (cf [(55,AF),(147,D6)] []) 129 Tryz.f129 ⟨HW,oN,trivial⟩ trivial Jb IQ UG _ (fun _=>r82 ..)
abbrev Xd:=Ak Jb
abbrev ZV:=Aj Jb IQ
variable (p82:Xd) (f82:ZV)
abbrev GF:Ab:=[(true,.pair (.int .i64) (.pair (.int .i64) (.unit)))]
abbrev Gt:Ab:=[(false,.bool)]
def t53 (a0:Aa (.pair (.int .i64) (.pair (.int .i64) (.unit)))):Option (DenS Gt) :=
 some (((a0.1==(1:Int))||(a0.1==(0:Int))),())
theorem r53 (x:DenS GF):run (cf [] []) 9 75 Tryz.f75 GF Gt x=t53 x.1:=by kernel_rfl
def WC (x:DenS GF):Option (DenS Gt):=t53 x.1
def CB:Sum:=Al GF Gt WC (DenS.dflt Gt)
theorem Xy:Sound Tryz.prog G1 75 CB:=sd (cf [] []) 75 Tryz.f75 trivial trivial GF Gt WC _ (fun _=>r53 ..)
abbrev RM:=Ak GF
abbrev Sf:=Aj GF Gt
variable (p53:RM) (f53:Sf)
abbrev Hb:Ab:=[(true,.pair (.int .i64) (.pair (.int .i64) (.unit))),(true,.pair (.int .i64) (.pair (.int .i64) (.unit)))]
abbrev Gr:Ab:=[(false,.int .i64)]
def f8 (a0 a1:Aa (.pair (.int .i64) (.pair (.int .i64) (.unit)))):Option (DenS Gr) :=
 bif ((a0.1==(0:Int))||(a1.1==(0:Int))) then (some ((1:Int),()))
 else some ((0:Int),())
theorem r54 (x:DenS Hb):run (cf [] []) 9 76 Tryz.f76 Hb Gr x=f8 x.1 x.2.1:=by kernel_rfl
def ZY (x:DenS Hb):Option (DenS Gr):=f8 x.1 x.2.1
def CC:Sum:=Al Hb Gr ZY (DenS.dflt Gr)
theorem YV:Sound Tryz.prog G1 76 CC:=sd (cf [] []) 76 Tryz.f76 trivial trivial Hb Gr ZY _ (fun _=>r54 ..)
abbrev SG:=Ak Hb
abbrev R3:=Aj Hb Gr
variable (p54:SG) (f54:R3)
abbrev N5:Ab:=[(false,.int .i64),(false,.int .u64),(false,.int .i64)]
abbrev P1:Ab:=[(false,.int .u64),(false,.int .i64),(false,.int .i64)]
def mH (p82:Xd) (f82:ZV) (p53:RM) (f53:Sf) (p70:D3) (f70:D8) (p54:SG) (f54:R3) (p64:TT) (f64:Vr) (a0:Aa (.int .i64)) (a1:Aa (.int .u64)) (a2:Aa (.int .i64)):Option (DenS P1) :=
 let e4_:=(IntKind.wrap .i64 ((f82 (a0,a1,())).1.2.1+a2))
 let e1_:=(f64 (a0,(IntKind.wrap .u64 (IntKind.wrap .i64 ((0:Int)-e4_))),()))
 let e2_:=e4_
 let e3_:=((f82 (a0,a1,())).1,(f82 (a0,a1,())).1,())
 bif (p82 (a0,a1,())) then (bif ((f82 (a0,a1,())).2.1 != (0:Int)) then (some ((0:Int),(0:Int),(f82 (a0,a1,())).2))
 else bif (p53 ((f82 (a0,a1,())).1,())) then (bif (f53 ((f82 (a0,a1,())).1,())).1 then (bif (p70 (a0,())) then (bif (p54 e3_) then (some ((f70 (a0,())).1,(f54 e3_).1,(0:Int),()))
 else none)
 else none)
 else bif ((((f82 (a0,a1,())).1.1==(9:Int))&&(decide (a2>(0:Int))))||(((f82 (a0,a1,())).1.1==(2:Int))&&(decide (a2<(0:Int))))) then (some (a1,(0:Int),(0:Int),()))
 else bif ((decide (e2_>(0:Int)))||((e2_==(0:Int))&&(decide (a2<(0:Int))))) then (some ((IntKind.wrap .u64 e2_),(0:Int),(0:Int),()))
 else bif (p64 (a0,(IntKind.wrap .u64 (IntKind.wrap .i64 ((0:Int)-e2_))),())) then (some (e1_.1,(0:Int),e1_.2))
 else none)
 else none)
 else none
theorem r93 (x:DenS N5):run (cf [(129,⟨Jb,IQ,p82,f82⟩),(75,⟨GF,Gt,p53,f53⟩),(56,⟨DG,DJ,p70,f70⟩),(76,⟨Hb,Gr,p54,f54⟩),(60,⟨JR,IG,p64,f64⟩)] []) 9 146 Tryz.f146 N5 P1 x=mH p82 f82 p53 f53 p70 f70 p54 f54 p64 f64 x.1 x.2.1 x.2.2.1:=by kernel_rfl
def XS (x:DenS N5):Option (DenS P1):=mH DH.pre DH.F CB.pre CB.F AB.pre AB.F CC.pre CC.F DN.pre DN.F x.1 x.2.1 x.2.2.1
def PO:Sum:=Al N5 P1 XS (DenS.dflt P1)
theorem aQ1:Sound Tryz.prog G1 146 PO:=sd (cf [(129,DH),(75,CB),(56,AB),(76,CC),(60,DN)] []) 146 Tryz.f146 ⟨nQ,Xy,Ha,YV,iP,trivial⟩ trivial N5 P1 XS _ (fun _=>r93 ..)
abbrev Y93:=Ak N5
abbrev Z93:=Aj N5 P1
variable (p93:Y93) (f93:Z93)
abbrev QT:Ab:=[(false,.int .i64),(false,.int .u64)]
abbrev QM:Ab:=[(false,.int .u64),(false,.int .i64),(false,.int .i64)]
def kL (p93:Y93) (f93:Z93) (a0:Aa (.int .i64)) (a1:Aa (.int .u64)):Option (DenS QM) :=
 bif (p93 (a0,a1,(1:Int),())) then (some (f93 (a0,a1,(1:Int),())))
 else none
theorem r41 (x:DenS QT):run (cf [(146,⟨N5,P1,p93,f93⟩)] []) 9 99 Tryz.f99 QT QM x=kL p93 f93 x.1 x.2.1:=by kernel_rfl
def ZN (x:DenS QT):Option (DenS QM):=kL PO.pre PO.F x.1 x.2.1
def MU:Sum:=Al QT QM ZN (DenS.dflt QM)
theorem aOp:Sound Tryz.prog G1 99 MU:=sd (cf [(146,PO)] []) 99 Tryz.f99 ⟨aQ1,trivial⟩ trivial QT QM ZN _ (fun _=>r41 ..)
abbrev nA:=Ak QT
abbrev oE:=Aj QT QM
variable (p41:nA) (f41:oE)
abbrev OG:Ab:=[(true,.pair (.int .i64) (.pair (.int .i64) (.pair (.int .u64) (.pair (.int .u64) (.pair (.int .u64) (.unit))))))]
abbrev Rp:Ab:=[(false,.int .u64),(false,.int .i64),(false,.int .i64)]
def lM (p41:nA) (f41:oE) (a0:Aa (.pair (.int .i64) (.pair (.int .i64) (.pair (.int .u64) (.pair (.int .u64) (.pair (.int .u64) (.unit))))))):Option (DenS Rp) :=
 bif (p41 (a0.2.1,a0.2.2.1,())) then (some (f41 (a0.2.1,a0.2.2.1,())))
 else none
theorem aRE (x:DenS OG):run (cf [(99,⟨QT,QM,p41,f41⟩)] []) 9 190 Tryz.f190 OG Rp x=lM p41 f41 x.1:=by kernel_rfl
def Zj (x:DenS OG):Option (DenS Rp):=lM MU.pre MU.F x.1
def KW:Sum:=Al OG Rp Zj (DenS.dflt Rp)
theorem aG4:Sound Tryz.prog G1 190 KW:=sd (cf [(99,MU)] []) 190 Tryz.f190 ⟨aOp,trivial⟩ trivial OG Rp Zj _ (fun _=>aRE ..)
abbrev mT:=Ak OG
abbrev nE:=Aj OG Rp
variable (p414:mT) (f414:nE)
abbrev Pd:Ab:=[(false,.int .i64),(false,.int .i64),(false,.int .u64),(false,.int .i64)]
abbrev KE:Ab:=[(false,.int .u64),(false,.int .i64),(false,.int .i64)]
def fD (p69:BM) (f69:BQ) (p82:Xd) (f82:ZV) (p53:RM) (f53:Sf) (p70:D3) (f70:D8) (p54:SG) (f54:R3) (p40:Pk) (f40:Rd) (p51:cH) (f51:iO) (a0 a1:Aa (.int .i64)) (a2:Aa (.int .u64)) (a3:Aa (.int .i64)):Option (DenS KE) :=
 let e3_:=(if ((10000:Int)<a3) then (10000:Int) else a3)
 let e1_:=(a0,a1,((f40 (a0,a2,())).1.1,(f40 (a0,a2,())).1.2.1,(IntKind.wrap .i64 ((f40 (a0,a2,())).1.2.2.1+(if (e3_>(-(10000:Int))) then e3_ else (-(10000:Int))))),()),())
 let e2_:=((f82 (a0,a2,())).1,(f82 (a0,a2,())).1,())
 bif (p69 (a0,())) then (bif ((f69 (a0,())).2.1 != (0:Int)) then (some ((0:Int),(0:Int),(f69 (a0,())).2))
 else bif ((decide (a1<(0:Int)))||(decide (a1>(5:Int)))) then (some ((0:Int),(0:Int),(3:Int),()))
 else bif (p82 (a0,a2,())) then (bif ((f82 (a0,a2,())).2.1 != (0:Int)) then (some ((0:Int),(0:Int),(f82 (a0,a2,())).2))
 else bif (p53 ((f82 (a0,a2,())).1,())) then (bif (f53 ((f82 (a0,a2,())).1,())).1 then (bif (p70 (a0,())) then (bif (p54 e2_) then (some ((f70 (a0,())).1,(f54 e2_).1,(0:Int),()))
 else none)
 else none)
 else bif (p40 (a0,a2,())) then (bif (((f40 (a0,a2,())).2.1 != (0:Int))||((f82 (a0,a2,())).1.2.1==(0:Int))) then (some (a2,(0:Int),(0:Int),()))
 else bif (p51 e1_) then (some (f51 e1_))
 else none)
 else none)
 else none)
 else none)
 else none
theorem r38 (x:DenS Pd):run (cf [(54,⟨Ck,Cn,p69,f69⟩),(129,⟨Jb,IQ,p82,f82⟩),(75,⟨GF,Gt,p53,f53⟩),(56,⟨DG,DJ,p70,f70⟩),(76,⟨Hb,Gr,p54,f54⟩),(71,⟨Gp,GG,p40,f40⟩),(130,⟨Jx,IY,p51,f51⟩)] []) 9 100 Tryz.f100 Pd KE x=fD p69 f69 p82 f82 p53 f53 p70 f70 p54 f54 p40 f40 p51 f51 x.1 x.2.1 x.2.2.1 x.2.2.2.1:=by kernel_rfl
def Xc (x:DenS Pd):Option (DenS KE):=fD Aq.pre Aq.F DH.pre DH.F CB.pre CB.F AB.pre AB.F CC.pre CC.F CA.pre CA.F Dm.pre Dm.F x.1 x.2.1 x.2.2.1 x.2.2.2.1
def QX:Sum:=Al Pd KE Xc (DenS.dflt KE)
theorem aIo:Sound Tryz.prog G1 100 QX:=sd (cf [(54,Aq),(129,DH),(75,CB),(56,AB),(76,CC),(71,CA),(130,Dm)] []) 100 Tryz.f100 ⟨Er,nQ,Xy,Ha,YV,ZR,uK,trivial⟩ trivial Pd KE Xc _ (fun _=>r38 ..)
abbrev pQ:=Ak Pd
abbrev vN:=Aj Pd KE
variable (p38:pQ) (f38:vN)
abbrev QZ:Ab:=[(true,.pair (.int .i64) (.pair (.int .i64) (.pair (.int .u64) (.pair (.int .u64) (.pair (.int .u64) (.unit))))))]
abbrev Qg:Ab:=[(false,.int .u64),(false,.int .i64),(false,.int .i64)]
def eG (p38:pQ) (f38:vN) (a0:Aa (.pair (.int .i64) (.pair (.int .i64) (.pair (.int .u64) (.pair (.int .u64) (.pair (.int .u64) (.unit))))))):Option (DenS Qg) :=
 let e1_:=(a0.2.1,a0.1,a0.2.2.1,(IntKind.wrap .i64 a0.2.2.2.1),())
 bif (p38 e1_) then (some (f38 e1_))
 else none
theorem aK0 (x:DenS QZ):run (cf [(100,⟨Pd,KE,p38,f38⟩)] []) 9 191 Tryz.f191 QZ Qg x=eG p38 f38 x.1:=by kernel_rfl
def X1 (x:DenS QZ):Option (DenS Qg):=eG QX.pre QX.F x.1
def Mt:Sum:=Al QZ Qg X1 (DenS.dflt Qg)
theorem aDB:Sound Tryz.prog G1 191 Mt:=sd (cf [(100,QX)] []) 191 Tryz.f191 ⟨aIo,trivial⟩ trivial QZ Qg X1 _ (fun _=>aK0 ..)
abbrev rN:=Ak QZ
abbrev sP:=Aj QZ Qg
variable (p415:rN) (f415:sP)
abbrev NQ:Ab:=[(true,.pair (.int .i64) (.pair (.int .i64) (.pair (.int .u64) (.pair (.int .u64) (.pair (.int .u64) (.unit))))))]
abbrev Oj:Ab:=[(false,.int .u64),(false,.int .i64),(false,.int .i64)]
def i6 (p65:Ex) (f65:Ez) (a0:Aa (.pair (.int .i64) (.pair (.int .i64) (.pair (.int .u64) (.pair (.int .u64) (.pair (.int .u64) (.unit))))))):Option (DenS Oj) :=
 bif (p65 (a0.2.1,a0.2.2.1,())) then (some ((IntKind.wrap .u64 (f65 (a0.2.1,a0.2.2.1,())).1),(0:Int),(f65 (a0.2.1,a0.2.2.1,())).2))
 else none
theorem aQ3 (x:DenS NQ):run (cf [(55,⟨DO,DV,p65,f65⟩)] []) 9 192 Tryz.f192 NQ Oj x=i6 p65 f65 x.1:=by kernel_rfl
def Wz (x:DenS NQ):Option (DenS Oj):=i6 AF.pre AF.F x.1
def LB:Sum:=Al NQ Oj Wz (DenS.dflt Oj)
theorem aFG:Sound Tryz.prog G1 192 LB:=sd (cf [(55,AF)] []) 192 Tryz.f192 ⟨HW,trivial⟩ trivial NQ Oj Wz _ (fun _=>aQ3 ..)
abbrev sD:=Ak NQ
abbrev tQ:=Aj NQ Oj
variable (p416:sD) (f416:tQ)
abbrev QD:Ab:=[(false,.int .i64),(false,.int .u64),(false,.int .u64)]
abbrev O6:Ab:=[(false,.int .u64),(false,.int .i64)]
def bD (p66:Cm) (f66:Cj) (p115:Zd) (f115:XA) (a0:Aa (.int .i64)) (a1 a2:Aa (.int .u64)):Option (DenS O6) :=
 bif (p66 (a0,a1,())) then (bif ((f66 (a0,a1,())).1 != (0:Int)) then (some ((0:Int),(f66 (a0,a1,()))))
 else bif (p66 (a0,a2,())) then (bif ((f66 (a0,a2,())).1 != (0:Int)) then (some ((0:Int),(f66 (a0,a2,()))))
 else bif (p115 (a0,())) then (bif (p115 (a0,())) then (some ((AW .u64 (Sm .u64 a1 (f115 (a0,())).1) (AQ .u64 a2 (f115 (a0,())).1)),(0:Int),()))
 else none)
 else none)
 else none)
 else none
theorem aJV (x:DenS QD):run (cf [(59,⟨CJ,CM,p66,f66⟩),(120,⟨JG,I4,p115,f115⟩)] []) 9 148 Tryz.f148 QD O6 x=bD p66 f66 p115 f115 x.1 x.2.1 x.2.2.1:=by kernel_rfl
def XR (x:DenS QD):Option (DenS O6):=bD Ar.pre Ar.F Dq.pre Dq.F x.1 x.2.1 x.2.2.1
def N9:Sum:=Al QD O6 XR (DenS.dflt O6)
theorem aLV:Sound Tryz.prog G1 148 N9:=sd (cf [(59,Ar),(120,Dq)] []) 148 Tryz.f148 ⟨Ge,pZ,trivial⟩ trivial QD O6 XR _ (fun _=>aJV ..)
abbrev rP:=Ak QD
abbrev pU:=Aj QD O6
variable (p417:rP) (f417:pU)
abbrev PP:Ab:=[(true,.pair (.int .i64) (.pair (.int .i64) (.pair (.int .u64) (.pair (.int .u64) (.pair (.int .u64) (.unit))))))]
abbrev Rl:Ab:=[(false,.int .u64),(false,.int .i64),(false,.int .i64)]
def dW (p417:rP) (f417:pU) (a0:Aa (.pair (.int .i64) (.pair (.int .i64) (.pair (.int .u64) (.pair (.int .u64) (.pair (.int .u64) (.unit))))))):Option (DenS Rl) :=
 bif (p417 (a0.2.1,a0.2.2.1,a0.2.2.2.1,())) then (some ((f417 (a0.2.1,a0.2.2.1,a0.2.2.2.1,())).1,(0:Int),(f417 (a0.2.1,a0.2.2.1,a0.2.2.2.1,())).2))
 else none
theorem aR7 (x:DenS PP):run (cf [(148,⟨QD,O6,p417,f417⟩)] []) 9 194 Tryz.f194 PP Rl x=dW p417 f417 x.1:=by kernel_rfl
def Wc (x:DenS PP):Option (DenS Rl):=dW N9.pre N9.F x.1
def My:Sum:=Al PP Rl Wc (DenS.dflt Rl)
theorem aHa:Sound Tryz.prog G1 194 My:=sd (cf [(148,N9)] []) 194 Tryz.f194 ⟨aLV,trivial⟩ trivial PP Rl Wc _ (fun _=>aR7 ..)
abbrev q9:=Ak PP
abbrev uH:=Aj PP Rl
variable (p418:q9) (f418:uH)
end Vx
namespace Vx
open Go Go.Proofs
variable (p69:BM) (f69:BQ) (p66:Cm) (f66:Cj) (p65:Ex) (f65:Ez) (p70:D3) (f70:D8) (p118:G8) (f118:GD) (p178:He) (f178:Hx) (p122:HX) (f122:Ik) (p27:jX) (f27:cG) (p64:TT) (f64:Vr) (p25:oQ) (f25:oX) (p354:sW) (f354:sZ) (p40:Pk) (f40:Rd) (p328:EJ) (f328:EE) (p381:qJ) (f381:qY) (p395:qG) (f395:uC) (p318:uV) (f318:oC) (p396:oT) (f396:tW) (p401:mX) (f401:pO) (p402:rX) (f402:nU) (p406:wD) (f406:uO) (p407:wC) (f407:qL) (p393:uP) (f393:vD) (p408:tD) (f408:nP) (p410:mZ) (f410:uX) (p411:tN) (f411:rH) (p412:pX) (f412:m9) (p413:t0) (f413:rQ) (p112:bH) (f112:kQ) (p82:Xd) (f82:ZV) (p53:RM) (f53:Sf) (p54:SG) (f54:R3) (p41:nA) (f41:oE) (p414:mT) (f414:nE) (p38:pQ) (f38:vN) (p415:rN) (f415:sP) (p416:sD) (f416:tQ) (p417:rP) (f417:pU) (p418:q9) (f418:uH)
abbrev Ni:Ab:=[(false,.int .i64),(false,.int .u64),(false,.int .u64)]
abbrev Qt:Ab:=[(false,.int .u64),(false,.int .i64),(false,.bool),(false,.int .i64)]
abbrev H4:Pat:=⟨109,[(32,.one (.v .i64)),(31,.one (.sl (.int .u64))),(33,.one (.v .i64)),(2,.one (.v .u64)),(0,.one (.v .i64)),(1,.one (.v .u64))],[]⟩
abbrev Z1:List (Nat×Shape):=[]
abbrev MD:List (Nat×Pat):=[(0,⟨109,[(2,.one (.v .u64)),(0,.one (.v .i64)),(1,.one (.v .u64))],[]⟩)]
abbrev KU:Option Pat:=(some ⟨109,[(6,.one (.v .u64)),(7,.one (.v .i64)),(8,.one (.bool)),(9,.one (.v .i64))],[]⟩)
variable (w419_5:Pat.D H4->Option (Ah MD KU))
def TN (p69:BM) (f69:BQ) (p66:Cm) (f66:Cj) (p65:Ex) (f65:Ez) (p70:D3) (f70:D8) {R:Type} (L:Pat.D H4->Option R) (e:Ah MD KU->Option R) (x:Pat.D H4):Option R :=
 let e2_:=(x.1.2.2.2.2.1,(x.1.2.1.getD (Int.toNat x.1.2.2.1) (0:Int)),())
 let e1_:=(f66 e2_)
 bif (decide (x.1.2.2.1<x.1.1)) then (bif ((decide ((0:Int)<=x.1.2.2.1))&&(decide (x.1.2.2.1<(x.1.2.1.length:Int)))) then (bif (p66 e2_) then (bif (e1_.1 != (0:Int)) then (((e (.inr (((0:Int),(0:Int),true,e1_),())))))
 else (L ((x.1.1,x.1.2.1,(IntKind.wrap .i64 (x.1.2.2.1+(1:Int))),x.1.2.2.2),())))
 else none)
 else none)
 else (e (.inl (x.1.2.2.2,())))
theorem aRY (d:Nat) (R:Type) (L:Pat.D H4->Option R) (e:Ah MD KU->Option R) (x:Pat.D H4) :
  BB (cf [(54,⟨Ck,Cn,p69,f69⟩),(59,⟨CJ,CM,p66,f66⟩),(55,⟨DO,DV,p65,f65⟩),(56,⟨DG,DJ,p70,f70⟩)] [(198,5,LoopSpec.of H4 Z1 MD KU w419_5)]) (d+2) 198 (By Tryz.f198 5) H4 Z1 MD KU (R:=R) L e x=TN p69 f69 p66 f66 p65 f65 p70 f70 L e x:=by kernel_rfl
theorem aC3 (p69:BM) (f69:BQ) (p66:Cm) (f66:Cj) (p65:Ex) (f65:Ez) (p70:D3) (f70:D8):Bs fun L e x=>TN p69 f69 p66 f66 p65 f65 p70 f70 L e x:=by intro _ _ _ _ _ _ _ h0 hL he _; unfold TN; repeat' (first | exact h0 | exact hL _ | exact he _ | apply BU | (apply BX h0; intro _) | (apply B5 <;> intro _))
def lY (p69:BM) (f69:BQ) (p66:Cm) (f66:Cj) (p65:Ex) (f65:Ez) (p70:D3) (f70:D8) (w419_5:Pat.D H4->Option (Ah MD KU)) (a0:Aa (.int .i64)) (a1 a2:Aa (.int .u64)):Option (DenS Qt) :=
 bif (p69 (a0,())) then (bif ((f69 (a0,())).2.1 != (0:Int)) then (some ((0:Int),(0:Int),true,(f69 (a0,())).2))
 else Vx.A1 (w419_5 ((((a1::(a2::[])).length:Int),(a1::(a2::[])),(0:Int),a2,a0,a1,()),())) fun y2 =>
 Vx.A6 y2 (fun y3 =>
 bif (p65 y3.1.2) then (bif (p65 (y3.1.2.1,y3.1.1,())) then (bif (p70 (y3.1.2.1,())) then (bif (((f65 y3.1.2).1==(0:Int))||((f65 (y3.1.2.1,y3.1.1,())).1==(0:Int))) then (some ((f70 (y3.1.2.1,())).1,(1:Int),true,(0:Int),()))
 else bif (((f65 y3.1.2).1==(1:Int))||((f65 (y3.1.2.1,y3.1.1,())).1==(1:Int))) then (some ((f70 (y3.1.2.1,())).1,(0:Int),true,(0:Int),()))
 else bif (((((f65 y3.1.2).1==(9:Int))||((f65 y3.1.2).1==(2:Int)))||((f65 (y3.1.2.1,y3.1.1,())).1==(6:Int)))||((f65 (y3.1.2.1,y3.1.1,())).1==(5:Int))) then (some ((f70 (y3.1.2.1,())).1,(1:Int),true,(0:Int),()))
 else bif (((((f65 (y3.1.2.1,y3.1.1,())).1==(9:Int))||((f65 (y3.1.2.1,y3.1.1,())).1==(2:Int)))||((f65 y3.1.2).1==(6:Int)))||((f65 y3.1.2).1==(5:Int))) then (some (y3.1.2.2.1,(0:Int),true,(0:Int),()))
 else some ((0:Int),(0:Int),false,(0:Int),()))
 else none)
 else none)
 else none) (fun z3 =>
 some z3.1))
 else none
theorem aJ8 (x:DenS Ni):run (cf [(54,⟨Ck,Cn,p69,f69⟩),(59,⟨CJ,CM,p66,f66⟩),(55,⟨DO,DV,p65,f65⟩),(56,⟨DG,DJ,p70,f70⟩)] [(198,5,LoopSpec.of H4 Z1 MD KU w419_5)]) 9 198 Tryz.f198 Ni Qt x=lY p69 f69 p66 f66 p65 f65 p70 f70 w419_5 x.1 x.2.1 x.2.2.1:=by kernel_rfl
def Vz:H4.D->Option (Ah MD KU):=Bf fun L=>TN Aq.pre Aq.F Ar.pre Ar.F AF.pre AF.F AB.pre AB.F L some
def Wu (x:DenS Ni):Option (DenS Qt):=lY Aq.pre Aq.F Ar.pre Ar.F AF.pre AF.F AB.pre AB.F Vz x.1 x.2.1 x.2.2.1
def OW:Sum:=Al Ni Qt Wu (DenS.dflt Qt)
theorem aUq:Sound Tryz.prog G1 198 OW:=sd (cf [(54,Aq),(59,Ar),(55,AF),(56,AB)] [(198,5,LoopSpec.of H4 Z1 MD KU Vz)]) 198 Tryz.f198 ⟨Er,Ge,HW,Ha,trivial⟩ ⟨rfl,fun d=>Ca (fun L e x=>TN Aq.pre Aq.F Ar.pre Ar.F AF.pre AF.F AB.pre AB.F L e x) (aC3 Aq.pre Aq.F Ar.pre Ar.F AF.pre AF.F AB.pre AB.F) (fun _ _ _ _=>aRY ..),trivial⟩ Ni Qt Wu _ (fun _=>aJ8 ..)
abbrev aEF:=Ak Ni
abbrev xY:=Aj Ni Qt
variable (p419:aEF) (f419:xY)
abbrev Rr:Ab:=[(true,.pair (.bool) (.pair (.slice (.int .u64)) (.pair (.int .i64) (.unit)))),(true,.pair (.bool) (.pair (.slice (.int .u64)) (.pair (.int .i64) (.unit))))]
abbrev OH:Ab:=[(true,.pair (.int .u64) (.pair (.int .u64) (.pair (.int .i64) (.pair (.int .u64) (.unit)))))]
abbrev HS:Pat:=⟨104,[(6,.one (.v .u64)),(9,.one (.v .i64)),(8,.one (.ptr 3 0)),(4,.one (.ptr 2 0))],[.gone,.gone,.raw [.v .u64,.v .u64,.v .i64,.v .u64],.raw [.v .u64,.v .u64,.v .i64,.v .u64]]⟩
abbrev dK:List (Nat×Shape):=[]
abbrev LE:List (Nat×Pat):=[(0,⟨104,[(8,.one (.ptr 3 0)),(4,.one (.ptr 2 0))],[.gone,.gone,.raw [.v .u64,.v .u64,.v .i64,.v .u64],.raw [.v .u64,.v .u64,.v .i64,.v .u64]]⟩)]
abbrev LP:Option Pat:=none
variable (w420_10:Pat.D HS->Option (Ah LE LP))
def Ug (p178:He) (f178:Hx) (p328:EJ) (f328:EE) {R:Type} (L:Pat.D HS->Option R) (e:Ah LE LP->Option R) (x:Pat.D HS):Option R :=
 let e6_:=(if ((64:Int)<x.1.2.1) then (64:Int) else x.1.2.1)
 let e5_:=(IntKind.wrap .i64 ((64:Int)-e6_))
 let e1_:=(f328 ((AI .u64 x.2.2.2.2.1.1 e5_),(AT .u64 x.2.2.2.2.1.1 e6_),x.1.1,()))
 let e2_:=e5_
 let e3_:=(decide ((0:Int)<=e6_))
 let e4_:=e6_
 bif (decide (x.1.2.1>(0:Int))) then (bif (decide ((0:Int)<=e2_)) then (bif e3_ then (bif (p328 ((AI .u64 x.2.2.2.2.1.1 e2_),(AT .u64 x.2.2.2.2.1.1 e4_),x.1.1,())) then (bif e3_ then (((L ((x.1.1,(IntKind.wrap .i64 (x.1.2.1-e4_)),(),(),()),(),(),x.2.2.2.1,(e1_.2.1,x.2.2.2.2.1.2.1,x.2.2.2.2.1.2.2.1,(IntKind.wrap .u64 ((AT .u64 x.2.2.2.2.1.2.2.2.1 e4_)+e1_.1)),()),()))))
 else none)
 else none)
 else none)
 else none)
 else (e (.inl (((),(),()),(),(),x.2.2.2)))
theorem aS6 (d:Nat) (R:Type) (L:Pat.D HS->Option R) (e:Ah LE LP->Option R) (x:Pat.D HS) :
  BB (cf [(83,⟨FS,FA,p178,f178⟩),(264,⟨EK,EX,p328,f328⟩)] [(199,10,LoopSpec.of HS dK LE LP w420_10)]) (d+2) 199 (By Tryz.f199 10) HS dK LE LP (R:=R) L e x=Ug p178 f178 p328 f328 L e x:=by kernel_rfl
theorem aBg (p178:He) (f178:Hx) (p328:EJ) (f328:EE):Bs fun L e x=>Ug p178 f178 p328 f328 L e x:=by intro _ _ _ _ _ _ _ h0 hL he _; unfold Ug; repeat' (first | exact h0 | exact hL _ | exact he _ | apply BU | (apply BX h0; intro _) | (apply B5 <;> intro _))
def dI (p178:He) (f178:Hx) (p328:EJ) (f328:EE) (w420_10:Pat.D HS->Option (Ah LE LP)) (a0 a1:Aa (.pair (.bool) (.pair (.slice (.int .u64)) (.pair (.int .i64) (.unit))))):Option (DenS OH) :=
 let e8_:=(IntKind.wrap .i64 (a1.2.2.1-a0.2.2.1))
 let e7_:=(AT .u64 (a1.2.1.getD (Int.toNat (0:Int)) (0:Int)) e8_)
 let e1_:=(e7_ != (0:Int))
 let e2_:=e7_
 let e3_:=((a1.2.1.getD (Int.toNat (0:Int)) (0:Int)) != (0:Int))
 let e4_:=e8_
 let e5_:=((a1.2.1.getD (Int.toNat (0:Int)) (0:Int)),())
 let e6_:=((a0.2.1.getD (Int.toNat (0:Int)) (0:Int)),())
 bif (decide ((0:Int)<(a0.2.1.length:Int))) then (bif (decide ((0:Int)<(a1.2.1.length:Int))) then (bif (decide (a1.2.2.1>a0.2.2.1)) then (bif (p178 e5_) then (bif (p178 e6_) then (bif (decide ((IntKind.wrap .i64 ((f178 e5_).1+e4_))>(IntKind.wrap .i64 ((f178 e6_).1+(1:Int))))) then (some (((a0.2.1.getD (Int.toNat (0:Int)) (0:Int)),(0:Int),a0.2.2.1,(0:Int),()),()))
 else bif (decide ((0:Int)<=e4_)) then (bif e1_ then (bif e1_ then (some (((Int.tmod (a0.2.1.getD (Int.toNat (0:Int)) (0:Int)) e2_),e2_,a0.2.2.1,(Bz .u64 (a0.2.1.getD (Int.toNat (0:Int)) (0:Int)) e2_),()),()))
 else none)
 else none)
 else none)
 else none)
 else none)
 else bif e3_ then (bif e3_ then (Vx.A1 (w420_10 (((a1.2.1.getD (Int.toNat (0:Int)) (0:Int)),(IntKind.wrap .i64 (a0.2.2.1-a1.2.2.1)),(),(),()),(),(),((0:Int),(0:Int),(0:Int),(0:Int),()),((Int.tmod (a0.2.1.getD (Int.toNat (0:Int)) (0:Int)) (a1.2.1.getD (Int.toNat (0:Int)) (0:Int))),(a1.2.1.getD (Int.toNat (0:Int)) (0:Int)),a1.2.2.1,(Bz .u64 (a0.2.1.getD (Int.toNat (0:Int)) (0:Int)) (a1.2.1.getD (Int.toNat (0:Int)) (0:Int))),()),())) fun y5 =>
 Vx.A6 y5 (fun y6 =>
 some y6.2.2.2.2) (fun z6 =>
 none))
 else none)
 else none)
 else none)
 else none
theorem aJe (x:DenS Rr):run (cf [(83,⟨FS,FA,p178,f178⟩),(264,⟨EK,EX,p328,f328⟩)] [(199,10,LoopSpec.of HS dK LE LP w420_10)]) 9 199 Tryz.f199 Rr OH x=dI p178 f178 p328 f328 w420_10 x.1 x.2.1:=by kernel_rfl
def kG:HS.D->Option (Ah LE LP):=Bf fun L=>Ug Bw.pre Bw.F AS.pre AS.F L some
def SE (x:DenS Rr):Option (DenS OH):=dI Bw.pre Bw.F AS.pre AS.F kG x.1 x.2.1
def NS:Sum:=Al Rr OH SE (DenS.dflt OH)
theorem aPq:Sound Tryz.prog G1 199 NS:=sd (cf [(83,Bw),(264,AS)] [(199,10,LoopSpec.of HS dK LE LP kG)]) 199 Tryz.f199 ⟨V7,gF,trivial⟩ ⟨rfl,fun d=>Ca (fun L e x=>Ug Bw.pre Bw.F AS.pre AS.F L e x) (aBg Bw.pre Bw.F AS.pre AS.F) (fun _ _ _ _=>aS6 ..),trivial⟩ Rr OH SE _ (fun _=>aJe ..)
abbrev aCw:=Ak Rr
abbrev wQ:=Aj Rr OH
variable (p420:aCw) (f420:wQ)
abbrev Ll:Ab:=[(false,.int .i64),(false,.int .u64),(false,.int .u64),(false,.bool)]
abbrev Hy:Ab:=[(false,.int .u64),(false,.int .i64),(false,.int .i64),(false,.int .i64)]
def gT (p419:aEF) (f419:xY) (p40:Pk) (f40:Rd) (p420:aCw) (f420:wQ) (p122:HX) (f122:Ik) (a0:Aa (.int .i64)) (a1 a2:Aa (.int .u64)) (a3:Aa (.bool)):Option (DenS Hy) :=
 let e24_:=((f40 (a0,a1,())).1,(f40 (a0,a2,())).1,())
 let e23_:=(f420 e24_)
 let e20_:=(IntKind.wrap .u64 (e23_.1.2.1-e23_.1.1))
 let e22_:=(e23_.1.2.2.1,false,())
 let e14_:=(((0:Int),e20_,()),e22_)
 let e13_:=(a0,(2:Int),(f40 (a0,a1,())).1.1,e14_)
 let e12_:=(f122 e13_)
 let e1_:=(e12_.1,(IntKind.wrap .i64 (AQ .u64 (IntKind.wrap .u64 (e23_.1.2.2.2.1+(1:Int))) (7:Int))),(0:Int),e12_.2.2)
 let e19_:=(((0:Int),e23_.1.1,()),e22_)
 let e17_:=(a0,(2:Int),(!(f40 (a0,a1,())).1.1),e19_)
 let e15_:=(f122 e17_)
 let e21_:=(IntKind.wrap .i64 (AQ .u64 e23_.1.2.2.2.1 (7:Int)))
 let e2_:=(e15_.1,e21_,(0:Int),e15_.2.2)
 let e18_:=(a0,(2:Int),(f40 (a0,a1,())).1.1,e19_)
 let e16_:=(f122 e18_)
 let e3_:=(e16_.1,e21_,(0:Int),e16_.2.2)
 let e4_:=(f122 (a0,(2:Int),(!(f40 (a0,a1,())).1.1),e14_))
 let e5_:=(p122 e13_)
 let e6_:=(p122 e17_)
 let e7_:=(p122 e18_)
 let e8_:=(e20_==(0:Int))
 let e9_:=(IntKind.wrap .u64 ((2:Int)*e23_.1.1))
 let e10_:=(e23_.1.1==(0:Int))
 let e11_:=e23_
 let g1_:Option (DenS Hy):=bif (a3&&false) then (bif e10_ then (bif e7_ then (some e3_)
 else none)
 else bif e6_ then (some e2_)
 else none)
 else bif e10_ then (bif e7_ then (some e3_)
 else none)
 else bif e7_ then (some e3_)
 else none
 bif (p419 (a0,a1,a2,())) then (bif (f419 (a0,a1,a2,())).2.2.1 then (some ((f419 (a0,a1,a2,())).1,(0:Int),(f419 (a0,a1,a2,())).2.1,(f419 (a0,a1,a2,())).2.2.2))
 else bif (p40 (a0,a1,())) then (bif (p40 (a0,a2,())) then (bif (p420 e24_) then (bif a3 then (bif (((e11_.1.2.1==(0:Int))||(decide (e9_<e11_.1.2.1)))||((e9_==e11_.1.2.1)&&((AQ .u64 e11_.1.2.2.2.1 (1:Int))==(0:Int)))) then (g1_)
 else bif (a3&&true) then (bif e8_ then (bif e5_ then (some e1_)
 else none)
 else bif (p122 (a0,(2:Int),(!(f40 (a0,a1,())).1.1),((0:Int),(IntKind.wrap .u64 (e11_.1.2.1-e11_.1.1)),()),e11_.1.2.2.1,false,())) then (some (e4_.1,(IntKind.wrap .i64 (AQ .u64 (IntKind.wrap .u64 (e11_.1.2.2.2.1+(1:Int))) (7:Int))),(0:Int),e4_.2.2))
 else none)
 else bif e8_ then (bif e5_ then (some e1_)
 else none)
 else bif e5_ then (some e1_)
 else none)
 else g1_)
 else none)
 else none)
 else none)
 else none
theorem aNH (x:DenS Ll):run (cf [(198,⟨Ni,Qt,p419,f419⟩),(71,⟨Gp,GG,p40,f40⟩),(199,⟨Rr,OH,p420,f420⟩),(66,⟨E1,Fc,p122,f122⟩)] []) 9 142 Tryz.f142 Ll Hy x=gT p419 f419 p40 f40 p420 f420 p122 f122 x.1 x.2.1 x.2.2.1 x.2.2.2.1:=by kernel_rfl
def ZJ (x:DenS Ll):Option (DenS Hy):=gT OW.pre OW.F CA.pre CA.F NS.pre NS.F A4.pre A4.F x.1 x.2.1 x.2.2.1 x.2.2.2.1
def Gi:Sum:=Al Ll Hy ZJ (DenS.dflt Hy)
theorem aGt:Sound Tryz.prog G1 142 Gi:=sd (cf [(198,OW),(71,CA),(199,NS),(66,A4)] []) 142 Tryz.f142 ⟨aUq,ZR,aPq,Vn,trivial⟩ trivial Ll Hy ZJ _ (fun _=>aNH ..)
abbrev uQ:=Ak Ll
abbrev oF:=Aj Ll Hy
variable (p421:uQ) (f421:oF)
abbrev RA:Ab:=[(false,.int .i64),(false,.int .u64),(false,.int .u64)]
abbrev Q8:Ab:=[(false,.int .u64),(false,.int .i64),(false,.int .i64),(false,.int .i64)]
def lK (p421:uQ) (f421:oF) (a0:Aa (.int .i64)) (a1 a2:Aa (.int .u64)):Option (DenS Q8) :=
 bif (p421 (a0,a1,a2,true,())) then (some (f421 (a0,a1,a2,true,())))
 else none
theorem aLd (x:DenS RA):run (cf [(142,⟨Ll,Hy,p421,f421⟩)] []) 9 94 Tryz.f94 RA Q8 x=lK p421 f421 x.1 x.2.1 x.2.2.1:=by kernel_rfl
def XE (x:DenS RA):Option (DenS Q8):=lK Gi.pre Gi.F x.1 x.2.1 x.2.2.1
def L8:Sum:=Al RA Q8 XE (DenS.dflt Q8)
theorem aDy:Sound Tryz.prog G1 94 L8:=sd (cf [(142,Gi)] []) 94 Tryz.f94 ⟨aGt,trivial⟩ trivial RA Q8 XE _ (fun _=>aLd ..)
abbrev aGp:=Ak RA
abbrev aCq:=Aj RA Q8
variable (p422:aGp) (f422:aCq)
abbrev PX:Ab:=[(false,.int .i64),(false,.int .u64),(false,.int .u64)]
abbrev PY:Ab:=[(false,.int .u64),(false,.int .i64),(false,.int .i64),(false,.int .i64)]
def cV (p421:uQ) (f421:oF) (a0:Aa (.int .i64)) (a1 a2:Aa (.int .u64)):Option (DenS PY) :=
 bif (p421 (a0,a1,a2,false,())) then (some (f421 (a0,a1,a2,false,())))
 else none
theorem aNR (x:DenS PX):run (cf [(142,⟨Ll,Hy,p421,f421⟩)] []) 9 95 Tryz.f95 PX PY x=cV p421 f421 x.1 x.2.1 x.2.2.1:=by kernel_rfl
def YE (x:DenS PX):Option (DenS PY):=cV Gi.pre Gi.F x.1 x.2.1 x.2.2.1
def K7:Sum:=Al PX PY YE (DenS.dflt PY)
theorem aAN:Sound Tryz.prog G1 95 K7:=sd (cf [(142,Gi)] []) 95 Tryz.f95 ⟨aGt,trivial⟩ trivial PX PY YE _ (fun _=>aNR ..)
abbrev zJ:=Ak PX
abbrev aFc:=Aj PX PY
variable (p423:zJ) (f423:aFc)
abbrev jZ:Ab:=[(false,.int .i64),(false,.int .u64),(false,.int .u64)]
abbrev iH:Ab:=[(false,.int .u64),(false,.int .i64),(false,.int .i64),(false,.int .i64)]
def QK:SumF:=IS jZ iH [(94,[],L8),(95,[],K7)]
theorem aSS:KA Tryz.prog G1 QK:=UW ⟨DF aDy,⟨DF aAN,trivial⟩⟩
abbrev aCM:=Option (Nat×List Nat)->Ak jZ
abbrev aDg:=Option (Nat×List Nat)->Aj jZ iH
variable (p100004:aCM) (f100004:aDg)
abbrev NF:Ab:=[(true,.pair (.int .i64) (.pair (.int .i64) (.pair (.int .u64) (.pair (.int .u64) (.pair (.int .u64) .unit))))),(false,.box (.pfn))]
abbrev QG:Ab:=[(false,.int .u64),(false,.int .i64),(false,.int .i64)]
def aR (p100004:aCM) (f100004:aDg) (a0:Aa (.pair (.int .i64) (.pair (.int .i64) (.pair (.int .u64) (.pair (.int .u64) (.pair (.int .u64) .unit)))))) (a1:Aa (.box (.pfn))):Option (DenS QG) :=
 let e1_:=(f100004 (some (a1,[])) (a0.2.1,a0.2.2.1,a0.2.2.2.1,()))
 bif (p100004 (some (a1,[])) (a0.2.1,a0.2.2.1,a0.2.2.2.1,())) then (some (e1_.1,e1_.2.2))
 else none
theorem aOU (x:DenS NF):run ({ cf [] [] with fns:=[(186,⟨jZ,iH,p100004,f100004⟩)] }) 9 256 Tryz.f256 NF QG x=aR p100004 f100004 x.1 x.2.1:=by kernel_rfl
def ZK (x:DenS NF):Option (DenS QG):=aR QK.pre QK.F x.1 x.2.1
def Fp:Sum:=Al NF QG ZK (DenS.dflt QG)
theorem sM:Sound Tryz.prog G1 256 Fp:=sd ({ cf [] [] with fns:=[(186,QK)] }) 256 Tryz.f256 trivial trivial NF QG ZK _ (fun _=>aOU ..) (hfs:=⟨aSS,trivial⟩)
abbrev aE7:=Ak NF
abbrev aAm:=Aj NF QG
variable (p424:aE7) (f424:aAm)
abbrev PJ:Ab:=[(false,.int .i64),(false,.int .i64)]
abbrev QJ:Ab:=[(false,.bool)]
def wT (a0 a1:Aa (.int .i64)):Option (DenS QJ) :=
 some ((decide (a1<a0)),())
theorem r61 (x:DenS PJ):run (cf [] []) 9 144 Tryz.f144 PJ QJ x=wT x.1 x.2.1:=by kernel_rfl
def Xo (x:DenS PJ):Option (DenS QJ):=wT x.1 x.2.1
def Rc:Sum:=Al PJ QJ Xo (DenS.dflt QJ)
theorem aRc:Sound Tryz.prog G1 144 Rc:=sd (cf [] []) 144 Tryz.f144 trivial trivial PJ QJ Xo _ (fun _=>r61 ..)
abbrev Y61:=Ak PJ
abbrev Z61:=Aj PJ QJ
variable (p61:Y61) (f61:Z61)
abbrev Jn:Ab:=[(false,.int .i64),(false,.int .u64),(false,.int .u64)]
abbrev Iu:Ab:=[(true,.pair (.int .i64) (.pair (.int .i64) (.unit))),(true,.pair (.int .i64) (.pair (.int .i64) (.unit))),(false,.int .i64)]
def Vo (p82:Xd) (f82:ZV) (a0:Aa (.int .i64)) (a1 a2:Aa (.int .u64)):Option (DenS Iu) :=
 bif (p82 (a0,a1,())) then (bif ((f82 (a0,a1,())).2.1 != (0:Int)) then (some ((f82 (a0,a1,())).1,((0:Int),(0:Int),()),(f82 (a0,a1,())).2))
 else bif (p82 (a0,a2,())) then (some ((f82 (a0,a1,())).1,(f82 (a0,a2,()))))
 else none)
 else none
theorem r52 (x:DenS Jn):run (cf [(129,⟨Jb,IQ,p82,f82⟩)] []) 9 74 Tryz.f74 Jn Iu x=Vo p82 f82 x.1 x.2.1 x.2.2.1:=by kernel_rfl
def Us (x:DenS Jn):Option (DenS Iu):=Vo DH.pre DH.F x.1 x.2.1 x.2.2.1
def Ee:Sum:=Al Jn Iu Us (DenS.dflt Iu)
theorem sT:Sound Tryz.prog G1 74 Ee:=sd (cf [(129,DH)] []) 74 Tryz.f74 ⟨nQ,trivial⟩ trivial Jn Iu Us _ (fun _=>r52 ..)
abbrev kV:=Ak Jn
abbrev aB:=Aj Jn Iu
variable (p52:kV) (f52:aB)
abbrev NH:Ab:=[(false,.int .i64),(false,.int .u64),(false,.int .u64)]
abbrev QY:Ab:=[(false,.int .u64),(false,.int .i64),(false,.int .i64)]
def hJ (p61:Y61) (f61:Z61) (p52:kV) (f52:aB) (p54:SG) (f54:R3) (p70:D3) (f70:D8) (p53:RM) (f53:Sf) (a0:Aa (.int .i64)) (a1 a2:Aa (.int .u64)):Option (DenS QY) :=
 let e3_:=((f52 (a0,a1,a2,())).1,(f52 (a0,a1,a2,())).2.1,())
 let e1_:=((f54 e3_).1,(0:Int),())
 let e2_:=((f52 (a0,a1,a2,())).1.2.1,(f52 (a0,a1,a2,())).2.1.2)
 bif (p52 (a0,a1,a2,())) then (bif ((f52 (a0,a1,a2,())).2.2.1 != (0:Int)) then (some ((0:Int),(0:Int),(f52 (a0,a1,a2,())).2.2))
 else bif (p54 e3_) then (bif (p53 ((f52 (a0,a1,a2,())).1,())) then (bif ((p53 ((f52 (a0,a1,a2,())).2.1,()))||(!(f53 ((f52 (a0,a1,a2,())).1,())).1)) then (bif ((f53 ((f52 (a0,a1,a2,())).1,())).1&&(f53 ((f52 (a0,a1,a2,())).2.1,())).1) then (bif (p70 (a0,())) then (some ((f70 (a0,())).1,e1_))
 else none)
 else bif (p53 ((f52 (a0,a1,a2,())).1,())) then (bif ((p53 ((f52 (a0,a1,a2,())).2.1,()))||(!(bif (f53 ((f52 (a0,a1,a2,())).1,())).1 then false else true))) then (bif ((p61 e2_)||(!((bif (f53 ((f52 (a0,a1,a2,())).1,())).1 then false else true)&&(bif (f53 ((f52 (a0,a1,a2,())).2.1,())).1 then false else true)))) then (bif ((f53 ((f52 (a0,a1,a2,())).1,())).1||((!(f53 ((f52 (a0,a1,a2,())).2.1,())).1)&&((f61 e2_).1||(((f52 (a0,a1,a2,())).1.2.1==(0:Int))&&((f52 (a0,a1,a2,())).2.1.1==(5:Int)))))) then (some (a2,e1_))
 else some (a1,e1_))
 else none)
 else none)
 else none)
 else none)
 else none)
 else none)
 else none
theorem r19 (x:DenS NH):run (cf [(144,⟨PJ,QJ,p61,f61⟩),(74,⟨Jn,Iu,p52,f52⟩),(76,⟨Hb,Gr,p54,f54⟩),(56,⟨DG,DJ,p70,f70⟩),(75,⟨GF,Gt,p53,f53⟩)] []) 9 97 Tryz.f97 NH QY x=hJ p61 f61 p52 f52 p54 f54 p70 f70 p53 f53 x.1 x.2.1 x.2.2.1:=by kernel_rfl
def Xw (x:DenS NH):Option (DenS QY):=hJ Rc.pre Rc.F Ee.pre Ee.F CC.pre CC.F AB.pre AB.F CB.pre CB.F x.1 x.2.1 x.2.2.1
def LU:Sum:=Al NH QY Xw (DenS.dflt QY)
theorem aBH:Sound Tryz.prog G1 97 LU:=sd (cf [(144,Rc),(74,Ee),(76,CC),(56,AB),(75,CB)] []) 97 Tryz.f97 ⟨aRc,sT,YV,Ha,Xy,trivial⟩ trivial NH QY Xw _ (fun _=>r19 ..)
abbrev Y19:=Ak NH
abbrev Z19:=Aj NH QY
variable (p19:Y19) (f19:Z19)
abbrev Ov:Ab:=[(false,.int .i64),(false,.int .i64)]
abbrev NP:Ab:=[(false,.bool)]
def t63 (a0 a1:Aa (.int .i64)):Option (DenS NP) :=
 some ((decide (a1>a0)),())
theorem r63 (x:DenS Ov):run (cf [] []) 9 145 Tryz.f145 Ov NP x=t63 x.1 x.2.1:=by kernel_rfl
def YD (x:DenS Ov):Option (DenS NP):=t63 x.1 x.2.1
def Q2:Sum:=Al Ov NP YD (DenS.dflt NP)
theorem aQY:Sound Tryz.prog G1 145 Q2:=sd (cf [] []) 145 Tryz.f145 trivial trivial Ov NP YD _ (fun _=>r63 ..)
abbrev Y63:=Ak Ov
abbrev Z63:=Aj Ov NP
variable (p63:Y63) (f63:Z63)
abbrev No:Ab:=[(false,.int .i64),(false,.int .u64),(false,.int .u64)]
abbrev M3:Ab:=[(false,.int .u64),(false,.int .i64),(false,.int .i64)]
def mL (p63:Y63) (f63:Z63) (p52:kV) (f52:aB) (p54:SG) (f54:R3) (p70:D3) (f70:D8) (p53:RM) (f53:Sf) (a0:Aa (.int .i64)) (a1 a2:Aa (.int .u64)):Option (DenS M3) :=
 let e3_:=((f52 (a0,a1,a2,())).1,(f52 (a0,a1,a2,())).2.1,())
 let e1_:=((f54 e3_).1,(0:Int),())
 let e2_:=((f52 (a0,a1,a2,())).1.2.1,(f52 (a0,a1,a2,())).2.1.2)
 bif (p52 (a0,a1,a2,())) then (bif ((f52 (a0,a1,a2,())).2.2.1 != (0:Int)) then (some ((0:Int),(0:Int),(f52 (a0,a1,a2,())).2.2))
 else bif (p54 e3_) then (bif (p53 ((f52 (a0,a1,a2,())).1,())) then (bif ((p53 ((f52 (a0,a1,a2,())).2.1,()))||(!(f53 ((f52 (a0,a1,a2,())).1,())).1)) then (bif ((f53 ((f52 (a0,a1,a2,())).1,())).1&&(f53 ((f52 (a0,a1,a2,())).2.1,())).1) then (bif (p70 (a0,())) then (some ((f70 (a0,())).1,e1_))
 else none)
 else bif (p53 ((f52 (a0,a1,a2,())).1,())) then (bif ((p53 ((f52 (a0,a1,a2,())).2.1,()))||(!(bif (f53 ((f52 (a0,a1,a2,())).1,())).1 then false else true))) then (bif ((p63 e2_)||(!((bif (f53 ((f52 (a0,a1,a2,())).1,())).1 then false else true)&&(bif (f53 ((f52 (a0,a1,a2,())).2.1,())).1 then false else true)))) then (bif ((f53 ((f52 (a0,a1,a2,())).1,())).1||((!(f53 ((f52 (a0,a1,a2,())).2.1,())).1)&&((f63 e2_).1||(((f52 (a0,a1,a2,())).1.2.1==(0:Int))&&((f52 (a0,a1,a2,())).2.1.1==(6:Int)))))) then (some (a2,e1_))
 else some (a1,e1_))
 else none)
 else none)
 else none)
 else none)
 else none)
 else none)
 else none
theorem r21 (x:DenS No):run (cf [(145,⟨Ov,NP,p63,f63⟩),(74,⟨Jn,Iu,p52,f52⟩),(76,⟨Hb,Gr,p54,f54⟩),(56,⟨DG,DJ,p70,f70⟩),(75,⟨GF,Gt,p53,f53⟩)] []) 9 98 Tryz.f98 No M3 x=mL p63 f63 p52 f52 p54 f54 p70 f70 p53 f53 x.1 x.2.1 x.2.2.1:=by kernel_rfl
def YL (x:DenS No):Option (DenS M3):=mL Q2.pre Q2.F Ee.pre Ee.F CC.pre CC.F AB.pre AB.F CB.pre CB.F x.1 x.2.1 x.2.2.1
def LJ:Sum:=Al No M3 YL (DenS.dflt M3)
theorem aEy:Sound Tryz.prog G1 98 LJ:=sd (cf [(145,Q2),(74,Ee),(76,CC),(56,AB),(75,CB)] []) 98 Tryz.f98 ⟨aQY,sT,YV,Ha,Xy,trivial⟩ trivial No M3 YL _ (fun _=>r21 ..)
abbrev yA:=Ak No
abbrev Z21:=Aj No M3
variable (p21:yA) (f21:Z21)
abbrev lD:Ab:=[(false,.int .i64),(false,.int .u64),(false,.int .u64)]
abbrev qU:Ab:=[(false,.int .u64),(false,.int .i64),(false,.int .i64)]
def Qz:SumF:=IS lD qU [(97,[],LU),(98,[],LJ)]
theorem aUf:KA Tryz.prog G1 Qz:=UW ⟨DF aBH,⟨DF aEy,trivial⟩⟩
abbrev aCo:=Option (Nat×List Nat)->Ak lD
abbrev xJ:=Option (Nat×List Nat)->Aj lD qU
variable (p100003:aCo) (f100003:xJ)
abbrev O9:Ab:=[(true,.pair (.int .i64) (.pair (.int .i64) (.pair (.int .u64) (.pair (.int .u64) (.pair (.int .u64) .unit))))),(false,.box (.pfn))]
abbrev KG:Ab:=[(false,.int .u64),(false,.int .i64),(false,.int .i64)]
def kJ (p100003:aCo) (f100003:xJ) (a0:Aa (.pair (.int .i64) (.pair (.int .i64) (.pair (.int .u64) (.pair (.int .u64) (.pair (.int .u64) .unit)))))) (a1:Aa (.box (.pfn))):Option (DenS KG) :=
 bif (p100003 (some (a1,[])) (a0.2.1,a0.2.2.1,a0.2.2.2.1,())) then (some (f100003 (some (a1,[])) (a0.2.1,a0.2.2.1,a0.2.2.2.1,())))
 else none
theorem aIu (x:DenS O9):run ({ cf [] [] with fns:=[(31,⟨lD,qU,p100003,f100003⟩)] }) 9 257 Tryz.f257 O9 KG x=kJ p100003 f100003 x.1 x.2.1:=by kernel_rfl
def Wh (x:DenS O9):Option (DenS KG):=kJ Qz.pre Qz.F x.1 x.2.1
def Fg:Sum:=Al O9 KG Wh (DenS.dflt KG)
theorem vB:Sound Tryz.prog G1 257 Fg:=sd ({ cf [] [] with fns:=[(31,Qz)] }) 257 Tryz.f257 trivial trivial O9 KG Wh _ (fun _=>aIu ..) (hfs:=⟨aUf,trivial⟩)
abbrev aD8:=Ak O9
abbrev aEz:=Aj O9 KG
variable (p425:aD8) (f425:aEz)
abbrev Q3:Ab:=[(false,.int .i64),(false,.int .u64),(false,.int .u64),(false,.bool)]
abbrev PF:Ab:=[(false,.int .i64),(false,.int .i64),(false,.int .i64)]
def bK (p52:kV) (f52:aB) (p53:RM) (f53:Sf) (p54:SG) (f54:R3) (a0:Aa (.int .i64)) (a1 a2:Aa (.int .u64)) (a3:Aa (.bool)):Option (DenS PF) :=
 let e1_:=((f52 (a0,a1,a2,())).1,(f52 (a0,a1,a2,())).2.1,())
 bif (p52 (a0,a1,a2,())) then (bif ((f52 (a0,a1,a2,())).2.2.1 != (0:Int)) then (some ((0:Int),(0:Int),(f52 (a0,a1,a2,())).2.2))
 else bif (p53 ((f52 (a0,a1,a2,())).1,())) then (bif ((p53 ((f52 (a0,a1,a2,())).2.1,()))||(!(bif (f53 ((f52 (a0,a1,a2,())).1,())).1 then false else true))) then (bif ((f53 ((f52 (a0,a1,a2,())).1,())).1||(f53 ((f52 (a0,a1,a2,())).2.1,())).1) then (bif (p54 e1_) then (bif a3 then (some ((3:Int),(1:Int),(0:Int),()))
 else some ((3:Int),(f54 e1_).1,(0:Int),()))
 else none)
 else bif (decide ((f52 (a0,a1,a2,())).1.2.1<(f52 (a0,a1,a2,())).2.1.2.1)) then (some ((0:Int),(0:Int),(0:Int),()))
 else bif (decide ((f52 (a0,a1,a2,())).1.2.1>(f52 (a0,a1,a2,())).2.1.2.1)) then (some ((2:Int),(0:Int),(0:Int),()))
 else some ((1:Int),(0:Int),(0:Int),()))
 else none)
 else none)
 else none
theorem r14 (x:DenS Q3):run (cf [(74,⟨Jn,Iu,p52,f52⟩),(75,⟨GF,Gt,p53,f53⟩),(76,⟨Hb,Gr,p54,f54⟩)] []) 9 21 Tryz.f21 Q3 PF x=bK p52 f52 p53 f53 p54 f54 x.1 x.2.1 x.2.2.1 x.2.2.2.1:=by kernel_rfl
def Xa (x:DenS Q3):Option (DenS PF):=bK Ee.pre Ee.F CB.pre CB.F CC.pre CC.F x.1 x.2.1 x.2.2.1 x.2.2.2.1
def JB:Sum:=Al Q3 PF Xa (DenS.dflt PF)
theorem aNq:Sound Tryz.prog G1 21 JB:=sd (cf [(74,Ee),(75,CB),(76,CC)] []) 21 Tryz.f21 ⟨sT,Xy,YV,trivial⟩ trivial Q3 PF Xa _ (fun _=>r14 ..)
abbrev Y14:=Ak Q3
abbrev Z14:=Aj Q3 PF
variable (p14:Y14) (f14:Z14)
abbrev Q5:Ab:=[(true,.pair (.int .i64) (.pair (.int .i64) (.pair (.int .u64) (.pair (.int .u64) (.pair (.int .u64) .unit))))),(false,.box (.bool))]
abbrev N6:Ab:=[(false,.int .u64),(false,.int .i64),(false,.int .i64)]
def Tx (p14:Y14) (f14:Z14) (a0:Aa (.pair (.int .i64) (.pair (.int .i64) (.pair (.int .u64) (.pair (.int .u64) (.pair (.int .u64) .unit)))))) (a1:Aa (.box (.bool))):Option (DenS N6) :=
 let e1_:=(f14 (a0.2.1,a0.2.2.1,a0.2.2.2.1,a1,()))
 bif (p14 (a0.2.1,a0.2.2.1,a0.2.2.2.1,a1,())) then (some ((IntKind.wrap .u64 e1_.1),e1_.2))
 else none
theorem aVd (x:DenS Q5):run (cf [(21,⟨Q3,PF,p14,f14⟩)] []) 9 258 Tryz.f258 Q5 N6 x=Tx p14 f14 x.1 x.2.1:=by kernel_rfl
def UT (x:DenS Q5):Option (DenS N6):=Tx JB.pre JB.F x.1 x.2.1
def FM:Sum:=Al Q5 N6 UT (DenS.dflt N6)
theorem t8:Sound Tryz.prog G1 258 FM:=sd (cf [(21,JB)] []) 258 Tryz.f258 ⟨aNq,trivial⟩ trivial Q5 N6 UT _ (fun _=>aVd ..)
abbrev aEt:=Ak Q5
abbrev aFx:=Aj Q5 N6
variable (p426:aEt) (f426:aFx)
abbrev bW:Ab:=[(false,.int .i64),(false,.int .u64)]
abbrev mD:Ab:=[(false,.int .u64),(false,.int .i64)]
def OD:SumF:=IS bW mD [(60,[],DN),(147,[],D6)]
theorem aLf:KA Tryz.prog G1 OD:=UW ⟨DF iP,⟨DF oN,trivial⟩⟩
abbrev aBe:=Option (Nat×List Nat)->Ak bW
abbrev aCr:=Option (Nat×List Nat)->Aj bW mD
variable (p100005:aBe) (f100005:aCr)
abbrev Pw:Ab:=[(true,.pair (.int .i64) (.pair (.int .i64) (.pair (.int .u64) (.pair (.int .u64) (.pair (.int .u64) .unit))))),(false,.box (.pfn))]
abbrev Rv:Ab:=[(false,.int .u64),(false,.int .i64),(false,.int .i64)]
def jV (p100005:aBe) (f100005:aCr) (a0:Aa (.pair (.int .i64) (.pair (.int .i64) (.pair (.int .u64) (.pair (.int .u64) (.pair (.int .u64) .unit)))))) (a1:Aa (.box (.pfn))):Option (DenS Rv) :=
 let e1_:=(f100005 (some (a1,[])) (a0.2.1,a0.2.2.1,()))
 bif (p100005 (some (a1,[])) (a0.2.1,a0.2.2.1,())) then (some (e1_.1,(0:Int),e1_.2))
 else none
theorem aT2 (x:DenS Pw):run ({ cf [] [] with fns:=[(35,⟨bW,mD,p100005,f100005⟩)] }) 9 259 Tryz.f259 Pw Rv x=jV p100005 f100005 x.1 x.2.1:=by kernel_rfl
def V1 (x:DenS Pw):Option (DenS Rv):=jV OD.pre OD.F x.1 x.2.1
def FH:Sum:=Al Pw Rv V1 (DenS.dflt Rv)
theorem rK:Sound Tryz.prog G1 259 FH:=sd ({ cf [] [] with fns:=[(35,OD)] }) 259 Tryz.f259 trivial trivial Pw Rv V1 _ (fun _=>aT2 ..) (hfs:=⟨aLf,trivial⟩)
abbrev aEg:=Ak Pw
abbrev aFl:=Aj Pw Rv
variable (p427:aEg) (f427:aFl)
abbrev ED:Ab:=[(true,.pair (.int .i64) (.pair (.int .i64) (.pair (.int .u64) (.pair (.int .u64) (.pair (.int .u64) .unit)))))]
abbrev D7:Ab:=[(false,.int .u64),(false,.int .i64),(false,.int .i64)]
def JS:SumF:=IS ED D7 [(255,[17],Ic ED D7 Dp.pre Dp.F 15),(255,[18],Ic ED D7 Dp.pre Dp.F 16),(255,[19],Ic ED D7 Dp.pre Dp.F 17),(255,[20],Ic ED D7 Dp.pre Dp.F 18),(181,[],K6),(182,[],LZ),(184,[],KQ),(185,[],Kc),(186,[],Le),(187,[],J3),(190,[],KW),(191,[],Mt),(192,[],LB),(194,[],My),(256,[96],Ic ED D7 Fp.pre Fp.F 94),(256,[97],Ic ED D7 Fp.pre Fp.F 95),(257,[99],Ic ED D7 Fg.pre Fg.F 97),(257,[100],Ic ED D7 Fg.pre Fg.F 98),(258,[0],u6 ED D7 FM.pre FM.F false),(258,[1],u6 ED D7 FM.pre FM.F true),(259,[62],Ic ED D7 FH.pre FH.F 60),(259,[149],Ic ED D7 FH.pre FH.F 147)]
theorem aKQ:KA Tryz.prog G1 JS:=UW ⟨JF Wa 15,⟨JF Wa 16,⟨JF Wa 17,⟨JF Wa 18,⟨DF aGW,⟨DF aF0,⟨DF aGM,⟨DF aDd,⟨DF aGV,⟨DF aBx,⟨DF aG4,⟨DF aDB,⟨DF aFG,⟨DF aHa,⟨JF sM 94,⟨JF sM 95,⟨JF vB 97,⟨JF vB 98,⟨xI t8 false,⟨xI t8 true,⟨JF rK 60,⟨JF rK 147,trivial⟩⟩⟩⟩⟩⟩⟩⟩⟩⟩⟩⟩⟩⟩⟩⟩⟩⟩⟩⟩⟩⟩
abbrev aHv:=Option (Nat×List Nat)->Ak ED
abbrev aDF:=Option (Nat×List Nat)->Aj ED D7
variable (p100001:aHv) (f100001:aDF)
abbrev NJ:Ab:=[(false,.int .i64)]
abbrev OS:Ab:=[(false,.bool)]
def aFW (a0:Aa (.int .i64)):Option (DenS OS) :=
 some (((Sm .i64 a0 (31:Int))==(0:Int)),())
theorem aLc (x:DenS NJ):run (cf [] []) 9 108 Tryz.f108 NJ OS x=aFW x.1:=by kernel_rfl
def Tr (x:DenS NJ):Option (DenS OS):=aFW x.1
def N2:Sum:=Al NJ OS Tr (DenS.dflt OS)
theorem aLY:Sound Tryz.prog G1 108 N2:=sd (cf [] []) 108 Tryz.f108 trivial trivial NJ OS Tr _ (fun _=>aLc ..)
abbrev aAk:=Ak NJ
abbrev aAC:=Aj NJ OS
variable (p428:aAk) (f428:aAC)
abbrev Rk:Ab:=[(true,.pair (.int .i64) (.pair (.int .i64) (.pair (.int .i64) (.unit))))]
abbrev P8:Ab:=[(false,.int .i64)]
def bX (p428:aAk) (f428:aAC) (a0:Aa (.pair (.int .i64) (.pair (.int .i64) (.pair (.int .i64) (.unit))))):Option (DenS P8) :=
 bif ((decide (a0.1<(0:Int)))||(decide (a0.1>(5:Int)))) then (some ((3:Int),()))
 else bif (p428 (a0.2.1,())) then (bif ((p428 a0.2.2)||(!(bif (!(f428 (a0.2.1,())).1) then false else true))) then (bif ((!(f428 (a0.2.1,())).1)||(!(f428 a0.2.2).1)) then (some ((7:Int),()))
 else some ((0:Int),()))
 else none)
 else none
theorem aMM (x:DenS Rk):run (cf [(108,⟨NJ,OS,p428,f428⟩)] []) 9 89 Tryz.f89 Rk P8 x=bX p428 f428 x.1:=by kernel_rfl
def Uc (x:DenS Rk):Option (DenS P8):=bX N2.pre N2.F x.1
def OX:Sum:=Al Rk P8 Uc (DenS.dflt P8)
theorem aP1:Sound Tryz.prog G1 89 OX:=sd (cf [(108,N2)] []) 89 Tryz.f89 ⟨aLY,trivial⟩ trivial Rk P8 Uc _ (fun _=>aMM ..)
abbrev zW:=Ak Rk
abbrev aBw:=Aj Rk P8
variable (p429:zW) (f429:aBw)
abbrev O7:Ab:=[(false,.pfn)]
abbrev Oo:Ab:=[(true,.pair (.int .i64) (.pair .fn .unit))]
def aAf (p395:qG) (f395:uC) (a0:Aa (.pfn)):Option (DenS Oo) :=
 some (((2:Int),(some ((255:Nat),((a0+(2:Nat))::[]))),()),())
theorem aJr (x:DenS O7):run (cf [(255,⟨OP,MG,p395,f395⟩)] []) 9 180 Tryz.f180 O7 Oo x=aAf p395 f395 x.1:=by kernel_rfl
def aC1 (x:DenS O7):Option (DenS Oo):=aAf Dp.pre Dp.F x.1
def fN:Sum:=Al O7 Oo aC1 (DenS.dflt Oo)
theorem aR5:Sound Tryz.prog G1 180 fN:=sd (cf [(255,Dp)] []) 180 Tryz.f180 ⟨Wa,trivial⟩ trivial O7 Oo aC1 _ (fun _=>aJr ..)
abbrev aGk:=Ak O7
abbrev aHy:=Aj O7 Oo
variable (p430:aGk) (f430:aHy)
abbrev Q9:Ab:=[(false,.pfn)]
abbrev Qs:Ab:=[(true,.pair (.int .i64) (.pair .fn .unit))]
def aDH (p424:aE7) (f424:aAm) (a0:Aa (.pfn)):Option (DenS Qs) :=
 some (((2:Int),(some ((256:Nat),((a0+(2:Nat))::[]))),()),())
theorem aNA (x:DenS Q9):run (cf [(256,⟨NF,QG,p424,f424⟩)] []) 9 183 Tryz.f183 Q9 Qs x=aDH p424 f424 x.1:=by kernel_rfl
def xB (x:DenS Q9):Option (DenS Qs):=aDH Fp.pre Fp.F x.1
def j8:Sum:=Al Q9 Qs xB (DenS.dflt Qs)
theorem aQF:Sound Tryz.prog G1 183 j8:=sd (cf [(256,Fp)] []) 183 Tryz.f183 ⟨sM,trivial⟩ trivial Q9 Qs xB _ (fun _=>aNA ..)
abbrev aDp:=Ak Q9
abbrev aCa:=Aj Q9 Qs
variable (p431:aDp) (f431:aCa)
abbrev NL:Ab:=[(false,.pfn)]
abbrev Ns:Ab:=[(true,.pair (.int .i64) (.pair .fn .unit))]
def wU (p425:aD8) (f425:aEz) (a0:Aa (.pfn)):Option (DenS Ns) :=
 some (((2:Int),(some ((257:Nat),((a0+(2:Nat))::[]))),()),())
theorem aK3 (x:DenS NL):run (cf [(257,⟨O9,KG,p425,f425⟩)] []) 9 188 Tryz.f188 NL Ns x=wU p425 f425 x.1:=by kernel_rfl
def aF8 (x:DenS NL):Option (DenS Ns):=wU Fg.pre Fg.F x.1
def aT:Sum:=Al NL Ns aF8 (DenS.dflt Ns)
theorem aTU:Sound Tryz.prog G1 188 aT:=sd (cf [(257,Fg)] []) 188 Tryz.f188 ⟨vB,trivial⟩ trivial NL Ns aF8 _ (fun _=>aK3 ..)
abbrev yN:=Ak NL
abbrev aGu:=Aj NL Ns
variable (p432:yN) (f432:aGu)
abbrev Oc:Ab:=[(false,.bool)]
abbrev PG:Ab:=[(true,.pair (.int .i64) (.pair .fn .unit))]
def aDI (p426:aEt) (f426:aFx) (a0:Aa (.bool)):Option (DenS PG) :=
 some (((2:Int),(some ((258:Nat),((bif a0 then (1:Nat) else (0:Nat))::[]))),()),())
theorem aJ4 (x:DenS Oc):run (cf [(258,⟨Q5,N6,p426,f426⟩)] []) 9 189 Tryz.f189 Oc PG x=aDI p426 f426 x.1:=by kernel_rfl
def zS (x:DenS Oc):Option (DenS PG):=aDI FM.pre FM.F x.1
def iT:Sum:=Al Oc PG zS (DenS.dflt PG)
theorem aSD:Sound Tryz.prog G1 189 iT:=sd (cf [(258,FM)] []) 189 Tryz.f189 ⟨t8,trivial⟩ trivial Oc PG zS _ (fun _=>aJ4 ..)
abbrev aEY:=Ak Oc
abbrev aCu:=Aj Oc PG
variable (p433:aEY) (f433:aCu)
abbrev OA:Ab:=[(false,.pfn)]
abbrev Rg:Ab:=[(true,.pair (.int .i64) (.pair .fn .unit))]
def aFX (p427:aEg) (f427:aFl) (a0:Aa (.pfn)):Option (DenS Rg) :=
 some (((1:Int),(some ((259:Nat),((a0+(2:Nat))::[]))),()),())
theorem aOj (x:DenS OA):run (cf [(259,⟨Pw,Rv,p427,f427⟩)] []) 9 193 Tryz.f193 OA Rg x=aFX p427 f427 x.1:=by kernel_rfl
def aDj (x:DenS OA):Option (DenS Rg):=aFX FH.pre FH.F x.1
def lZ:Sum:=Al OA Rg aDj (DenS.dflt Rg)
theorem aTt:Sound Tryz.prog G1 193 lZ:=sd (cf [(259,FH)] []) 193 Tryz.f193 ⟨rK,trivial⟩ trivial OA Rg aDj _ (fun _=>aOj ..)
abbrev aF7:=Ak OA
abbrev aD9:=Aj OA Rg
variable (p434:aF7) (f434:aD9)
abbrev QF:Ab:=[]
abbrev PN:Ab:=[(false,.slice (.pair (.int .i64) (.pair .fn .unit)))]
def aCx (p27:jX) (f27:cG) (p25:oQ) (f25:oX) (p354:sW) (f354:sZ) (p381:qJ) (f381:qY) (p430:aGk) (f430:aHy) (p396:oT) (f396:tW) (p402:rX) (f402:nU) (p422:aGp) (f422:aCq) (p423:zJ) (f423:aFc) (p431:aDp) (f431:aCa) (p407:wC) (f407:qL) (p408:tD) (f408:nP) (p411:tN) (f411:rH) (p413:t0) (f413:rQ) (p19:Y19) (f19:Z19) (p21:yA) (f21:Z21) (p432:yN) (f432:aGu) (p433:aEY) (f433:aCu) (p414:mT) (f414:nE) (p415:rN) (f415:sP) (p416:sD) (f416:tQ) (p64:TT) (f64:Vr) (p112:bH) (f112:kQ) (p434:aF7) (f434:aD9) (p418:q9) (f418:uH):Option (DenS PN) :=
 bif (p430 ((15:Nat),())) then (bif (p430 ((16:Nat),())) then (bif (p430 ((17:Nat),())) then (bif (p430 ((18:Nat),())) then (bif (p431 ((94:Nat),())) then (bif (p431 ((95:Nat),())) then (bif (p432 ((97:Nat),())) then (bif (p432 ((98:Nat),())) then (bif (p433 (false,())) then (bif (p433 (true,())) then (bif (p434 ((60:Nat),())) then (bif (p434 ((147:Nat),())) then (some ((((0:Int),none,())::((f430 ((15:Nat),())).1::((f430 ((16:Nat),())).1::((f430 ((17:Nat),())).1::((f430 ((18:Nat),())).1::(((1:Int),(some ((181:Nat),[])),())::(((3:Int),(some ((182:Nat),[])),())::((f431 ((94:Nat),())).1::((f431 ((95:Nat),())).1::(((1:Int),(some ((184:Nat),[])),())::(((1:Int),(some ((185:Nat),[])),())::(((1:Int),(some ((186:Nat),[])),())::(((0:Int),(some ((187:Nat),[])),())::((f432 ((97:Nat),())).1::((f432 ((98:Nat),())).1::((f433 (false,())).1::((f433 (true,())).1::(((1:Int),(some ((190:Nat),[])),())::(((1:Int),(some ((191:Nat),[])),())::(((1:Int),(some ((192:Nat),[])),())::((f434 ((60:Nat),())).1::((f434 ((147:Nat),())).1::(((2:Int),(some ((194:Nat),[])),())::[]))))))))))))))))))))))),()))
 else none)
 else none)
 else none)
 else none)
 else none)
 else none)
 else none)
 else none)
 else none)
 else none)
 else none)
 else none
theorem aIj (x:DenS QF):run (cf [(15,⟨KC,MF,p27,f27⟩),(16,⟨Pm,Pr,p25,f25⟩),(17,⟨QB,Pf,p354,f354⟩),(18,⟨Qp,LC,p381,f381⟩),(180,⟨O7,Oo,p430,f430⟩),(181,⟨Po,ON,p396,f396⟩),(182,⟨Pz,OM,p402,f402⟩),(94,⟨RA,Q8,p422,f422⟩),(95,⟨PX,PY,p423,f423⟩),(183,⟨Q9,Qs,p431,f431⟩),(184,⟨Q1,Oa,p407,f407⟩),(185,⟨OU,QP,p408,f408⟩),(186,⟨NK,MT,p411,f411⟩),(187,⟨NI,P4,p413,f413⟩),(97,⟨NH,QY,p19,f19⟩),(98,⟨No,M3,p21,f21⟩),(188,⟨NL,Ns,p432,f432⟩),(189,⟨Oc,PG,p433,f433⟩),(190,⟨OG,Rp,p414,f414⟩),(191,⟨QZ,Qg,p415,f415⟩),(192,⟨NQ,Oj,p416,f416⟩),(60,⟨JR,IG,p64,f64⟩),(147,⟨Kf,LY,p112,f112⟩),(193,⟨OA,Rg,p434,f434⟩),(194,⟨PP,Rl,p418,f418⟩)] []) 9 132 Tryz.f132 QF PN x=aCx p27 f27 p25 f25 p354 f354 p381 f381 p430 f430 p396 f396 p402 f402 p422 f422 p423 f423 p431 f431 p407 f407 p408 f408 p411 f411 p413 f413 p19 f19 p21 f21 p432 f432 p433 f433 p414 f414 p415 f415 p416 f416 p64 f64 p112 f112 p434 f434 p418 f418:=by kernel_rfl
def aEM (x:DenS QF):Option (DenS PN):=aCx Fb.pre Fb.F Kh.pre Kh.F MH.pre MH.F Ks.pre Ks.F fN.pre fN.F K6.pre K6.F LZ.pre LZ.F L8.pre L8.F K7.pre K7.F j8.pre j8.F KQ.pre KQ.F Kc.pre Kc.F Le.pre Le.F J3.pre J3.F LU.pre LU.F LJ.pre LJ.F aT.pre aT.F iT.pre iT.F KW.pre KW.F Mt.pre Mt.F LB.pre LB.F DN.pre DN.F D6.pre D6.F lZ.pre lZ.F My.pre My.F
def Gj:Sum:=Al QF PN aEM (DenS.dflt PN)
theorem aSL:Sound Tryz.prog G1 132 Gj:=sd (cf [(15,Fb),(16,Kh),(17,MH),(18,Ks),(180,fN),(181,K6),(182,LZ),(94,L8),(95,K7),(183,j8),(184,KQ),(185,Kc),(186,Le),(187,J3),(97,LU),(98,LJ),(188,aT),(189,iT),(190,KW),(191,Mt),(192,LB),(60,DN),(147,D6),(193,lZ),(194,My)] []) 132 Tryz.f132 ⟨nX,aAV,zM,aBX,aR5,aGW,aF0,aDy,aAN,aQF,aGM,aDd,aGV,aBx,aBH,aEy,aTU,aSD,aG4,aDB,aFG,iP,oN,aTt,aHa,trivial⟩ trivial QF PN aEM _ (fun _=>aIj ..)
abbrev zV:=Ak QF
abbrev aHC:=Aj QF PN
variable (p435:zV) (f435:aHC)
abbrev O8:Ab:=[(false,.int .i64)]
abbrev QQ:Ab:=[(true,.pair (.int .i64) (.pair .fn .unit)),(false,.int .i64)]
def Vh (p435:zV) (f435:aHC) (a0:Aa (.int .i64)):Option (DenS QQ) :=
 bif (p435 ()) then (bif ((decide (a0<(1:Int)))||(decide (a0>=((f435 ()).1.length:Int)))) then (some (((0:Int),none,()),(190:Int),()))
 else bif ((decide ((0:Int)<=a0))&&(decide (a0<((f435 ()).1.length:Int)))) then (some (((f435 ()).1.getD (Int.toNat a0) ((0:Int),none,())),(0:Int),()))
 else none)
 else none
theorem aPs (x:DenS O8):run (cf [(132,⟨QF,PN,p435,f435⟩)] []) 9 90 Tryz.f90 O8 QQ x=Vh p435 f435 x.1:=by kernel_rfl
def Ot (x:DenS O8):Option (DenS QQ):=Vh Gj.pre Gj.F x.1
def Mx:Sum:=Al O8 QQ Ot (DenS.dflt QQ)
theorem aNa:Sound Tryz.prog G1 90 Mx:=sd (cf [(132,Gj)] []) 90 Tryz.f90 ⟨aSL,trivial⟩ trivial O8 QQ Ot _ (fun _=>aPs ..)
abbrev aHl:=Ak O8
abbrev aHH:=Aj O8 QQ
variable (p436:aHl) (f436:aHH)
abbrev Nc:Ab:=[(false,.int .i64),(true,.pair (.int .i64) (.pair .fn .unit)),(true,.pair (.int .i64) (.pair (.int .i64) (.pair (.int .u64) (.pair (.int .u64) (.pair (.int .u64) .unit)))))]
abbrev JU:Ab:=[(false,.int .i64)]
abbrev HL:Pat:=⟨84,[(43,.one (.v .i64)),(42,.one (.sl (.int .u64))),(44,.one (.v .i64)),(0,.one (.v .i64)),(5,.one (.ptr 1 0))],[.gone,.raw [.v .i64,.v .i64,.v .u64,.v .u64,.v .u64]]⟩
abbrev gN:List (Nat×Shape):=[]
abbrev Lf:List (Nat×Pat):=[(1,⟨84,[(0,.one (.v .i64)),(5,.one (.ptr 1 0))],[.gone,.raw [.v .i64,.v .i64,.v .u64,.v .u64,.v .u64]]⟩)]
abbrev Mi:Option Pat:=(some ⟨84,[(6,.one (.v .i64))],[]⟩)
variable (w437_13:Pat.D HL->Option (Ah Lf Mi))
def VW (p69:BM) (f69:BQ) (p66:Cm) (f66:Cj) {R:Type} (L:Pat.D HL->Option R) (e:Ah Lf Mi->Option R) (x:Pat.D HL):Option R :=
 let e2_:=(x.2.2.1.2.1,(x.1.2.1.getD (Int.toNat x.1.2.2.1) (0:Int)),())
 let e1_:=(f66 e2_)
 bif (decide (x.1.2.2.1<x.1.1)) then (bif ((decide ((0:Int)<=x.1.2.2.1))&&(decide (x.1.2.2.1<(x.1.2.1.length:Int)))) then (bif (p66 e2_) then (bif (e1_.1 != (0:Int)) then (((e (.inr (e1_,())))))
 else (L ((x.1.1,x.1.2.1,(IntKind.wrap .i64 (x.1.2.2.1+(1:Int))),x.1.2.2.2.1,(),()),(),x.2.2)))
 else none)
 else none)
 else (e (.inl ((x.1.2.2.2.1,(),()),(),x.2.2)))
theorem aPE (d:Nat) (R:Type) (L:Pat.D HL->Option R) (e:Ah Lf Mi->Option R) (x:Pat.D HL) :
  BB (cf [(54,⟨Ck,Cn,p69,f69⟩),(59,⟨CJ,CM,p66,f66⟩)] [(91,13,LoopSpec.of HL gN Lf Mi w437_13)]) (d+2) 91 (By Tryz.f91 13) HL gN Lf Mi (R:=R) L e x=VW p69 f69 p66 f66 L e x:=by kernel_rfl
theorem zD (p69:BM) (f69:BQ) (p66:Cm) (f66:Cj):Bs fun L e x=>VW p69 f69 p66 f66 L e x:=by intro _ _ _ _ _ _ _ h0 hL he _; unfold VW; repeat' (first | exact h0 | exact hL _ | exact he _ | apply BU | (apply BX h0; intro _) | (apply B5 <;> intro _))
def bT (p69:BM) (f69:BQ) (p66:Cm) (f66:Cj) (w437_13:Pat.D HL->Option (Ah Lf Mi)) (a0:Aa (.int .i64)) (a1:Aa (.pair (.int .i64) (.pair .fn .unit))) (a2:Aa (.pair (.int .i64) (.pair (.int .i64) (.pair (.int .u64) (.pair (.int .u64) (.pair (.int .u64) .unit)))))):Option (DenS JU) :=
 let e4_:=(a2.2.2.1::(a2.2.2.2.1::(a2.2.2.2.2.1::[])))
 let e3_:=((e4_.take (Int.toNat a1.1)).drop (Int.toNat (0:Int)))
 let e1_:=(w437_13 (((e3_.length:Int),e3_,(0:Int),a0,(),()),(),(a2.1,a2.2),()))
 let e2_:=((decide ((0:Int)<=a1.1))&&(decide (a1.1<=(e4_.length:Int))))
 let g1_:Option (DenS JU):=bif (decide (a2.2.2.2.2.1>(3:Int))) then (some ((9:Int),()))
 else bif e2_ then (Vx.A1 e1_ fun y7 =>
 Vx.A6 y7 (fun y8 =>
 bif (y8.1.1==(12:Int)) then (bif ((((IntKind.wrap .i64 y8.2.2.1.2.2.2.2.1)==(0:Int))&&((IntKind.wrap .u64 (IntKind.wrap .i64 (IntKind.wrap .i32 y8.2.2.1.2.2.1))) != y8.2.2.1.2.2.1))||(((IntKind.wrap .i64 y8.2.2.1.2.2.2.2.1)==(2:Int))&&((AI .u64 y8.2.2.1.2.2.1 (32:Int)) != (0:Int)))) then (some ((4:Int),()))
 else some ((0:Int),()))
 else some ((0:Int),())) (fun z8 =>
 some z8.1))
 else none
 let g2_:Option (DenS JU):=bif e2_ then (Vx.A1 e1_ fun y6 =>
 Vx.A6 y6 (fun y7 =>
 bif (y7.1.1==(12:Int)) then (bif ((((IntKind.wrap .i64 y7.2.2.1.2.2.2.2.1)==(0:Int))&&((IntKind.wrap .u64 (IntKind.wrap .i64 (IntKind.wrap .i32 y7.2.2.1.2.2.1))) != y7.2.2.1.2.2.1))||(((IntKind.wrap .i64 y7.2.2.1.2.2.2.2.1)==(2:Int))&&((AI .u64 y7.2.2.1.2.2.1 (32:Int)) != (0:Int)))) then (some ((4:Int),()))
 else some ((0:Int),()))
 else some ((0:Int),())) (fun z7 =>
 some z7.1))
 else none
 bif (p69 (a2.2.1,())) then (bif ((f69 (a2.2.1,())).2.1 != (0:Int)) then (some (f69 (a2.2.1,())).2)
 else bif (a0==(10:Int)) then (bif (decide (a2.2.2.2.2.1>(3:Int))) then (some ((2:Int),()))
 else bif e2_ then (Vx.A1 e1_ fun y5 =>
 Vx.A6 y5 (fun y6 =>
 bif (y6.1.1==(12:Int)) then (bif ((((IntKind.wrap .i64 y6.2.2.1.2.2.2.2.1)==(0:Int))&&((IntKind.wrap .u64 (IntKind.wrap .i64 (IntKind.wrap .i32 y6.2.2.1.2.2.1))) != y6.2.2.1.2.2.1))||(((IntKind.wrap .i64 y6.2.2.1.2.2.2.2.1)==(2:Int))&&((AI .u64 y6.2.2.1.2.2.1 (32:Int)) != (0:Int)))) then (some ((4:Int),()))
 else some ((0:Int),()))
 else some ((0:Int),())) (fun z6 =>
 some z6.1))
 else none)
 else bif (a0==(11:Int)) then (bif (a0==(11:Int)) then (g1_)
 else g2_)
 else bif (a0==(12:Int)) then (g1_)
 else g2_)
 else none
theorem aLA (x:DenS Nc):run (cf [(54,⟨Ck,Cn,p69,f69⟩),(59,⟨CJ,CM,p66,f66⟩)] [(91,13,LoopSpec.of HL gN Lf Mi w437_13)]) 9 91 Tryz.f91 Nc JU x=bT p69 f69 p66 f66 w437_13 x.1 x.2.1 x.2.2.1:=by kernel_rfl
def k8:HL.D->Option (Ah Lf Mi):=Bf fun L=>VW Aq.pre Aq.F Ar.pre Ar.F L some
def Xp (x:DenS Nc):Option (DenS JU):=bT Aq.pre Aq.F Ar.pre Ar.F k8 x.1 x.2.1 x.2.2.1
def P2:Sum:=Al Nc JU Xp (DenS.dflt JU)
theorem aVc:Sound Tryz.prog G1 91 P2:=sd (cf [(54,Aq),(59,Ar)] [(91,13,LoopSpec.of HL gN Lf Mi k8)]) 91 Tryz.f91 ⟨Er,Ge,trivial⟩ ⟨rfl,fun d=>Ca (fun L e x=>VW Aq.pre Aq.F Ar.pre Ar.F L e x) (zD Aq.pre Aq.F Ar.pre Ar.F) (fun _ _ _ _=>aPE ..),trivial⟩ Nc JU Xp _ (fun _=>aLA ..)
abbrev aCJ:=Ak Nc
abbrev aEi:=Aj Nc JU
variable (p437:aCJ) (f437:aEi)
abbrev IC:Ab:=[(true,.pair (.int .i64) (.pair (.int .i64) (.pair (.int .i64) (.unit)))),(false,.int .i64),(false,.int .i64),(false,.int .u64),(false,.int .u64),(false,.int .u64)]
abbrev It:Ab:=[(true,.pair (.int .u64) (.pair (.int .i64) (.pair (.int .i64) (.pair (.pair (.int .i64) (.pair (.int .i64) (.pair (.int .i64) (.unit)))) (.unit))))),(false,.int .i64)]
def lF (p429:zW) (f429:aBw) (p436:aHl) (f436:aHH) (p437:aCJ) (f437:aEi) (p100001:aHv) (f100001:aDF) (a0:Aa (.pair (.int .i64) (.pair (.int .i64) (.pair (.int .i64) (.unit))))) (a1 a2:Aa (.int .i64)) (a3 a4 a5:Aa (.int .u64)):Option (DenS It) :=
 let e5_:=(f100001 (f436 (a1,())).1.2.1 ((a0.1,a2,a3,a4,a5,()),()))
 let e1_:=(AQ .i64 e5_.2.1 a0.2.2.1)
 let e2_:=((0:Int),(0:Int),(0:Int),((0:Int),(0:Int),(0:Int),()),())
 let e6_:=(a1,(f436 (a1,())).1,(a0.1,a2,a3,a4,a5,()),())
 let e3_:=(f437 e6_)
 let e4_:=e5_
 bif (p429 ((a0.1,a0.2),())) then (bif ((f429 ((a0.1,a0.2),())).1 != (0:Int)) then (some (e2_,(f429 ((a0.1,a0.2),()))))
 else bif (p436 (a1,())) then (bif ((f436 (a1,())).2.1 != (0:Int)) then (some (e2_,(f436 (a1,())).2))
 else bif (p437 e6_) then (bif (e3_.1 != (0:Int)) then (some (e2_,e3_))
 else bif (p100001 (f436 (a1,())).1.2.1 ((a0.1,a2,a3,a4,a5,()),())) then (bif (e4_.2.2.1 != (0:Int)) then (some (e2_,e4_.2.2))
 else bif (e1_ != (0:Int)) then (some (((0:Int),e4_.2.1,(AQ .i64 e1_ (IntKind.wrap .i64 ((0:Int)-e1_))),(a0.1,a0.2),()),(0:Int),()))
 else some ((e4_.1,e4_.2.1,(0:Int),(a0.1,(AW .i64 a0.2.1 e4_.2.1),a0.2.2),()),(0:Int),()))
 else none)
 else none)
 else none)
 else none
theorem aOh (x:DenS IC):run ({ cf [(89,⟨Rk,P8,p429,f429⟩),(90,⟨O8,QQ,p436,f436⟩),(91,⟨Nc,JU,p437,f437⟩)] [] with fns:=[(31,⟨ED,D7,p100001,f100001⟩)] }) 9 36 Tryz.f36 IC It x=lF p429 f429 p436 f436 p437 f437 p100001 f100001 x.1 x.2.1 x.2.2.1 x.2.2.2.1 x.2.2.2.2.1 x.2.2.2.2.2.1:=by kernel_rfl
def R0 (x:DenS IC):Option (DenS It):=lF OX.pre OX.F Mx.pre Mx.F P2.pre P2.F JS.pre JS.F x.1 x.2.1 x.2.2.1 x.2.2.2.1 x.2.2.2.2.1 x.2.2.2.2.2.1
def Ec:Sum:=Al IC It R0 (DenS.dflt It)
theorem rO:Sound Tryz.prog G1 36 Ec:=sd ({ cf [(89,OX),(90,Mx),(91,P2)] [] with fns:=[(31,JS)] }) 36 Tryz.f36 ⟨aP1,aNa,aVc,trivial⟩ trivial IC It R0 _ (fun _=>aOh ..) (hfs:=⟨aKQ,trivial⟩)
abbrev gC:=Ak IC
abbrev gJ:=Aj IC It
variable (p438:gC) (f438:gJ)
abbrev LR:Ab:=[]
abbrev KS:Ab:=[(false,.bool)]
def iK (p438:gC) (f438:gJ):Option (DenS KS) :=
 let e2_:=(((0:Int),(0:Int),(2:Int),()),(4:Int),(0:Int),(15360:Int),(0:Int),(7:Int),())
 let e1_:=(f438 e2_)
 bif (p438 e2_) then (some (((e1_.2.1==(0:Int))&&((e1_.1.1==(0:Int))&&((e1_.1.2.1==(2:Int))&&((e1_.1.2.2.1==(2:Int))&&((e1_.1.2.2.2.1.1==(0:Int))&&((e1_.1.2.2.2.1.2.1==(0:Int))&&(e1_.1.2.2.2.1.2.2.1==(2:Int)))))))),()))
 else none
theorem aOP (x:DenS LR):run (cf [(36,⟨IC,It,p438,f438⟩)] []) 9 35 Tryz.f35 LR KS x=iK p438 f438:=by kernel_rfl
def Zx (x:DenS LR):Option (DenS KS):=iK Ec.pre Ec.F
def FU:Sum:=Al LR KS Zx (DenS.dflt KS)
theorem aAP:Sound Tryz.prog G1 35 FU:=sd (cf [(36,Ec)] []) 35 Tryz.f35 ⟨rO,trivial⟩ trivial LR KS Zx _ (fun _=>aOP ..)
abbrev pI:=Ak LR
abbrev pF:=Aj LR KS
variable (p439:pI) (f439:pF)
abbrev aDP:Ab:=[(false,.int .i64),(false,.int .i64),(false,.int .u64),(false,.int .u64)]
abbrev aTi:Ab:=[(false,.int .u64),(false,.int .i64),(false,.int .i64),(false,.bool)]
abbrev aRD:=Ak aDP
abbrev aTA:=Aj aDP aTi
variable (p440:aRD) (f440:aTA)
abbrev aG7:Ab:=[(false,.int .i64),(false,.int .i64),(false,.int .i64),(false,.int .u64),(false,.int .u64),(false,.int .u64)]
abbrev aLJ:Ab:=[(false,.int .u64),(false,.int .i64),(false,.int .i64),(false,.bool)]
abbrev aRy:=Ak aG7
abbrev aQS:=Aj aG7 aLJ
variable (p441:aRy) (f441:aQS)
abbrev aHz:Ab:=[(true,.pair (.pair (.int .i64) (.pair (.int .i64) (.pair (.int .i64) (.unit)))) (.pair (.int .i64) (.pair (.int .i64) (.pair (.int .u64) (.pair (.int .u64) (.pair (.int .u64) (.unit)))))))]
abbrev aOE:Ab:=[(false,.bool)]
abbrev aTk:=Ak aHz
abbrev aUb:=Aj aHz aOE
variable (p442:aTk) (f442:aUb)
abbrev I443:Ab:=[(true,.pair (.pair (.int .i64) (.pair (.int .i64) (.pair (.int .i64) (.unit)))) (.pair (.int .i64) (.pair (.int .i64) (.pair (.int .u64) (.pair (.int .u64) (.pair (.int .u64) (.unit)))))))]
abbrev SY:Ab:=[(false,.bool)]
def cN (p439:pI) (f439:pF) (p438:gC) (f438:gJ) (a0:Aa (.pair (.pair (.int .i64) (.pair (.int .i64) (.pair (.int .i64) (.unit)))) (.pair (.int .i64) (.pair (.int .i64) (.pair (.int .u64) (.pair (.int .u64) (.pair (.int .u64) (.unit)))))))):Option (DenS SY) :=
 let e4_:=(f438 ((a0.1.1,a0.1.2.1,(0:Int),()),a0.2))
 let e1_:=(AQ .i64 e4_.1.2.1 a0.1.2.2.1)
 let e2_:=e4_
 let e3_:=((f438 (a0.1,a0.2)).1.2.2.2.1.2.2.1==a0.1.2.2.1)
 bif (p439 ()) then (bif (!(f439 ()).1) then (some (false,()))
 else bif (p438 (a0.1,a0.2)) then (bif (p438 ((a0.1.1,a0.1.2.1,(0:Int),()),a0.2)) then (bif ((f438 (a0.1,a0.2)).2.1 != (0:Int)) then (some (((((f438 (a0.1,a0.2)).1.1==(0:Int))&&(((f438 (a0.1,a0.2)).1.2.1==(0:Int))&&(((f438 (a0.1,a0.2)).1.2.2.1==(0:Int))&&(((f438 (a0.1,a0.2)).1.2.2.2.1.1==(0:Int))&&(((f438 (a0.1,a0.2)).1.2.2.2.1.2.1==(0:Int))&&((f438 (a0.1,a0.2)).1.2.2.2.1.2.2.1==(0:Int)))))))&&((e2_.2.1==(f438 (a0.1,a0.2)).2.1)||((f438 (a0.1,a0.2)).2.1==(7:Int)))),()))
 else bif ((e2_.2.1 != (0:Int))||((f438 (a0.1,a0.2)).1.2.1 != e2_.1.2.1)) then (some (false,()))
 else bif (e1_==(0:Int)) then (some ((((f438 (a0.1,a0.2)).1.1==e2_.1.1)&&(((f438 (a0.1,a0.2)).1.2.1==e2_.1.2.1)&&(((f438 (a0.1,a0.2)).1.2.2.1==e2_.1.2.2.1)&&(((f438 (a0.1,a0.2)).1.2.2.2.1.1==e2_.1.2.2.2.1.1)&&(((f438 (a0.1,a0.2)).1.2.2.2.1.2.1==e2_.1.2.2.2.1.2.1)&&e3_))))),()))
 else some (((((f438 (a0.1,a0.2)).1.1==(0:Int))&&((f438 (a0.1,a0.2)).1.2.2.1==(AQ .i64 e1_ (IntKind.wrap .i64 ((0:Int)-e1_)))))&&(((f438 (a0.1,a0.2)).1.2.2.2.1.1==a0.1.1)&&(((f438 (a0.1,a0.2)).1.2.2.2.1.2.1==a0.1.2.1)&&e3_))),()))
 else none)
 else none)
 else none
theorem aTO (x:DenS I443):run (cf [(35,⟨LR,KS,p439,f439⟩),(36,⟨IC,It,p438,f438⟩)] []) 9 6 Tryz.f6 I443 SY x=cN p439 f439 p438 f438 x.1:=by kernel_rfl
def T443 (x:DenS I443):Option (DenS SY):=cN FU.pre FU.F Ec.pre Ec.F x.1
def aU1:Sum:=Al I443 SY T443 (DenS.dflt SY)
theorem S443_sound:Sound Tryz.prog G1 6 aU1:=sd (cf [(35,FU),(36,Ec)] []) 6 Tryz.f6 ⟨aAP,rO,trivial⟩ trivial I443 SY T443 _ (fun _=>aTO ..)
abbrev aUW:=Ak I443
abbrev aUt:=Aj I443 SY
variable (p443:aUW) (f443:aUt)
abbrev I444:Ab:=[(true,.pair (.pair (.int .i64) (.pair (.int .i64) (.pair (.int .i64) (.unit)))) (.pair (.int .i64) (.pair (.int .i64) (.pair (.int .u64) (.pair (.int .u64) (.pair (.int .u64) (.unit))))))),(false,.int .i64)]
abbrev RV:Ab:=[(false,.bool)]
def jT (p439:pI) (f439:pF) (p438:gC) (f438:gJ) (p118:G8) (f118:GD) (a0:Aa (.pair (.pair (.int .i64) (.pair (.int .i64) (.pair (.int .i64) (.unit)))) (.pair (.int .i64) (.pair (.int .i64) (.pair (.int .u64) (.pair (.int .u64) (.pair (.int .u64) (.unit)))))))) (a1:Aa (.int .i64)):Option (DenS RV) :=
 let e4_:=(((IntKind.wrap .i64 (Int.tmod (IntKind.wrap .u64 a1) (6:Int))),a0.1.2.1,(0:Int),()),a0.2)
 let e1_:=(f438 e4_)
 let e5_:=(f438 ((a0.1.1,a0.1.2.1,(0:Int),()),a0.2))
 let e2_:=((AQ .i64 e5_.1.2.1 (16:Int)) != (0:Int))
 let e3_:=e5_
 bif (p439 ()) then (bif (!(f439 ()).1) then (some (false,()))
 else bif (p438 ((a0.1.1,a0.1.2.1,(0:Int),()),a0.2)) then (bif (p438 e4_) then (bif (e3_.2.1 != (0:Int)) then (some ((((e3_.1.1==(0:Int))&&((e3_.1.2.1==(0:Int))&&((e3_.1.2.2.1==(0:Int))&&((e3_.1.2.2.2.1.1==(0:Int))&&((e3_.1.2.2.2.1.2.1==(0:Int))&&(e3_.1.2.2.2.1.2.2.1==(0:Int)))))))&&((e1_.2.1==e3_.2.1)||(e3_.2.1==(3:Int)))),()))
 else bif ((e1_.2.1 != (0:Int))||((!(e2_==((AQ .i64 e1_.1.2.1 (16:Int)) != (0:Int))))&&(a0.2.1 != (11:Int)))) then (some (false,()))
 else bif ((((AQ .i64 (AW .i64 e3_.1.2.1 e1_.1.2.1) (17:Int)) != (0:Int))&&(a0.2.1==(11:Int)))||e2_) then (some (true,()))
 else bif (e3_.1.2.1 != e1_.1.2.1) then (some (false,()))
 else bif (p118 (a0.2.2.1,true,())) then (some ((((f118 (a0.2.2.1,true,())).2.1==(0:Int))&&((e3_.1.1==e1_.1.1)||(((((a0.2.1==(1:Int))||(a0.2.1==(2:Int)))||(a0.2.1==(6:Int)))&&((AW .u64 e3_.1.1 e1_.1.1)==(f118 (a0.2.2.1,true,())).1))&&((AQ .u64 e3_.1.1 e1_.1.1)==(0:Int))))),()))
 else none)
 else none)
 else none)
 else none
theorem aJW (x:DenS I444):run (cf [(35,⟨LR,KS,p439,f439⟩),(36,⟨IC,It,p438,f438⟩),(38,⟨EG,EZ,p118,f118⟩)] []) 9 7 Tryz.f7 I444 RV x=jT p439 f439 p438 f438 p118 f118 x.1 x.2.1:=by kernel_rfl
def T444 (x:DenS I444):Option (DenS RV):=jT FU.pre FU.F Ec.pre Ec.F A3.pre A3.F x.1 x.2.1
def aTl:Sum:=Al I444 RV T444 (DenS.dflt RV)
theorem S444_sound:Sound Tryz.prog G1 7 aTl:=sd (cf [(35,FU),(36,Ec),(38,A3)] []) 7 Tryz.f7 ⟨aAP,rO,SR,trivial⟩ trivial I444 RV T444 _ (fun _=>aJW ..)
abbrev aJX:=Ak I444
abbrev aUG:=Aj I444 RV
variable (p444:aJX) (f444:aUG)
end Vx
namespace Vx
open Go
theorem Ao {I O:Ab} {T:DenS I->Option (DenS O)} {d:DenS O} {x:DenS I} {y:DenS O} (h:T x=some y):(Al I O T d).pre x=true:=by
 show (T x).isSome=true
 rw [h]; rfl
theorem Ap {I O:Ab} {T:DenS I->Option (DenS O)} {d:DenS O} {x:DenS I} {y:DenS O} (h:T x=some y):(Al I O T d).F x=y:=by
 show (T x).getD d=y
 rw [h]; rfl
theorem oU {k:LK} {I O:Ab} {T:k.D×DenS I->Option (k.B×DenS O)} {d:k.B×DenS O} {x:k.D×DenS I} {y:k.B×DenS O} (h:T x=some y):(NM k I O T d).pre x=true:=by
 show (T x).isSome=true
 rw [h]; rfl
theorem uI {k:LK} {I O:Ab} {T:k.D×DenS I->Option (k.B×DenS O)} {d:k.B×DenS O} {x:k.D×DenS I} {y:k.B×DenS O} (h:T x=some y):(NM k I O T d).F x=y:=by
 show (T x).getD d=y
 rw [h]; rfl
theorem Dh {x y} (h:Sq x=some y):Aq.pre x=true:=Ao h
theorem C8 {x y} (h:Sq x=some y):Aq.F x=y:=Ap h
theorem DC {x y} (h:Yd x=some y):Ar.pre x=true:=Ao h
theorem DD {x y} (h:Yd x=some y):Ar.F x=y:=Ap h
theorem XT {x y} (h:WS x=some y):Br.pre x=true:=Ao h
theorem Xs {x y} (h:WS x=some y):Br.F x=y:=Ap h
theorem jA {x y} (h:WB x=some y):Dn.pre x=true:=Ao h
theorem mM {x y} (h:WB x=some y):Dn.F x=y:=Ap h
theorem Du {x y} (h:U1 x=some y):AF.pre x=true:=Ao h
theorem DA {x y} (h:U1 x=some y):AF.F x=y:=Ap h
theorem FE {x y} (h:ZE x=some y):AB.pre x=true:=Ao h
theorem Fo {x y} (h:ZE x=some y):AB.F x=y:=Ap h
theorem Sn {x y} (h:Wm x=some y):Bo.pre x=true:=Ao h
theorem R8 {x y} (h:Wm x=some y):Bo.F x=y:=Ap h
theorem aE4 {x y} (h:Xf x=some y):Rw.pre x=true:=Ao h
theorem aEb {x y} (h:Xf x=some y):Rw.F x=y:=Ap h
theorem lI {x y} (h:Qw x=some y):AG.pre x=true:=Ao h
theorem aQ {x y} (h:Qw x=some y):AG.F x=y:=Ap h
theorem aLh {x y} (h:VG x=some y):AM.pre x=true:=Ao h
theorem aI1 {x y} (h:VG x=some y):AM.F x=y:=Ap h
theorem aN7 {x y} (h:Yj x=some y):Mg.pre x=true:=Ao h
theorem aRb {x y} (h:Yj x=some y):Mg.F x=y:=Ap h
theorem aEq {x y} (h:XK x=some y):Dt.pre x=true:=Ao h
theorem aCt {x y} (h:XK x=some y):Dt.F x=y:=Ap h
theorem sH {x y} (h:WT x=some y):BI.pre x=true:=Ao h
theorem vX {x y} (h:WT x=some y):BI.F x=y:=Ap h
theorem Lo {x y} (h:Ze x=some y):A3.pre x=true:=Ao h
theorem K1 {x y} (h:Ze x=some y):A3.F x=y:=Ap h
theorem aNg {x y} (h:Yl x=some y):OE.pre x=true:=Ao h
theorem aUw {x y} (h:Yl x=some y):OE.F x=y:=Ap h
theorem vO {x y} (h:YN x=some y):EI.pre x=true:=Ao h
theorem pD {x y} (h:YN x=some y):EI.F x=y:=Ap h
theorem C0 {x y} (h:Sa x=some y):Ag.pre x=true:=Ao h
theorem CV {x y} (h:Sa x=some y):Ag.F x=y:=Ap h
theorem aKC {x y} (h:ZU x=some y):CU.pre x=true:=Ao h
theorem aNB {x y} (h:ZU x=some y):CU.F x=y:=Ap h
theorem Vc {x y} (h:SM x=some y):Bg.pre x=true:=Ao h
theorem TX {x y} (h:SM x=some y):Bg.F x=y:=Ap h
theorem VI {x y} (h:Zy x=some y):Bw.pre x=true:=Ao h
theorem UN {x y} (h:Zy x=some y):Bw.F x=y:=Ap h
theorem Si {x y} (h:Th x=some y):Ci.pre x=true:=Ao h
theorem S5 {x y} (h:Th x=some y):Ci.F x=y:=Ap h
theorem aNM {x y} (h:Wv x=some y):HN.pre x=true:=Ao h
theorem aJz {x y} (h:Wv x=some y):HN.F x=y:=Ap h
theorem aSq {x y} (h:Zs x=some y):VA.pre x=true:=Ao h
theorem aRA {x y} (h:Zs x=some y):VA.F x=y:=Ap h
theorem aBf {x y} (h:YR x=some y):Cf.pre x=true:=Ao h
theorem yG {x y} (h:YR x=some y):Cf.F x=y:=Ap h
theorem aRf {x y} (h:Y3 x=some y):MX.pre x=true:=Ao h
theorem aKe {x y} (h:Y3 x=some y):MX.F x=y:=Ap h
theorem zZ {x y} (h:Tp x=some y):CT.pre x=true:=Ao h
theorem yC {x y} (h:Tp x=some y):CT.F x=y:=Ap h
theorem i7 {x y} (h:YO x=some y):BG.pre x=true:=Ao h
theorem Z2 {x y} (h:YO x=some y):BG.F x=y:=Ap h
theorem aKy {x y} (h:Ww x=some y):OQ.pre x=true:=Ao h
theorem aM7 {x y} (h:Ww x=some y):OQ.F x=y:=Ap h
theorem cW {x y} (h:TJ x=some y):Vy.pre x=true:=Ao h
theorem dX {x y} (h:TJ x=some y):Vy.F x=y:=Ap h
theorem tT {x y} (h:RW x=some y):Dx.pre x=true:=Ao h
theorem sO {x y} (h:RW x=some y):Dx.F x=y:=Ap h
theorem WX {x y} (h:Ix x=some y):Eb.pre x=true:=Ao h
theorem W5 {x y} (h:Ix x=some y):Eb.F x=y:=Ap h
theorem VZ {x y} (h:SS x=some y):DU.pre x=true:=Ao h
theorem YX {x y} (h:SS x=some y):DU.F x=y:=Ap h
theorem Lh {x y} (h:On x=some y):DS.pre x=true:=Ao h
theorem KB {x y} (h:On x=some y):DS.F x=y:=Ap h
theorem Uu {x y} (h:R2 x=some y):TA.pre x=true:=Ao h
theorem Vp {x y} (h:R2 x=some y):TA.F x=y:=Ap h
theorem JA {x y} (h:RP x=some y):CG.pre x=true:=Ao h
theorem Io {x y} (h:RP x=some y):CG.F x=y:=Ap h
theorem aDs {x y} (h:Tv x=some y):HQ.pre x=true:=Ao h
theorem aGj {x y} (h:Tv x=some y):HQ.F x=y:=Ap h
theorem UR {x y} (h:Xx x=some y):B4.pre x=true:=Ao h
theorem UJ {x y} (h:Xx x=some y):B4.F x=y:=Ap h
theorem aP0 {x y} (h:YY x=some y):Ja.pre x=true:=Ao h
theorem aMf {x y} (h:YY x=some y):Ja.F x=y:=Ap h
theorem vV {x y} (h:ZO x=some y):Uj.pre x=true:=Ao h
theorem rY {x y} (h:ZO x=some y):Uj.F x=y:=Ap h
theorem aCG {x y} (h:ZX x=some y):Uw.pre x=true:=Ao h
theorem aGY {x y} (h:ZX x=some y):Uw.F x=y:=Ap h
theorem oV {x y} (h:Za x=some y):EV.pre x=true:=Ao h
theorem o8 {x y} (h:Za x=some y):EV.F x=y:=Ap h
theorem HR {x y} (h:Ss x=some y):A4.pre x=true:=Ao h
theorem Hz {x y} (h:Ss x=some y):A4.F x=y:=Ap h
theorem aL2 {x y} (h:VE x=some y):Nh.pre x=true:=Ao h
theorem aJ1 {x y} (h:VE x=some y):Nh.F x=y:=Ap h
theorem nI {x y} (h:Wo x=some y):Fb.pre x=true:=Ao h
theorem nN {x y} (h:Wo x=some y):Fb.F x=y:=Ap h
theorem t5 {x y} (h:ZT x=some y):Dq.pre x=true:=Ao h
theorem m7 {x y} (h:ZT x=some y):Dq.F x=y:=Ap h
theorem t7 {x y} (h:Sp x=some y):DN.pre x=true:=Ao h
theorem r7 {x y} (h:Sp x=some y):DN.F x=y:=Ap h
theorem aRI {x y} (h:XJ x=some y):Kh.pre x=true:=Ao h
theorem aOA {x y} (h:XJ x=some y):Kh.F x=y:=Ap h
theorem Z9 {x y} (h:Tg x=some y):M8.pre x=true:=Ao h
theorem iQ {x y} (h:Tg x=some y):M8.F x=y:=Ap h
theorem aC0 {x y} (h:V2 x=some y):P5.pre x=true:=Ao h
theorem xG {x y} (h:V2 x=some y):P5.F x=y:=Ap h
theorem aD7 {x y} (h:Xg x=some y):N1.pre x=true:=Ao h
theorem zU {x y} (h:Xg x=some y):N1.F x=y:=Ap h
theorem yD {x y} (h:WG x=some y):Om.pre x=true:=Ao h
theorem aGx {x y} (h:WG x=some y):Om.F x=y:=Ap h
theorem jI {x y} (h:Zk x=some y):AP.pre x=true:=Ao h
theorem jL {x y} (h:Zk x=some y):AP.F x=y:=Ap h
theorem nM {x y} (h:ZQ x=some y):C7.pre x=true:=Ao h
theorem vK {x y} (h:ZQ x=some y):C7.F x=y:=Ap h
theorem aRg {x y} (h:ZP x=some y):MH.pre x=true:=Ao h
theorem aNi {x y} (h:ZP x=some y):MH.F x=y:=Ap h
theorem aTP {x y} (h:Vs x=some y):RC.pre x=true:=Ao h
theorem aIc {x y} (h:Vs x=some y):RC.F x=y:=Ap h
theorem aBN {x y} (h:Xt x=some y):NZ.pre x=true:=Ao h
theorem aB5 {x y} (h:Xt x=some y):NZ.F x=y:=Ap h
theorem aCY {x y} (h:Zz x=some y):Pc.pre x=true:=Ao h
theorem aC6 {x y} (h:Zz x=some y):Pc.F x=y:=Ap h
theorem Px {x y} (h:SD x=some y):CA.pre x=true:=Ao h
theorem Nl {x y} (h:SD x=some y):CA.F x=y:=Ap h
theorem qR {x y} (h:RO x=some y):Dz.pre x=true:=Ao h
theorem uL {x y} (h:RO x=some y):Dz.F x=y:=Ap h
theorem xE {x y} (h:YC x=some y):BA.pre x=true:=Ao h
theorem aDf {x y} (h:YC x=some y):BA.F x=y:=Ap h
theorem qO {x y} (h:WP x=some y):AS.pre x=true:=Ao h
theorem nC {x y} (h:WP x=some y):AS.F x=y:=Ap h
theorem aSF {x y} (h:ZL x=some y):EN.pre x=true:=Ao h
theorem aUz {x y} (h:ZL x=some y):EN.F x=y:=Ap h
theorem Zf {x y} (h:V9 x=some y):Bm.pre x=true:=Ao h
theorem Wn {x y} (h:V9 x=some y):Bm.F x=y:=Ap h
theorem aMC {x y} (h:WI x=some y):Cs.pre x=true:=oU h
theorem aOc {x y} (h:WI x=some y):Cs.F x=y:=uI h
theorem aIL {x y} (h:Ye x=some y):C6.pre x=true:=oU h
theorem aL9 {x y} (h:Ye x=some y):C6.F x=y:=uI h
theorem aOv {x y} (h:Wb x=some y):ER.pre x=true:=oU h
theorem aJl {x y} (h:Wb x=some y):ER.F x=y:=uI h
theorem aOy {x y} (h:Zu x=some y):N3.pre x=true:=Ao h
theorem aUs {x y} (h:Zu x=some y):N3.F x=y:=Ap h
theorem aIW {x y} (h:WO x=some y):EQ.pre x=true:=Ao h
theorem aJJ {x y} (h:WO x=some y):EQ.F x=y:=Ap h
theorem aUN {x y} (h:XD x=some y):M9.pre x=true:=Ao h
theorem aLT {x y} (h:XD x=some y):M9.F x=y:=Ap h
theorem wG {x y} (h:W3 x=some y):CY.pre x=true:=Ao h
theorem vM {x y} (h:W3 x=some y):CY.F x=y:=Ap h
theorem aMP {x y} (h:YQ x=some y):RG.pre x=true:=Ao h
theorem aIg {x y} (h:YQ x=some y):RG.F x=y:=Ap h
theorem aKV {x y} (h:Wp x=some y):P7.pre x=true:=Ao h
theorem aNz {x y} (h:Wp x=some y):P7.F x=y:=Ap h
theorem aNn {x y} (h:YF x=some y):Ks.pre x=true:=Ao h
theorem aJy {x y} (h:YF x=some y):Ks.F x=y:=Ap h
theorem lA {x y} (h:ZW x=some y):Dp.pre x=true:=Ao h
theorem lN {x y} (h:ZW x=some y):Dp.F x=y:=Ap h
theorem t9 {x y} (h:VJ x=some y):QC.pre x=true:=Ao h
theorem qT {x y} (h:VJ x=some y):QC.F x=y:=Ap h
theorem aS4 {x y} (h:Zc x=some y):Nk.pre x=true:=Ao h
theorem aPa {x y} (h:Zc x=some y):Nk.F x=y:=Ap h
theorem aTv {x y} (h:Yf x=some y):Ri.pre x=true:=Ao h
theorem aI6 {x y} (h:Yf x=some y):Ri.F x=y:=Ap h
theorem aS8 {x y} (h:Wg x=some y):Ql.pre x=true:=Ao h
theorem aJB {x y} (h:Wg x=some y):Ql.F x=y:=Ap h
theorem xP {x y} (h:U8 x=some y):QN.pre x=true:=Ao h
theorem aFy {x y} (h:U8 x=some y):QN.F x=y:=Ap h
theorem aMr {x y} (h:WV x=some y):M6.pre x=true:=Ao h
theorem aTM {x y} (h:WV x=some y):M6.F x=y:=Ap h
theorem aPD {x y} (h:Zv x=some y):K6.pre x=true:=Ao h
theorem aNF {x y} (h:Zv x=some y):K6.F x=y:=Ap h
theorem qI {x y} (h:VO x=some y):Nt.pre x=true:=Ao h
theorem pG {x y} (h:VO x=some y):Nt.F x=y:=Ap h
theorem TU {x y} (h:Y9 x=some y):E4.pre x=true:=Ao h
theorem Ve {x y} (h:Y9 x=some y):E4.F x=y:=Ap h
theorem ZA {x y} (h:VC x=some y):DK.pre x=true:=Ao h
theorem V5 {x y} (h:VC x=some y):DK.F x=y:=Ap h
theorem WM {x y} (h:H9 x=some y):E8.pre x=true:=Ao h
theorem Yo {x y} (h:H9 x=some y):E8.F x=y:=Ap h
theorem zG {x y} (h:PR x=some y):F2.pre x=true:=Ao h
theorem aHj {x y} (h:PR x=some y):F2.F x=y:=Ap h
theorem Nv {x y} (h:E5 x=some y):CN.pre x=true:=Ao h
theorem NY {x y} (h:E5 x=some y):CN.F x=y:=Ap h
theorem aH5 {x y} (h:ZS x=some y):OC.pre x=true:=Ao h
theorem aTe {x y} (h:ZS x=some y):OC.F x=y:=Ap h
theorem aMH {x y} (h:UY x=some y):QI.pre x=true:=Ao h
theorem aPx {x y} (h:UY x=some y):QI.F x=y:=Ap h
theorem pS {x y} (h:PI x=some y):D4.pre x=true:=Ao h
theorem pM {x y} (h:PI x=some y):D4.F x=y:=Ap h
theorem aR8 {x y} (h:Uy x=some y):JO.pre x=true:=Ao h
theorem aPc {x y} (h:Uy x=some y):JO.F x=y:=Ap h
theorem aDE {x y} (h:Uz x=some y):Nd.pre x=true:=Ao h
theorem aBM {x y} (h:Uz x=some y):Nd.F x=y:=Ap h
theorem aAF {x y} (h:V0 x=some y):Qf.pre x=true:=Ao h
theorem aFI {x y} (h:V0 x=some y):Qf.F x=y:=Ap h
theorem aQV {x y} (h:Up x=some y):GX.pre x=true:=Ao h
theorem aJv {x y} (h:Up x=some y):GX.F x=y:=Ap h
theorem aTK {x y} (h:S6 x=some y):O0.pre x=true:=Ao h
theorem aKM {x y} (h:S6 x=some y):O0.F x=y:=Ap h
theorem aPk {x y} (h:VF x=some y):Gy.pre x=true:=Ao h
theorem aRu {x y} (h:VF x=some y):Gy.F x=y:=Ap h
theorem aSw {x y} (h:YH x=some y):NX.pre x=true:=Ao h
theorem aPy {x y} (h:YH x=some y):NX.F x=y:=Ap h
theorem sV {x y} (h:Nb x=some y):Dm.pre x=true:=Ao h
theorem oM {x y} (h:Nb x=some y):Dm.F x=y:=Ap h
theorem Yv {x y} (h:R1 x=some y):MP.pre x=true:=Ao h
theorem WW {x y} (h:R1 x=some y):MP.F x=y:=Ap h
theorem aOJ {x y} (h:Y8 x=some y):O4.pre x=true:=Ao h
theorem aU5 {x y} (h:Y8 x=some y):O4.F x=y:=Ap h
theorem aSk {x y} (h:XF x=some y):LZ.pre x=true:=Ao h
theorem aOT {x y} (h:XF x=some y):LZ.F x=y:=Ap h
theorem JD {x y} (h:Yy x=some y):Ej.pre x=true:=Ao h
theorem Iq {x y} (h:Yy x=some y):Ej.F x=y:=Ap h
theorem aF9 {x y} (h:YP x=some y):Gc.pre x=true:=Ao h
theorem aEp {x y} (h:YP x=some y):Gc.F x=y:=Ap h
theorem yI {x y} (h:Yx x=some y):Dl.pre x=true:=Ao h
theorem aGr {x y} (h:Yx x=some y):Dl.F x=y:=Ap h
theorem aRZ {x y} (h:ZH x=some y):PE.pre x=true:=Ao h
theorem aRe {x y} (h:ZH x=some y):PE.F x=y:=Ap h
theorem aI4 {x y} (h:WQ x=some y):KQ.pre x=true:=Ao h
theorem aS1 {x y} (h:WQ x=some y):KQ.F x=y:=Ap h
theorem aEG {x y} (h:XL x=some y):Rf.pre x=true:=Ao h
theorem zX {x y} (h:XL x=some y):Rf.F x=y:=Ap h
theorem aTf {x y} (h:Y6 x=some y):Oz.pre x=true:=Ao h
theorem aMl {x y} (h:Y6 x=some y):Oz.F x=y:=Ap h
theorem aQG {x y} (h:YZ x=some y):Qy.pre x=true:=Ao h
theorem aNX {x y} (h:YZ x=some y):Qy.F x=y:=Ap h
theorem aTs {x y} (h:Zm x=some y):Kc.pre x=true:=Ao h
theorem aQM {x y} (h:Zm x=some y):Kc.F x=y:=Ap h
theorem aI2 {x y} (h:Yb x=some y):M5.pre x=true:=Ao h
theorem aMo {x y} (h:Yb x=some y):M5.F x=y:=Ap h
theorem aIQ {x y} (h:XI x=some y):Pl.pre x=true:=Ao h
theorem aPK {x y} (h:XI x=some y):Pl.F x=y:=Ap h
theorem aTD {x y} (h:X5 x=some y):Le.pre x=true:=Ao h
theorem aLB {x y} (h:X5 x=some y):Le.F x=y:=Ap h
theorem aPe {x y} (h:XC x=some y):PT.pre x=true:=Ao h
theorem aOV {x y} (h:XC x=some y):PT.F x=y:=Ap h
theorem aLQ {x y} (h:Zr x=some y):J3.pre x=true:=Ao h
theorem aP4 {x y} (h:Zr x=some y):J3.F x=y:=Ap h
theorem aHr {x y} (h:S4 x=some y):D6.pre x=true:=Ao h
theorem wP {x y} (h:S4 x=some y):D6.F x=y:=Ap h
theorem L9 {x y} (h:UG x=some y):DH.pre x=true:=Ao h
theorem J5 {x y} (h:UG x=some y):DH.F x=y:=Ap h
theorem Y7 {x y} (h:WC x=some y):CB.pre x=true:=Ao h
theorem X6 {x y} (h:WC x=some y):CB.F x=y:=Ap h
theorem Xk {x y} (h:ZY x=some y):CC.pre x=true:=Ao h
theorem ZF {x y} (h:ZY x=some y):CC.F x=y:=Ap h
theorem aIi {x y} (h:XS x=some y):PO.pre x=true:=Ao h
theorem aUa {x y} (h:XS x=some y):PO.F x=y:=Ap h
theorem aJY {x y} (h:ZN x=some y):MU.pre x=true:=Ao h
theorem aSJ {x y} (h:ZN x=some y):MU.F x=y:=Ap h
theorem aI8 {x y} (h:Zj x=some y):KW.pre x=true:=Ao h
theorem aQK {x y} (h:Zj x=some y):KW.F x=y:=Ap h
theorem aKB {x y} (h:Xc x=some y):QX.pre x=true:=Ao h
theorem aIX {x y} (h:Xc x=some y):QX.F x=y:=Ap h
theorem aO1 {x y} (h:X1 x=some y):Mt.pre x=true:=Ao h
theorem aIn {x y} (h:X1 x=some y):Mt.F x=y:=Ap h
theorem aSg {x y} (h:Wz x=some y):LB.pre x=true:=Ao h
theorem aL6 {x y} (h:Wz x=some y):LB.F x=y:=Ap h
theorem aMD {x y} (h:XR x=some y):N9.pre x=true:=Ao h
theorem aNu {x y} (h:XR x=some y):N9.F x=y:=Ap h
theorem aIM {x y} (h:Wc x=some y):My.pre x=true:=Ao h
theorem aJT {x y} (h:Wc x=some y):My.F x=y:=Ap h
theorem aEL {x y} (h:Wu x=some y):OW.pre x=true:=Ao h
theorem aGi {x y} (h:Wu x=some y):OW.F x=y:=Ap h
theorem aQe {x y} (h:SE x=some y):NS.pre x=true:=Ao h
theorem aOL {x y} (h:SE x=some y):NS.F x=y:=Ap h
theorem x6 {x y} (h:ZJ x=some y):Gi.pre x=true:=Ao h
theorem aCg {x y} (h:ZJ x=some y):Gi.F x=y:=Ap h
theorem aOe {x y} (h:XE x=some y):L8.pre x=true:=Ao h
theorem aJf {x y} (h:XE x=some y):L8.F x=y:=Ap h
theorem aL7 {x y} (h:YE x=some y):K7.pre x=true:=Ao h
theorem aP3 {x y} (h:YE x=some y):K7.F x=y:=Ap h
theorem aBd {x y} (h:ZK x=some y):Fp.pre x=true:=Ao h
theorem aBI {x y} (h:ZK x=some y):Fp.F x=y:=Ap h
theorem aNN {x y} (h:Xo x=some y):Rc.pre x=true:=Ao h
theorem aR9 {x y} (h:Xo x=some y):Rc.F x=y:=Ap h
theorem UD {x y} (h:Us x=some y):Ee.pre x=true:=Ao h
theorem Ti {x y} (h:Us x=some y):Ee.F x=y:=Ap h
theorem aHV {x y} (h:Xw x=some y):LU.pre x=true:=Ao h
theorem aQf {x y} (h:Xw x=some y):LU.F x=y:=Ap h
theorem aJH {x y} (h:YD x=some y):Q2.pre x=true:=Ao h
theorem aLx {x y} (h:YD x=some y):Q2.F x=y:=Ap h
theorem aQm {x y} (h:YL x=some y):LJ.pre x=true:=Ao h
theorem aSy {x y} (h:YL x=some y):LJ.F x=y:=Ap h
theorem aDz {x y} (h:Wh x=some y):Fg.pre x=true:=Ao h
theorem aBs {x y} (h:Wh x=some y):Fg.F x=y:=Ap h
theorem aG8 {x y} (h:Xa x=some y):JB.pre x=true:=Ao h
theorem aDh {x y} (h:Xa x=some y):JB.F x=y:=Ap h
theorem aGI {x y} (h:UT x=some y):FM.pre x=true:=Ao h
theorem aDT {x y} (h:UT x=some y):FM.F x=y:=Ap h
theorem aA1 {x y} (h:V1 x=some y):FH.pre x=true:=Ao h
theorem aBA {x y} (h:V1 x=some y):FH.F x=y:=Ap h
theorem aAU {x y} (h:Tr x=some y):N2.pre x=true:=Ao h
theorem aBc {x y} (h:Tr x=some y):N2.F x=y:=Ap h
theorem aRH {x y} (h:Uc x=some y):OX.pre x=true:=Ao h
theorem aRi {x y} (h:Uc x=some y):OX.F x=y:=Ap h
theorem aDU {x y} (h:Ot x=some y):Mx.pre x=true:=Ao h
theorem gM {x y} (h:Ot x=some y):Mx.F x=y:=Ap h
theorem aIY {x y} (h:Xp x=some y):P2.pre x=true:=Ao h
theorem aQ5 {x y} (h:Xp x=some y):P2.F x=y:=Ap h
theorem X9 {x y} (h:R0 x=some y):Ec.pre x=true:=Ao h
theorem Xb {x y} (h:R0 x=some y):Ec.F x=y:=Ap h
theorem zF {x y} (h:Zx x=some y):FU.pre x=true:=Ao h
theorem aF1 {x y} (h:Zx x=some y):FU.F x=y:=Ap h
end Vx
namespace Vx
open Go
theorem aDk {a:Int} (n:Nat) (hn:n<=64):AI .u64 a (n:Int)=a/2^n:=by
 unfold AI
 rw [Int.fdiv_eq_ediv_of_nonneg]
 ·congr 2
  simp [IntKind.bits]
  omega
 ·exact Int.pow_nonneg (by omega)
theorem Gv {m:Nat} (h:m<2^64):(BitVec.ofInt 64 (m:Int)).toNat=m:=by
 rw [BitVec.toNat_ofInt]
 omega
theorem U4 {m n:Nat} (h:m<2^64) (hn:n<=64):AQ .u64 (m:Int) ((2^n-1:Nat):Int)=((m%2^n:Nat):Int):=by
 have h2:2^n<=2^64:=Nat.pow_le_pow_right (by omega) hn
 have h3:0<2^n:=Nat.two_pow_pos n
 have hlt:m%2^n<2^n:=Nat.mod_lt _ h3
 have key:(BitVec.ofInt 64 (m:Int) &&& BitVec.ofInt 64 ((2^n-1:Nat):Int)).toNat=m%2^n:=by
  rw [BitVec.toNat_and,Gv h,Gv (by omega),Nat.and_two_pow_sub_one_eq_mod]
 show IntKind.u64.wrap (((BitVec.ofInt 64 (m:Int) &&& BitVec.ofInt 64 ((2^n-1:Nat):Int)).toNat:Nat):Int)=_
 rw [key]
 exact IntWalk.u64_in _ (by omega)
theorem JZ {n:Nat} (hn:n<=63):AT .u64 1 (n:Int)=((2^n:Nat):Int):=by
 have h2:2^n<=2^63:=Nat.pow_le_pow_right (by omega) hn
 have:(min (n:Int).toNat IntKind.u64.bits)=n:=by simp [IntKind.bits]; omega
 unfold AT
 rw [this,Int.one_mul]
 have e:(2:Int)^n=((2^n:Nat):Int):=by simp
 rw [e]
 refine IntWalk.u64_in _ ⟨Int.natCast_nonneg _,?_⟩
 have:((2^n:Nat):Int)<=((2^63:Nat):Int):=Int.ofNat_le.2 h2
 exact Int.le_trans this (by decide)
theorem aFE {m n:Nat} (hn:n<=63) (h:m<2^(n+1)):Sm .u64 (m:Int) ((2^n:Nat):Int)=((m%2^n:Nat):Int):=by
 have h1:2^(n+1)<=2^64:=Nat.pow_le_pow_right (by omega) (by omega)
 have h2:2^n<2^64:=Nat.pow_lt_pow_right (by omega) (by omega)
 have hlt:m%2^n<2^n:=Nat.mod_lt _ (Nat.two_pow_pos n)
 have key:(BitVec.ofInt 64 (m:Int) &&& ~~~(BitVec.ofInt 64 ((2^n:Nat):Int))).toNat=m%2^n:=by
  apply Nat.eq_of_testBit_eq
  intro i
  rw [BitVec.toNat_and,Nat.testBit_and,Gv (by omega),Nat.testBit_mod_two_pow]
  have e:(~~~(BitVec.ofInt 64 ((2^n:Nat):Int))).toNat.testBit i=(decide (i<64)&&!decide (n=i)):=by
   rw [← BitVec.getLsbD,BitVec.getLsbD_not,BitVec.getLsbD,Gv h2,Nat.testBit_two_pow]
  rw [e]
  rcases Nat.lt_trichotomy i n with hi | hi | hi
  ·have:i<64:=by omega
   have hne:¬ n=i:=by omega
   simp [this,hne,hi]
  ·subst hi; simp
  ·have hz:m.testBit i=false:=Nat.testBit_lt_two_pow (Nat.lt_of_lt_of_le h (Nat.pow_le_pow_right (by omega) (by omega)))
   simp [hz]
 show IntKind.u64.wrap (((BitVec.ofInt 64 (m:Int) &&& ~~~(BitVec.ofInt 64 ((2^n:Nat):Int))).toNat:Nat):Int)=_
 rw [key]
 exact IntWalk.u64_in _ (by omega)
end Vx
namespace VL
open Go Vx
def Fm (f:Int):Prop:=0<=f/\f<4
instance (f:Int):Decidable (Fm f):=by unfold Fm; infer_instance
def fW (f:Int):Nat:=if f=0 then 16 else if f=1 then 16 else if f=2 then 32 else 64
def fP (f:Int):Nat:=if f=0 then 11 else if f=1 then 8 else if f=2 then 24 else 53
def fX (f:Int):Nat:=if f=0 then 15 else if f=1 then 127 else if f=2 then 127 else 1023
def Bp (f:Int):Aa rowsSh:=((fW f:Int),((fP f:Int),((1-(fX f:Int)),((fX f:Int),()))))
theorem C4 {f:Int} (h:Fm f):f=0∨f=1∨f=2∨f=3:=by
 obtain ⟨h1,h2⟩:=h
 omega
theorem jP {f:Int} (h:Fm f) (d:Aa rowsSh):k_rows.getD (Int.toNat f) d=Bp f:=by
 rcases C4 h with rfl | rfl | rfl | rfl <;> rfl
theorem Dr {f:Int} (h:Fm f):8<=fP f:=by
 rcases C4 h with rfl | rfl | rfl | rfl <;> decide
theorem ES {f:Int} (h:Fm f):fP f+5<=fW f:=by
 rcases C4 h with rfl | rfl | rfl | rfl <;> decide
theorem Ei {f:Int} (h:Fm f):fW f<=64:=by
 rcases C4 h with rfl | rfl | rfl | rfl <;> decide
theorem HK {f:Int} (h:Fm f):fX f<=1023:=by
 rcases C4 h with rfl | rfl | rfl | rfl <;> decide
theorem aHG {f:Int} (h:Fm f):2*fX f+1=2^(fW f-fP f)-1:=by
 rcases C4 h with rfl | rfl | rfl | rfl <;> decide
theorem As {n:Int} (h:-9223372036854775808<=n/\n<9223372036854775808):IntKind.wrap .i64 n=n:=IntWalk.i64_in n ⟨h.1,by omega⟩
theorem D9 {n:Int} (h:0<=n/\n<18446744073709551616):IntKind.wrap .u64 n=n:=IntWalk.u64_in n ⟨h.1,by omega⟩
theorem Dy (a n:Nat) (hn:n<=64):AI .u64 (a:Int) (n:Int)=((a/2^n:Nat):Int):=by
 rw [aDk n hn]
 simp
theorem Es (m n:Nat) (h:n<=m) (hm:m<=4611686018427387904):IntKind.wrap .i64 ((m:Int)-(n:Int))=((m-n:Nat):Int):=by
 rw [As (by omega)]
 omega
theorem Il (m n:Nat):((m:Int)==(n:Int))=(m==n):=by
 rw [Bool.eq_iff_iff]; simp only [beq_iff_eq]; omega
theorem FB (m:Nat):((m:Int)==0)=(m==0):=Il m 0
theorem xC (m n:Nat):((m:Int) != (n:Int))=(m != n):=by
 show (!((m:Int)==(n:Int)))=!(m==n)
 rw [Il]
theorem Tq (m:Nat):((m:Int) != 0)=(m != 0):=xC m 0
theorem sS (m n:Nat):(decide ((m:Int)<(n:Int)))=decide (m<n):=by
 rw [Bool.eq_iff_iff]; simp
theorem AX (m:Nat):(decide (0<=(m:Int)))=true:=by simp
def Am (f:Int) (a:Nat):Int:=if Fm f then (if a<2^fW f then 0 else 4) else 2
def eF (f:Int) (a:Nat):Nat:=a/2^(fP f-1)%2^(fW f-fP f)
def mF (f:Int) (a:Nat):Nat:=a%2^(fP f-1)
def sF (f:Int) (a:Nat):Bool:=a/2^(fW f-1) != 0
def BF (f:Int):Nat:=2^(fW f-fP f)-1
def Bx (f:Int) (a:Nat):Nat:=a%2^(fW f-1)
theorem Fd {f:Int} (h:Fm f):Sq (f,())=some (Bp f,0,()):=by
 rcases C4 h with rfl | rfl | rfl | rfl <;> kernel_rfl
theorem GO {f:Int} (h:¬ Fm f):Sq (f,())=some ((0,0,0,0,()),2,()):=by
 show jQ f=_
 unfold jQ
 have:(decide (f<(0:Int))||decide (f>=(4:Int)))=true:=by
  simp only [Fm] at h
  simp only [Bool.or_eq_true,decide_eq_true_eq]
  omega
 rw [this]
 rfl
theorem aKn {f:Int} (h:¬ Fm f) (a:Nat):Am f a=2:=by unfold Am; rw [if_neg h]
theorem aFZ {f:Int} (h:Fm f) {a:Nat} (ha:a<2^fW f):Am f a=0:=by unfold Am; rw [if_pos h,if_pos ha]
theorem aLN {f:Int} (h:Fm f) {a:Nat} (ha:¬ a<2^fW f):Am f a=4:=by unfold Am; rw [if_pos h,if_neg ha]
theorem CR {f:Int} {a:Nat} (h:Am f a=0):Fm f/\a<2^fW f:=by
 unfold Am at h
 split at h
 ·split at h
  ·exact ⟨by assumption,by assumption⟩
  ·cases h
 ·cases h
theorem kY {a n:Nat}:(a/2^n != 0)=decide (2^n<=a):=by
 rw [Bool.eq_iff_iff]
 simp [Nat.div_eq_zero_iff,Nat.two_pow_pos]
theorem Eq (f:Int) (a:Nat) (ha:a<2^64):Yd (f,(a:Int),())=some (Am f a,()):=by
 show dJ Aq.pre Aq.F f a=_
 unfold dJ
 by_cases hf:Fm f
 ·simp only [Dh (Fd hf),C8 (Fd hf),cond_true,Bp,AX,Bool.true_or]
  rw [Dy _ _ (Ei hf),Tq,kY]
  show (bif decide ((fW f:Int)<((64:Nat):Int))&&_ then _ else _)=_
  rw [sS]
  have hw:=Ei hf
  by_cases h:a<2^fW f
  ·have:(decide (fW f<64)&&decide (2^fW f<=a))=false:=by simp; intro _; exact h
   rw [this,aFZ hf h]; rfl
  ·have:(decide (fW f<64)&&decide (2^fW f<=a))=true:=by
    simp only [Bool.and_eq_true,decide_eq_true_eq]
    refine ⟨?_,by omega⟩
    rcases Nat.lt_or_ge (fW f) 64 with h1 | h1
    ·exact h1
    ·have:fW f=64:=by omega
     rw [this] at h; omega
   rw [this,aLN hf h]; rfl
 ·simp only [Dh (GO hf),C8 (GO hf),cond_true,aKn hf]
  rfl
theorem Zw (n:Nat) (hn:n<=63):WS ((n:Int),())=some (((2^n-1:Nat):Int),()):=by
 show j2 n=_
 unfold j2
 have h2:2^n<=2^63:=Nat.pow_le_pow_right (by omega) hn
 have h1:0<2^n:=Nat.two_pow_pos n
 rw [AX,cond_true,JZ hn]
 generalize 2^n=c at *
 rw [D9 (by omega)]
 have:(c:Int)-1=((c-1:Nat):Int):=by omega
 rw [this]
theorem eD {f:Int} (hf:Fm f) (a:Nat) (ha:a<2^64):WB (Bp f,(a:Int),())=some (sF f a,(eF f a:Int),(mF f a:Int),()):=by
 show jE Br.pre Br.F (Bp f) a=_
 unfold jE
 have h1:=Dr hf
 have h2:=ES hf
 have h3:=Ei hf
 have e1:IntKind.wrap .i64 ((Bp f).1-1)=((fW f-1:Nat):Int):=Es (fW f) 1 (by omega) (by omega)
 have e2:IntKind.wrap .i64 ((Bp f).2.1-1)=((fP f-1:Nat):Int):=Es (fP f) 1 (by omega) (by omega)
 have e3:IntKind.wrap .i64 ((Bp f).1-(Bp f).2.1)=((fW f-fP f:Nat):Int):=Es (fW f) (fP f) (by omega) (by omega)
 have p1:=Zw (fW f-fP f) (by omega)
 have p2:=Zw (fP f-1) (by omega)
 rw [e1,e2,e3]
 simp only [AX,cond_true,XT p1,XT p2,Xs p1,Xs p2]
 rw [Dy _ _ (by omega),Dy _ _ (by omega),U4 (Nat.lt_of_le_of_lt (Nat.div_le_self _ _) ha) (by omega),U4 ha (by omega),Tq]
 rfl
def Av (f:Int) (a:Nat):Int :=
 bif eF f a==BF f&&mF f a==0 then (bif sF f a then 2 else 9)
 else bif eF f a==BF f&&mF f a/2^(fP f-2) != 0 then 1
 else bif eF f a==BF f then 0
 else bif eF f a==0&&mF f a==0 then (bif sF f a then 5 else 6)
 else bif eF f a==0 then (bif sF f a then 4 else 7)
 else (bif sF f a then 3 else 8)
theorem F7 {f:Int} {a:Nat} (ha:a<2^64) (h:Am f a=0):U1 (f,(a:Int),())=some (Av f a,0,()):=by
 obtain ⟨hf,h0⟩:=CR h
 show Vq Ar.pre Ar.F Dn.pre Dn.F Br.pre Br.F f a=_
 unfold Vq
 have h1:=Dr hf
 have h2:=ES hf
 have h3:=Ei hf
 have e3:IntKind.wrap .i64 ((Bp f).1-(Bp f).2.1)=((fW f-fP f:Nat):Int):=Es (fW f) (fP f) (by omega) (by omega)
 have e4:IntKind.wrap .i64 ((Bp f).2.1-2)=((fP f-2:Nat):Int):=Es (fP f) 2 (by omega) (by omega)
 have p0:=Eq f a ha
 have p1:=Zw (fW f-fP f) (by omega)
 have p2:=eD hf a ha
 have hr:(decide (0<=f)&&decide (f<((4:Nat):Int)))=true:=by
  simp only [Bool.and_eq_true,decide_eq_true_eq]; exact hf
 simp only [jP hf,e3,e4,hr,DC p0,DD p0,XT p1,Xs p1,jA p2,mM p2,h,cond_true,AX,Bool.true_or,bne_self_eq_false,cond_false]
 rw [Dy _ _ (by omega),Il,FB,FB,Tq]
 unfold Av BF
 generalize (eF f a==2^(fW f-fP f)-1)=b1
 generalize (mF f a==0)=b2
 generalize (mF f a/2^(fP f-2) != 0)=b3
 generalize (eF f a==0)=b4
 generalize sF f a=b5
 cases b1 <;> cases b2 <;> cases b3 <;> cases b4 <;> cases b5 <;> rfl
theorem SU {f:Int} {a:Nat} (ha:a<2^64) (h:Am f a≠0):U1 (f,(a:Int),())=some (0,Am f a,()):=by
 show Vq Ar.pre Ar.F Dn.pre Dn.F Br.pre Br.F f a=_
 unfold Vq
 have p0:=Eq f a ha
 have:(Am f a != 0)=true:=by simpa using h
 simp only [DC p0,DD p0,this,cond_true]
theorem v7 {f:Int} (hf:Fm f):ZT (f,())=some (((2^(fW f-1):Nat):Int),()):=by
 rcases C4 hf with rfl | rfl | rfl | rfl <;> kernel_rfl
theorem aBP {f:Int} {a:Nat} (ha:a<2^64) (h:Am f a=0):S4 (f,(a:Int),())=some ((Bx f a:Int),0,()):=by
 obtain ⟨hf,h0⟩:=CR h
 show S8 Ar.pre Ar.F Dq.pre Dq.F f a=_
 unfold S8
 have h2:=ES hf
 have h3:=Ei hf
 have p0:=Eq f a ha
 have p1:=v7 hf
 simp only [DC p0,DD p0,t5 p1,m7 p1,h,cond_true,bne_self_eq_false,cond_false]
 rw [aFE (by omega) (by rw [Nat.sub_add_cancel (by omega)]; exact h0)]
 rfl
def At (f:Int) (a:Nat):Int:=bif sF f a then -(Bx f a:Int) else Bx f a
theorem aLy (f:Int) (hf:Fm f) (a:Nat):Bx f a<2^63:=by
 have h3:=Ei hf
 exact Nat.lt_of_lt_of_le (Nat.mod_lt _ (Nat.two_pow_pos _)) (Nat.pow_le_pow_right (by omega) (by omega))
theorem aH6 {f:Int} (a:Nat):((Bx f a:Int) != (a:Int))=sF f a:=by
 rw [xC]
 unfold Bx sF
 rw [kY,Bool.eq_iff_iff]
 simp only [bne_iff_ne,ne_eq,decide_eq_true_eq]
 constructor
 ·intro h
  rcases Nat.lt_or_ge a (2^(fW f-1)) with h1 | h1
  ·exact absurd (Nat.mod_eq_of_lt h1) h
  ·exact h1
 ·intro h h1
  have:=Nat.mod_lt a (Nat.two_pow_pos (fW f-1))
  omega
theorem WF {f:Int} {a:Nat} (ha:a<2^64) (h:Am f a=0):UG (f,(a:Int),())=some ((Av f a,At f a,()),0,()):=by
 show Tn AF.pre AF.F D6.pre D6.F f a=_
 unfold Tn
 have hl:=aLy f (CR h).1 a
 have p0:=F7 ha h
 have p1:=aBP ha h
 simp only [Du p0,DA p0,aHr p1,wP p1,cond_true,bne_self_eq_false,cond_false,aH6]
 rw [As (n:=(Bx f a:Int)) (by omega),As (by omega)]
 unfold At
 cases sF f a
 ·rfl
 ·simp
theorem cY {f:Int} {a:Nat} (ha:a<2^64) (h:Am f a≠0):UG (f,(a:Int),())=some ((0,0,()),Am f a,()):=by
 show Tn AF.pre AF.F D6.pre D6.F f a=_
 unfold Tn
 have p0:=SU ha h
 have:(Am f a != 0)=true:=by simpa using h
 simp only [Du p0,DA p0,this,cond_true]
def DZ (f:Int) (a b:Nat):Int:=if Am f a=0 then Am f b else Am f a
theorem vF {f:Int} {a b:Nat} (ha:a<2^64) (hb:b<2^64) (h:Am f a=0) (h':Am f b=0):Us (f,(a:Int),(b:Int),())=some ((Av f a,At f a,()),(Av f b,At f b,()),0,()):=by
 show Vo DH.pre DH.F f a b=_
 unfold Vo
 have p0:=WF ha h
 have p1:=WF hb h'
 simp only [L9 p0,J5 p0,L9 p1,J5 p1,cond_true,bne_self_eq_false,cond_false]
theorem sE {f:Int} {a b:Nat} (ha:a<2^64) (hb:b<2^64) (h:DZ f a b≠0):∃ x y,Us (f,(a:Int),(b:Int),())=some (x,y,DZ f a b,()):=by
 show ∃ x y,Vo DH.pre DH.F f a b=_
 unfold Vo
 unfold DZ at h ⊢
 split at h
 ·rename_i h0
  have p0:=WF ha h0
  have p1:=cY hb h
  refine ⟨(Av f a,At f a,()),(0,0,()),?_⟩
  simp only [L9 p0,J5 p0,L9 p1,J5 p1,cond_true,bne_self_eq_false,cond_false,if_pos h0]
 ·rename_i h0
  have p0:=cY ha h0
  have:(Am f a != 0)=true:=by simpa using h
  refine ⟨(0,0,()),(0,0,()),?_⟩
  simp only [L9 p0,J5 p0,cond_true,this,if_neg h0]
def nan (f:Int) (a:Nat):Bool:=eF f a==BF f&&mF f a != 0
def AJ (f:Int) (a:Nat):Bool:=nan f a&&mF f a/2^(fP f-2)==0
theorem GW (f:Int) (a:Nat):(Av f a==1||Av f a==0)=nan f a:=by
 unfold Av nan
 simp only [bne]
 cases eF f a==BF f <;> cases mF f a==0 <;> cases sF f a <;> cases eF f a==0 <;> cases mF f a/2^(fP f-2)==0 <;> rfl
theorem E9 (f:Int) (a:Nat):(Av f a==0)=AJ f a:=by
 unfold Av AJ nan
 simp only [bne]
 cases eF f a==BF f <;> cases hm:mF f a==0 <;> cases sF f a <;> cases eF f a==0 <;> cases mF f a/2^(fP f-2)==0 <;> rfl
def FG (f:Int) (a b:Nat) (signal:Bool):Int×Int×Int×Unit :=
 if DZ f a b≠0 then (0,0,DZ f a b,())
 else bif nan f a||nan f b then (3,(bif signal then 1 else bif AJ f a||AJ f b then 1 else 0),0,())
 else if At f a<At f b then (0,0,0,())
 else if At f a>At f b then (2,0,0,())
 else (1,0,0,())
theorem vP {f:Int} {a b:Nat} (h:DZ f a b=0):Am f a=0/\Am f b=0:=by
 unfold DZ at h
 split at h
 ·exact ⟨by assumption,h⟩
 ·exact absurd h (by assumption)
theorem La (x:Aa (.pair (.int .i64) (.pair (.int .i64) .unit))):WC (x,())=some ((x.1==1||x.1==0),()):=rfl
theorem Kp (x y:Aa (.pair (.int .i64) (.pair (.int .i64) .unit))):ZY (x,y,())=some ((bif x.1==0||y.1==0 then 1 else 0),()):=by
 show f8 x y=_
 unfold f8
 cases (x.1==(0:Int)||y.1==(0:Int)) <;> rfl
theorem aEA {f:Int} {a b:Nat} (ha:a<2^64) (hb:b<2^64) (s:Bool):Xa (f,(a:Int),(b:Int),s,())=some (FG f a b s):=by
 show bK Ee.pre Ee.F CB.pre CB.F CC.pre CC.F f a b s=_
 unfold bK FG
 by_cases h:DZ f a b=0
 ·obtain ⟨h1,h2⟩:=vP h
  have p0:=vF ha hb h1 h2
  simp only [UD p0,Ti p0,Y7 (La _),X6 (La _),Xk (Kp _ _),ZF (Kp _ _),cond_true,bne_self_eq_false,cond_false,GW,Bool.true_or,h,ne_eq,not_true_eq_false,if_false,gt_iff_lt]
  simp only [E9]
  cases nan f a||nan f b <;> cases s <;> by_cases hlt:At f a<At f b <;> by_cases hgt:At f b<At f a <;> simp [hlt,hgt]
 ·obtain ⟨x,y,p0⟩:=sE ha hb h
  have:(DZ f a b != 0)=true:=by simpa using h
  simp only [UD p0,Ti p0,cond_true,this,if_pos (show DZ f a b≠0 from h)]
end VL
namespace VL
open Go Vx
theorem kZ {f:Int} {a:Nat} (h:nan f a=false):AJ f a=false:=by
 unfold AJ; rw [h]; rfl
end VL
namespace VL
open Go Vx
theorem aJa {f:Int} (hf:Fm f):2^(fW f-1)=2^(fP f-1)*2^(fW f-fP f):=by
 have h1:=Dr hf
 have h2:=ES hf
 rw [← Nat.pow_add]
 congr 1
 omega
theorem ZG {f:Int} (hf:Fm f) (a:Nat):Bx f a=mF f a+2^(fP f-1)*eF f a:=by
 unfold Bx mF eF
 rw [aJa hf,Nat.mod_mul]
theorem cB {f:Int} {a:Nat} (h:Am f a=0):a=Bx f a+(bif sF f a then 2^(fW f-1) else 0):=by
 obtain ⟨hf,h0⟩:=CR h
 have h2:=ES hf
 have e:2^fW f=2*2^(fW f-1):=by rw [← Nat.pow_succ']; congr 1; omega
 unfold Bx sF
 rw [kY]
 by_cases hc:2^(fW f-1)<=a
 ·rw [decide_eq_true hc]
  simp only [cond_true]
  have:a%2^(fW f-1)=a-2^(fW f-1):=by
   rw [Nat.mod_eq_sub_mod hc,Nat.mod_eq_of_lt (by omega)]
  omega
 ·rw [decide_eq_false hc]
  simp only [cond_false]
  rw [Nat.mod_eq_of_lt (by omega)]
  rfl
theorem eJ {f:Int} (a:Nat):Bx f a<2^(fW f-1):=Nat.mod_lt _ (Nat.two_pow_pos _)
theorem NG {f:Int} (hf:Fm f):0<BF f:=by
 rcases C4 hf with rfl | rfl | rfl | rfl <;> decide
theorem wL {f:Int} (hf:Fm f) (a:Nat):Bx f a=0↔eF f a=0/\mF f a=0:=by
 rw [ZG hf]
 have:=Nat.two_pow_pos (fP f-1)
 constructor
 ·intro h
  have h1:2^(fP f-1)*eF f a=0:=by omega
  rcases Nat.mul_eq_zero.1 h1 with h2 | h2
  ·omega
  ·exact ⟨h2,by omega⟩
 ·rintro ⟨h1,h2⟩
  rw [h1,h2]; rfl
theorem aKF {f:Int} (hf:Fm f) {a:Nat} (h:Bx f a=0):Av f a=bif sF f a then 5 else 6:=by
 obtain ⟨h1,h2⟩:=(wL hf a).1 h
 have h3:=NG hf
 unfold Av
 have e1:(eF f a==BF f)=false:=by rw [h1]; simp; omega
 have e2:(eF f a==0)=true:=by rw [h1]; rfl
 have e3:(mF f a==0)=true:=by rw [h2]; rfl
 rw [e1,e2,e3]
 rfl
theorem aAJ {f:Int} (hf:Fm f) {a:Nat} {c:Int} (hc:c=5∨c=6) (h:Av f a=c):Bx f a=0:=by
 rw [wL hf]
 unfold Av at h
 cases e1:eF f a==BF f <;> cases e2:eF f a==0 <;> cases e3:mF f a==0 <;> cases e4:sF f a <;> cases e5:mF f a/2^(fP f-2) != 0 <;>
  simp [e1,e2,e3,e4,e5] at h <;> first | (exfalso; omega) | (exact ⟨by simpa using e2,by simpa using e3⟩)
def CH (f:Int):Nat:=2^(fW f-1)-2^(fP f-2)
def wF (f:Int) (neg:Bool):Nat:=bif neg then 2^(fW f-1) else 0
theorem Ew {f:Int} (hf:Fm f):ZE (f,())=some ((CH f:Int),0,()):=by
 rcases C4 hf with rfl | rfl | rfl | rfl <;> kernel_rfl
def rU (f:Int) (a b:Nat) (g:Bool):Nat :=
 if At f a=At f b/\a≠b then wF f (!g)
 else if (At f b<At f a/\g=false)∨(At f a<At f b/\g=true) then b else a
theorem aQn {f:Int} {a b:Nat} (h1:Am f a=0) (h2:Am f b=0) (hp:At f a=At f b) (hne:a≠b):Bx f a=0/\Bx f b=0/\sF f a=!sF f b:=by
 have ea:=cB h1
 have eb:=cB h2
 unfold At at hp
 cases hs:sF f a <;> cases hs':sF f b <;> rw [hs] at ea hp <;> rw [hs'] at eb hp <;> simp only [cond_true,cond_false] at ea eb hp
 ·omega
 ·exact ⟨by omega,by omega,rfl⟩
 ·exact ⟨by omega,by omega,rfl⟩
 ·omega
theorem aBn {f:Int} {a:Nat} (h:Am f a=0) (hz:Bx f a=0):a=wF f (sF f a):=by
 have:=cB h
 unfold wF
 rw [hz] at this
 omega
theorem aD1 {f:Int} {a b:Nat} (h1:Am f a=0) (h2:Am f b=0) (g:Bool) :
  (bif (bif g then decide (At f a<At f b) else decide (At f b<At f a))||(At f a==0&&Av f b==(bif g then 6 else 5)) then b else a)=rU f a b g:=by
 have hf:=(CR h1).1
 unfold rU
 by_cases hab:a=b
 ·subst hab
  have:¬ ((At f a<At f a/\g=false)∨(At f a<At f a/\g=true)):=by omega
  simp only [ne_eq,not_true_eq_false,and_false,if_false,if_neg this]
  cases ((bif g then decide (At f a<At f a) else decide (At f a<At f a))||(At f a==0&&Av f a==(bif g then 6 else 5))) <;> rfl
 ·rcases Int.lt_trichotomy (At f a) (At f b) with hlt | heq | hgt
  ·have n0:¬ (At f a=At f b/\a≠b):=by omega
   rw [if_neg n0]
   cases g
   ·have n1:¬ ((At f b<At f a/\false=false)∨(At f a<At f b/\false=true)):=by simp; omega
    have n2:¬ At f b<At f a:=by omega
    rw [if_neg n1]
    simp only [cond_false,decide_eq_false n2,Bool.false_or]
    cases e1:At f a==0 <;> cases e2:Av f b==5
    ·rfl
    ·rfl
    ·rfl
    ·exfalso
     have z:=aAJ hf (.inl rfl) (by simpa using e2)
     have e3:At f a=0:=by simpa using e1
     have:At f b=0:=by unfold At; rw [z]; cases sF f b <;> rfl
     omega
   ·rw [if_pos (.inr ⟨hlt,rfl⟩)]
    simp only [cond_true,decide_eq_true hlt,Bool.true_or]
  ·obtain ⟨z1,z2,z3⟩:=aQn h1 h2 heq hab
   rw [if_pos ⟨heq,hab⟩]
   have e0:At f a=0:=by unfold At; rw [z1]; cases sF f a <;> rfl
   have c2:=aKF hf z2
   have za:=aBn h1 z1
   have zb:=aBn h2 z2
   have e1:(At f a==0)=true:=by simpa using e0
   have e2:At f b=0:=heq ▸ e0
   have n3:((bif g then decide (At f a<At f b) else decide (At f b<At f a)))=false:=by
    cases g <;> simp [e0,e2]
   rw [n3,e1,c2]
   cases g <;> cases hs:sF f b <;> rw [hs] at z3 zb <;> rw [z3] at za <;> first | exact za | exact zb
  ·have n0:¬ (At f a=At f b/\a≠b):=by omega
   rw [if_neg n0]
   cases g
   ·rw [if_pos (.inl ⟨hgt,rfl⟩)]
    simp only [cond_false,decide_eq_true hgt,Bool.true_or,cond_true]
   ·have n1:¬ ((At f b<At f a/\true=false)∨(At f a<At f b/\true=true)):=by simp; omega
    have n2:¬ At f a<At f b:=by omega
    rw [if_neg n1]
    simp only [cond_true,decide_eq_false n2,Bool.false_or]
    cases e1:At f a==0 <;> cases e2:Av f b==6
    ·rfl
    ·rfl
    ·rfl
    ·exfalso
     have z:=aAJ hf (.inr rfl) (by simpa using e2)
     have e3:At f a=0:=by simpa using e1
     have:At f b=0:=by unfold At; rw [z]; cases sF f b <;> rfl
     omega
def RI (f:Int) (a b:Nat):Int:=bif AJ f a||AJ f b then 1 else 0
def Ow (f:Int) (a b:Nat) (g:Bool):Int×Int×Int×Unit :=
 if DZ f a b≠0 then (0,0,DZ f a b,())
 else bif nan f a&&nan f b then ((CH f:Int),RI f a b,0,())
 else bif nan f a then ((b:Int),RI f a b,0,())
 else bif nan f b then ((a:Int),RI f a b,0,())
 else ((rU f a b g:Int),0,0,())
theorem aFv {f:Int} {a b:Nat} (h1:nan f a=false) (h2:nan f b=false):RI f a b=0:=by
 unfold RI; rw [kZ h1,kZ h2]; rfl
theorem aB8 (x y:Int):Xo (x,y,())=some (decide (y<x),()):=rfl
theorem aEl (x y:Int):YD (x,y,())=some (decide (y>x),()):=rfl
theorem aTj {f:Int} {a b:Nat} (ha:a<2^64) (hb:b<2^64):Xw (f,(a:Int),(b:Int),())=some (Ow f a b false):=by
 show hJ Rc.pre Rc.F Ee.pre Ee.F CC.pre CC.F AB.pre AB.F CB.pre CB.F f a b=_
 unfold hJ Ow
 by_cases h:DZ f a b=0
 ·obtain ⟨h1,h2⟩:=vP h
  have hf:=(CR h1).1
  have p0:=vF ha hb h1 h2
  have key:=aD1 h1 h2 false
  simp only [UD p0,Ti p0,Y7 (La _),X6 (La _),Xk (Kp _ _),ZF (Kp _ _),aNN (aB8 _ _),aR9 (aB8 _ _),FE (Ew hf),Fo (Ew hf),
   cond_true,bne_self_eq_false,cond_false,GW,Bool.true_or,h,ne_eq,not_true_eq_false,if_false]
  simp only [E9]
  have fl:(bif AJ f a||AJ f b then (1:Int) else 0)=RI f a b:=rfl
  simp only [fl]
  cases n1:nan f a <;> cases n2:nan f b <;> simp only [Bool.not_true,Bool.not_false,Bool.true_or,Bool.false_or,Bool.true_and,Bool.false_and,Bool.and_true,Bool.and_false,Bool.or_true,Bool.or_false,cond_true,cond_false]
  rw [aFv n1 n2,← key]
  simp only [cond_false]
  cases (decide (At f b<At f a)||(At f a==0&&Av f b==5)) <;> rfl
 ·obtain ⟨x,y,p0⟩:=sE ha hb h
  have:(DZ f a b != 0)=true:=by simpa using h
  simp only [UD p0,Ti p0,cond_true,this,if_pos (show DZ f a b≠0 from h)]
theorem aMz {f:Int} {a b:Nat} (ha:a<2^64) (hb:b<2^64):YL (f,(a:Int),(b:Int),())=some (Ow f a b true):=by
 show mL Q2.pre Q2.F Ee.pre Ee.F CC.pre CC.F AB.pre AB.F CB.pre CB.F f a b=_
 unfold mL Ow
 by_cases h:DZ f a b=0
 ·obtain ⟨h1,h2⟩:=vP h
  have hf:=(CR h1).1
  have p0:=vF ha hb h1 h2
  have key:=aD1 h1 h2 true
  simp only [UD p0,Ti p0,Y7 (La _),X6 (La _),Xk (Kp _ _),ZF (Kp _ _),aJH (aEl _ _),aLx (aEl _ _),FE (Ew hf),Fo (Ew hf),
   cond_true,bne_self_eq_false,cond_false,GW,Bool.true_or,h,ne_eq,not_true_eq_false,if_false]
  simp only [E9]
  have fl:(bif AJ f a||AJ f b then (1:Int) else 0)=RI f a b:=rfl
  simp only [fl]
  cases n1:nan f a <;> cases n2:nan f b <;> simp only [Bool.not_true,Bool.not_false,Bool.true_or,Bool.false_or,Bool.true_and,Bool.false_and,Bool.and_true,Bool.and_false,Bool.or_true,Bool.or_false,cond_true,cond_false]
  rw [aFv n1 n2,← key]
  simp only [cond_true,gt_iff_lt]
  cases (decide (At f a<At f b)||(At f a==0&&Av f b==6)) <;> rfl
 ·obtain ⟨x,y,p0⟩:=sE ha hb h
  have:(DZ f a b != 0)=true:=by simpa using h
  simp only [UD p0,Ti p0,cond_true,this,if_pos (show DZ f a b≠0 from h)]
end VL
namespace VL
open Go Vx
theorem aHK (k:Nat):Nat.testBit 1 k=decide (k=0):=by
 rw [Bool.eq_iff_iff]
 simp [Nat.testBit_one_eq_true_iff_self_eq_zero]
theorem aLi {m n:Nat} (h:m<2^(n+1)):m ^^^ 2^n=if m<2^n then m+2^n else m-2^n:=by
 apply Nat.eq_of_testBit_eq
 intro i
 rw [Nat.testBit_xor,Nat.testBit_two_pow]
 have h2:2^(n+1)=2*2^n:=Nat.pow_succ'
 split
 ·rename_i hm
  have:m+2^n=2^n*1+m:=by omega
  rw [this,Nat.testBit_two_pow_mul_add _ hm]
  by_cases hi:i<n
  ·have:¬ n=i:=by omega
   simp [hi,this]
  ·rw [if_neg hi,Nat.testBit_lt_two_pow (Nat.lt_of_lt_of_le hm (Nat.pow_le_pow_right (by omega) (by omega)))]
   rw [aHK]
   by_cases hn:n=i
   ·subst hn; simp
   ·have:¬ i-n=0:=by omega
    simp [hn,this]
 ·rename_i hm
  have e:m=2^n*1+(m-2^n):=by omega
  have hr:m-2^n<2^n:=by omega
  rw [e,Nat.testBit_two_pow_mul_add _ hr]
  have e2:2^n*1+(m-2^n)-2^n=m-2^n:=by omega
  rw [e2]
  by_cases hi:i<n
  ·have:¬ n=i:=by omega
   simp [hi,this]
  ·rw [if_neg hi,Nat.testBit_lt_two_pow (x:=m-2^n) (Nat.lt_of_lt_of_le hr (Nat.pow_le_pow_right (by omega) (by omega))),aHK]
   by_cases hn:n=i
   ·subst hn; simp
   ·have:¬ i-n=0:=by omega
    simp [hn,this]
theorem aLU {m n:Nat} (hn:n<=63) (h:m<2^(n+1)):fK .u64 (m:Int) ((2^n:Nat):Int)=((if m<2^n then m+2^n else m-2^n:Nat):Int):=by
 have h1:2^(n+1)<=2^64:=Nat.pow_le_pow_right (by omega) (by omega)
 have h2:2^n<2^64:=Nat.pow_lt_pow_right (by omega) (by omega)
 have h3:2^(n+1)=2*2^n:=Nat.pow_succ'
 have key:(BitVec.ofInt 64 (m:Int) ^^^ BitVec.ofInt 64 ((2^n:Nat):Int)).toNat=if m<2^n then m+2^n else m-2^n:=by
  rw [BitVec.toNat_xor,Gv (by omega),Gv h2,aLi h]
 show IntKind.u64.wrap (((BitVec.ofInt 64 (m:Int) ^^^ BitVec.ofInt 64 ((2^n:Nat):Int)).toNat:Nat):Int)=_
 rw [key]
 refine D9 ⟨Int.natCast_nonneg _,?_⟩
 split <;> omega
def Gb (f:Int) (s:Bool) (n:Nat):Nat:=n+(bif s then 2^(fW f-1) else 0)
theorem aN3 {f:Int} (hf:Fm f):2^fW f=2*2^(fW f-1):=by
 have h2:=ES hf
 rw [← Nat.pow_succ']; congr 1; omega
theorem aBE {f:Int} (hf:Fm f) (s:Bool) {n:Nat} (hn:n<2^(fW f-1)):Am f (Gb f s n)=0:=by
 apply aFZ hf
 rw [aN3 hf]
 unfold Gb
 cases s <;> simp <;> omega
theorem aLv {f:Int} (s:Bool) {n:Nat} (hn:n<2^(fW f-1)):Bx f (Gb f s n)=n:=by
 unfold Bx Gb
 cases s
 ·simp only [cond_false,Nat.add_zero]; exact Nat.mod_eq_of_lt hn
 ·simp only [cond_true,Nat.add_mod_right]; exact Nat.mod_eq_of_lt hn
theorem aSV {f:Int} (s:Bool) {n:Nat} (hn:n<2^(fW f-1)):sF f (Gb f s n)=s:=by
 unfold sF Gb
 rw [kY]
 cases s
 ·simp only [cond_false,Nat.add_zero,decide_eq_false_iff_not]; omega
 ·simp
theorem aHw {f:Int} {a:Nat} (h:Am f a=0):a=Gb f (sF f a) (Bx f a):=cB h
theorem KK {f:Int} {a:Nat} (h:Am f a=0):a<2^64:=by
 obtain ⟨hf,h0⟩:=CR h
 exact Nat.lt_of_lt_of_le h0 (Nat.pow_le_pow_right (by omega) (Ei hf))
theorem aSN {f:Int} (hf:Fm f) (a:Nat):eF f a=Bx f a/2^(fP f-1):=by
 rw [ZG hf,Nat.add_mul_div_left _ _ (Nat.two_pow_pos _)]
 have:mF f a/2^(fP f-1)=0:=Nat.div_eq_of_lt (Nat.mod_lt _ (Nat.two_pow_pos _))
 omega
theorem aTY {f:Int} (hf:Fm f) (a:Nat):mF f a=Bx f a%2^(fP f-1):=by
 rw [ZG hf,Nat.add_mul_mod_self_left]
 exact (Nat.mod_eq_of_lt (Nat.mod_lt _ (Nat.two_pow_pos _))).symm
def FW (f:Int):Nat:=2^(fP f-1)*BF f
theorem aRo {f:Int} (hf:Fm f):FW f+128<=2^(fW f-1):=by
 rcases C4 hf with rfl | rfl | rfl | rfl <;> decide
theorem aBl {f:Int} (a:Nat):eF f a<=BF f:=by
 have:eF f a<2^(fW f-fP f):=Nat.mod_lt _ (Nat.two_pow_pos _)
 unfold BF; omega
theorem aNd {f:Int} (hf:Fm f) {a:Nat} (h:nan f a=false):Bx f a<=FW f:=by
 rw [ZG hf]
 have h1:=aBl (f:=f) a
 have hm:mF f a<2^(fP f-1):=Nat.mod_lt _ (Nat.two_pow_pos _)
 unfold nan at h
 unfold FW
 rcases Nat.lt_or_ge (eF f a) (BF f) with h2 | h2
 ·have:2^(fP f-1)*(eF f a+1)<=2^(fP f-1)*BF f:=Nat.mul_le_mul_left _ h2
  rw [Nat.mul_add] at this
  omega
 ·have e:eF f a=BF f:=by omega
  rw [e] at h ⊢
  simp at h
  omega
theorem aRh {f:Int} (hf:Fm f) (a:Nat):Bx f a=FW f↔eF f a=BF f/\mF f a=0:=by
 have hp:=Nat.two_pow_pos (fP f-1)
 constructor
 ·intro h
  rw [aSN hf,aTY hf,h]
  unfold FW
  exact ⟨Nat.mul_div_cancel_left _ hp,Nat.mul_mod_right _ _⟩
 ·rintro ⟨h1,h2⟩
  rw [ZG hf,h1,h2]
  unfold FW; omega
theorem aMA {f:Int} (hf:Fm f) {a:Nat} (h:Bx f a=FW f):Av f a=bif sF f a then 2 else 9:=by
 obtain ⟨h1,h2⟩:=(aRh hf a).1 h
 unfold Av
 rw [h1,h2]
 simp
def Ib (f:Int) (a:Nat):Nat:=Gb f (!sF f a) (Bx f a)
theorem aOa {f:Int} (hf:Fm f) (a:Nat):Am f (Ib f a)=0:=aBE hf _ (eJ a)
theorem neg_neg {f:Int} {a:Nat} (h:Am f a=0):Ib f (Ib f a)=a:=by
 unfold Ib
 rw [aLv _ (eJ a),aSV _ (eJ a),Bool.not_not]
 exact (aHw h).symm
theorem sL {f:Int} {a:Nat} (h:Am f a=0):Sp (f,(a:Int),())=some ((Ib f a:Int),0,()):=by
 obtain ⟨hf,h0⟩:=CR h
 show UQ Ar.pre Ar.F Dq.pre Dq.F f a=_
 unfold UQ
 have h2:=ES hf
 have h3:=Ei hf
 have p0:=Eq f a (KK h)
 have p1:=v7 hf
 simp only [DC p0,DD p0,t5 p1,m7 p1,h,cond_true,bne_self_eq_false,cond_false]
 rw [aLU (by omega) (by rw [Nat.sub_add_cancel (by omega)]; exact h0)]
 have e:(if a<2^(fW f-1) then a+2^(fW f-1) else a-2^(fW f-1))=Ib f a:=by
  have hp:=aHw h
  have hl:=eJ (f:=f) a
  unfold Ib
  unfold Gb at hp ⊢
  cases hs:sF f a <;> rw [hs] at hp <;> simp only [cond_true,cond_false,Bool.not_true,Bool.not_false] at hp ⊢
  ·rw [if_pos (by omega)]; omega
  ·rw [if_neg (by omega)]; omega
 rw [e]
theorem aQs {f:Int} {a:Nat} (ha:a<2^64) (h:Am f a≠0):Sp (f,(a:Int),())=some (0,Am f a,()):=by
 show UQ Ar.pre Ar.F Dq.pre Dq.F f a=_
 unfold UQ
 have p0:=Eq f a ha
 have:(Am f a != 0)=true:=by simpa using h
 simp only [DC p0,DD p0,this,cond_true]
def aFz (f:Int) (a:Nat) (w:Int):Nat :=
 bif (Av f a==9&&decide (w>0))||(Av f a==2&&decide (w<0)) then a
 else if At f a+w>0∨(At f a+w=0/\w<0) then (At f a+w).toNat
 else Ib f (-(At f a+w)).toNat
def aDA (f:Int) (a:Nat) (w:Int):Nat:=bif nan f a then CH f else aFz f a w
def U9 (f:Int) (a:Nat) (w:Int):Int×Int×Int×Unit :=
 if Am f a≠0 then (0,0,Am f a,()) else ((aDA f a w:Int),(bif AJ f a then 1 else 0),0,())
theorem aTB {f:Int} {a:Nat} (h:Am f a=0) (hn:nan f a=false) {w:Int} (hw:w=1∨w=-1) (hi:((Av f a==9&&decide (w>0))||(Av f a==2&&decide (w<0)))=false) :
  -(FW f:Int)<=At f a+w/\At f a+w<=FW f:=by
 have hf:=(CR h).1
 have hl:=aNd hf hn
 rcases Nat.lt_or_ge (Bx f a) (FW f) with h1 | h1
 ·unfold At
  cases sF f a <;> simp only [cond_true,cond_false] <;> omega
 ·have e:Bx f a=FW f:=by omega
  have hc:=aMA hf e
  have hpos:0<FW f:=Nat.mul_pos (Nat.two_pow_pos _) (NG hf)
  unfold At
  rw [hc] at hi
  cases hs:sF f a <;> rw [hs] at hi <;> rcases hw with rfl | rfl <;> simp at hi <;> simp only [cond_true,cond_false] <;> rw [e] <;> constructor <;> omega
theorem aJd {f:Int} {a:Nat} (ha:a<2^64) {w:Int} (hw:w=1∨w=-1):XS (f,(a:Int),w,())=some (U9 f a w):=by
 show mH DH.pre DH.F CB.pre CB.F AB.pre AB.F CC.pre CC.F DN.pre DN.F f a w=_
 unfold mH U9
 by_cases h:Am f a=0
 ·have hf:=(CR h).1
  have p0:=WF ha h
  simp only [L9 p0,J5 p0,Y7 (La _),X6 (La _),Xk (Kp _ _),ZF (Kp _ _),FE (Ew hf),Fo (Ew hf),cond_true,bne_self_eq_false,cond_false,GW,h,ne_eq,not_true_eq_false,if_false]
  simp only [E9,Bool.or_self]
  unfold aDA
  cases hn:nan f a
  ·have hs:=kZ hn
   rw [hs]
   simp only [cond_false]
   unfold aFz
   cases hi:(Av f a==9&&decide (w>0))||(Av f a==2&&decide (w<0))
   ·obtain ⟨r1,r2⟩:=aTB h hn hw hi
    have hroom:=aRo hf
    have hW:=Ei hf
    have h63:2^(fW f-1)<=2^63:=Nat.pow_le_pow_right (by omega) (by omega)
    have e1:IntKind.wrap .i64 (At f a+w)=At f a+w:=As (by omega)
    simp only [cond_false,e1]
    by_cases ht:At f a+w>0∨(At f a+w=0/\w<0)
    ·have:(decide (At f a+w>0)||(At f a+w==0&&decide (w<0)))=true:=by
      simp only [Bool.or_eq_true,decide_eq_true_eq,Bool.and_eq_true,beq_iff_eq]; exact ht
     rw [this,if_pos ht,cond_true,D9 (by omega)]
     have:((At f a+w).toNat:Int)=At f a+w:=by omega
     rw [this]
    ·have:(decide (At f a+w>0)||(At f a+w==0&&decide (w<0)))=false:=by
      rw [Bool.eq_false_iff]
      simp only [ne_eq,Bool.or_eq_true,decide_eq_true_eq,Bool.and_eq_true,beq_iff_eq]; exact ht
     rw [this,if_neg ht,cond_false]
     have e2:IntKind.wrap .u64 (IntKind.wrap .i64 (0-(At f a+w)))=(((-(At f a+w)).toNat:Nat):Int):=by
      rw [As (by omega),D9 (by omega)]; omega
     rw [e2]
     have hc:Am f (-(At f a+w)).toNat=0:=by
      have:=aBE hf false (n:=(-(At f a+w)).toNat) (by omega)
      simpa [Gb] using this
     have p1:=sL hc
     simp only [t7 p1,r7 p1,cond_true]
   ·simp only [cond_true]
  ·simp only [cond_true]
 ·have p0:=cY ha h
  have:(Am f a != 0)=true:=by simpa using h
  simp only [L9 p0,J5 p0,this,cond_true,if_pos (show Am f a≠0 from h)]
theorem aJq {f:Int} {a:Nat} (ha:a<2^64):ZN (f,(a:Int),())=some (U9 f a 1):=by
 show kL PO.pre PO.F f a=_
 unfold kL
 have p:=aJd (f:=f) ha (.inl rfl)
 simp only [aIi p,aUa p,cond_true]
end VL
namespace VL
open Go Vx
def nv (B:Nat):List Nat->Nat
 | []=>0
 | x::r=>x+B*nv B r
def Ai:List Nat->List Nat
 | []=>[]
 | x::r=>match Ai r with
  | []=>if x=0 then [] else [x]
  | y::t=>x::y::t
def dg (B:Nat) (n:Nat):List Nat :=
 if h:n=0∨B<2 then [] else n%B::dg B (n/B)
termination_by n
decreasing_by exact Nat.div_lt_self (by omega) (by omega)
theorem Ep (B:Nat):dg B 0=[]:=by rw [dg]; simp
theorem FO {B n:Nat} (hB:2<=B) (hn:0<n):dg B n=n%B::dg B (n/B):=by
 rw [dg]; rw [dif_neg (by omega)]
theorem F8 {B:Nat} (hB:2<=B):∀ (n:Nat),∀ x∈dg B n,x<B:=by
 intro n
 induction n using Nat.strongRecOn with
 | ind n ih =>
  intro x hx
  rcases Nat.eq_zero_or_pos n with rfl | hn
  ·rw [Ep] at hx; simp at hx
  ·rw [FO hB hn] at hx
   rcases List.mem_cons.1 hx with rfl | hx
   ·exact Nat.mod_lt _ (by omega)
   ·exact ih (n/B) (Nat.div_lt_self hn (by omega)) x hx
theorem lJ {B:Nat} (hB:2<=B):∀ (n:Nat),nv B (dg B n)=n:=by
 intro n
 induction n using Nat.strongRecOn with
 | ind n ih =>
  rcases Nat.eq_zero_or_pos n with rfl | hn
  ·rw [Ep]; rfl
  ·rw [FO hB hn]
   simp only [nv]
   rw [ih (n/B) (Nat.div_lt_self hn (by omega))]
   exact Nat.mod_add_div n B
theorem aBU {B x v:Nat} (hB:2<=B) (hx:x<B) (h:0<x+B*v):dg B (x+B*v)=x::dg B v:=by
 rw [FO hB h,Nat.add_mul_mod_self_left,Nat.mod_eq_of_lt hx,Nat.add_mul_div_left _ _ (by omega),Nat.div_eq_of_lt hx,Nat.zero_add]
theorem GE {B:Nat} (hB:2<=B):∀ (l:List Nat),(∀ x∈l,x<B)->Ai l=dg B (nv B l)
 | [],_=>by simp only [nv]; rw [Ep]; rfl
 | x::r,h=>by
  have ih:=GE hB r fun y hy=>h y (by simp [hy])
  simp only [Ai,nv]
  rcases Nat.eq_zero_or_pos (nv B r) with h0 | h0
  ·rw [ih,h0,Ep,Nat.mul_zero,Nat.add_zero]
   simp only
   rcases Nat.eq_zero_or_pos x with rfl | hx
   ·rw [Ep]; rfl
   ·rw [if_neg (by omega)]
    have:=aBU (v:=0) hB (h x (by simp)) (by omega)
    rw [Nat.mul_zero,Nat.add_zero,Ep] at this
    exact this.symm
  ·have hp:0<B*nv B r:=Nat.mul_pos (by omega) h0
   rw [aBU hB (h x (by simp)) (by omega),ih]
   rw [FO hB h0]
theorem Eg:∀ (l:List Nat),(Ai l).length<=l.length/\Ai l=l.take (Ai l).length
 | []=>⟨Nat.le_refl _,rfl⟩
 | x::r=>by
  obtain ⟨h1,h2⟩:=Eg r
  simp only [Ai]
  cases e:Ai r with
  | nil =>
   simp only
   split
   ·exact ⟨by simp,rfl⟩
   ·exact ⟨by simp,rfl⟩
  | cons y t =>
   rw [e] at h1 h2
   simp only
   refine ⟨by simp at h1 ⊢; omega,?_⟩
   simp only [List.length_cons,List.take_succ_cons]
   congr 1
theorem oJ:∀ (l:List Nat) (i:Nat),(Ai l).length<=i->l.getD i 0=0
 | [],i,_=>by simp
 | x::r,i,h=>by
  have ih:=oJ r
  simp only [Ai] at h
  cases e:Ai r with
  | nil =>
   rw [e] at h ih
   simp only at h
   cases i with
   | zero =>
    split at h
    ·rename_i hx; simp [hx]
    ·simp at h
   | succ i=>simpa using ih i (by simp)
  | cons y t =>
   rw [e] at h ih
   simp only at h
   cases i with
   | zero=>simp at h
   | succ i=>simpa using ih i (by simpa using h)
theorem W2:∀ (l:List Nat),0<(Ai l).length->l.getD ((Ai l).length-1) 0≠0
 | [],h=>by simp [Ai] at h
 | x::r,h=>by
  have ih:=W2 r
  simp only [Ai] at h ⊢
  cases e:Ai r with
  | nil =>
   rw [e] at h
   simp only at h ⊢
   split at h
   ·simp at h
   ·rename_i hx; rw [if_neg hx]; simpa using hx
  | cons y t =>
   rw [e] at ih
   simp only [List.length_cons] at ih ⊢
   have:=ih (by simp)
   simpa using this
def Wd (l:List Nat):List Int:=l.map fun n:Nat=>(n:Int)
theorem AA (l:List Nat):(Wd l).length=l.length:=by simp [Wd]
theorem Cc (l:List Nat) (i:Nat):(Wd l).getD i 0=((l.getD i 0:Nat):Int):=by
 unfold Wd
 rw [List.getD_eq_getElem?_getD,List.getD_eq_getElem?_getD,List.getElem?_map]
 cases l[i]? <;> simp
theorem fC (l:List Nat) (n:Nat):(Wd l).take n=Wd (l.take n):=by simp [Wd,List.map_take]
theorem aUK (l:List Nat) (n:Nat):(Wd l).drop n=Wd (l.drop n):=by simp [Wd,List.map_drop]
theorem D0 (l:List Nat) (i n:Nat):(Wd l).set i (n:Int)=Wd (l.set i n):=by simp [Wd,List.map_set]
theorem Sj (n:Nat):List.replicate n (0:Int)=Wd (List.replicate n 0):=by simp [Wd]
end VL
namespace VL
open Go Vx
def Ws (l:List Nat):Prop:=(∀ x∈l,x<2^64)/\l.length<=1000000
theorem aQ6 (l:List Nat) (hl:l.length<=1000000) (n:Nat) (hn:n<=l.length) (ht:(Ai l).length<=n) :
  cQ ((Wd l,((n:Int),())),())=some (.inl ((Wd l,(((Ai l).length:Int),())),())):=by
 have key:=Do aGL (fun x=>x.1.2.1.toNat)
  (fun x=>∃ n:Nat,n<=l.length/\(Ai l).length<=n/\x=((Wd l,((n:Int),())),()))
  (fun _=>.inl ((Wd l,(((Ai l).length:Int),())),())) ?_ ((Wd l,((n:Int),())),()) ⟨n,hn,ht,rfl⟩
 ·exact key
 intro L x hx hL
 obtain ⟨n,hn,ht,rfl⟩:=hx
 unfold U6
 rcases Nat.eq_zero_or_pos n with rfl | hpos
 ·have e1:decide (((0:Nat):Int)>0)=false:=rfl
  simp only [e1,Bool.not_false,Bool.or_true,cond_true,Bool.false_and,cond_false]
  have:(Ai l).length=0:=by omega
  rw [this]
 ·have e0:IntKind.wrap .i64 ((n:Int)-1)=((n-1:Nat):Int):=Es n 1 (by omega) (by omega)
  have e1:decide ((n:Int)>0)=true:=by simp; omega
  have e2:(decide ((0:Int)<=((n-1:Nat):Int))&&decide (((n-1:Nat):Int)<((Wd l).length:Int)))=true:=by
   rw [AA]; simp; omega
  simp only [e0,e1,e2,Bool.true_or,cond_true,Bool.true_and,Int.toNat_natCast,Cc,FB]
  cases hz:(l.getD (n-1) 0==0) with
  | true =>
   simp only [cond_true]
   refine hL _ ⟨n-1,by omega,?_,rfl⟩ (by simp only [Int.toNat_natCast]; omega)
   rcases Nat.lt_or_ge (n-1) (Ai l).length with h | h
   ·exfalso
    have e:n=(Ai l).length:=by omega
    have:=W2 l (by omega)
    rw [← e] at this
    exact this (by simpa using hz)
   ·exact h
  | false =>
   simp only [cond_false]
   have:(Ai l).length=n:=by
    rcases Nat.lt_or_ge (n-1) (Ai l).length with h | h
    ·omega
    ·exfalso
     have:=oJ l (n-1) h
     rw [this] at hz
     simp at hz
   rw [this]
theorem Eh (l:List Nat) (hl:l.length<=1000000):Sa (Wd l,())=some (Wd (Ai l),()):=by
 show jK cQ (Wd l)=_
 unfold jK
 have h:=aQ6 l hl l.length (Nat.le_refl _) (Eg l).1
 rw [AA]
 rw [h]
 have e:(decide ((0:Int)<=((Ai l).length:Int))&&decide (((Ai l).length:Int)<=((Wd l).length:Int)))=true:=by
  rw [AA]; have:=(Eg l).1; simp; omega
 show (bif (decide ((0:Int)<=((Ai l).length:Int))&&decide (((Ai l).length:Int)<=((Wd l).length:Int))) then some (List.drop (Int.toNat 0) (List.take (Int.toNat ((Ai l).length:Int)) (Wd l)),()) else none)=_
 rw [e,cond_true,Int.toNat_natCast,Int.toNat_zero,List.drop_zero,fC]
 have:=(Eg l).2
 rw [← this]
def An (n:Nat):Nat:=if n=0 then 0 else Nat.log2 n+1
theorem Gq (n:Nat):n<2^An n:=by
 unfold An
 split
 ·subst_vars; decide
 ·exact Nat.lt_log2_self
theorem Ji {n:Nat} (h:n≠0):2^(An n-1)<=n:=by
 unfold An
 rw [if_neg h]
 exact Nat.log2_self_le h
theorem aQo {n k:Nat} (h1:2^k<=n) (h2:n<2^(k+1)):An n=k+1:=by
 have hp:=Nat.two_pow_pos k
 have hn:n≠0:=by omega
 have a1:=Gq n
 have a2:=Ji hn
 have b1:An n-1<k+1:=(Nat.pow_lt_pow_iff_right (by decide)).1 (Nat.lt_of_le_of_lt a2 h2)
 have b2:k<An n:=(Nat.pow_lt_pow_iff_right (by decide)).1 (Nat.lt_of_le_of_lt h1 a1)
 omega
theorem tA {n k:Nat} (h:2^k<=n):An n=k+An (n/2^k):=by
 have hp:=Nat.two_pow_pos k
 have hq:0<n/2^k:=Nat.div_pos h hp
 have a1:=Gq (n/2^k)
 have a2:=Ji (n:=n/2^k) (by omega)
 have hb:0<An (n/2^k):=by unfold An; rw [if_neg (by omega)]; omega
 have h1:2^(k+(An (n/2^k)-1))<=n:=by
  rw [Nat.pow_add]
  calc 2^k*2^(An (n/2^k)-1)<=2^k*(n/2^k):=Nat.mul_le_mul_left _ a2
   _<=n:=Nat.mul_div_le n _
 have h2:n<2^(k+(An (n/2^k)-1)+1):=by
  rw [show k+(An (n/2^k)-1)+1=k+An (n/2^k) by omega,Nat.pow_add,Nat.mul_comm]
  exact (Nat.div_lt_iff_lt_mul hp).1 a1
 have:=aQo h1 h2
 omega
theorem aFn:∀ i:Nat,i<256->(HV.getD i 0).toNat=An i:=by
 have h:((List.range 256).all fun i=>decide ((HV.getD i 0).toNat=An i))=true:=by decide +kernel
 intro i hi
 have:=List.all_eq_true.1 h i (List.mem_range.2 hi)
 simpa using this
theorem UK (n:Nat) (hn:n<2^64):Zy ((n:Int),())=some ((An n:Int),()):=by
 have hs:∀ m k:Nat,k<=64->AI .u64 (m:Int) (k:Int)=((m/2^k:Nat):Int):=fun m k hk=>Dy m k hk
 have Sv:∀ m:Nat,AI .u64 (m:Int) 32=((m/2^32:Nat):Int):=fun m=>hs m 32 (by decide)
 have s16:∀ m:Nat,AI .u64 (m:Int) 16=((m/2^16:Nat):Int):=fun m=>hs m 16 (by decide)
 have s8:∀ m:Nat,AI .u64 (m:Int) 8=((m/2^8:Nat):Int):=fun m=>hs m 8 (by decide)
 have ge:∀ m k:Nat,decide ((m:Int)>=(k:Int))=decide (k<=m):=fun m k=>by rw [Bool.eq_iff_iff]; simp
 have g32:∀ m:Nat,decide ((m:Int)>=4294967296)=decide (2^32<=m):=fun m=>ge m (2^32)
 have g16:∀ m:Nat,decide ((m:Int)>=65536)=decide (2^16<=m):=fun m=>ge m (2^16)
 have g8:∀ m:Nat,decide ((m:Int)>=256)=decide (2^8<=m):=fun m=>ge m (2^8)
 have tab:∀ m:Nat,m<256->IntKind.wrap .u8 (m:Int)=(m:Int):=fun m hm=>IntWalk.u8_in _ (by omega)
 have look:∀ (m:Nat) (c:Int) (d:Nat),m<256->c=(d:Int)->d<=56->(bif (decide ((0:Int)<=IntKind.wrap .u8 (m:Int))&&decide (IntKind.wrap .u8 (m:Int)<(256:Int))) then (some (IntKind.wrap .i64 (c+IntKind.wrap .i64 ((UInt8.toNat (HV.getD (Int.toNat (IntKind.wrap .u8 (m:Int))) 0):Nat):Int)),()):Option (DenS FA)) else none)=some (((d+An m:Nat):Int),()):=fun m c d hm hc hd=>by
  have e:(decide ((0:Int)<=(m:Int))&&decide ((m:Int)<(256:Int)))=true:=by simp; omega
  have hb:An m<=8:=by
   have:=aFn m hm
   rcases Nat.eq_zero_or_pos m with rfl | hpos
   ·decide
   ·have:=Ji (n:=m) (by omega)
    have h8:An m-1<8:=(Nat.pow_lt_pow_iff_right (a:=2) (by decide)).1 (Nat.lt_of_le_of_lt this hm)
    omega
  rw [tab m hm,e,cond_true,Int.toNat_natCast,aFn m hm,hc,As (n:=((An m:Nat):Int)) (by omega),As (by omega)]
  rfl
 show dF n=_
 unfold dF
 have BR:∀ (k:Nat),2^k<=n->k+An (n/2^k)=An n:=fun k h=>(tA h).symm
 have dd:∀ a b:Nat,n/2^a/2^b=n/2^(a+b):=fun a b=>by rw [Nat.div_div_eq_div_mul,← Nat.pow_add]
 have up:∀ a b:Nat,2^b<=n/2^a->2^(a+b)<=n:=fun a b h=>by
  rw [Nat.pow_add,Nat.mul_comm]
  exact (Nat.le_div_iff_mul_le (Nat.two_pow_pos a)).1 h
 have down:∀ a b:Nat,n/2^a<2^b->n<2^(a+b):=fun a b h=>by
  rw [Nat.pow_add,Nat.mul_comm]
  exact (Nat.div_lt_iff_lt_mul (Nat.two_pow_pos a)).1 h
 have small:∀ a:Nat,n<2^(a+8)->n/2^a<256:=fun a h=>by
  rw [Nat.div_lt_iff_lt_mul (Nat.two_pow_pos a),Nat.mul_comm]
  rw [Nat.pow_add] at h; exact h
 simp only [Sv,s16,s8,g32,g16,g8]
 by_cases h1:2^32<=n
 ·rw [decide_eq_true h1,cond_true]
  by_cases h2:2^16<=n/2^32
  ·rw [decide_eq_true h2,cond_true]
   by_cases h3:2^8<=n/2^32/2^16
   ·rw [decide_eq_true h3,cond_true]
    rw [dd 32 16] at h3
    have hm:n/2^32/2^16/2^8=n/2^56:=by rw [dd 32 16,dd 48 8]
    refine (look (n/2^32/2^16/2^8) _ 56 (by rw [hm]; exact small 56 hn) rfl (by decide)).trans ?_
    rw [hm,BR 56 (up 48 8 h3)]
   ·rw [decide_eq_false h3,cond_false]
    rw [dd 32 16] at h3
    refine (look (n/2^32/2^16) _ 48 (by rw [dd 32 16]; exact small 48 (down 48 8 (by omega))) rfl (by decide)).trans ?_
    rw [dd 32 16,BR 48 (up 32 16 h2)]
  ·rw [decide_eq_false h2,cond_false]
   by_cases h3:2^8<=n/2^32
   ·rw [decide_eq_true h3,cond_true]
    refine (look (n/2^32/2^8) _ 40 (by rw [dd 32 8]; exact small 40 (down 32 16 (by omega))) rfl (by decide)).trans ?_
    rw [dd 32 8,BR 40 (up 32 8 h3)]
   ·rw [decide_eq_false h3,cond_false]
    refine (look (n/2^32) _ 32 (small 32 (down 32 8 (by omega))) rfl (by decide)).trans ?_
    rw [BR 32 h1]
 ·rw [decide_eq_false h1,cond_false]
  by_cases h2:2^16<=n
  ·rw [decide_eq_true h2,cond_true]
   by_cases h3:2^8<=n/2^16
   ·rw [decide_eq_true h3,cond_true]
    refine (look (n/2^16/2^8) _ 24 (by rw [dd 16 8]; exact small 24 (by omega)) rfl (by decide)).trans ?_
    rw [dd 16 8,BR 24 (up 16 8 h3)]
   ·rw [decide_eq_false h3,cond_false]
    refine (look (n/2^16) _ 16 (small 16 (down 16 8 (by omega))) rfl (by decide)).trans ?_
    rw [BR 16 h2]
  ·rw [decide_eq_false h2,cond_false]
   by_cases h3:2^8<=n
   ·rw [decide_eq_true h3,cond_true]
    refine (look (n/2^8) _ 8 (small 8 (by omega)) rfl (by decide)).trans ?_
    rw [BR 8 h3]
   ·rw [decide_eq_false h3,cond_false]
    refine (look n 0 0 (by omega) rfl (by decide)).trans ?_
    rw [Nat.zero_add]
end VL
namespace VL
open Go Vx
theorem Sg (B:Nat):∀ (l m:List Nat),nv B (l++m)=nv B l+B^l.length*nv B m
 | [],m=>by simp [nv]
 | x::r,m=>by
  simp only [List.cons_append,nv,List.length_cons]
  rw [Sg B r m,Nat.pow_succ,Nat.mul_add,Nat.add_assoc]
  congr 2
  rw [Nat.mul_comm (B^r.length) B,Nat.mul_assoc]
theorem DR {B:Nat} (hB:2<=B):∀ (l:List Nat),(∀ x∈l,x<B)->nv B l<B^l.length
 | [],_=>by simp [nv]
 | x::r,h=>by
  have ih:=DR hB r fun y hy=>h y (by simp [hy])
  have hx:=h x (by simp)
  simp only [nv,List.length_cons,Nat.pow_succ]
  have:B*nv B r<=B*(B^r.length-1):=Nat.mul_le_mul_left _ (by omega)
  have hp:0<B^r.length:=Nat.pow_pos (by omega)
  rw [Nat.mul_sub] at this
  have h1:B*1<=B*B^r.length:=Nat.mul_le_mul_left _ hp
  rw [Nat.mul_comm (B^r.length) B]
  omega
theorem Ka (B:Nat) (l:List Nat) (i:Nat) (h:i<=l.length):nv B l=nv B (l.take i)+B^i*nv B (l.drop i):=by
 conv=>lhs; rw [← List.take_append_drop i l]
 rw [Sg]
 simp [h]
theorem JT {B:Nat} (hB:2<=B) {l:List Nat} (h:∀ x∈l,x<B):nv B (Ai l)=nv B l:=by
 rw [GE hB l h,lJ hB]
theorem RL {l:List Nat} {x:Nat} (h:x∈Ai l):x∈l:=by
 rw [(Eg l).2] at h
 exact List.mem_of_mem_take h
theorem aEN {l:List Nat} {i:Nat} (h:i<(Ai l).length):(Ai l)[i]? = l[i]?:=by
 have:(Ai l)[i]? = (l.take (Ai l).length)[i]?:=congrArg (fun t:List Nat=>t[i]?) (Eg l).2
 rw [this,List.getElem?_take_of_lt h]
theorem aPS {a b k:Nat} (ha:a<2^k) (hb:0<b):An (a+2^k*b)=k+An b:=by
 have hp:=Nat.two_pow_pos k
 have h1:2^k*1<=2^k*b:=Nat.mul_le_mul_left _ hb
 rw [tA (n:=a+2^k*b) (k:=k) (by omega),Nat.add_mul_div_left _ _ hp,Nat.div_eq_of_lt ha,Nat.zero_add]
theorem Cw (i:Nat):(2^64)^i=2^(64*i):=by rw [← Nat.pow_mul]
theorem aEO {l:List Nat} (h:∀ x∈l,x<2^64) (hl:0<(Ai l).length):An (nv (2^64) l)=64*((Ai l).length-1)+An (l.getD ((Ai l).length-1) 0):=by
 have hlast:=W2 l hl
 have hle:=(Eg l).1
 rw [← JT (by decide) h]
 have hm:∀ x∈Ai l,x<2^64:=fun x hx=>h x (RL hx)
 rw [Ka _ (Ai l) ((Ai l).length-1) (by omega),Cw]
 have hd:(Ai l).drop ((Ai l).length-1)=[l.getD ((Ai l).length-1) 0]:=by
  have hlt:(Ai l).length-1<(Ai l).length:=by omega
  rw [List.drop_eq_getElem_cons hlt]
  have e1:(Ai l).length-1+1=(Ai l).length:=by omega
  rw [e1,List.drop_length]
  congr 1
  have:(Ai l)[(Ai l).length-1]? = l[(Ai l).length-1]?:=aEN hlt
  rw [List.getElem?_eq_getElem hlt] at this
  rw [List.getD_eq_getElem?_getD,← this]
  rfl
 rw [hd]
 have hlow:=DR (B:=2^64) (by decide) ((Ai l).take ((Ai l).length-1)) fun x hx=>hm x (List.mem_of_mem_take hx)
 rw [List.length_take,Nat.min_eq_left (by omega),Cw] at hlow
 have:nv (2^64) [l.getD ((Ai l).length-1) 0]=l.getD ((Ai l).length-1) 0:=by simp [nv]
 rw [this]
 exact aPS hlow (by omega)
theorem aFq {l:List Nat} (h:∀ x∈l,x<2^64) (h0:(Ai l).length=0):nv (2^64) l=0:=by
 have:Ai l=[]:=List.eq_nil_of_length_eq_zero h0
 rw [← JT (by decide) h,this]; rfl
theorem Cq {l:List Nat} {B:Nat} (hB:0<B) (h:∀ x∈l,x<B) (i:Nat):l.getD i 0<B:=by
 rw [List.getD_eq_getElem?_getD]
 cases e:l[i]? with
 | none=>exact hB
 | some x=>exact h x (List.mem_of_getElem? e)
theorem aJ9 (l:List Nat) (hl:Ws l):Th (Wd l,())=some ((An (nv (2^64) l):Int),()):=by
 obtain ⟨h,hlen⟩:=hl
 show dT Ag.pre Ag.F Bw.pre Bw.F (Wd l)=_
 unfold dT
 have p0:=Eh l hlen
 have hle:=(Eg l).1
 simp only [C0 p0,CV p0,cond_true,AA]
 rcases Nat.eq_zero_or_pos (Ai l).length with h0 | h0
 ·rw [h0,aFq h h0]; rfl
 ·have e0:(((Ai l).length:Int)==0)=false:=by rw [FB]; exact beq_false_of_ne (by omega)
  have e1:IntKind.wrap .i64 (((Ai l).length:Int)-1)=(((Ai l).length-1:Nat):Int):=Es (Ai l).length 1 (by omega) (by omega)
  have e2:(decide ((0:Int)<=(((Ai l).length-1:Nat):Int))&&decide ((((Ai l).length-1:Nat):Int)<((Ai l).length:Int)))=true:=by simp only [Bool.and_eq_true,decide_eq_true_eq]; omega
  have e3:(Wd (Ai l)).getD ((Ai l).length-1) 0=((l.getD ((Ai l).length-1) 0:Nat):Int):=by
   rw [Cc]
   congr 1
   rw [List.getD_eq_getElem?_getD,List.getD_eq_getElem?_getD]
   rw [aEN (by omega)]
  have hd:=Cq (by decide) h ((Ai l).length-1)
  have p1:=UK _ hd
  have hb:An (l.getD ((Ai l).length-1) 0)<=64:=by
   rcases Nat.eq_zero_or_pos (l.getD ((Ai l).length-1) 0) with z | z
   ·rw [z]; decide
   ·have:=Ji (n:=l.getD ((Ai l).length-1) 0) (by omega)
    have:An (l.getD ((Ai l).length-1) 0)-1<64:=(Nat.pow_lt_pow_iff_right (a:=2) (by decide)).1 (Nat.lt_of_le_of_lt this hd)
    omega
  rw [e0,e1,e2,cond_false,cond_true,Int.toNat_natCast,e3]
  simp only [VI p1,UN p1,cond_true]
  rw [aEO h h0,As (n:=64*(((Ai l).length-1:Nat):Int)) (by omega),As (by omega)]
  congr 2
end VL
namespace VL
open Go Vx
theorem IA (x:Nat):IntKind.wrap .u64 (x:Int)=((x%2^64:Nat):Int):=by
 simp [IntKind.wrap,IntKind.bits,IntKind.signed]
 try omega
theorem Ek (x n:Nat) (hn:n<=64):AT .u64 (x:Int) (n:Int)=((x*2^n%2^64:Nat):Int):=by
 have hm:(min (n:Int).toNat IntKind.u64.bits)=n:=by simp [IntKind.bits]; omega
 unfold AT
 rw [hm]
 have e:(x:Int)*2^n=((x*2^n:Nat):Int):=by simp
 rw [e]
 exact IA _
theorem FJ {a b k:Nat} (ha:a<2^k) (h:a+b*2^k<2^64):AW .u64 (a:Int) ((b*2^k:Nat):Int)=((a+b*2^k:Nat):Int):=by
 have key:(BitVec.ofInt 64 (a:Int) ||| BitVec.ofInt 64 ((b*2^k:Nat):Int)).toNat=a+b*2^k:=by
  rw [BitVec.toNat_or,Gv (by omega),Gv (by omega),Nat.mul_comm b,Nat.or_comm,← Nat.two_pow_add_eq_or_of_lt ha]
  omega
 show IntKind.u64.wrap (((BitVec.ofInt 64 (a:Int) ||| BitVec.ofInt 64 ((b*2^k:Nat):Int)).toNat:Nat):Int)=_
 rw [key]
 exact D9 (by omega)
def Bb (s:Nat):List Nat->List Nat
 | []=>[]
 | x::r=>(x/2^s+(r.getD 0 0%2^s)*2^(64-s))::Bb s r
theorem Kn (s:Nat):∀ l,(Bb s l).length=l.length
 | []=>rfl
 | _::r=>by simp [Bb,Kn s r]
theorem YG (s:Nat):∀ (l:List Nat) (i:Nat),i<l.length->(Bb s l)[i]? = some (l.getD i 0/2^s+(l.getD (i+1) 0%2^s)*2^(64-s))
 | [],i,h=>by simp at h
 | x::r,0,_=>by simp [Bb]
 | x::r,i+1,h=>by
  simp only [Bb,List.getElem?_cons_succ]
  rw [YG s r i (by simpa using h)]
  simp
theorem Ty {s:Nat} (hs:s<=64):2^64=2^s*2^(64-s):=by rw [← Nat.pow_add]; congr 1; omega
theorem bL {s:Nat} (hs:s<=64) {x y:Nat} (hx:x<2^64):x/2^s<2^(64-s)/\x/2^s+(y%2^s)*2^(64-s)<2^64:=by
 have hp:=Nat.two_pow_pos s
 have h1:x/2^s<2^(64-s):=by
  rw [Nat.div_lt_iff_lt_mul hp,Nat.mul_comm,← Ty hs]; exact hx
 refine ⟨h1,?_⟩
 have h2:y%2^s+1<=2^s:=Nat.mod_lt _ hp
 have h3:=Nat.mul_le_mul_right (2^(64-s)) h2
 rw [← Ty hs,Nat.add_mul,Nat.one_mul] at h3
 omega
theorem aUD {B:Nat} {s:Nat} (hB:B%2^s=0):∀ l:List Nat,nv B l%2^s=l.getD 0 0%2^s
 | []=>by simp [nv]
 | x::r=>by
  simp only [nv,List.getD_cons_zero]
  obtain ⟨c,hc⟩:=Nat.dvd_of_mod_eq_zero hB
  rw [hc,Nat.mul_assoc,Nat.add_mul_mod_self_left]
theorem vQ {s:Nat} (hs:s<=64):∀ l:List Nat,nv (2^64) (Bb s l)=nv (2^64) l/2^s
 | []=>by simp [Bb,nv]
 | x::r=>by
  have ih:=vQ hs r
  simp only [Bb,nv]
  rw [ih]
  have hp:=Nat.two_pow_pos s
  have hm:=aUD (B:=2^64) (s:=s) (by rw [Ty hs]; exact Nat.mul_mod_right _ _) r
  rw [← hm]
  have hN:nv (2^64) r=2^s*(nv (2^64) r/2^s)+nv (2^64) r%2^s:=(Nat.div_add_mod _ _).symm
  generalize nv (2^64) r/2^s=q at *
  generalize nv (2^64) r%2^s=t at *
  rw [hN]
  have e:x+2^64*(2^s*q+t)=x+2^s*(2^64*q+2^(64-s)*t):=by
   rw [Nat.mul_add,Nat.mul_add]
   have e1:2^64*(2^s*q)=2^s*(2^64*q):=by rw [← Nat.mul_assoc,← Nat.mul_assoc,Nat.mul_comm (2^64) (2^s)]
   have e2:2^64*t=2^s*(2^(64-s)*t):=by rw [← Nat.mul_assoc,← Ty hs]
   rw [e1,e2]
  rw [e,Nat.add_mul_div_left _ _ hp,Nat.mul_comm t]
  omega
end VL
namespace VL
open Go Vx
theorem aHO {O:List Nat} {i v:Nat} (hi:i<O.length) (hv:O[i]? = some v):(O.take i++List.replicate (O.length-i) 0).set i v=O.take (i+1)++List.replicate (O.length-(i+1)) 0:=by
 have e:O.length-i=(O.length-(i+1))+1:=by omega
 have hl:(O.take i).length=i:=by simp; omega
 rw [e,List.replicate_succ,List.set_append_right _ _ (by omega),hl,Nat.sub_self,List.set_cons_zero]
 rw [List.take_succ,hv]
 simp
theorem aCe {l:List Nat} {i v:Nat} (hi:i<l.length):(l.set i v).getD i 0=v:=by
 rw [List.getD_eq_getElem?_getD,List.getElem?_set_self hi]; rfl
theorem cZ (l:List Nat) (w i:Nat):(l.drop w).getD i 0=l.getD (w+i) 0:=by
 rw [List.getD_eq_getElem?_getD,List.getD_eq_getElem?_getD,List.getElem?_drop]
theorem X3 (n:Nat) (hn:n<=1000000000):Bz .i64 (n:Int) 64=((n/64:Nat):Int):=by
 unfold Bz
 have e:(n:Int).tdiv 64=((n/64:Nat):Int):=rfl
 rw [e,As (by omega)]
theorem aKi (l:List Nat) (hl:l.length<=1000000) (n:Nat) (hn:n<=l.length) (ht:(Ai l).length<=n) :
  iA (((),((n:Int),())),(Wd l,()))=some (.inl (((),(((Ai l).length:Int),())),(Wd l,()))):=by
 have key:=Do aHm (fun x=>x.1.2.1.toNat)
  (fun x=>∃ n:Nat,n<=l.length/\(Ai l).length<=n/\x=(((),((n:Int),())),(Wd l,())))
  (fun _=>.inl (((),(((Ai l).length:Int),())),(Wd l,()))) ?_ (((),((n:Int),())),(Wd l,())) ⟨n,hn,ht,rfl⟩
 ·exact key
 intro L x hx hL
 obtain ⟨n,hn,ht,rfl⟩:=hx
 unfold VB
 rcases Nat.eq_zero_or_pos n with rfl | hpos
 ·have e1:decide (((0:Nat):Int)>0)=false:=rfl
  simp only [e1,Bool.not_false,Bool.or_true,cond_true,Bool.false_and,cond_false]
  have:(Ai l).length=0:=by omega
  rw [this]
 ·have e0:IntKind.wrap .i64 ((n:Int)-1)=((n-1:Nat):Int):=Es n 1 (by omega) (by omega)
  have e1:decide ((n:Int)>0)=true:=by simp; omega
  have e2:(decide ((0:Int)<=((n-1:Nat):Int))&&decide (((n-1:Nat):Int)<((Wd l).length:Int)))=true:=by
   rw [AA]; simp; omega
  simp only [e0,e1,e2,Bool.true_or,cond_true,Bool.true_and,Int.toNat_natCast,Cc,FB]
  cases hz:(l.getD (n-1) 0==0) with
  | true =>
   simp only [cond_true]
   refine hL _ ⟨n-1,by omega,?_,rfl⟩ (by simp only [Int.toNat_natCast]; omega)
   rcases Nat.lt_or_ge (n-1) (Ai l).length with h | h
   ·exfalso
    have e:n=(Ai l).length:=by omega
    have:=W2 l (by omega)
    rw [← e] at this
    exact this (by simpa using hz)
   ·exact h
  | false =>
   simp only [cond_false]
   have:(Ai l).length=n:=by
    rcases Nat.lt_or_ge (n-1) (Ai l).length with h | h
    ·omega
    ·exfalso
     have:=oJ l (n-1) h
     rw [this] at hz
     simp at hz
   rw [this]
theorem aBi (l:List Nat) (hl:l.length<=1000000):YR (Wd l,())=some (Wd (Ai l),()):=by
 show jS iA (Wd l)=_
 unfold jS
 have h:=aKi l hl l.length (Nat.le_refl _) (Eg l).1
 rw [AA]
 rw [h]
 have e:(decide ((0:Int)<=((Ai l).length:Int))&&decide (((Ai l).length:Int)<=((Wd l).length:Int)))=true:=by
  rw [AA]; have:=(Eg l).1; simp; omega
 show (bif (decide ((0:Int)<=((Ai l).length:Int))&&decide (((Ai l).length:Int)<=((Wd l).length:Int))) then some (List.take (Int.toNat ((Ai l).length:Int)) (Wd l),()) else none)=_
 rw [e,cond_true,Int.toNat_natCast,fC]
 have:=(Eg l).2
 rw [← this]
theorem aHY (a:List Nat) (ha:∀ x∈a,x<2^64) (hlen:a.length<=1000000) (w s:Nat) (hs:s<64) (hw:w<=a.length) (i:Nat) (hi:i<=(a.drop w).length) :
  bJ ((((a.drop w).length:Int),(Wd a,((w:Int),((s:Int),((i:Int),((),())))))),(Wd ((Bb s (a.drop w)).take i++List.replicate ((Bb s (a.drop w)).length-i) 0),()))=some (.inl (((),()),(Wd (Bb s (a.drop w)),()))):=by
 have key:=Do (aHD Ag.pre Ag.F) (fun x=>(a.drop w).length-x.1.2.2.2.2.1.toNat)
  (fun x=>∃ i:Nat,i<=(a.drop w).length/\x=((((a.drop w).length:Int),(Wd a,((w:Int),((s:Int),((i:Int),((),())))))),(Wd ((Bb s (a.drop w)).take i++List.replicate ((Bb s (a.drop w)).length-i) 0),())))
  (fun _=>.inl (((),()),(Wd (Bb s (a.drop w)),()))) ?_ _ ⟨i,hi,rfl⟩
 ·exact key
 intro L x hx hL
 obtain ⟨i,hi,rfl⟩:=hx
 unfold T7
 have hdl:(a.drop w).length=a.length-w:=by simp
 have hol:=Kn s (a.drop w)
 rcases Nat.lt_or_ge i (a.drop w).length with hlt | hge
 ·have e1:decide ((i:Int)<((a.drop w).length:Int))=true:=by simp; omega
  have e2:IntKind.wrap .i64 ((w:Int)+(i:Int))=((w+i:Nat):Int):=by rw [As (by omega)]; omega
  have e3:(decide ((0:Int)<=((w+i:Nat):Int))&&decide (((w+i:Nat):Int)<((Wd a).length:Int)))=true:=by
   rw [AA]; simp only [Bool.and_eq_true,decide_eq_true_eq]; omega
  have e4:decide ((0:Int)<=(s:Int))=true:=by simp
  have houtl:((Bb s (a.drop w)).take i++List.replicate ((Bb s (a.drop w)).length-i) 0).length=(a.drop w).length:=by simp; omega
  generalize hout:(Bb s (a.drop w)).take i++List.replicate ((Bb s (a.drop w)).length-i) 0=out at houtl ⊢
  have e5:(decide ((0:Int)<=(i:Int))&&decide ((i:Int)<((Wd out).length:Int)))=true:=by
   rw [AA]; simp only [Bool.and_eq_true,decide_eq_true_eq]; omega
  have e6:IntKind.wrap .i64 (((w+i:Nat):Int)+1)=((w+i+1:Nat):Int):=by rw [As (by omega)]; omega
  have e7:IntKind.wrap .i64 ((i:Int)+1)=((i+1:Nat):Int):=by rw [As (by omega)]; omega
  have e8:IntKind.wrap .i64 (64-(s:Int))=((64-s:Nat):Int):=Es 64 s (by omega) (by omega)
  have hx:=Cq (by decide) ha (w+i)
  have hget:=YG s (a.drop w) i hlt
  rw [cZ,cZ,← Nat.add_assoc] at hget
  have hnext:=fun v (hv:(Bb s (a.drop w))[i]? = some v)=>aHO (by omega) hv
  rw [hout] at hnext
  have e9:∀ v:Nat,(decide ((0:Int)<=(i:Int))&&decide ((i:Int)<((Wd (out.set i v)).length:Int)))=true:=fun v=>by
   rw [AA,List.length_set]; simp only [Bool.and_eq_true,decide_eq_true_eq]; omega
  simp only [e1,e2,e3,e4,e5,e6,e7,e8,cond_true,Int.toNat_natCast,Cc,Dy _ s (by omega),D0,e9]
  rcases Nat.lt_or_ge (w+i+1) a.length with h1 | h1
  ·have f1:decide (((w+i+1:Nat):Int)<((Wd a).length:Int))=true:=by rw [AA]; exact decide_eq_true (by omega)
   have f2:decide ((0:Int)<=((w+i+1:Nat):Int))=true:=decide_eq_true (by omega)
   have f3:decide ((0:Int)<=((64-s:Nat):Int))=true:=decide_eq_true (by omega)
   simp only [f1,f2,f3,Bool.and_self,cond_true]
   have hw2:=bL (s:=s) (y:=a.getD (w+i+1) 0) (by omega) hx
   have g1:a.getD (w+i+1) 0*2^(64-s)%2^64=(a.getD (w+i+1) 0%2^s)*2^(64-s):=by
    rw [Ty (s:=s) (by omega),Nat.mul_mod_mul_right]
   rw [aCe (by omega),Ek _ _ (by omega),g1,FJ hw2.1 hw2.2,D0,List.set_set,hnext _ hget]
   exact hL _ ⟨i+1,by omega,rfl⟩ (by simp only [Int.toNat_natCast]; omega)
  ·have f1:decide (((w+i+1:Nat):Int)<((Wd a).length:Int))=false:=by rw [AA]; exact decide_eq_false (by omega)
   have hz:a.getD (w+i+1) 0=0:=by rw [List.getD_eq_getElem?_getD,List.getElem?_eq_none h1]; rfl
   rw [hz,Nat.zero_mod,Nat.zero_mul,Nat.add_zero] at hget
   simp only [f1,cond_false]
   rw [hnext _ hget]
   exact hL _ ⟨i+1,by omega,rfl⟩ (by simp only [Int.toNat_natCast]; omega)
 ·have hie:i=(a.drop w).length:=by omega
  subst hie
  have e1:decide (((a.drop w).length:Int)<((a.drop w).length:Int))=false:=by simp
  simp only [e1,cond_false]
  have:(Bb s (a.drop w)).take (a.drop w).length++List.replicate ((Bb s (a.drop w)).length-(a.drop w).length) 0=Bb s (a.drop w):=by
   rw [← hol,List.take_length,Nat.sub_self,List.replicate_zero,List.append_nil]
  rw [this]
theorem aEB (l:List Nat) (hl:Ws l) (n:Nat) (hn:n<=100000000):Tp (Wd l,(n:Int),())=some (Wd (dg (2^64) (nv (2^64) l/2^n)),()):=by
 obtain ⟨h,hlen⟩:=hl
 show iE Ag.pre Ag.F bJ (Wd l) n=_
 unfold iE
 have p0:=Eh l hlen
 have hB:2<=2^64:=by decide
 have hle:=(Eg l).1
 have hm:∀ x∈Ai l,x<2^64:=fun x hx=>h x (RL hx)
 have hv:=JT hB h
 have hsplit:2^n=(2^64)^(n/64)*2^(n%64):=by rw [Cw,← Nat.pow_add]; congr 1; omega
 simp only [C0 p0,CV p0,cond_true,AA,X3 n (by omega)]
 rcases Nat.lt_or_ge (n/64) (Ai l).length with h1 | h1
 ·have e1:decide (((n/64:Nat):Int)>=((Ai l).length:Int))=false:=by simp; omega
  have e2:IntKind.wrap .i64 (((Ai l).length:Int)-((n/64:Nat):Int))=(((Ai l).drop (n/64)).length:Int):=by
   rw [Es _ _ (by omega) (by omega)]; simp
  have hdl:((Ai l).drop (n/64)).length<=1000000:=by simp; omega
  have e3:(decide ((0:Int)<=(((Ai l).drop (n/64)).length:Int))&&decide ((((Ai l).drop (n/64)).length:Int)*8<=140737488355328))=true:=by
   simp only [Bool.and_eq_true,decide_eq_true_eq]; omega
  have e4:Int.tmod (n:Int) 64=((n%64:Nat):Int):=rfl
  have hw:=aHY (Ai l) hm (by omega) (n/64) (n%64) (Nat.mod_lt _ (by decide)) (by omega) 0 (Nat.zero_le _)
  rw [List.take_zero,List.nil_append,Nat.sub_zero,Kn] at hw
  rw [e1,e2,e3,cond_false,cond_true,Int.toNat_natCast,e4,Sj,AA,List.length_replicate]
  rw [show ((0:Nat):Int)=0 from rfl] at hw
  rw [hw]
  have hos:∀ x∈Bb (n%64) ((Ai l).drop (n/64)),x<2^64:=fun x hx=>by
   obtain ⟨i,hi⟩:=List.getElem?_of_mem hx
   have hil:i<((Ai l).drop (n/64)).length:=by rw [← Kn (n%64)]; exact (List.getElem?_eq_some_iff.1 hi).1
   rw [YG _ _ i hil] at hi
   cases hi
   exact (bL (s:=n%64) (by omega) (Cq (by decide) (fun y hy=>hm y (List.mem_of_mem_drop hy)) i)).2
  have p1:=Eh (Bb (n%64) ((Ai l).drop (n/64))) (by rw [Kn]; exact hdl)
  show (bif Ag.pre (Wd (Bb (n%64) ((Ai l).drop (n/64))),()) then some (Ag.F (Wd (Bb (n%64) ((Ai l).drop (n/64))),())) else none)=_
  rw [C0 p1,CV p1,cond_true,GE hB _ hos,vQ (by omega)]
  have hd:nv (2^64) ((Ai l).drop (n/64))=nv (2^64) l/(2^64)^(n/64):=by
   rw [← hv,Ka _ (Ai l) (n/64) (by omega)]
   have hlow:=DR hB ((Ai l).take (n/64)) fun x hx=>hm x (List.mem_of_mem_take hx)
   rw [List.length_take,Nat.min_eq_left (by omega)] at hlow
   rw [Nat.add_mul_div_left _ _ (Nat.pow_pos (by decide)),Nat.div_eq_of_lt hlow,Nat.zero_add]
  rw [hd,Nat.div_div_eq_div_mul,← hsplit]
  rfl
 ·have e1:decide (((n/64:Nat):Int)>=((Ai l).length:Int))=true:=by simp; omega
  rw [e1,cond_true]
  have hz:nv (2^64) l/2^n=0:=by
   rw [← hv]
   have:=DR hB (Ai l) hm
   apply Nat.div_eq_of_lt
   refine Nat.lt_of_lt_of_le this ?_
   rw [Cw]
   exact Nat.pow_le_pow_right (by decide) (by omega)
  rw [hz,Ep]; rfl
theorem aIU (a:List Nat) (ha:∀ x∈a,x<2^64) (hlen:a.length<=1000000) (w s:Nat) (hs:s<64) (hw:w<=a.length) (i:Nat) (hi:i<=(a.drop w).length) :
  dP ((((a.drop w).length:Int),(Wd a,((w:Int),((s:Int),((i:Int),((),())))))),(Wd ((Bb s (a.drop w)).take i++List.replicate ((Bb s (a.drop w)).length-i) 0),()))=some (.inl (((),()),(Wd (Bb s (a.drop w)),()))):=by
 have key:=Do (aBj Cf.pre Cf.F Ag.pre Ag.F) (fun x=>(a.drop w).length-x.1.2.2.2.2.1.toNat)
  (fun x=>∃ i:Nat,i<=(a.drop w).length/\x=((((a.drop w).length:Int),(Wd a,((w:Int),((s:Int),((i:Int),((),())))))),(Wd ((Bb s (a.drop w)).take i++List.replicate ((Bb s (a.drop w)).length-i) 0),())))
  (fun _=>.inl (((),()),(Wd (Bb s (a.drop w)),()))) ?_ _ ⟨i,hi,rfl⟩
 ·exact key
 intro L x hx hL
 obtain ⟨i,hi,rfl⟩:=hx
 unfold VQ
 have hdl:(a.drop w).length=a.length-w:=by simp
 have hol:=Kn s (a.drop w)
 rcases Nat.lt_or_ge i (a.drop w).length with hlt | hge
 ·have e1:decide ((i:Int)<((a.drop w).length:Int))=true:=by simp; omega
  have e2:IntKind.wrap .i64 ((w:Int)+(i:Int))=((w+i:Nat):Int):=by rw [As (by omega)]; omega
  have e3:(decide ((0:Int)<=((w+i:Nat):Int))&&decide (((w+i:Nat):Int)<((Wd a).length:Int)))=true:=by
   rw [AA]; simp only [Bool.and_eq_true,decide_eq_true_eq]; omega
  have e4:decide ((0:Int)<=(s:Int))=true:=by simp
  have houtl:((Bb s (a.drop w)).take i++List.replicate ((Bb s (a.drop w)).length-i) 0).length=(a.drop w).length:=by simp; omega
  generalize hout:(Bb s (a.drop w)).take i++List.replicate ((Bb s (a.drop w)).length-i) 0=out at houtl ⊢
  have e5:(decide ((0:Int)<=(i:Int))&&decide ((i:Int)<((Wd out).length:Int)))=true:=by
   rw [AA]; simp only [Bool.and_eq_true,decide_eq_true_eq]; omega
  have e6:IntKind.wrap .i64 (((w+i:Nat):Int)+1)=((w+i+1:Nat):Int):=by rw [As (by omega)]; omega
  have e7:IntKind.wrap .i64 ((i:Int)+1)=((i+1:Nat):Int):=by rw [As (by omega)]; omega
  have e8:IntKind.wrap .i64 (64-(s:Int))=((64-s:Nat):Int):=Es 64 s (by omega) (by omega)
  have hx:=Cq (by decide) ha (w+i)
  have hget:=YG s (a.drop w) i hlt
  rw [cZ,cZ,← Nat.add_assoc] at hget
  have hnext:=fun v (hv:(Bb s (a.drop w))[i]? = some v)=>aHO (by omega) hv
  rw [hout] at hnext
  have e9:∀ v:Nat,(decide ((0:Int)<=(i:Int))&&decide ((i:Int)<((Wd (out.set i v)).length:Int)))=true:=fun v=>by
   rw [AA,List.length_set]; simp only [Bool.and_eq_true,decide_eq_true_eq]; omega
  simp only [e1,e2,e3,e4,e5,e6,e7,e8,cond_true,Int.toNat_natCast,Cc,Dy _ s (by omega),D0,e9]
  rcases Nat.lt_or_ge (w+i+1) a.length with h1 | h1
  ·have f1:decide (((w+i+1:Nat):Int)<((Wd a).length:Int))=true:=by rw [AA]; exact decide_eq_true (by omega)
   have f2:decide ((0:Int)<=((w+i+1:Nat):Int))=true:=decide_eq_true (by omega)
   have f3:decide ((0:Int)<=((64-s:Nat):Int))=true:=decide_eq_true (by omega)
   simp only [f1,f2,f3,Bool.and_self,cond_true]
   have hw2:=bL (s:=s) (y:=a.getD (w+i+1) 0) (by omega) hx
   have g1:a.getD (w+i+1) 0*2^(64-s)%2^64=(a.getD (w+i+1) 0%2^s)*2^(64-s):=by
    rw [Ty (s:=s) (by omega),Nat.mul_mod_mul_right]
   rw [aCe (by omega),Ek _ _ (by omega),g1,FJ hw2.1 hw2.2,D0,List.set_set,hnext _ hget]
   exact hL _ ⟨i+1,by omega,rfl⟩ (by simp only [Int.toNat_natCast]; omega)
  ·have f1:decide (((w+i+1:Nat):Int)<((Wd a).length:Int))=false:=by rw [AA]; exact decide_eq_false (by omega)
   have hz:a.getD (w+i+1) 0=0:=by rw [List.getD_eq_getElem?_getD,List.getElem?_eq_none h1]; rfl
   rw [hz,Nat.zero_mod,Nat.zero_mul,Nat.add_zero] at hget
   simp only [f1,cond_false]
   rw [hnext _ hget]
   exact hL _ ⟨i+1,by omega,rfl⟩ (by simp only [Int.toNat_natCast]; omega)
 ·have hie:i=(a.drop w).length:=by omega
  subst hie
  have e1:decide (((a.drop w).length:Int)<((a.drop w).length:Int))=false:=by simp
  simp only [e1,cond_false]
  have:(Bb s (a.drop w)).take (a.drop w).length++List.replicate ((Bb s (a.drop w)).length-(a.drop w).length) 0=Bb s (a.drop w):=by
   rw [← hol,List.take_length,Nat.sub_self,List.replicate_zero,List.append_nil]
  rw [this]
theorem aN1 (l:List Nat) (hl:Ws l) (n:Nat) (hn:n<=100000000):Y3 (Wd l,(n:Int),())=some (Wd (dg (2^64) (nv (2^64) l/2^n)),()):=by
 obtain ⟨h,hlen⟩:=hl
 show fB Cf.pre Cf.F Ag.pre Ag.F dP (Wd l) n=_
 unfold fB
 have p0:=Eh l hlen
 have hB:2<=2^64:=by decide
 have hle:=(Eg l).1
 have hm:∀ x∈Ai l,x<2^64:=fun x hx=>h x (RL hx)
 have hv:=JT hB h
 have hsplit:2^n=(2^64)^(n/64)*2^(n%64):=by rw [Cw,← Nat.pow_add]; congr 1; omega
 simp only [C0 p0,CV p0,cond_true,AA,X3 n (by omega)]
 rcases Nat.lt_or_ge (n/64) (Ai l).length with h1 | h1
 ·have e1:decide (((n/64:Nat):Int)>=((Ai l).length:Int))=false:=by simp; omega
  have e2:IntKind.wrap .i64 (((Ai l).length:Int)-((n/64:Nat):Int))=(((Ai l).drop (n/64)).length:Int):=by
   rw [Es _ _ (by omega) (by omega)]; simp
  have hdl:((Ai l).drop (n/64)).length<=1000000:=by simp; omega
  have e3:(decide ((0:Int)<=(((Ai l).drop (n/64)).length:Int))&&decide ((((Ai l).drop (n/64)).length:Int)*8<=140737488355328))=true:=by
   simp only [Bool.and_eq_true,decide_eq_true_eq]; omega
  have e4:Int.tmod (n:Int) 64=((n%64:Nat):Int):=rfl
  have hw:=aIU (Ai l) hm (by omega) (n/64) (n%64) (Nat.mod_lt _ (by decide)) (by omega) 0 (Nat.zero_le _)
  rw [List.take_zero,List.nil_append,Nat.sub_zero,Kn] at hw
  rw [e1,e2,e3,cond_false,cond_true,Int.toNat_natCast,e4,Sj,AA,List.length_replicate]
  rw [show ((0:Nat):Int)=0 from rfl] at hw
  rw [hw]
  have hos:∀ x∈Bb (n%64) ((Ai l).drop (n/64)),x<2^64:=fun x hx=>by
   obtain ⟨i,hi⟩:=List.getElem?_of_mem hx
   have hil:i<((Ai l).drop (n/64)).length:=by rw [← Kn (n%64)]; exact (List.getElem?_eq_some_iff.1 hi).1
   rw [YG _ _ i hil] at hi
   cases hi
   exact (bL (s:=n%64) (by omega) (Cq (by decide) (fun y hy=>hm y (List.mem_of_mem_drop hy)) i)).2
  have p1:=aBi (Bb (n%64) ((Ai l).drop (n/64))) (by rw [Kn]; exact hdl)
  show (bif Cf.pre (Wd (Bb (n%64) ((Ai l).drop (n/64))),()) then some (Cf.F (Wd (Bb (n%64) ((Ai l).drop (n/64))),())) else none)=_
  rw [aBf p1,yG p1,cond_true,GE hB _ hos,vQ (by omega)]
  have hd:nv (2^64) ((Ai l).drop (n/64))=nv (2^64) l/(2^64)^(n/64):=by
   rw [← hv,Ka _ (Ai l) (n/64) (by omega)]
   have hlow:=DR hB ((Ai l).take (n/64)) fun x hx=>hm x (List.mem_of_mem_take hx)
   rw [List.length_take,Nat.min_eq_left (by omega)] at hlow
   rw [Nat.add_mul_div_left _ _ (Nat.pow_pos (by decide)),Nat.div_eq_of_lt hlow,Nat.zero_add]
  rw [hd,Nat.div_div_eq_div_mul,← hsplit]
  rfl
 ·have e1:decide (((n/64:Nat):Int)>=((Ai l).length:Int))=true:=by simp; omega
  rw [e1,cond_true]
  have hz:nv (2^64) l/2^n=0:=by
   rw [← hv]
   have:=DR hB (Ai l) hm
   apply Nat.div_eq_of_lt
   refine Nat.lt_of_lt_of_le this ?_
   rw [Cw]
   exact Nat.pow_le_pow_right (by decide) (by omega)
  rw [hz,Ep]; rfl
end VL
end
