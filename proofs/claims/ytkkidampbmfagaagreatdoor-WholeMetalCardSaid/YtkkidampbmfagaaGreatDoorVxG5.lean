/- Part 5 of the proof. What is proved: symbolic execution of the functions, proved sound; what each function of the program computes, and that every run ends with it; what these functions compute, in plain numbers. Conditions: each theorem bears its own. -/
import Derived.Test.YtkkidampbmfagaaGreatDoorVxG4
import Derived.IntWalk
set_option linter.all false
set_option exponentiation.threshold 1000000
noncomputable section
namespace Vx
open Go Go.Proofs
variable (p389:ZF) (f389:Z2) (p157:EZ) (f157:E0) (p118:Jf) (f118:Jj) (p105:OU) (f105:O6) (p173:A2) (f173:A3) (p146:Ny) (f146:NB) (p102:MA) (f102:MC) (p151:Jh) (f151:Jl) (p156:Vk) (f156:Vr) (p1173:MB) (f1173:MD) (p171:Nz) (f171:NC) (p186:O0) (f186:Pc) (p185:Vm) (f185:Vt) (p176:OZ) (f176:Pb) (p143:OY) (f143:Pa) (p97:NA) (f97:ND) (p107:OV) (f107:O7) (p27:Sn) (f27:Sw) (p382:ZE) (f382:Z1) (p40:Vo) (f40:Vv) (p455:ZJ) (f455:Z6) (p456:ZK) (f456:Z7) (p457:ZL) (f457:Z8) (p458:ZM) (f458:Z9) (p25:Zy) (f25:ZV) (p354:ZA) (f354:ZX) (p376:ZB) (f376:ZY) (p377:ZC) (f377:ZZ) (p378:ZD) (f378:Z0) (p1146:OW) (f1146:O8) (p327:HB) (f327:HD) (p1329:Sl) (f1329:Su) (p144:Jg) (f144:Jk) (p329:So) (f329:Sx) (p332:Sp) (f332:Sy)
abbrev Kn:Ac:=[(false,.slice (.int .u64)),(false,.slice (.int .u64))]
abbrev Lg:Ac:=[(false,.slice (.int .u64)),(false,.slice (.int .u64))]
abbrev ER:Pat:=⟨91,[(9,.one (.sl (.int .u64))),(12,.one (.v .i64)),(4,.one (.own 1)),(10,.one (.own 0)),(11,.one (.v .i64)),(8,.one (.v .i64))],[.arr (.int .u64),.arr (.int .u64)]⟩
abbrev Uw:List (Nat×Shape):=[]
abbrev Jb:List (Nat×Pat):=[(0,⟨91,[(4,.one (.own 1)),(10,.one (.own 0)),(11,.one (.v .i64)),(8,.one (.v .i64))],[.arr (.int .u64),.arr (.int .u64)]⟩)]
abbrev IO:Option Pat:=none
variable (w333_14:Pat.D ER->Option (Ak Jb IO))
def PU (p1146:OW) (f1146:O8) (p1329:Sl) (f1329:Su) (p144:Jg) (f144:Jk) (p146:Ny) (f146:NB) (p329:So) (f329:Sx) (p327:HB) (f327:HD) (p186:O0) (f186:Pc) (p332:Sp) (f332:Sy) (p173:A2) (f173:A3) (p171:Nz) (f171:NC) {R:Type} (L:Pat.D ER->Option R) (e:Ak Jb IO->Option R) (x:Pat.D ER):Option R :=
 let e3_:=(IntKind.wrap .i64 ((IntKind.wrap .i64 (x.1.2.1+x.1.2.2.2.2.1))+(1:Int)))
 let e1_:=(f332 ((x.2.1,(Int.toNat x.1.2.1),((Int.toNat e3_)-(Int.toNat x.1.2.1))),x.1.1,()))
 let e2_:=e3_
 bif (decide (x.1.2.1>=(0:Int))) then (bif (((decide ((0:Int)<=x.1.2.1))&&(decide (x.1.2.1<=e2_)))&&(decide (e2_<=(x.2.1.length:Int)))) then (bif (p332 ((x.2.1,(Int.toNat x.1.2.1),((Int.toNat e2_)-(Int.toNat x.1.2.1))),x.1.1,())) then (bif ((decide ((0:Int)<=x.1.2.1))&&(decide (x.1.2.1<(x.2.2.1.length:Int)))) then (((L ((x.1.1,(IntKind.wrap .i64 (x.1.2.1-(1:Int))),(),(),x.1.2.2.2.2),e1_.1,(x.2.2.1.set (Int.toNat x.1.2.1) e1_.2.1),()))))
 else none)
 else none)
 else none)
 else (e (.inl (((),(),x.1.2.2.2.2),x.2)))
theorem aIC (d:Nat) (R:Type) (L:Pat.D ER->Option R) (e:Ak Jb IO->Option R) (x:Pat.D ER) :
  B7 ({ cf [(168,⟨GO,G6,p1146,f1146⟩),(303,⟨H0,Ik,p1329,f1329⟩),(177,⟨Fa,Fj,p144,f144⟩),(168,⟨FL,FX,p146,f146⟩),(303,⟨H7,Ip,p329,f329⟩),(304,⟨Fc,Fk,p327,f327⟩),(250,⟨GY,Hc,p186,f186⟩),(169,⟨Bk,Bl,p173,f173⟩),(301,⟨FM,FZ,p171,f171⟩)] [(251,14,LoopSpec.of ER Uw Jb IO w333_14)] with cut:=true,lsums:=[(305,⟨El,H8,Hg,p332,f332⟩)] }) (d+2) 251 (BR Tryz.f251 14) ER Uw Jb IO (R:=R) L e x=PU p1146 f1146 p1329 f1329 p144 f144 p146 f146 p329 f329 p327 f327 p186 f186 p332 f332 p173 f173 p171 f171 L e x:=by kernel_rfl
theorem sS (p1146:OW) (f1146:O8) (p1329:Sl) (f1329:Su) (p144:Jg) (f144:Jk) (p146:Ny) (f146:NB) (p329:So) (f329:Sx) (p327:HB) (f327:HD) (p186:O0) (f186:Pc) (p332:Sp) (f332:Sy) (p173:A2) (f173:A3) (p171:Nz) (f171:NC):BG fun L e x=>PU p1146 f1146 p1329 f1329 p144 f144 p146 f146 p329 f329 p327 f327 p186 f186 p332 f332 p173 f173 p171 f171 L e x:=by intro _ _ _ _ _ _ _ h0 hL he _; unfold PU; repeat' (first | exact h0 | exact hL _ | exact he _ | apply Cu | (apply Cv h0; intro _) | (apply Cw <;> intro _))
def X7 (p1146:OW) (f1146:O8) (p1329:Sl) (f1329:Su) (p144:Jg) (f144:Jk) (p146:Ny) (f146:NB) (p329:So) (f329:Sx) (p327:HB) (f327:HD) (p186:O0) (f186:Pc) (p332:Sp) (f332:Sy) (p173:A2) (f173:A3) (p171:Nz) (f171:NC) (w333_14:Pat.D ER->Option (Ak Jb IO)) (a0 a1:Aa (.slice (.int .u64))):Option (DenS Lg) :=
 let e17_:=(IntKind.wrap .i64 (((f173 (a1,())).1.length:Int)-(1:Int)))
 let e14_:=(f327 (((f173 (a1,())).1.getD (Int.toNat e17_) (0:Int)),()))
 let e12_:=(f186 ((f173 (a0,())).1,e14_))
 let e18_:=(IntKind.wrap .i64 (((f173 (a0,())).1.length:Int)+(1:Int)))
 let e15_:=(List.replicate (Int.toNat e18_) (0:Int))
 let e13_:=(f186 ((f173 (a1,())).1,e14_))
 let e11_:=(IntKind.wrap .i64 ((((e12_.1.take e15_.length)++(e15_.drop e12_.1.length)).length:Int)-(e13_.1.length:Int)))
 let e1_:=(List.replicate (Int.toNat e11_) (0:Int))
 let e2_:=e11_
 let e3_:=e13_
 let e4_:=e12_
 let e5_:=e14_
 let e6_:=e15_
 let e16_:=((f1146 (f173 (a0,()))).1,((f173 (a1,())).1.getD (Int.toNat (0:Int)) (0:Int)),())
 let e7_:=(((f1329 e16_).2.1::[]),())
 let e8_:=e16_
 let e9_:=e17_
 let e10_:=e18_
 bif (p173 (a0,())) then (bif (p173 (a1,())) then (bif (p144 ((f173 (a0,())).1,(f173 (a1,())))) then (bif (decide ((f144 ((f173 (a0,())).1,(f173 (a1,())))).1<(0:Int))) then (bif (p1146 (f173 (a0,()))) then (some ([],(f1146 (f173 (a0,())))))
 else none)
 else bif (((f173 (a1,())).1.length:Int)==(1:Int)) then (bif (p1146 (f173 (a0,()))) then (bif (decide ((0:Int)<((f173 (a1,())).1.length:Int))) then (bif (p1329 e8_) then (bif (p173 e7_) then (some ((f1329 e8_).1,(f173 e7_)))
 else none)
 else none)
 else none)
 else none)
 else bif ((decide ((0:Int)<=e9_))&&(decide (e9_<((f173 (a1,())).1.length:Int)))) then (bif (p327 (((f173 (a1,())).1.getD (Int.toNat e9_) (0:Int)),())) then (bif (p186 ((f173 (a1,())).1,e5_)) then (bif ((decide ((0:Int)<=e10_))&&(decide ((e10_*(8:Int))<=(140737488355328:Int)))) then (bif (p186 ((f173 (a0,())).1,e5_)) then (bif ((decide ((0:Int)<=e2_))&&(decide ((e2_*(8:Int))<=(140737488355328:Int)))) then (Vx.Bh (w333_14 ((e3_.1,(IntKind.wrap .i64 ((e1_.length:Int)-(1:Int))),(),(),(e3_.1.length:Int),e5_),((e4_.1.take e6_.length)++(e6_.drop e4_.1.length)),e1_,())) fun y11 =>
 Vx.Bi y11 (fun y12 =>
 bif (p173 y12.2.2) then (bif ((decide ((0:Int)<=y12.1.2.2.1))&&(decide (y12.1.2.2.1<=(y12.2.1.length:Int)))) then (bif (p171 (((y12.2.1.take (Int.toNat y12.1.2.2.1)).drop (Int.toNat (0:Int))),y12.1.2.2.2)) then (some ((f173 y12.2.2).1,(f171 (((y12.2.1.take (Int.toNat y12.1.2.2.1)).drop (Int.toNat (0:Int))),y12.1.2.2.2))))
 else none)
 else none)
 else none) (fun z12 =>
 none))
 else none)
 else none)
 else none)
 else none)
 else none)
 else none)
 else none)
 else none)
 else none
theorem aG7 (x:DenS Kn):run ({ cf [(168,⟨GO,G6,p1146,f1146⟩),(303,⟨H0,Ik,p1329,f1329⟩),(177,⟨Fa,Fj,p144,f144⟩),(168,⟨FL,FX,p146,f146⟩),(303,⟨H7,Ip,p329,f329⟩),(304,⟨Fc,Fk,p327,f327⟩),(250,⟨GY,Hc,p186,f186⟩),(169,⟨Bk,Bl,p173,f173⟩),(301,⟨FM,FZ,p171,f171⟩)] [(251,14,LoopSpec.of ER Uw Jb IO w333_14)] with cut:=true,lsums:=[(305,⟨El,H8,Hg,p332,f332⟩)] }) 9 251 Tryz.f251 Kn Lg x=X7 p1146 f1146 p1329 f1329 p144 f144 p146 f146 p329 f329 p327 f327 p186 f186 p332 f332 p173 f173 p171 f171 w333_14 x.1 x.2.1:=by kernel_rfl
def Sg:ER.D->Option (Ak Jb IO):=Bo fun L=>PU CT.pre CT.F DT.pre DT.F Bt.pre Bt.F Cn.pre Cn.F Eo.pre Eo.F Bg.pre Bg.F CV.pre CV.F DV.pre DV.F Ah.pre Ah.F Co.pre Co.F L some
def Rq (x:DenS Kn):Option (DenS Lg):=X7 CT.pre CT.F DT.pre DT.F Bt.pre Bt.F Cn.pre Cn.F Eo.pre Eo.F Bg.pre Bg.F CV.pre CV.F DV.pre DV.F Ah.pre Ah.F Co.pre Co.F Sg x.1 x.2.1
def LZ:Sum:=Al Kn Lg Rq (DenS.dflt Lg)
theorem yX:Sound Tryz.prog G1 251 LZ:=sd ({ cf [(168,CT),(303,DT),(177,Bt),(168,Cn),(303,Eo),(304,Bg),(250,CV),(169,Ah),(301,Co)] [(251,14,LoopSpec.of ER Uw Jb IO Sg)] with cut:=true,lsums:=[(305,DV)] }) 251 Tryz.f251 ⟨iA,yD,Y9,Za,yT,iM,iK,Dy,Zb,trivial⟩ ⟨rfl,fun d=>Ct (fun L e x=>PU CT.pre CT.F DT.pre DT.F Bt.pre Bt.F Cn.pre Cn.F Eo.pre Eo.F Bg.pre Bg.F CV.pre CV.F DV.pre DV.F Ah.pre Ah.F Co.pre Co.F L e x) (sS CT.pre CT.F DT.pre DT.F Bt.pre Bt.F Cn.pre Cn.F Eo.pre Eo.F Bg.pre Bg.F CV.pre CV.F DV.pre DV.F Ah.pre Ah.F Co.pre Co.F) (fun _ _ _ _=>aIC ..),trivial⟩ Kn Lg Rq _ (fun _=>aG7 ..) (hls:=⟨yW,trivial⟩)
abbrev kM:=An Kn
abbrev mD:=Am Kn Lg
variable (p333:kM) (f333:mD)
abbrev H9:Ac:=[(false,.slice (.int .u64)),(false,.slice (.int .u64))]
abbrev Iq:Ac:=[(false,.slice (.int .u64)),(false,.slice (.int .u64)),(false,.int .i64)]
def X8 (p185:Vm) (f185:Vt) (p173:A2) (f173:A3) (p333:kM) (f333:mD) (a0 a1:Aa (.slice (.int .u64))):Option (DenS Iq) :=
 bif (p185 ((a0::(a1::[])),())) then (bif (f185 ((a0::(a1::[])),())).1 then (some ([],[],(5:Int),()))
 else bif (p173 (a1,())) then (bif (((f173 (a1,())).1.length:Int)==(0:Int)) then (some ([],[],(10:Int),()))
 else bif (p333 (a0,a1,())) then (some ((f333 (a0,a1,())).1,(f333 (a0,a1,())).2.1,(0:Int),()))
 else none)
 else none)
 else none
theorem aG8 (x:DenS H9):run (cf [(249,⟨H6,Io,p185,f185⟩),(169,⟨Bk,Bl,p173,f173⟩),(251,⟨Kn,Lg,p333,f333⟩)] []) 9 175 Tryz.f175 H9 Iq x=X8 p185 f185 p173 f173 p333 f333 x.1 x.2.1:=by kernel_rfl
def Rr (x:DenS H9):Option (DenS Iq):=X8 EV.pre EV.F Ah.pre Ah.F LZ.pre LZ.F x.1 x.2.1
def DW:Sum:=Al H9 Iq Rr (DenS.dflt Iq)
theorem yY:Sound Tryz.prog G1 175 DW:=sd (cf [(249,EV),(169,Ah),(251,LZ)] []) 175 Tryz.f175 ⟨iJ,Dy,yX,trivial⟩ trivial H9 Iq Rr _ (fun _=>aG8 ..)
abbrev Vn:=An H9
abbrev Vu:=Am H9 Iq
variable (p345:Vn) (f345:Vu)
abbrev Kb:Ac:=[(true,.slice (.int .u64)),(false,.slice (.int .u64))]
abbrev K3:Ac:=[(true,.slice (.int .u64))]
abbrev F8:Pat:=⟨37,[(9,.one (.v .i64)),(1,.one (.sl (.int .u64))),(5,.one (.v .u64)),(10,.one (.v .i64)),(0,.one (.own 0))],[.arr (.int .u64)]⟩
abbrev Uj:List (Nat×Shape):=[]
abbrev IY:List (Nat×Pat):=[(0,⟨37,[(0,.one (.own 0))],[.arr (.int .u64)]⟩)]
abbrev IB:Option Pat:=none
variable (w1174_3:Pat.D F8->Option (Ak IY IB))
def PF (p1173:MB) (f1173:MD) (p157:EZ) (f157:E0) (p173:A2) (f173:A3) {R:Type} (L:Pat.D F8->Option R) (e:Ak IY IB->Option R) (x:Pat.D F8):Option R :=
 let e8_:=(x.2.1.getD (Int.toNat x.1.2.2.2.1) (0:Int))
 let e7_:=((x.1.2.1.getD (Int.toNat x.1.2.2.2.1) (0:Int)),x.1.2.2.1,())
 let e1_:=(f157 (e8_,e7_))
 let e2_:=((decide ((0:Int)<=x.1.2.2.2.1))&&(decide (x.1.2.2.2.1<(x.2.1.length:Int))))
 let e3_:=(f157 (e8_,(0:Int),x.1.2.2.1,()))
 let e4_:=((IntKind.wrap .i64 (x.1.2.2.2.1+(1:Int))),(),())
 let e5_:=(decide (x.1.2.2.2.1<(x.1.2.1.length:Int)))
 let e6_:=e8_
 bif (decide (x.1.2.2.2.1<x.1.1)) then (bif e5_ then (bif ((decide ((0:Int)<=x.1.2.2.2.1))&&e5_) then (bif e2_ then (bif (p157 (e6_,e7_)) then (bif e2_ then (((L ((x.1.1,x.1.2.1,e1_.2.1,e4_),(x.2.1.set (Int.toNat x.1.2.2.2.1) e1_.1),()))))
 else none)
 else none)
 else none)
 else none)
 else bif e2_ then (bif (p157 (e6_,(0:Int),x.1.2.2.1,())) then (bif e2_ then (((L ((x.1.1,x.1.2.1,e3_.2.1,e4_),(x.2.1.set (Int.toNat x.1.2.2.2.1) e3_.1),()))))
 else none)
 else none)
 else none)
 else (e (.inl (((),()),x.2)))
theorem aIl (d:Nat) (R:Type) (L:Pat.D F8->Option R) (e:Ak IY IB->Option R) (x:Pat.D F8) :
  B7 ({ cf [(169,⟨FI,FU,p1173,f1173⟩),(166,⟨H4,K9,p157,f157⟩),(169,⟨Bk,Bl,p173,f173⟩)] [(252,3,LoopSpec.of F8 Uj IY IB w1174_3)] with keep:=true }) (d+2) 252 (BR Tryz.f252 3) F8 Uj IY IB (R:=R) L e x=PF p1173 f1173 p157 f157 p173 f173 L e x:=by kernel_rfl
theorem sC (p1173:MB) (f1173:MD) (p157:EZ) (f157:E0) (p173:A2) (f173:A3):BG fun L e x=>PF p1173 f1173 p157 f157 p173 f173 L e x:=by intro _ _ _ _ _ _ _ h0 hL he _; unfold PF; repeat' (first | exact h0 | exact hL _ | exact he _ | apply Cu | (apply Cv h0; intro _) | (apply Cw <;> intro _))
def Xv (p1173:MB) (f1173:MD) (p157:EZ) (f157:E0) (p173:A2) (f173:A3) (w1174_3:Pat.D F8->Option (Ak IY IB)) (a0 a1:Aa (.slice (.int .u64))):Option (DenS K3) :=
 Vx.Bh (w1174_3 (((a0.length:Int),a1,(0:Int),(0:Int),(),()),a0,())) fun y0 =>
 Vx.Bi y0 (fun y1 =>
 bif (p1173 y1.2) then (some (f1173 y1.2))
 else none) (fun z1 =>
 none)
theorem aGq (x:DenS Kb):run ({ cf [(169,⟨FI,FU,p1173,f1173⟩),(166,⟨H4,K9,p157,f157⟩),(169,⟨Bk,Bl,p173,f173⟩)] [(252,3,LoopSpec.of F8 Uj IY IB w1174_3)] with keep:=true }) 9 252 Tryz.f252 Kb K3 x=Xv p1173 f1173 p157 f157 p173 f173 w1174_3 x.1 x.2.1:=by kernel_rfl
def Sc:F8.D->Option (Ak IY IB):=Bo fun L=>PF Bw.pre Bw.F AR.pre AR.F Ah.pre Ah.F L some
def QZ (x:DenS Kb):Option (DenS K3):=Xv Bw.pre Bw.F AR.pre AR.F Ah.pre Ah.F Sc x.1 x.2.1
def LT:Sum:=Al Kb K3 QZ (DenS.dflt K3)
theorem x6:Sound Tryz.prog G1 252 LT:=sd ({ cf [(169,Bw),(166,AR),(169,Ah)] [(252,3,LoopSpec.of F8 Uj IY IB Sc)] with keep:=true }) 252 Tryz.f252 ⟨iB,UI,Dy,trivial⟩ ⟨rfl,fun d=>Ct (fun L e x=>PF Bw.pre Bw.F AR.pre AR.F Ah.pre Ah.F L e x) (sC Bw.pre Bw.F AR.pre AR.F Ah.pre Ah.F) (fun _ _ _ _=>aIl ..),trivial⟩ Kb K3 QZ _ (fun _=>aGq ..)
abbrev j8:=An Kb
abbrev lP:=Am Kb K3
variable (p1174:j8) (f1174:lP)
abbrev Kh:Ac:=[(false,.slice (.int .u64)),(false,.slice (.int .u64))]
abbrev La:Ac:=[(false,.slice (.int .u64))]
abbrev Gd:Pat:=⟨37,[(9,.one (.v .i64)),(1,.one (.sl (.int .u64))),(5,.one (.v .u64)),(10,.one (.v .i64)),(0,.one (.sl (.int .u64)))],[]⟩
abbrev Up:List (Nat×Shape):=[]
abbrev I4:List (Nat×Pat):=[(0,⟨37,[(0,.one (.sl (.int .u64)))],[]⟩)]
abbrev IH:Option Pat:=none
variable (w174_3:Pat.D Gd->Option (Ak I4 IH))
def Tj (p157:EZ) (f157:E0) (p173:A2) (f173:A3) {R:Type} (L:Pat.D Gd->Option R) (e:Ak I4 IH->Option R) (x:Pat.D Gd):Option R :=
 let e1_:=((decide ((0:Int)<=x.1.2.2.2.1))&&(decide (x.1.2.2.2.1<(x.1.2.2.2.2.1.length:Int))))
 let e2_:=(x.1.2.2.2.2.1.getD (Int.toNat x.1.2.2.2.1) (0:Int))
 let e3_:=(decide (x.1.2.2.2.1<(x.1.2.1.length:Int)))
 bif (decide (x.1.2.2.2.1<x.1.1)) then (bif e3_ then (bif ((decide ((0:Int)<=x.1.2.2.2.1))&&e3_) then (bif e1_ then (bif (p157 (e2_,(x.1.2.1.getD (Int.toNat x.1.2.2.2.1) (0:Int)),x.1.2.2.1,())) then (bif e1_ then ((none))
 else none)
 else none)
 else none)
 else none)
 else bif e1_ then (bif (p157 (e2_,(0:Int),x.1.2.2.1,())) then (bif e1_ then ((none))
 else none)
 else none)
 else none)
 else (e (.inl (x.1.2.2.2.2,())))
theorem aIr (d:Nat) (R:Type) (L:Pat.D Gd->Option R) (e:Ak I4 IH->Option R) (x:Pat.D Gd) :
  B7 (cf [(166,⟨H4,K9,p157,f157⟩),(169,⟨Bk,Bl,p173,f173⟩)] [(252,3,LoopSpec.of Gd Up I4 IH w174_3)]) (d+2) 252 (BR Tryz.f252 3) Gd Up I4 IH (R:=R) L e x=Tj p157 f157 p173 f173 L e x:=by kernel_rfl
theorem aD6 (p157:EZ) (f157:E0) (p173:A2) (f173:A3):BG fun L e x=>Tj p157 f157 p173 f173 L e x:=by intro _ _ _ _ _ _ _ h0 hL he _; unfold Tj; repeat' (first | exact h0 | exact hL _ | exact he _ | apply Cu | (apply Cv h0; intro _) | (apply Cw <;> intro _))
def wQ (p157:EZ) (f157:E0) (p173:A2) (f173:A3) (w174_3:Pat.D Gd->Option (Ak I4 IH)) (a0 a1:Aa (.slice (.int .u64))):Option (DenS La) :=
 Vx.Bh (w174_3 (((a0.length:Int),a1,(0:Int),(0:Int),a0,()),())) fun y0 =>
 Vx.Bi y0 (fun y1 =>
 bif (p173 y1.1) then (some (f173 y1.1))
 else none) (fun z1 =>
 none)
theorem aGP (x:DenS Kh):run (cf [(166,⟨H4,K9,p157,f157⟩),(169,⟨Bk,Bl,p173,f173⟩)] [(252,3,LoopSpec.of Gd Up I4 IH w174_3)]) 9 252 Tryz.f252 Kh La x=wQ p157 f157 p173 f173 w174_3 x.1 x.2.1:=by kernel_rfl
def jS:Gd.D->Option (Ak I4 IH):=Bo fun L=>Tj AR.pre AR.F Ah.pre Ah.F L some
def i7 (x:DenS Kh):Option (DenS La):=wQ AR.pre AR.F Ah.pre Ah.F jS x.1 x.2.1
def Ov:Sum:=Al Kh La i7 (DenS.dflt La)
theorem yK:Sound Tryz.prog G1 252 Ov:=sd (cf [(166,AR),(169,Ah)] [(252,3,LoopSpec.of Gd Up I4 IH jS)]) 252 Tryz.f252 ⟨UI,Dy,trivial⟩ ⟨rfl,fun d=>Ct (fun L e x=>Tj AR.pre AR.F Ah.pre Ah.F L e x) (aD6 AR.pre AR.F Ah.pre Ah.F) (fun _ _ _ _=>aIr ..),trivial⟩ Kh La i7 _ (fun _=>aGP ..)
abbrev kE:=An Kh
abbrev lV:=Am Kh La
variable (p174:kE) (f174:lV)
abbrev H1:Ac:=[(false,.slice (.int .u64)),(false,.slice (.int .u64))]
abbrev Il:Ac:=[(false,.slice (.int .u64)),(false,.int .i64)]
def XG (p1174:j8) (f1174:lP) (p1146:OW) (f1146:O8) (p144:Jg) (f144:Jk) (p146:Ny) (f146:NB) (p173:A2) (f173:A3) (p174:kE) (f174:lV) (a0 a1:Aa (.slice (.int .u64))):Option (DenS Il) :=
 bif (p144 (a0,a1,())) then (bif (decide ((f144 (a0,a1,())).1<(0:Int))) then (some ([],(20:Int),()))
 else bif (p1146 (a0,())) then (bif (p173 (a1,())) then (bif (p1174 ((f1146 (a0,())).1,(f173 (a1,())))) then (some ((f1174 ((f1146 (a0,())).1,(f173 (a1,())))).1,(0:Int),()))
 else none)
 else none)
 else none)
 else none
theorem aGD (x:DenS H1):run (cf [(252,⟨Kb,K3,p1174,f1174⟩),(168,⟨GO,G6,p1146,f1146⟩),(177,⟨Fa,Fj,p144,f144⟩),(168,⟨FL,FX,p146,f146⟩),(169,⟨Bk,Bl,p173,f173⟩),(252,⟨Kh,La,p174,f174⟩)] []) 9 178 Tryz.f178 H1 Il x=XG p1174 f1174 p1146 f1146 p144 f144 p146 f146 p173 f173 p174 f174 x.1 x.2.1:=by kernel_rfl
def Q8 (x:DenS H1):Option (DenS Il):=XG LT.pre LT.F CT.pre CT.F Bt.pre Bt.F Cn.pre Cn.F Ah.pre Ah.F Ov.pre Ov.F x.1 x.2.1
def DU:Sum:=Al H1 Il Q8 (DenS.dflt Il)
theorem yE:Sound Tryz.prog G1 178 DU:=sd (cf [(252,LT),(168,CT),(177,Bt),(168,Cn),(169,Ah),(252,Ov)] []) 178 Tryz.f178 ⟨x6,iA,Y9,Za,Dy,yK,trivial⟩ trivial H1 Il Q8 _ (fun _=>aGD ..)
abbrev Vj:=An H1
abbrev Vq:=Am H1 Il
variable (p145:Vj) (f145:Vq)
abbrev Kw:Ac:=[(false,.slice (.int .u64)),(false,.slice (.int .u64)),(false,.int .i64)]
abbrev Lp:Ac:=[(true,.pair (.bool) (.pair (.slice (.int .u64)) (.pair (.int .i64) (.pair (.bool) (.unit)))))]
abbrev Gl:Pat:=⟨81,[(2,.one (.v .i64)),(1,.one (.sl (.int .u64))),(11,.one (.sl (.int .u64))),(13,.one (.ptr 1 0)),(6,.one (.ptr 0 0))],[.raw [.bool,.sl (.int .u64),.v .i64,.bool],.raw [.bool,.sl (.int .u64),.v .i64,.bool]]⟩
abbrev Uy:List (Nat×Shape):=[]
abbrev Jd:List (Nat×Pat):=[(0,⟨81,[(11,.one (.sl (.int .u64))),(13,.one (.ptr 1 0)),(6,.one (.ptr 0 0))],[.raw [.bool,.sl (.int .u64),.v .i64,.bool],.raw [.bool,.sl (.int .u64),.v .i64,.bool]]⟩)]
abbrev IQ:Option Pat:=none
variable (w379_5:Pat.D Gl->Option (Ak Jd IQ))
def PX (p176:OZ) (f176:Pb) (p345:Vn) (f345:Vu) (p151:Jh) (f151:Jl) (p144:Jg) (f144:Jk) (p145:Vj) (f145:Vq) (p143:OY) (f143:Pa) {R:Type} (L:Pat.D Gl->Option R) (e:Ak Jd IQ->Option R) (x:Pat.D Gl):Option R :=
 let e1_:=((IntKind.wrap .i64 (x.2.2.1.2.2.1-(1:Int))),x.2.2.1.2.2.2)
 let e2_:=((f143 (x.2.2.1.2.1,x.2.2.1.2.1,())).1,((1:Int)::[]),())
 let e3_:=((f143 (x.1.2.2.1,x.1.2.2.1,())).1,x.1.2.1,())
 bif (p151 (x.2.2.1.2.1,())) then (bif ((decide ((f151 (x.2.2.1.2.1,())).1<x.1.1))&&(decide ((x.1.2.2.1.length:Int)>(0:Int)))) then (bif (p143 (x.2.2.1.2.1,x.2.2.1.2.1,())) then (bif (p143 (x.1.2.2.1,x.1.2.2.1,())) then (bif (p144 e3_) then (bif (decide ((f144 e3_).1>=(0:Int))) then (bif (p145 e3_) then (bif (p143 e2_) then (((L ((x.1.1,x.1.2.1,(f145 e3_).1,(),(),()),x.2.1,(x.2.2.1.1,(f143 e2_).1,e1_),()))))
 else none)
 else none)
 else (L ((x.1.1,x.1.2.1,(f143 (x.1.2.2.1,x.1.2.2.1,())).1,(),(),()),x.2.1,(x.2.2.1.1,(f143 (x.2.2.1.2.1,x.2.2.1.2.1,())).1,e1_),())))
 else none)
 else none)
 else none)
 else (e (.inl ((x.1.2.2.1,(),(),()),x.2))))
 else none
theorem aIE (d:Nat) (R:Type) (L:Pat.D Gl->Option R) (e:Ak Jd IQ->Option R) (x:Pat.D Gl) :
  B7 (cf [(174,⟨GX,Ha,p176,f176⟩),(175,⟨H9,Iq,p345,f345⟩),(123,⟨EI,EL,p151,f151⟩),(177,⟨Fa,Fj,p144,f144⟩),(178,⟨H1,Il,p145,f145⟩),(176,⟨GW,FW,p143,f143⟩)] [(128,5,LoopSpec.of Gl Uy Jd IQ w379_5)]) (d+2) 128 (BR Tryz.f128 5) Gl Uy Jd IQ (R:=R) L e x=PX p176 f176 p345 f345 p151 f151 p144 f144 p145 f145 p143 f143 L e x:=by kernel_rfl
theorem sU (p176:OZ) (f176:Pb) (p345:Vn) (f345:Vu) (p151:Jh) (f151:Jl) (p144:Jg) (f144:Jk) (p145:Vj) (f145:Vq) (p143:OY) (f143:Pa):BG fun L e x=>PX p176 f176 p345 f345 p151 f151 p144 f144 p145 f145 p143 f143 L e x:=by intro _ _ _ _ _ _ _ h0 hL he _; unfold PX; repeat' (first | exact h0 | exact hL _ | exact he _ | apply Cu | (apply Cv h0; intro _) | (apply Cw <;> intro _))
def Yd (p176:OZ) (f176:Pb) (p345:Vn) (f345:Vu) (p151:Jh) (f151:Jl) (p144:Jg) (f144:Jk) (p145:Vj) (f145:Vq) (p143:OY) (f143:Pa) (w379_5:Pat.D Gl->Option (Ak Jd IQ)) (a0 a1:Aa (.slice (.int .u64))) (a2:Aa (.int .i64)):Option (DenS Lp) :=
 let e5_:=(IntKind.wrap .i64 ((IntKind.wrap .i64 ((f151 (a1,())).1-(f151 (a0,())).1))-(1:Int)))
 let e4_:=(a0,(if (e5_>(0:Int)) then e5_ else (0:Int)),())
 let e1_:=(f345 ((f176 e4_).1,a1,()))
 let e2_:=e4_
 let e3_:=e5_
 bif (p151 (a1,())) then (bif (p151 (a0,())) then (bif (p176 e2_) then (bif (p345 ((f176 e2_).1,a1,())) then (Vx.Bh (w379_5 ((a2,a1,e1_.2.1,(),(),()),(false,[],(0:Int),false,()),(false,e1_.1,(IntKind.wrap .i64 ((0:Int)-(if (e3_>(0:Int)) then e3_ else (0:Int)))),false,()),())) fun y4 =>
 Vx.Bi y4 (fun y5 =>
 some ((y5.2.2.1.1,y5.2.2.1.2.1,y5.2.2.1.2.2.1,(decide ((y5.1.1.length:Int)>(0:Int))),()),())) (fun z5 =>
 none))
 else none)
 else none)
 else none)
 else none
theorem aHh (x:DenS Kw):run (cf [(174,⟨GX,Ha,p176,f176⟩),(175,⟨H9,Iq,p345,f345⟩),(123,⟨EI,EL,p151,f151⟩),(177,⟨Fa,Fj,p144,f144⟩),(178,⟨H1,Il,p145,f145⟩),(176,⟨GW,FW,p143,f143⟩)] [(128,5,LoopSpec.of Gl Uy Jd IQ w379_5)]) 9 128 Tryz.f128 Kw Lp x=Yd p176 f176 p345 f345 p151 f151 p144 f144 p145 f145 p143 f143 w379_5 x.1 x.2.1 x.2.2.1:=by kernel_rfl
def Ve:Gl.D->Option (Ak Jd IQ):=Bo fun L=>PX C7.pre C7.F DW.pre DW.F BA.pre BA.F Bt.pre Bt.F DU.pre DU.F C6.pre C6.F L some
def Ry (x:DenS Kw):Option (DenS Lp):=Yd C7.pre C7.F DW.pre DW.F BA.pre BA.F Bt.pre Bt.F DU.pre DU.F C6.pre C6.F Ve x.1 x.2.1 x.2.2.1
def Mb:Sum:=Al Kw Lp Ry (DenS.dflt Lp)
theorem zH:Sound Tryz.prog G1 128 Mb:=sd (cf [(174,C7),(175,DW),(123,BA),(177,Bt),(178,DU),(176,C6)] [(128,5,LoopSpec.of Gl Uy Jd IQ Ve)]) 128 Tryz.f128 ⟨iH,yY,QR,Y9,yE,iE,trivial⟩ ⟨rfl,fun d=>Ct (fun L e x=>PX C7.pre C7.F DW.pre DW.F BA.pre BA.F Bt.pre Bt.F DU.pre DU.F C6.pre C6.F L e x) (sU C7.pre C7.F DW.pre DW.F BA.pre BA.F Bt.pre Bt.F DU.pre DU.F C6.pre C6.F) (fun _ _ _ _=>aIE ..),trivial⟩ Kw Lp Ry _ (fun _=>aHh ..)
abbrev kR:=An Kw
abbrev mJ:=Am Kw Lp
variable (p379:kR) (f379:mJ)
abbrev Kx:Ac:=[(false,.int .i64),(false,.int .i64),(false,.bool),(false,.slice (.int .u64)),(false,.slice (.int .u64)),(false,.int .i64)]
abbrev Lq:Ac:=[(false,.int .u64),(false,.int .i64),(false,.int .i64)]
def Ye (p105:OU) (f105:O6) (p102:MA) (f102:MC) (p156:Vk) (f156:Vr) (p379:kR) (f379:mJ) (p107:OV) (f107:O7) (a0 a1:Aa (.int .i64)) (a2:Aa (.bool)) (a3 a4:Aa (.slice (.int .u64))) (a5:Aa (.int .i64)):Option (DenS Lq) :=
 let e4_:=((f102 (a3,())).1,(f102 (a4,())).1,(IntKind.wrap .i64 ((f105 (a0,a1,())).1.2.1+(3:Int))),())
 let e3_:=(f379 e4_)
 let e1_:=(f107 ((a2,e3_.1.2.1,(IntKind.wrap .i64 (e3_.1.2.2.1+a5)),e3_.1.2.2.2),a0,(f105 (a0,a1,())).1,a1,()))
 let e2_:=e3_
 bif (p105 (a0,a1,())) then (bif ((f105 (a0,a1,())).2.1 != (0:Int)) then (some ((0:Int),(0:Int),(f105 (a0,a1,())).2))
 else bif (p102 (a3,())) then (bif (p102 (a4,())) then (bif (decide ((IntKind.wrap .i64 (((f102 (a3,())).1.length:Int)+((f102 (a4,())).1.length:Int)))>(1024:Int))) then (some ((0:Int),(0:Int),(5:Int),()))
 else bif ((decide (a5<(-(40000:Int))))||(decide (a5>(40000:Int)))) then (some ((0:Int),(0:Int),(30:Int),()))
 else bif (((f102 (a4,())).1.length:Int)==(0:Int)) then (some ((0:Int),(0:Int),(10:Int),()))
 else bif (((f102 (a3,())).1.length:Int)==(0:Int)) then (bif (p156 (a0,a2,())) then (some (f156 (a0,a2,())))
 else none)
 else bif (p379 e4_) then (bif (p107 ((a2,e2_.1.2.1,(IntKind.wrap .i64 (e2_.1.2.2.1+a5)),e2_.1.2.2.2),a0,(f105 (a0,a1,())).1,a1,())) then (some (e1_.1,e1_.2.1,(0:Int),()))
 else none)
 else none)
 else none)
 else none)
 else none
theorem aHi (x:DenS Kx):run (cf [(121,⟨GM,G4,p105,f105⟩),(122,⟨FH,FT,p102,f102⟩),(124,⟨H3,In,p156,f156⟩),(128,⟨Kw,Lp,p379,f379⟩),(125,⟨GN,G5,p107,f107⟩)] []) 9 72 Tryz.f72 Kx Lq x=Ye p105 f105 p102 f102 p156 f156 p379 f379 p107 f107 x.1 x.2.1 x.2.2.1 x.2.2.2.1 x.2.2.2.2.1 x.2.2.2.2.2.1:=by kernel_rfl
def Rz (x:DenS Kx):Option (DenS Lq):=Ye DR.pre DR.F CC.pre CC.F Gp.pre Gp.F Mb.pre Mb.F DS.pre DS.F x.1 x.2.1 x.2.2.1 x.2.2.2.1 x.2.2.2.2.1 x.2.2.2.2.2.1
def Mc:Sum:=Al Kx Lq Rz (DenS.dflt Lq)
theorem zI:Sound Tryz.prog G1 72 Mc:=sd (cf [(121,DR),(122,CC),(124,Gp),(128,Mb),(125,DS)] []) 72 Tryz.f72 ⟨Y6,Y5,iG,zH,Y7,trivial⟩ trivial Kx Lq Rz _ (fun _=>aHi ..)
abbrev kS:=An Kx
abbrev mK:=Am Kx Lq
variable (p380:kS) (f380:mK)
abbrev Ky:Ac:=[(false,.int .i64),(false,.int .i64),(false,.int .u64),(false,.int .u64)]
abbrev Ir:Ac:=[(false,.int .u64),(false,.int .i64),(false,.int .i64)]
def Yf (p376:ZB) (f376:ZY) (p377:ZC) (f377:ZZ) (p378:ZD) (f378:Z0) (p97:NA) (f97:ND) (p118:Jf) (f118:Jj) (p40:Vo) (f40:Vv) (p380:kS) (f380:mK) (a0 a1:Aa (.int .i64)) (a2 a3:Aa (.int .u64)):Option (DenS Ir) :=
 let e6_:=(!((f377 (a0,a2,())).1.2.2.2.2.1==(f377 (a0,a3,())).1.2.2.2.2.1))
 let e1_:=(a0,a1,e6_,(f40 (a0,a2,())).1.2.1,(f40 (a0,a3,())).1.2.1,(IntKind.wrap .i64 ((f40 (a0,a2,())).1.2.2.1-(f40 (a0,a3,())).1.2.2.1)),())
 let e5_:=(a0,e6_,())
 let e2_:=(f118 e5_)
 let e3_:=(f97 e5_)
 let e4_:=(p97 e5_)
 let g1_:Option (DenS Ir):=bif (p378 (a0,(1:Int),())) then (some (f378 (a0,(1:Int),())))
 else none
 bif (p376 (a0,a1,(a2::(a3::[])),())) then (bif ((f376 (a0,a1,(a2::(a3::[])),())).1 != (0:Int)) then (some ((0:Int),(0:Int),(f376 (a0,a1,(a2::(a3::[])),()))))
 else bif (p377 (a0,a2,())) then (bif (p377 (a0,a3,())) then (bif ((f377 (a0,a2,())).1.2.1||(f377 (a0,a3,())).1.2.1) then (g1_)
 else bif ((f377 (a0,a2,())).1.1||(f377 (a0,a3,())).1.1) then (bif (p378 (a0,(0:Int),())) then (some (f378 (a0,(0:Int),())))
 else none)
 else bif (((f377 (a0,a2,())).1.2.2.1&&(f377 (a0,a3,())).1.2.2.1)||((f377 (a0,a2,())).1.2.2.2.1&&(f377 (a0,a3,())).1.2.2.2.1)) then (g1_)
 else bif (f377 (a0,a2,())).1.2.2.1 then (bif e4_ then (some (e3_.1,(0:Int),e3_.2))
 else none)
 else bif (f377 (a0,a3,())).1.2.2.2.1 then (bif e4_ then (some (e3_.1,(2:Int),e3_.2))
 else none)
 else bif ((f377 (a0,a3,())).1.2.2.1||(f377 (a0,a2,())).1.2.2.2.1) then (bif (p118 e5_) then (some (e2_.1,(0:Int),e2_.2))
 else none)
 else bif (p40 (a0,a2,())) then (bif (p40 (a0,a3,())) then (bif (p380 e1_) then (some (f380 e1_))
 else none)
 else none)
 else none)
 else none)
 else none)
 else none
theorem aHj (x:DenS Ky):run (cf [(68,⟨Kt,Lm,p376,f376⟩),(69,⟨Ku,Ln,p377,f377⟩),(70,⟨Kv,Lo,p378,f378⟩),(65,⟨FR,F4,p97,f97⟩),(38,⟨Eh,EK,p118,f118⟩),(71,⟨Ib,It,p40,f40⟩),(72,⟨Kx,Lq,p380,f380⟩)] []) 9 18 Tryz.f18 Ky Ir x=Yf p376 f376 p377 f377 p378 f378 p97 f97 p118 f118 p40 f40 p380 f380 x.1 x.2.1 x.2.2.1 x.2.2.2.1:=by kernel_rfl
def RA (x:DenS Ky):Option (DenS Ir):=Yf L8.pre L8.F L9.pre L9.F Ma.pre Ma.F Cy.pre Cy.F Bm.pre Bm.F EW.pre EW.F Mc.pre Mc.F x.1 x.2.1 x.2.2.1 x.2.2.2.1
def Md:Sum:=Al Ky Ir RA (DenS.dflt Ir)
theorem zJ:Sound Tryz.prog G1 18 Md:=sd (cf [(68,L8),(69,L9),(70,Ma),(65,Cy),(38,Bm),(71,EW),(72,Mc)] []) 18 Tryz.f18 ⟨zE,zF,zG,UR,QQ,iO,zI,trivial⟩ trivial Ky Ir RA _ (fun _=>aHj ..)
abbrev kT:=An Ky
abbrev mL:=Am Ky Ir
variable (p381:kT) (f381:mL)
abbrev I459:Ac:=[(true,.pair (.int .i64) (.pair (.int .i64) (.pair (.int .u64) (.pair (.int .u64) (.pair (.int .u64) (.unit))))))]
abbrev Iw:Ac:=[(false,.bool)]
def YB (p389:ZF) (f389:Z2) (p382:ZE) (f382:Z1) (p455:ZJ) (f455:Z6) (p456:ZK) (f456:Z7) (p457:ZL) (f457:Z8) (p458:ZM) (f458:Z9) (p27:Sn) (f27:Sw) (p25:Zy) (f25:ZV) (p354:ZA) (f354:ZX) (p381:kT) (f381:mL) (a0:Aa (.pair (.int .i64) (.pair (.int .i64) (.pair (.int .u64) (.pair (.int .u64) (.pair (.int .u64) (.unit))))))):Option (DenS Iw) :=
 let e56_:=((f389 ((a0.1,a0.2),())).1.2.2.1,(f389 ((a0.1,a0.2),())).1.2.2.2.1,())
 let e42_:=(((f389 ((a0.1,a0.2),())).1.1,(some ((107:Nat),((f389 ((a0.1,a0.2),())).1.1::[]))),()),e56_)
 let e41_:=(f455 e42_)
 let e36_:=(e41_.1,e56_)
 let e35_:=(f456 e36_)
 let e30_:=(e35_.1,e56_)
 let e29_:=(f457 e30_)
 let e24_:=(e29_.1,e56_)
 let e23_:=(f458 e24_)
 let e55_:=((f389 ((a0.1,a0.2),())).1.1,(0:Int),e56_)
 let e53_:=(f27 e55_)
 let e47_:=(e53_.2.2.1 != (0:Int))
 let e54_:=(f25 e55_)
 let e48_:=(e54_.2.2.1 != (0:Int))
 let e51_:=(f354 e55_)
 let e43_:=(e51_.2.2.1 != (0:Int))
 let e52_:=(f381 e55_)
 let e44_:=(e52_.2.2.1 != (0:Int))
 let e1_:=((((((((e41_.2.2.1 != (0:Int))||(e35_.2.2.1 != (0:Int)))||(e29_.2.2.1 != (0:Int)))||(e23_.2.2.1 != (0:Int)))||e47_)||e48_)||e43_)||e44_)
 let e2_:=(((((e41_.2.1==e53_.1)&&(e35_.2.1==e54_.1))&&(e29_.2.1==e51_.1))&&(e23_.2.1==e52_.1)),())
 let e49_:=(((f389 ((a0.1,a0.2),())).1.1,(some ((113:Nat),[])),()),e56_)
 let e45_:=(f455 e49_)
 let e39_:=(e45_.1,e56_)
 let e37_:=(f456 e39_)
 let e33_:=(e37_.1,e56_)
 let e31_:=(f457 e33_)
 let e27_:=(e31_.1,e56_)
 let e25_:=(f458 e27_)
 let e3_:=((((((((e45_.2.2.1 != (0:Int))||(e37_.2.2.1 != (0:Int)))||(e31_.2.2.1 != (0:Int)))||(e25_.2.2.1 != (0:Int)))||e47_)||e48_)||e43_)||e44_)
 let e50_:=(((f389 ((a0.1,a0.2),())).1.1,(some ((114:Nat),[])),()),e56_)
 let e46_:=(f455 e50_)
 let e40_:=(e46_.1,e56_)
 let e38_:=(f456 e40_)
 let e34_:=(e38_.1,e56_)
 let e32_:=(f457 e34_)
 let e28_:=(e32_.1,e56_)
 let e26_:=(f458 e28_)
 let e4_:=((((((((e46_.2.2.1 != (0:Int))||(e38_.2.2.1 != (0:Int)))||(e32_.2.2.1 != (0:Int)))||(e26_.2.2.1 != (0:Int)))||e47_)||e48_)||e43_)||e44_)
 let e5_:=(((((e45_.2.1==e53_.1)&&(e37_.2.1==e54_.1))&&(e31_.2.1==e51_.1))&&(e25_.2.1==e52_.1)),())
 let e6_:=(((((e46_.2.1==e53_.1)&&(e38_.2.1==e54_.1))&&(e32_.2.1==e51_.1))&&(e26_.2.1==e52_.1)),())
 let e7_:=(p458 e24_)
 let e8_:=(p458 e27_)
 let e9_:=(p458 e28_)
 let e10_:=(p457 e30_)
 let e11_:=(p457 e33_)
 let e12_:=(p457 e34_)
 let e13_:=(p456 e36_)
 let e14_:=(p456 e39_)
 let e15_:=(p456 e40_)
 let e16_:=(p455 e42_)
 let e17_:=(p455 e49_)
 let e18_:=(p455 e50_)
 let e19_:=(p354 e55_)
 let e20_:=(p381 e55_)
 let e21_:=(p27 e55_)
 let e22_:=(p25 e55_)
 let g1_:Option (DenS Iw):=bif ((f389 ((a0.1,a0.2),())).1.1==(2:Int)) then (bif ((p382 ())||false) then (bif (false||(!(f382 ()).1)) then (some (false,()))
 else bif e17_ then (bif e14_ then (bif e11_ then (bif e8_ then (bif e21_ then (bif e22_ then (bif e19_ then (bif e20_ then (bif e3_ then (some (false,()))
 else some e5_)
 else none)
 else none)
 else none)
 else none)
 else none)
 else none)
 else none)
 else none)
 else none)
 else bif ((f389 ((a0.1,a0.2),())).1.1==(3:Int)) then (bif ((p382 ())||false) then (bif (false||(!(f382 ()).1)) then (some (false,()))
 else bif e18_ then (bif e15_ then (bif e12_ then (bif e9_ then (bif e21_ then (bif e22_ then (bif e19_ then (bif e20_ then (bif e4_ then (some (false,()))
 else some e6_)
 else none)
 else none)
 else none)
 else none)
 else none)
 else none)
 else none)
 else none)
 else none)
 else bif ((p382 ())||true) then (some (false,()))
 else none
 let g2_:Option (DenS Iw):=bif ((p382 ())||false) then (bif (false||(!(f382 ()).1)) then (some (false,()))
 else bif e16_ then (bif e13_ then (bif e10_ then (bif e7_ then (bif e21_ then (bif e22_ then (bif e19_ then (bif e20_ then (bif e1_ then (some (false,()))
 else some e2_)
 else none)
 else none)
 else none)
 else none)
 else none)
 else none)
 else none)
 else none)
 else none
 bif (p389 ((a0.1,a0.2),())) then (bif ((f389 ((a0.1,a0.2),())).1.1==(0:Int)) then (bif ((f389 ((a0.1,a0.2),())).1.1==(0:Int)) then (g2_)
 else g1_)
 else bif ((f389 ((a0.1,a0.2),())).1.1==(1:Int)) then (g2_)
 else g1_)
 else none
theorem aHJ (x:DenS I459):run ({ cf [(29,⟨KE,Lw,p389,f389⟩),(30,⟨Kz,Lr,p382,f382⟩),(15,⟨GZ,Hd,p27,f27⟩),(16,⟨Kl,Le,p25,f25⟩),(17,⟨Ks,Ll,p354,f354⟩),(18,⟨Ky,Ir,p381,f381⟩)] [] with lsums:=[(31,⟨Ff,KM,LD,p455,f455⟩),(32,⟨Fg,KN,LE,p456,f456⟩),(33,⟨Fh,KO,LF,p457,f457⟩),(34,⟨Fi,KP,LG,p458,f458⟩)] }) 9 4 Tryz.f4 I459 Iw x=YB p389 f389 p382 f382 p455 f455 p456 f456 p457 f457 p458 f458 p27 f27 p25 f25 p354 f354 p381 f381 x.1:=by kernel_rfl
def T459 (x:DenS I459):Option (DenS Iw):=YB Mi.pre Mi.F Me.pre Me.F Mp.pre Mp.F Mq.pre Mq.F Mr.pre Mr.F Ms.pre Ms.F Dj.pre Dj.F LX.pre LX.F L7.pre L7.F Md.pre Md.F x.1
def aAd:Sum:=Al I459 Iw T459 (DenS.dflt Iw)
theorem S459_sound:Sound Tryz.prog G1 4 aAd:=sd ({ cf [(29,Mi),(30,Me),(15,Dj),(16,LX),(17,L7),(18,Md)] [] with lsums:=[(31,Mp),(32,Mq),(33,Mr),(34,Ms)] }) 4 Tryz.f4 ⟨zP,zK,Zc,yO,zD,zJ,trivial⟩ trivial I459 Iw T459 _ (fun _=>aHJ ..) (hls:=⟨z7,aAa,aAb,aAc,trivial⟩)
abbrev aBw:=An I459
abbrev aBA:=Am I459 Iw
variable (p459:aBw) (f459:aBA)
end Vx
namespace Vx
open Go
theorem As {I O:Ac} {T:DenS I->Option (DenS O)} {d:DenS O} {x:DenS I} {y:DenS O} (h:T x=some y):(Al I O T d).pre x=true:=by
 show (T x).isSome=true
 rw [h]; rfl
theorem Ar {I O:Ac} {T:DenS I->Option (DenS O)} {d:DenS O} {x:DenS I} {y:DenS O} (h:T x=some y):(Al I O T d).F x=y:=by
 show (T x).getD d=y
 rw [h]; rfl
theorem JZ {k:LK} {I O:Ac} {T:k.D×DenS I->Option (k.B×DenS O)} {d:k.B×DenS O} {x:k.D×DenS I} {y:k.B×DenS O} (h:T x=some y):(EF k I O T d).pre x=true:=by
 show (T x).isSome=true
 rw [h]; rfl
theorem JY {k:LK} {I O:Ac} {T:k.D×DenS I->Option (k.B×DenS O)} {d:k.B×DenS O} {x:k.D×DenS I} {y:k.B×DenS O} (h:T x=some y):(EF k I O T d).F x=y:=by
 show (T x).getD d=y
 rw [h]; rfl
theorem aFR {x y} (h:RC x=some y):Mf.pre x=true:=As h
theorem aDs {x y} (h:RC x=some y):Mf.F x=y:=Ar h
theorem aFS {x y} (h:RD x=some y):Mg.pre x=true:=As h
theorem aDt {x y} (h:RD x=some y):Mg.F x=y:=Ar h
theorem uR {x y} (h:OO x=some y):Hq.pre x=true:=As h
theorem qW {x y} (h:OO x=some y):Hq.F x=y:=Ar h
theorem fC {x y} (h:OP x=some y):Mh.pre x=true:=As h
theorem cQ {x y} (h:OP x=some y):Mh.F x=y:=Ar h
theorem aFT {x y} (h:RE x=some y):Mi.pre x=true:=As h
theorem aDu {x y} (h:RE x=some y):Mi.F x=y:=Ar h
theorem HX {x y} (h:OS x=some y):AE.pre x=true:=As h
theorem HO {x y} (h:OS x=some y):AE.F x=y:=Ar h
theorem HW {x y} (h:R0 x=some y):Aw.pre x=true:=As h
theorem HN {x y} (h:R0 x=some y):Aw.F x=y:=Ar h
theorem W3 {x y} (h:R5 x=some y):Be.pre x=true:=As h
theorem Wq {x y} (h:R5 x=some y):Be.F x=y:=Ar h
theorem fE {x y} (h:R4 x=some y):C0.pre x=true:=As h
theorem cS {x y} (h:R4 x=some y):C0.F x=y:=Ar h
theorem JQ {x y} (h:OR x=some y):Cx.pre x=true:=As h
theorem JD {x y} (h:OR x=some y):Cx.F x=y:=Ar h
theorem W2 {x y} (h:R2 x=some y):CJ.pre x=true:=As h
theorem Wp {x y} (h:R2 x=some y):CJ.F x=y:=Ar h
theorem W6 {x y} (h:R8 x=some y):Cz.pre x=true:=As h
theorem Wv {x y} (h:R8 x=some y):Cz.F x=y:=Ar h
theorem uW {x y} (h:R3 x=some y):Mx.pre x=true:=As h
theorem q8 {x y} (h:R3 x=some y):Mx.F x=y:=Ar h
theorem uF {x y} (h:Np x=some y):AJ.pre x=true:=As h
theorem qK {x y} (h:Np x=some y):AJ.F x=y:=Ar h
theorem aFu {x y} (h:OF x=some y):AG.pre x=true:=As h
theorem aC5 {x y} (h:OF x=some y):AG.F x=y:=Ar h
theorem aFv {x y} (h:Q1 x=some y):IS.pre x=true:=As h
theorem aC6 {x y} (h:Q1 x=some y):IS.F x=y:=Ar h
theorem aFw {x y} (h:Q4 x=some y):LU.pre x=true:=As h
theorem aC7 {x y} (h:Q4 x=some y):LU.F x=y:=Ar h
theorem eV {x y} (h:Q5 x=some y):Bn.pre x=true:=As h
theorem cK {x y} (h:Q5 x=some y):Bn.F x=y:=Ar h
theorem Qo {x y} (h:Q0 x=some y):Bm.pre x=true:=As h
theorem Px {x y} (h:Q0 x=some y):Bm.F x=y:=Ar h
theorem aFA {x y} (h:Ra x=some y):LV.pre x=true:=As h
theorem aDb {x y} (h:Ra x=some y):LV.F x=y:=Ar h
theorem eQ {x y} (h:QT x=some y):DR.pre x=true:=As h
theorem cH {x y} (h:QT x=some y):DR.F x=y:=Ar h
theorem CS {x y} (h:Ns x=some y):Ah.pre x=true:=As h
theorem CQ {x y} (h:Ns x=some y):Ah.F x=y:=Ar h
theorem aFz {x y} (h:Q9 x=some y):Cn.pre x=true:=As h
theorem aDa {x y} (h:Q9 x=some y):Cn.F x=y:=Ar h
theorem WT {x y} (h:OB x=some y):CC.pre x=true:=As h
theorem Wf {x y} (h:OB x=some y):CC.F x=y:=Ar h
theorem uJ {x y} (h:Rf x=some y):EU.pre x=true:=As h
theorem qO {x y} (h:Rf x=some y):EU.F x=y:=Ar h
theorem N4 {x y} (h:OH x=some y):BA.pre x=true:=As h
theorem NT {x y} (h:OH x=some y):BA.F x=y:=Ar h
theorem aFC {x y} (h:Re x=some y):Gp.pre x=true:=As h
theorem aDd {x y} (h:Re x=some y):Gp.F x=y:=Ar h
theorem aFB {x y} (h:Rb x=some y):Or.pre x=true:=As h
theorem aDc {x y} (h:Rb x=some y):Or.F x=y:=Ar h
theorem uE {x y} (h:QY x=some y):Bw.pre x=true:=As h
theorem qJ {x y} (h:QY x=some y):Bw.F x=y:=Ar h
theorem aFs {x y} (h:QX x=some y):LS.pre x=true:=As h
theorem aC3 {x y} (h:QX x=some y):LS.F x=y:=Ar h
theorem uI {x y} (h:OI x=some y):Co.pre x=true:=As h
theorem qN {x y} (h:OI x=some y):Co.F x=y:=Ar h
theorem W4 {x y} (h:R6 x=some y):Bu.pre x=true:=As h
theorem Wt {x y} (h:R6 x=some y):Bu.F x=y:=Ar h
theorem aFD {x y} (h:Rg x=some y):LW.pre x=true:=As h
theorem aDe {x y} (h:Rg x=some y):LW.F x=y:=Ar h
theorem WU {x y} (h:OK x=some y):Ow.pre x=true:=As h
theorem Wg {x y} (h:OK x=some y):Ow.F x=y:=Ar h
theorem fA {x y} (h:Nv x=some y):CV.pre x=true:=As h
theorem cO {x y} (h:Nv x=some y):CV.F x=y:=Ar h
theorem eZ {x y} (h:Mz x=some y):EV.pre x=true:=As h
theorem cN {x y} (h:Mz x=some y):EV.F x=y:=Ar h
theorem TI {x y} (h:Nt x=some y):C7.pre x=true:=As h
theorem Te {x y} (h:Nt x=some y):C7.F x=y:=Ar h
theorem JO {x y} (h:My x=some y):C5.pre x=true:=As h
theorem JB {x y} (h:My x=some y):C5.F x=y:=Ar h
theorem Qp {x y} (h:Nu x=some y):Ox.pre x=true:=As h
theorem Py {x y} (h:Nu x=some y):Ox.F x=y:=Ar h
theorem JP {x y} (h:Nq x=some y):C6.pre x=true:=As h
theorem JC {x y} (h:Nq x=some y):C6.F x=y:=Ar h
theorem uG {x y} (h:OG x=some y):Gn.pre x=true:=As h
theorem qL {x y} (h:OG x=some y):Gn.F x=y:=Ar h
theorem W5 {x y} (h:R7 x=some y):Cy.pre x=true:=As h
theorem Wu {x y} (h:R7 x=some y):Cy.F x=y:=Ar h
theorem aFW {x y} (h:RJ x=some y):Hr.pre x=true:=As h
theorem aDx {x y} (h:RJ x=some y):Hr.F x=y:=Ar h
theorem eY {x y} (h:Rc x=some y):Ot.pre x=true:=As h
theorem cM {x y} (h:Rc x=some y):Ot.F x=y:=Ar h
theorem uH {x y} (h:Rd x=some y):Ou.pre x=true:=As h
theorem qM {x y} (h:Rd x=some y):Ou.F x=y:=Ar h
theorem eR {x y} (h:QV x=some y):DS.pre x=true:=As h
theorem cI {x y} (h:QV x=some y):DS.F x=y:=Ar h
theorem TH {x y} (h:Q2 x=some y):CU.pre x=true:=As h
theorem Td {x y} (h:Q2 x=some y):CU.F x=y:=Ar h
theorem aF4 {x y} (h:OT x=some y):Mw.pre x=true:=As h
theorem aDF {x y} (h:OT x=some y):Mw.F x=y:=Ar h
theorem TJ {x y} (h:Nw x=some y):Dj.pre x=true:=As h
theorem Tf {x y} (h:Nw x=some y):Dj.F x=y:=Ar h
theorem aFQ {x y} (h:RB x=some y):Me.pre x=true:=As h
theorem aDr {x y} (h:RB x=some y):Me.F x=y:=Ar h
theorem aFU {x y} (h:RF x=some y):Mj.pre x=true:=As h
theorem aDv {x y} (h:RF x=some y):Mj.F x=y:=Ar h
theorem fD {x y} (h:RI x=some y):EW.pre x=true:=As h
theorem cR {x y} (h:RI x=some y):EW.F x=y:=Ar h
theorem aFo {x y} (h:OC x=some y):LO.pre x=true:=As h
theorem aCZ {x y} (h:OC x=some y):LO.F x=y:=Ar h
theorem aFn {x y} (h:Nn x=some y):LN.pre x=true:=As h
theorem aCY {x y} (h:Nn x=some y):LN.F x=y:=Ar h
theorem aFp {x y} (h:OD x=some y):LP.pre x=true:=As h
theorem aC0 {x y} (h:OD x=some y):LP.F x=y:=Ar h
theorem aFq {x y} (h:QU x=some y):LQ.pre x=true:=As h
theorem aC1 {x y} (h:QU x=some y):LQ.F x=y:=Ar h
theorem aF2 {x y} (h:OQ x=some y):Mt.pre x=true:=As h
theorem aDD {x y} (h:OQ x=some y):Mt.F x=y:=Ar h
theorem aFV {x y} (h:RG x=some y):Mk.pre x=true:=As h
theorem aDw {x y} (h:RG x=some y):Mk.F x=y:=Ar h
theorem uS {x y} (h:RH x=some y):D8.pre x=true:=As h
theorem qX {x y} (h:RH x=some y):D8.F x=y:=Ar h
theorem uT {x y} (h:RK x=some y):Ml.pre x=true:=As h
theorem qY {x y} (h:RK x=some y):Ml.F x=y:=Ar h
theorem uU {x y} (h:RL x=some y):EX.pre x=true:=As h
theorem qZ {x y} (h:RL x=some y):EX.F x=y:=Ar h
theorem uV {x y} (h:RM x=some y):EY.pre x=true:=As h
theorem q7 {x y} (h:RM x=some y):EY.F x=y:=Ar h
theorem aFX {x y} (h:RN x=some y):Mm.pre x=true:=As h
theorem aDy {x y} (h:RN x=some y):Mm.F x=y:=Ar h
theorem aFY {x y} (h:RO x=some y):Oy.pre x=true:=As h
theorem aDz {x y} (h:RO x=some y):Oy.F x=y:=Ar h
theorem WW {x y} (h:RP x=some y):Mn.pre x=true:=As h
theorem Wj {x y} (h:RP x=some y):Mn.F x=y:=Ar h
theorem aFZ {x y} (h:RQ x=some y):Oz.pre x=true:=As h
theorem aDA {x y} (h:RQ x=some y):Oz.F x=y:=Ar h
theorem aF0 {x y} (h:RR x=some y):OA.pre x=true:=As h
theorem aDB {x y} (h:RR x=some y):OA.F x=y:=Ar h
theorem aF1 {x y} (h:RS x=some y):Mo.pre x=true:=JZ h
theorem aDC {x y} (h:RS x=some y):Mo.F x=y:=JY h
theorem WX {x y} (h:RT x=some y):CI.pre x=true:=JZ h
theorem Wk {x y} (h:RT x=some y):CI.F x=y:=JY h
theorem WY {x y} (h:RU x=some y):Mp.pre x=true:=JZ h
theorem Wl {x y} (h:RU x=some y):Mp.F x=y:=JY h
theorem WZ {x y} (h:RV x=some y):Mq.pre x=true:=JZ h
theorem Wm {x y} (h:RV x=some y):Mq.F x=y:=JY h
theorem W0 {x y} (h:RW x=some y):Mr.pre x=true:=JZ h
theorem Wn {x y} (h:RW x=some y):Mr.F x=y:=JY h
theorem W1 {x y} (h:RX x=some y):Ms.pre x=true:=JZ h
theorem Wo {x y} (h:RX x=some y):Ms.F x=y:=JY h
theorem aFr {x y} (h:QW x=some y):LR.pre x=true:=As h
theorem aC2 {x y} (h:QW x=some y):LR.F x=y:=Ar h
theorem aF3 {x y} (h:RY x=some y):Mu.pre x=true:=As h
theorem aDE {x y} (h:RY x=some y):Mu.F x=y:=Ar h
theorem aFE {x y} (h:Rh x=some y):LX.pre x=true:=As h
theorem aDf {x y} (h:Rh x=some y):LX.F x=y:=Ar h
theorem WV {x y} (h:OM x=some y):L3.pre x=true:=As h
theorem Wh {x y} (h:OM x=some y):L3.F x=y:=Ar h
theorem uM {x y} (h:Rs x=some y):L4.pre x=true:=As h
theorem qR {x y} (h:Rs x=some y):L4.F x=y:=Ar h
theorem uN {x y} (h:Rt x=some y):L5.pre x=true:=As h
theorem qS {x y} (h:Rt x=some y):L5.F x=y:=Ar h
theorem uO {x y} (h:Ru x=some y):L6.pre x=true:=As h
theorem qT {x y} (h:Ru x=some y):L6.F x=y:=Ar h
theorem fB {x y} (h:Rj x=some y):A9.pre x=true:=As h
theorem cP {x y} (h:Rj x=some y):A9.F x=y:=Ar h
theorem aFF {x y} (h:Rk x=some y):LY.pre x=true:=As h
theorem aDg {x y} (h:Rk x=some y):LY.F x=y:=Ar h
theorem aFL {x y} (h:Rv x=some y):L7.pre x=true:=As h
theorem aDm {x y} (h:Rv x=some y):L7.F x=y:=Ar h
theorem aFM {x y} (h:ON x=some y):L8.pre x=true:=As h
theorem aDn {x y} (h:ON x=some y):L8.F x=y:=Ar h
theorem uP {x y} (h:Rw x=some y):L9.pre x=true:=As h
theorem qU {x y} (h:Rw x=some y):L9.F x=y:=Ar h
theorem uQ {x y} (h:Rx x=some y):Ma.pre x=true:=As h
theorem qV {x y} (h:Rx x=some y):Ma.F x=y:=Ar h
theorem eU {x y} (h:No x=some y):CT.pre x=true:=As h
theorem cJ {x y} (h:No x=some y):CT.F x=y:=Ar h
theorem uK {x y} (h:Rl x=some y):Bg.pre x=true:=As h
theorem qP {x y} (h:Rl x=some y):Bg.F x=y:=Ar h
theorem uL {x y} (h:Rm x=some y):AV.pre x=true:=As h
theorem qQ {x y} (h:Rm x=some y):AV.F x=y:=Ar h
theorem aFx {x y} (h:Q6 x=some y):DT.pre x=true:=As h
theorem aC8 {x y} (h:Q6 x=some y):DT.F x=y:=Ar h
theorem eW {x y} (h:Q7 x=some y):Bt.pre x=true:=As h
theorem cL {x y} (h:Q7 x=some y):Bt.F x=y:=Ar h
theorem aFG {x y} (h:Rn x=some y):BQ.pre x=true:=JZ h
theorem aDh {x y} (h:Rn x=some y):BQ.F x=y:=JY h
theorem aFH {x y} (h:Ro x=some y):CD.pre x=true:=JZ h
theorem aDi {x y} (h:Ro x=some y):CD.F x=y:=JY h
theorem aFI {x y} (h:Rp x=some y):DV.pre x=true:=JZ h
theorem aDj {x y} (h:Rp x=some y):DV.F x=y:=JY h
theorem aFJ {x y} (h:Rq x=some y):LZ.pre x=true:=As h
theorem aDk {x y} (h:Rq x=some y):LZ.F x=y:=Ar h
theorem aFK {x y} (h:Rr x=some y):DW.pre x=true:=As h
theorem aDl {x y} (h:Rr x=some y):DW.F x=y:=Ar h
theorem aFt {x y} (h:QZ x=some y):LT.pre x=true:=As h
theorem aC4 {x y} (h:QZ x=some y):LT.F x=y:=Ar h
theorem aFy {x y} (h:Q8 x=some y):DU.pre x=true:=As h
theorem aC9 {x y} (h:Q8 x=some y):DU.F x=y:=Ar h
theorem aFN {x y} (h:Ry x=some y):Mb.pre x=true:=As h
theorem aDo {x y} (h:Ry x=some y):Mb.F x=y:=Ar h
theorem aFO {x y} (h:Rz x=some y):Mc.pre x=true:=As h
theorem aDp {x y} (h:Rz x=some y):Mc.F x=y:=Ar h
theorem aFP {x y} (h:RA x=some y):Md.pre x=true:=As h
theorem aDq {x y} (h:RA x=some y):Md.F x=y:=Ar h
end Vx
namespace Vx
open Go
theorem wB {a:Int} (n:Nat) (hn:n<=64):AN .u64 a (n:Int)=a/2^n:=by
 unfold AN
 rw [Int.fdiv_eq_ediv_of_nonneg]
 ·congr 2
  simp [IntKind.bits]
  omega
 ·exact Int.pow_nonneg (by omega)
theorem HS {m:Nat} (h:m<2^64):(BitVec.ofInt 64 (m:Int)).toNat=m:=by
 rw [BitVec.toNat_ofInt]
 omega
theorem Pl {m n:Nat} (h:m<2^64) (hn:n<=64):CK .u64 (m:Int) ((2^n-1:Nat):Int)=((m%2^n:Nat):Int):=by
 have h2:2^n<=2^64:=Nat.pow_le_pow_right (by omega) hn
 have h3:0<2^n:=Nat.two_pow_pos n
 have hlt:m%2^n<2^n:=Nat.mod_lt _ h3
 have key:(BitVec.ofInt 64 (m:Int) &&& BitVec.ofInt 64 ((2^n-1:Nat):Int)).toNat=m%2^n:=by
  rw [BitVec.toNat_and,HS h,HS (by omega),Nat.and_two_pow_sub_one_eq_mod]
 show IntKind.u64.wrap (((BitVec.ofInt 64 (m:Int) &&& BitVec.ofInt 64 ((2^n-1:Nat):Int)).toNat:Nat):Int)=_
 rw [key]
 exact IntWalk.u64_in _ (by omega)
theorem Qv {n:Nat} (hn:n<=63):Bp .u64 1 (n:Int)=((2^n:Nat):Int):=by
 have h2:2^n<=2^63:=Nat.pow_le_pow_right (by omega) hn
 have:(min (n:Int).toNat IntKind.u64.bits)=n:=by simp [IntKind.bits]; omega
 unfold Bp
 rw [this,Int.one_mul]
 have e:(2:Int)^n=((2^n:Nat):Int):=by simp
 rw [e]
 refine IntWalk.u64_in _ ⟨Int.natCast_nonneg _,?_⟩
 have:((2^n:Nat):Int)<=((2^63:Nat):Int):=Int.ofNat_le.2 h2
 exact Int.le_trans this (by decide)
end Vx
namespace VL
open Go Vx
def Fm (f:Int):Prop:=0<=f/\f<4
instance (f:Int):Decidable (Fm f):=by unfold Fm; infer_instance
def fW (f:Int):Nat:=if f=0 then 16 else if f=1 then 16 else if f=2 then 32 else 64
def fP (f:Int):Nat:=if f=0 then 11 else if f=1 then 8 else if f=2 then 24 else 53
def fX (f:Int):Nat:=if f=0 then 15 else if f=1 then 127 else if f=2 then 127 else 1023
def BL (f:Int):Aa rowsSh:=((fW f:Int),((fP f:Int),((1-(fX f:Int)),((fX f:Int),()))))
theorem CH {f:Int} (h:Fm f):f=0∨f=1∨f=2∨f=3:=by
 obtain ⟨h1,h2⟩:=h
 omega
theorem fV {f:Int} (h:Fm f) (d:Aa rowsSh):k_rows.getD (Int.toNat f) d=BL f:=by
 rcases CH h with rfl | rfl | rfl | rfl <;> rfl
theorem BD {f:Int} (h:Fm f):8<=fP f:=by
 rcases CH h with rfl | rfl | rfl | rfl <;> decide
theorem Ec {f:Int} (h:Fm f):fP f+5<=fW f:=by
 rcases CH h with rfl | rfl | rfl | rfl <;> decide
theorem E4 {f:Int} (h:Fm f):fW f<=64:=by
 rcases CH h with rfl | rfl | rfl | rfl <;> decide
theorem Jx {f:Int} (h:Fm f):fX f<=1023:=by
 rcases CH h with rfl | rfl | rfl | rfl <;> decide
theorem S5 {f:Int} (h:Fm f):2*fX f+1=2^(fW f-fP f)-1:=by
 rcases CH h with rfl | rfl | rfl | rfl <;> decide
theorem Au {n:Int} (h:-9223372036854775808<=n/\n<9223372036854775808):IntKind.wrap .i64 n=n:=IntWalk.i64_in n ⟨h.1,by omega⟩
theorem Eg {n:Int} (h:0<=n/\n<18446744073709551616):IntKind.wrap .u64 n=n:=IntWalk.u64_in n ⟨h.1,by omega⟩
theorem DK (a n:Nat) (hn:n<=64):AN .u64 (a:Int) (n:Int)=((a/2^n:Nat):Int):=by
 rw [wB n hn]
 simp
theorem DN (m n:Nat) (h:n<=m) (hm:m<=4611686018427387904):IntKind.wrap .i64 ((m:Int)-(n:Int))=((m-n:Nat):Int):=by
 rw [Au (by omega)]
 omega
theorem NZ (m n:Nat):((m:Int)==(n:Int))=(m==n):=by
 rw [Bool.eq_iff_iff]; simp only [beq_iff_eq]; omega
theorem HQ (m:Nat):((m:Int)==0)=(m==0):=NZ m 0
theorem aEr (m n:Nat):((m:Int) != (n:Int))=(m != n):=by
 show (!((m:Int)==(n:Int)))=!(m==n)
 rw [NZ]
theorem Qb (m:Nat):((m:Int) != 0)=(m != 0):=aEr m 0
theorem dW (m n:Nat):(decide ((m:Int)<(n:Int)))=decide (m<n):=by
 rw [Bool.eq_iff_iff]; simp
theorem AU (m:Nat):(decide (0<=(m:Int)))=true:=by simp
def Aj (f:Int) (a:Nat):Int:=if Fm f then (if a<2^fW f then 0 else 4) else 2
def eF (f:Int) (a:Nat):Nat:=a/2^(fP f-1)%2^(fW f-fP f)
def mF (f:Int) (a:Nat):Nat:=a%2^(fP f-1)
def sF (f:Int) (a:Nat):Bool:=a/2^(fW f-1) != 0
def Av (f:Int):Nat:=2^(fW f-fP f)-1
def AT (f:Int) (a:Nat):Nat:=a%2^(fW f-1)
theorem Nx {f:Int} (h:Fm f):OS (f,())=some (BL f,0,()):=by
 rcases CH h with rfl | rfl | rfl | rfl <;> kernel_rfl
theorem R1 {f:Int} (h:¬ Fm f):OS (f,())=some ((0,0,0,0,()),2,()):=by
 show YF f=_
 unfold YF
 have:(decide (f<(0:Int))||decide (f>=(4:Int)))=true:=by
  simp only [Fm] at h
  simp only [Bool.or_eq_true,decide_eq_true_eq]
  omega
 rw [this]
 rfl
theorem aB0 {f:Int} (h:¬ Fm f) (a:Nat):Aj f a=2:=by unfold Aj; rw [if_neg h]
theorem SP {f:Int} (h:Fm f) {a:Nat} (ha:a<2^fW f):Aj f a=0:=by unfold Aj; rw [if_pos h,if_pos ha]
theorem aB1 {f:Int} (h:Fm f) {a:Nat} (ha:¬ a<2^fW f):Aj f a=4:=by unfold Aj; rw [if_pos h,if_neg ha]
theorem Ca {f:Int} {a:Nat} (h:Aj f a=0):Fm f/\a<2^fW f:=by
 unfold Aj at h
 split at h
 ·split at h
  ·exact ⟨by assumption,by assumption⟩
  ·cases h
 ·cases h
theorem bH {a n:Nat}:(a/2^n != 0)=decide (2^n<=a):=by
 rw [Bool.eq_iff_iff]
 simp [Nat.div_eq_zero_iff,Nat.two_pow_pos]
theorem IU (f:Int) (a:Nat) (ha:a<2^64):R0 (f,(a:Int),())=some (Aj f a,()):=by
 show YE AE.pre AE.F f a=_
 unfold YE
 by_cases hf:Fm f
 ·simp only [HX (Nx hf),HO (Nx hf),cond_true,BL,AU,Bool.true_or]
  rw [DK _ _ (E4 hf),Qb,bH]
  show (bif decide ((fW f:Int)<((64:Nat):Int))&&_ then _ else _)=_
  rw [dW]
  have hw:=E4 hf
  by_cases h:a<2^fW f
  ·have:(decide (fW f<64)&&decide (2^fW f<=a))=false:=by simp; intro _; exact h
   rw [this,SP hf h]; rfl
  ·have:(decide (fW f<64)&&decide (2^fW f<=a))=true:=by
    simp only [Bool.and_eq_true,decide_eq_true_eq]
    refine ⟨?_,by omega⟩
    rcases Nat.lt_or_ge (fW f) 64 with h1 | h1
    ·exact h1
    ·have:fW f=64:=by omega
     rw [this] at h; omega
   rw [this,aB1 hf h]; rfl
 ·simp only [HX (R1 hf),HO (R1 hf),cond_true,aB0 hf]
  rfl
theorem UW (n:Nat) (hn:n<=63):R5 ((n:Int),())=some (((2^n-1:Nat):Int),()):=by
 show YI n=_
 unfold YI
 have h2:2^n<=2^63:=Nat.pow_le_pow_right (by omega) hn
 have h1:0<2^n:=Nat.two_pow_pos n
 rw [AU,cond_true,Qv hn]
 generalize 2^n=c at *
 rw [Eg (by omega)]
 have:(c:Int)-1=((c-1:Nat):Int):=by omega
 rw [this]
theorem Zr {f:Int} (hf:Fm f) (a:Nat) (ha:a<2^64):R4 (BL f,(a:Int),())=some (sF f a,(eF f a:Int),(mF f a:Int),()):=by
 show YH Be.pre Be.F (BL f) a=_
 unfold YH
 have h1:=BD hf
 have h2:=Ec hf
 have h3:=E4 hf
 have e1:IntKind.wrap .i64 ((BL f).1-1)=((fW f-1:Nat):Int):=DN (fW f) 1 (by omega) (by omega)
 have e2:IntKind.wrap .i64 ((BL f).2.1-1)=((fP f-1:Nat):Int):=DN (fP f) 1 (by omega) (by omega)
 have e3:IntKind.wrap .i64 ((BL f).1-(BL f).2.1)=((fW f-fP f:Nat):Int):=DN (fW f) (fP f) (by omega) (by omega)
 have p1:=UW (fW f-fP f) (by omega)
 have p2:=UW (fP f-1) (by omega)
 rw [e1,e2,e3]
 simp only [AU,cond_true,W3 p1,W3 p2,Wq p1,Wq p2]
 rw [DK _ _ (by omega),DK _ _ (by omega),Pl (Nat.lt_of_le_of_lt (Nat.div_le_self _ _) ha) (by omega),Pl ha (by omega),Qb]
 rfl
def A4 (f:Int) (a:Nat):Int :=
 bif eF f a==Av f&&mF f a==0 then (bif sF f a then 2 else 9)
 else bif eF f a==Av f&&mF f a/2^(fP f-2) != 0 then 1
 else bif eF f a==Av f then 0
 else bif eF f a==0&&mF f a==0 then (bif sF f a then 5 else 6)
 else bif eF f a==0 then (bif sF f a then 4 else 7)
 else (bif sF f a then 3 else 8)
theorem RZ {f:Int} {a:Nat} (ha:a<2^64) (h:Aj f a=0):OR (f,(a:Int),())=some (A4 f a,0,()):=by
 obtain ⟨hf,h0⟩:=Ca h
 show Qz Aw.pre Aw.F C0.pre C0.F Be.pre Be.F f a=_
 unfold Qz
 have h1:=BD hf
 have h2:=Ec hf
 have h3:=E4 hf
 have e3:IntKind.wrap .i64 ((BL f).1-(BL f).2.1)=((fW f-fP f:Nat):Int):=DN (fW f) (fP f) (by omega) (by omega)
 have e4:IntKind.wrap .i64 ((BL f).2.1-2)=((fP f-2:Nat):Int):=DN (fP f) 2 (by omega) (by omega)
 have p0:=IU f a ha
 have p1:=UW (fW f-fP f) (by omega)
 have p2:=Zr hf a ha
 have hr:(decide (0<=f)&&decide (f<((4:Nat):Int)))=true:=by
  simp only [Bool.and_eq_true,decide_eq_true_eq]; exact hf
 simp only [fV hf,e3,e4,hr,HW p0,HN p0,W3 p1,Wq p1,fE p2,cS p2,h,cond_true,AU,Bool.true_or,bne_self_eq_false,cond_false]
 rw [DK _ _ (by omega),NZ,HQ,HQ,Qb]
 unfold A4 Av
 generalize (eF f a==2^(fW f-fP f)-1)=b1
 generalize (mF f a==0)=b2
 generalize (mF f a/2^(fP f-2) != 0)=b3
 generalize (eF f a==0)=b4
 generalize sF f a=b5
 cases b1 <;> cases b2 <;> cases b3 <;> cases b4 <;> cases b5 <;> rfl
theorem Zq {f:Int} {a:Nat} (ha:a<2^64) (h:Aj f a≠0):OR (f,(a:Int),())=some (0,Aj f a,()):=by
 show Qz Aw.pre Aw.F C0.pre C0.F Be.pre Be.F f a=_
 unfold Qz
 have p0:=IU f a ha
 have:(Aj f a != 0)=true:=by simpa using h
 simp only [HW p0,HN p0,this,cond_true]
theorem aAo {f:Int} (hf:Fm f):QW (f,())=some (((2^(fW f-1):Nat):Int),()):=by
 rcases CH hf with rfl | rfl | rfl | rfl <;> kernel_rfl
def Ay (f:Int) (a:Nat):Int:=bif sF f a then -(AT f a:Int) else AT f a
def nan (f:Int) (a:Nat):Bool:=eF f a==Av f&&mF f a != 0
def BM (f:Int) (a:Nat):Bool:=nan f a&&mF f a/2^(fP f-2)==0
theorem SQ (f:Int) (a:Nat):(A4 f a==1||A4 f a==0)=nan f a:=by
 unfold A4 nan
 simp only [bne]
 cases eF f a==Av f <;> cases mF f a==0 <;> cases sF f a <;> cases eF f a==0 <;> cases mF f a/2^(fP f-2)==0 <;> rfl
theorem VR (f:Int) (a:Nat):(A4 f a==0)=BM f a:=by
 unfold A4 BM nan
 simp only [bne]
 cases eF f a==Av f <;> cases hm:mF f a==0 <;> cases sF f a <;> cases eF f a==0 <;> cases mF f a/2^(fP f-2)==0 <;> rfl
end VL
namespace VL
open Go Vx
def v9 (f:Int) (a:Nat):Nat:=a/2^(fW f-1)%2
theorem HY {f:Int} {a:Nat} (h:nan f a=false):BM f a=false:=by
 unfold BM; rw [h]; rfl
theorem aIM {f:Int} {a:Nat} (h:Aj f a=0):(v9 f a==1)=sF f a:=by
 obtain ⟨hf,h0⟩:=Ca h
 have h2:=Ec hf
 unfold v9 sF
 have:a/2^(fW f-1)<2:=by
  rw [Nat.div_lt_iff_lt_mul (Nat.two_pow_pos _)]
  have:2^fW f=2*2^(fW f-1):=by rw [← Nat.pow_succ']; congr 1; omega
  omega
 rw [Nat.mod_eq_of_lt this]
 generalize a/2^(fW f-1)=q at this ⊢
 match q,this with
 | 0,_=>rfl
 | 1,_=>rfl
end VL
namespace VL
open Go Vx
theorem aFm {f:Int} (hf:Fm f):2^(fW f-1)=2^(fP f-1)*2^(fW f-fP f):=by
 have h1:=BD hf
 have h2:=Ec hf
 rw [← Nat.pow_add]
 congr 1
 omega
theorem HE {f:Int} (hf:Fm f) (a:Nat):AT f a=mF f a+2^(fP f-1)*eF f a:=by
 unfold AT mF eF
 rw [aFm hf,Nat.mod_mul]
theorem t6 {f:Int} {a:Nat} (h:Aj f a=0):a=AT f a+(bif sF f a then 2^(fW f-1) else 0):=by
 obtain ⟨hf,h0⟩:=Ca h
 have h2:=Ec hf
 have e:2^fW f=2*2^(fW f-1):=by rw [← Nat.pow_succ']; congr 1; omega
 unfold AT sF
 rw [bH]
 by_cases hc:2^(fW f-1)<=a
 ·rw [decide_eq_true hc]
  simp only [cond_true]
  have:a%2^(fW f-1)=a-2^(fW f-1):=by
   rw [Nat.mod_eq_sub_mod hc,Nat.mod_eq_of_lt (by omega)]
  omega
 ·rw [decide_eq_false hc]
  simp only [cond_false]
  rw [Nat.mod_eq_of_lt (by omega)]
  rfl
theorem SE {f:Int} (a:Nat):AT f a<2^(fW f-1):=Nat.mod_lt _ (Nat.two_pow_pos _)
theorem Tc {f:Int} (hf:Fm f):0<Av f:=by
 rcases CH hf with rfl | rfl | rfl | rfl <;> decide
theorem xQ {f:Int} (hf:Fm f) (a:Nat):AT f a=0↔eF f a=0/\mF f a=0:=by
 rw [HE hf]
 have:=Nat.two_pow_pos (fP f-1)
 constructor
 ·intro h
  have h1:2^(fP f-1)*eF f a=0:=by omega
  rcases Nat.mul_eq_zero.1 h1 with h2 | h2
  ·omega
  ·exact ⟨h2,by omega⟩
 ·rintro ⟨h1,h2⟩
  rw [h1,h2]; rfl
def By (f:Int):Nat:=2^(fW f-1)-2^(fP f-2)
theorem UV {f:Int} (hf:Fm f):R2 (f,())=some ((By f:Int),0,()):=by
 rcases CH hf with rfl | rfl | rfl | rfl <;> kernel_rfl
end VL
namespace VL
open Go Vx
theorem tT (k:Nat):Nat.testBit 1 k=decide (k=0):=by
 rw [Bool.eq_iff_iff]
 simp [Nat.testBit_one_eq_true_iff_self_eq_zero]
theorem aJv {m n:Nat} (h:m<2^(n+1)):m ^^^ 2^n=if m<2^n then m+2^n else m-2^n:=by
 apply Nat.eq_of_testBit_eq
 intro i
 rw [Nat.testBit_xor,Nat.testBit_two_pow]
 have h2:2^(n+1)=2*2^n:=Nat.pow_succ'
 split
 ·rename_i hm
  have:m+2^n=2^n*1+m:=by omega
  rw [this,Nat.testBit_two_pow_mul_add _ hm]
  by_cases hi:i<n
  ·have:¬ n=i:=by omega
   simp [hi,this]
  ·rw [if_neg hi,Nat.testBit_lt_two_pow (Nat.lt_of_lt_of_le hm (Nat.pow_le_pow_right (by omega) (by omega)))]
   rw [tT]
   by_cases hn:n=i
   ·subst hn; simp
   ·have:¬ i-n=0:=by omega
    simp [hn,this]
 ·rename_i hm
  have e:m=2^n*1+(m-2^n):=by omega
  have hr:m-2^n<2^n:=by omega
  rw [e,Nat.testBit_two_pow_mul_add _ hr]
  have e2:2^n*1+(m-2^n)-2^n=m-2^n:=by omega
  rw [e2]
  by_cases hi:i<n
  ·have:¬ n=i:=by omega
   simp [hi,this]
  ·rw [if_neg hi,Nat.testBit_lt_two_pow (x:=m-2^n) (Nat.lt_of_lt_of_le hr (Nat.pow_le_pow_right (by omega) (by omega))),tT]
   by_cases hn:n=i
   ·subst hn; simp
   ·have:¬ i-n=0:=by omega
    simp [hn,this]
theorem aJu {m n:Nat} (hn:n<=63) (h:m<2^(n+1)):YV .u64 (m:Int) ((2^n:Nat):Int)=((if m<2^n then m+2^n else m-2^n:Nat):Int):=by
 have h1:2^(n+1)<=2^64:=Nat.pow_le_pow_right (by omega) (by omega)
 have h2:2^n<2^64:=Nat.pow_lt_pow_right (by omega) (by omega)
 have h3:2^(n+1)=2*2^n:=Nat.pow_succ'
 have key:(BitVec.ofInt 64 (m:Int) ^^^ BitVec.ofInt 64 ((2^n:Nat):Int)).toNat=if m<2^n then m+2^n else m-2^n:=by
  rw [BitVec.toNat_xor,HS (by omega),HS h2,aJv h]
 show IntKind.u64.wrap (((BitVec.ofInt 64 (m:Int) ^^^ BitVec.ofInt 64 ((2^n:Nat):Int)).toNat:Nat):Int)=_
 rw [key]
 refine Eg ⟨Int.natCast_nonneg _,?_⟩
 split <;> omega
def B2 (f:Int) (s:Bool) (n:Nat):Nat:=n+(bif s then 2^(fW f-1) else 0)
theorem xH {f:Int} (hf:Fm f):2^fW f=2*2^(fW f-1):=by
 have h2:=Ec hf
 rw [← Nat.pow_succ']; congr 1; omega
theorem WF {f:Int} (hf:Fm f) (s:Bool) {n:Nat} (hn:n<2^(fW f-1)):Aj f (B2 f s n)=0:=by
 apply SP hf
 rw [xH hf]
 unfold B2
 cases s <;> simp <;> omega
theorem Tx {f:Int} (s:Bool) {n:Nat} (hn:n<2^(fW f-1)):AT f (B2 f s n)=n:=by
 unfold AT B2
 cases s
 ·simp only [cond_false,Nat.add_zero]; exact Nat.mod_eq_of_lt hn
 ·simp only [cond_true,Nat.add_mod_right]; exact Nat.mod_eq_of_lt hn
theorem dN {f:Int} (s:Bool) {n:Nat} (hn:n<2^(fW f-1)):sF f (B2 f s n)=s:=by
 unfold sF B2
 rw [bH]
 cases s
 ·simp only [cond_false,Nat.add_zero,decide_eq_false_iff_not]; omega
 ·simp
theorem WQ {f:Int} {a:Nat} (h:Aj f a=0):a=B2 f (sF f a) (AT f a):=t6 h
theorem DJ {f:Int} {a:Nat} (h:Aj f a=0):a<2^64:=by
 obtain ⟨hf,h0⟩:=Ca h
 exact Nat.lt_of_lt_of_le h0 (Nat.pow_le_pow_right (by omega) (E4 hf))
theorem DX {f:Int} (hf:Fm f) (a:Nat):eF f a=AT f a/2^(fP f-1):=by
 rw [HE hf,Nat.add_mul_div_left _ _ (Nat.two_pow_pos _)]
 have:mF f a/2^(fP f-1)=0:=Nat.div_eq_of_lt (Nat.mod_lt _ (Nat.two_pow_pos _))
 omega
theorem Ez {f:Int} (hf:Fm f) (a:Nat):mF f a=AT f a%2^(fP f-1):=by
 rw [HE hf,Nat.add_mul_mod_self_left]
 exact (Nat.mod_eq_of_lt (Nat.mod_lt _ (Nat.two_pow_pos _))).symm
theorem aEp {f:Int} (hf:Fm f) {a b:Nat} (h:AT f a=AT f b):nan f a=nan f b:=by
 unfold nan; rw [DX hf,DX hf b,Ez hf,Ez hf b,h]
def AK (f:Int):Nat:=2^(fP f-1)*Av f
theorem rQ {f:Int} (hf:Fm f):AK f+128<=2^(fW f-1):=by
 rcases CH hf with rfl | rfl | rfl | rfl <;> decide
theorem bJ {f:Int} (a:Nat):eF f a<=Av f:=by
 have:eF f a<2^(fW f-fP f):=Nat.mod_lt _ (Nat.two_pow_pos _)
 unfold Av; omega
theorem rN {f:Int} (hf:Fm f) (a:Nat):AT f a=AK f↔eF f a=Av f/\mF f a=0:=by
 have hp:=Nat.two_pow_pos (fP f-1)
 constructor
 ·intro h
  rw [DX hf,Ez hf,h]
  unfold AK
  exact ⟨Nat.mul_div_cancel_left _ hp,Nat.mul_mod_right _ _⟩
 ·rintro ⟨h1,h2⟩
  rw [HE hf,h1,h2]
  unfold AK; omega
def Cc (f:Int) (a:Nat):Nat:=B2 f (!sF f a) (AT f a)
theorem MZ {f:Int} (hf:Fm f) (a:Nat):Aj f (Cc f a)=0:=WF hf _ (SE a)
theorem WI {f:Int} (a:Nat):AT f (Cc f a)=AT f a:=Tx _ (SE a)
theorem dV {f:Int} (a:Nat):sF f (Cc f a)=!sF f a:=dN _ (SE a)
theorem aA2 {f:Int} {a:Nat} (h:Aj f a=0):RY (f,(a:Int),())=some ((Cc f a:Int),0,()):=by
 obtain ⟨hf,h0⟩:=Ca h
 show YD Aw.pre Aw.F LR.pre LR.F f a=_
 unfold YD
 have h2:=Ec hf
 have h3:=E4 hf
 have p0:=IU f a (DJ h)
 have p1:=aAo hf
 simp only [HW p0,HN p0,aFr p1,aC2 p1,h,cond_true,bne_self_eq_false,cond_false]
 rw [aJu (by omega) (by rw [Nat.sub_add_cancel (by omega)]; exact h0)]
 have e:(if a<2^(fW f-1) then a+2^(fW f-1) else a-2^(fW f-1))=Cc f a:=by
  have hp:=WQ h
  have hl:=SE (f:=f) a
  unfold Cc
  unfold B2 at hp ⊢
  cases hs:sF f a <;> rw [hs] at hp <;> simp only [cond_true,cond_false,Bool.not_true,Bool.not_false] at hp ⊢
  ·rw [if_pos (by omega)]; omega
  ·rw [if_neg (by omega)]; omega
 rw [e]
end VL
namespace VL
open Go Vx
theorem tL {f:Int} (hf:Fm f) (a:Nat):nan f (Cc f a)=nan f a:=aEp hf (WI a)
end VL
namespace VL
open Go Vx
def nv (B:Nat):List Nat->Nat
 | []=>0
 | x::r=>x+B*nv B r
def Ai:List Nat->List Nat
 | []=>[]
 | x::r=>match Ai r with
  | []=>if x=0 then [] else [x]
  | y::t=>x::y::t
def dg (B:Nat) (n:Nat):List Nat :=
 if h:n=0∨B<2 then [] else n%B::dg B (n/B)
termination_by n
decreasing_by exact Nat.div_lt_self (by omega) (by omega)
theorem DD (B:Nat):dg B 0=[]:=by rw [dg]; simp
theorem E3 {B n:Nat} (hB:2<=B) (hn:0<n):dg B n=n%B::dg B (n/B):=by
 rw [dg]; rw [dif_neg (by omega)]
theorem Gx {B:Nat} (hB:2<=B):∀ (n:Nat),∀ x∈dg B n,x<B:=by
 intro n
 induction n using Nat.strongRecOn with
 | ind n ih =>
  intro x hx
  rcases Nat.eq_zero_or_pos n with rfl | hn
  ·rw [DD] at hx; simp at hx
  ·rw [E3 hB hn] at hx
   rcases List.mem_cons.1 hx with rfl | hx
   ·exact Nat.mod_lt _ (by omega)
   ·exact ih (n/B) (Nat.div_lt_self hn (by omega)) x hx
theorem WL {B:Nat} (hB:2<=B):∀ (n:Nat),nv B (dg B n)=n:=by
 intro n
 induction n using Nat.strongRecOn with
 | ind n ih =>
  rcases Nat.eq_zero_or_pos n with rfl | hn
  ·rw [DD]; rfl
  ·rw [E3 hB hn]
   simp only [nv]
   rw [ih (n/B) (Nat.div_lt_self hn (by omega))]
   exact Nat.mod_add_div n B
theorem oP {B x v:Nat} (hB:2<=B) (hx:x<B) (h:0<x+B*v):dg B (x+B*v)=x::dg B v:=by
 rw [E3 hB h,Nat.add_mul_mod_self_left,Nat.mod_eq_of_lt hx,Nat.add_mul_div_left _ _ (by omega),Nat.div_eq_of_lt hx,Nat.zero_add]
theorem FE {B:Nat} (hB:2<=B):∀ (l:List Nat),(∀ x∈l,x<B)->Ai l=dg B (nv B l)
 | [],_=>by simp only [nv]; rw [DD]; rfl
 | x::r,h=>by
  have ih:=FE hB r fun y hy=>h y (by simp [hy])
  simp only [Ai,nv]
  rcases Nat.eq_zero_or_pos (nv B r) with h0 | h0
  ·rw [ih,h0,DD,Nat.mul_zero,Nat.add_zero]
   simp only
   rcases Nat.eq_zero_or_pos x with rfl | hx
   ·rw [DD]; rfl
   ·rw [if_neg (by omega)]
    have:=oP (v:=0) hB (h x (by simp)) (by omega)
    rw [Nat.mul_zero,Nat.add_zero,DD] at this
    exact this.symm
  ·have hp:0<B*nv B r:=Nat.mul_pos (by omega) h0
   rw [oP hB (h x (by simp)) (by omega),ih]
   rw [E3 hB h0]
theorem Dv:∀ (l:List Nat),(Ai l).length<=l.length/\Ai l=l.take (Ai l).length
 | []=>⟨Nat.le_refl _,rfl⟩
 | x::r=>by
  obtain ⟨h1,h2⟩:=Dv r
  simp only [Ai]
  cases e:Ai r with
  | nil =>
   simp only
   split
   ·exact ⟨by simp,rfl⟩
   ·exact ⟨by simp,rfl⟩
  | cons y t =>
   rw [e] at h1 h2
   simp only
   refine ⟨by simp at h1 ⊢; omega,?_⟩
   simp only [List.length_cons,List.take_succ_cons]
   congr 1
theorem gP:∀ (l:List Nat) (i:Nat),(Ai l).length<=i->l.getD i 0=0
 | [],i,_=>by simp
 | x::r,i,h=>by
  have ih:=gP r
  simp only [Ai] at h
  cases e:Ai r with
  | nil =>
   rw [e] at h ih
   simp only at h
   cases i with
   | zero =>
    split at h
    ·rename_i hx; simp [hx]
    ·simp at h
   | succ i=>simpa using ih i (by simp)
  | cons y t =>
   rw [e] at h ih
   simp only at h
   cases i with
   | zero=>simp at h
   | succ i=>simpa using ih i (by simpa using h)
theorem T8:∀ (l:List Nat),0<(Ai l).length->l.getD ((Ai l).length-1) 0≠0
 | [],h=>by simp [Ai] at h
 | x::r,h=>by
  have ih:=T8 r
  simp only [Ai] at h ⊢
  cases e:Ai r with
  | nil =>
   rw [e] at h
   simp only at h ⊢
   split at h
   ·simp at h
   ·rename_i hx; rw [if_neg hx]; simpa using hx
  | cons y t =>
   rw [e] at ih
   simp only [List.length_cons] at ih ⊢
   have:=ih (by simp)
   simpa using this
def Wd (l:List Nat):List Int:=l.map fun n:Nat=>(n:Int)
theorem AC (l:List Nat):(Wd l).length=l.length:=by simp [Wd]
theorem Ci (l:List Nat) (i:Nat):(Wd l).getD i 0=((l.getD i 0:Nat):Int):=by
 unfold Wd
 rw [List.getD_eq_getElem?_getD,List.getD_eq_getElem?_getD,List.getElem?_map]
 cases l[i]? <;> simp
theorem Vg (l:List Nat) (n:Nat):(Wd l).take n=Wd (l.take n):=by simp [Wd,List.map_take]
theorem aBr (l:List Nat) (n:Nat):(Wd l).drop n=Wd (l.drop n):=by simp [Wd,List.map_drop]
theorem Ep (l:List Nat) (i n:Nat):(Wd l).set i (n:Int)=Wd (l.set i n):=by simp [Wd,List.map_set]
theorem Sj (n:Nat):List.replicate n (0:Int)=Wd (List.replicate n 0):=by simp [Wd]
end VL
namespace VL
open Go Vx
def Ws (l:List Nat):Prop:=(∀ x∈l,x<2^64)/\l.length<=1000000
theorem aBd (l:List Nat) (hl:l.length<=1000000) (n:Nat) (hn:n<=l.length) (ht:(Ai l).length<=n) :
  U4 ((Wd l,((n:Int),())),())=some (.inl ((Wd l,(((Ai l).length:Int),())),())):=by
 have key:=DH sI (fun x=>x.1.2.1.toNat)
  (fun x=>∃ n:Nat,n<=l.length/\(Ai l).length<=n/\x=((Wd l,((n:Int),())),()))
  (fun _=>.inl ((Wd l,(((Ai l).length:Int),())),())) ?_ ((Wd l,((n:Int),())),()) ⟨n,hn,ht,rfl⟩
 ·exact key
 intro L x hx hL
 obtain ⟨n,hn,ht,rfl⟩:=hx
 unfold PK
 rcases Nat.eq_zero_or_pos n with rfl | hpos
 ·have e1:decide (((0:Nat):Int)>0)=false:=rfl
  simp only [e1,Bool.not_false,Bool.or_true,cond_true,Bool.false_and,cond_false]
  have:(Ai l).length=0:=by omega
  rw [this]
 ·have e0:IntKind.wrap .i64 ((n:Int)-1)=((n-1:Nat):Int):=DN n 1 (by omega) (by omega)
  have e1:decide ((n:Int)>0)=true:=by simp; omega
  have e2:(decide ((0:Int)<=((n-1:Nat):Int))&&decide (((n-1:Nat):Int)<((Wd l).length:Int)))=true:=by
   rw [AC]; simp; omega
  simp only [e0,e1,e2,Bool.true_or,cond_true,Bool.true_and,Int.toNat_natCast,Ci,HQ]
  cases hz:(l.getD (n-1) 0==0) with
  | true =>
   simp only [cond_true]
   refine hL _ ⟨n-1,by omega,?_,rfl⟩ (by simp only [Int.toNat_natCast]; omega)
   rcases Nat.lt_or_ge (n-1) (Ai l).length with h | h
   ·exfalso
    have e:n=(Ai l).length:=by omega
    have:=T8 l (by omega)
    rw [← e] at this
    exact this (by simpa using hz)
   ·exact h
  | false =>
   simp only [cond_false]
   have:(Ai l).length=n:=by
    rcases Nat.lt_or_ge (n-1) (Ai l).length with h | h
    ·omega
    ·exfalso
     have:=gP l (n-1) h
     rw [this] at hz
     simp at hz
   rw [this]
theorem Dz (l:List Nat) (hl:l.length<=1000000):Ns (Wd l,())=some (Wd (Ai l),()):=by
 show XQ U4 (Wd l)=_
 unfold XQ
 have h:=aBd l hl l.length (Nat.le_refl _) (Dv l).1
 rw [AC]
 rw [h]
 have e:(decide ((0:Int)<=((Ai l).length:Int))&&decide (((Ai l).length:Int)<=((Wd l).length:Int)))=true:=by
  rw [AC]; have:=(Dv l).1; simp; omega
 show (bif (decide ((0:Int)<=((Ai l).length:Int))&&decide (((Ai l).length:Int)<=((Wd l).length:Int))) then some (List.drop (Int.toNat 0) (List.take (Int.toNat ((Ai l).length:Int)) (Wd l)),()) else none)=_
 rw [e,cond_true,Int.toNat_natCast,Int.toNat_zero,List.drop_zero,Vg]
 have:=(Dv l).2
 rw [← this]
def Ab (n:Nat):Nat:=if n=0 then 0 else Nat.log2 n+1
theorem Eq (n:Nat):n<2^Ab n:=by
 unfold Ab
 split
 ·subst_vars; decide
 ·exact Nat.lt_log2_self
theorem Gu {n:Nat} (h:n≠0):2^(Ab n-1)<=n:=by
 unfold Ab
 rw [if_neg h]
 exact Nat.log2_self_le h
theorem nV {n k:Nat} (h1:2^k<=n) (h2:n<2^(k+1)):Ab n=k+1:=by
 have hp:=Nat.two_pow_pos k
 have hn:n≠0:=by omega
 have a1:=Eq n
 have a2:=Gu hn
 have b1:Ab n-1<k+1:=(Nat.pow_lt_pow_iff_right (by decide)).1 (Nat.lt_of_le_of_lt a2 h2)
 have b2:k<Ab n:=(Nat.pow_lt_pow_iff_right (by decide)).1 (Nat.lt_of_le_of_lt h1 a1)
 omega
theorem VM {n k:Nat} (h:2^k<=n):Ab n=k+Ab (n/2^k):=by
 have hp:=Nat.two_pow_pos k
 have hq:0<n/2^k:=Nat.div_pos h hp
 have a1:=Eq (n/2^k)
 have a2:=Gu (n:=n/2^k) (by omega)
 have hb:0<Ab (n/2^k):=by unfold Ab; rw [if_neg (by omega)]; omega
 have h1:2^(k+(Ab (n/2^k)-1))<=n:=by
  rw [Nat.pow_add]
  calc 2^k*2^(Ab (n/2^k)-1)<=2^k*(n/2^k):=Nat.mul_le_mul_left _ a2
   _<=n:=Nat.mul_div_le n _
 have h2:n<2^(k+(Ab (n/2^k)-1)+1):=by
  rw [show k+(Ab (n/2^k)-1)+1=k+Ab (n/2^k) by omega,Nat.pow_add,Nat.mul_comm]
  exact (Nat.div_lt_iff_lt_mul hp).1 a1
 have:=nV h1 h2
 omega
theorem rX:∀ i:Nat,i<256->(GD.getD i 0).toNat=Ab i:=by
 have h:((List.range 256).all fun i=>decide ((GD.getD i 0).toNat=Ab i))=true:=by decide +kernel
 intro i hi
 have:=List.all_eq_true.1 h i (List.mem_range.2 hi)
 simpa using this
theorem jB (n:Nat) (hn:n<2^64):Rf ((n:Int),())=some ((Ab n:Int),()):=by
 have hs:∀ m k:Nat,k<=64->AN .u64 (m:Int) (k:Int)=((m/2^k:Nat):Int):=fun m k hk=>DK m k hk
 have N8:∀ m:Nat,AN .u64 (m:Int) 32=((m/2^32:Nat):Int):=fun m=>hs m 32 (by decide)
 have s16:∀ m:Nat,AN .u64 (m:Int) 16=((m/2^16:Nat):Int):=fun m=>hs m 16 (by decide)
 have s8:∀ m:Nat,AN .u64 (m:Int) 8=((m/2^8:Nat):Int):=fun m=>hs m 8 (by decide)
 have ge:∀ m k:Nat,decide ((m:Int)>=(k:Int))=decide (k<=m):=fun m k=>by rw [Bool.eq_iff_iff]; simp
 have g32:∀ m:Nat,decide ((m:Int)>=4294967296)=decide (2^32<=m):=fun m=>ge m (2^32)
 have g16:∀ m:Nat,decide ((m:Int)>=65536)=decide (2^16<=m):=fun m=>ge m (2^16)
 have g8:∀ m:Nat,decide ((m:Int)>=256)=decide (2^8<=m):=fun m=>ge m (2^8)
 have tab:∀ m:Nat,m<256->IntKind.wrap .u8 (m:Int)=(m:Int):=fun m hm=>IntWalk.u8_in _ (by omega)
 have look:∀ (m:Nat) (c:Int) (d:Nat),m<256->c=(d:Int)->d<=56->(bif (decide ((0:Int)<=IntKind.wrap .u8 (m:Int))&&decide (IntKind.wrap .u8 (m:Int)<(256:Int))) then (some (IntKind.wrap .i64 (c+IntKind.wrap .i64 ((UInt8.toNat (GD.getD (Int.toNat (IntKind.wrap .u8 (m:Int))) 0):Nat):Int)),()):Option (DenS Hb)) else none)=some (((d+Ab m:Nat):Int),()):=fun m c d hm hc hd=>by
  have e:(decide ((0:Int)<=(m:Int))&&decide ((m:Int)<(256:Int)))=true:=by simp; omega
  have hb:Ab m<=8:=by
   have:=rX m hm
   rcases Nat.eq_zero_or_pos m with rfl | hpos
   ·decide
   ·have:=Gu (n:=m) (by omega)
    have h8:Ab m-1<8:=(Nat.pow_lt_pow_iff_right (a:=2) (by decide)).1 (Nat.lt_of_le_of_lt this hm)
    omega
  rw [tab m hm,e,cond_true,Int.toNat_natCast,rX m hm,hc,Au (n:=((Ab m:Nat):Int)) (by omega),Au (by omega)]
  rfl
 show XU n=_
 unfold XU
 have Ck:∀ (k:Nat),2^k<=n->k+Ab (n/2^k)=Ab n:=fun k h=>(VM h).symm
 have dd:∀ a b:Nat,n/2^a/2^b=n/2^(a+b):=fun a b=>by rw [Nat.div_div_eq_div_mul,← Nat.pow_add]
 have up:∀ a b:Nat,2^b<=n/2^a->2^(a+b)<=n:=fun a b h=>by
  rw [Nat.pow_add,Nat.mul_comm]
  exact (Nat.le_div_iff_mul_le (Nat.two_pow_pos a)).1 h
 have down:∀ a b:Nat,n/2^a<2^b->n<2^(a+b):=fun a b h=>by
  rw [Nat.pow_add,Nat.mul_comm]
  exact (Nat.div_lt_iff_lt_mul (Nat.two_pow_pos a)).1 h
 have small:∀ a:Nat,n<2^(a+8)->n/2^a<256:=fun a h=>by
  rw [Nat.div_lt_iff_lt_mul (Nat.two_pow_pos a),Nat.mul_comm]
  rw [Nat.pow_add] at h; exact h
 simp only [N8,s16,s8,g32,g16,g8]
 by_cases h1:2^32<=n
 ·rw [decide_eq_true h1,cond_true]
  by_cases h2:2^16<=n/2^32
  ·rw [decide_eq_true h2,cond_true]
   by_cases h3:2^8<=n/2^32/2^16
   ·rw [decide_eq_true h3,cond_true]
    rw [dd 32 16] at h3
    have hm:n/2^32/2^16/2^8=n/2^56:=by rw [dd 32 16,dd 48 8]
    refine (look (n/2^32/2^16/2^8) _ 56 (by rw [hm]; exact small 56 hn) rfl (by decide)).trans ?_
    rw [hm,Ck 56 (up 48 8 h3)]
   ·rw [decide_eq_false h3,cond_false]
    rw [dd 32 16] at h3
    refine (look (n/2^32/2^16) _ 48 (by rw [dd 32 16]; exact small 48 (down 48 8 (by omega))) rfl (by decide)).trans ?_
    rw [dd 32 16,Ck 48 (up 32 16 h2)]
  ·rw [decide_eq_false h2,cond_false]
   by_cases h3:2^8<=n/2^32
   ·rw [decide_eq_true h3,cond_true]
    refine (look (n/2^32/2^8) _ 40 (by rw [dd 32 8]; exact small 40 (down 32 16 (by omega))) rfl (by decide)).trans ?_
    rw [dd 32 8,Ck 40 (up 32 8 h3)]
   ·rw [decide_eq_false h3,cond_false]
    refine (look (n/2^32) _ 32 (small 32 (down 32 8 (by omega))) rfl (by decide)).trans ?_
    rw [Ck 32 h1]
 ·rw [decide_eq_false h1,cond_false]
  by_cases h2:2^16<=n
  ·rw [decide_eq_true h2,cond_true]
   by_cases h3:2^8<=n/2^16
   ·rw [decide_eq_true h3,cond_true]
    refine (look (n/2^16/2^8) _ 24 (by rw [dd 16 8]; exact small 24 (by omega)) rfl (by decide)).trans ?_
    rw [dd 16 8,Ck 24 (up 16 8 h3)]
   ·rw [decide_eq_false h3,cond_false]
    refine (look (n/2^16) _ 16 (small 16 (down 16 8 (by omega))) rfl (by decide)).trans ?_
    rw [Ck 16 h2]
  ·rw [decide_eq_false h2,cond_false]
   by_cases h3:2^8<=n
   ·rw [decide_eq_true h3,cond_true]
    refine (look (n/2^8) _ 8 (small 8 (by omega)) rfl (by decide)).trans ?_
    rw [Ck 8 h3]
   ·rw [decide_eq_false h3,cond_false]
    refine (look n 0 0 (by omega) rfl (by decide)).trans ?_
    rw [Nat.zero_add]
end VL
namespace VL
open Go Vx
theorem N1 (B:Nat):∀ (l m:List Nat),nv B (l++m)=nv B l+B^l.length*nv B m
 | [],m=>by simp [nv]
 | x::r,m=>by
  simp only [List.cons_append,nv,List.length_cons]
  rw [N1 B r m,Nat.pow_succ,Nat.mul_add,Nat.add_assoc]
  congr 2
  rw [Nat.mul_comm (B^r.length) B,Nat.mul_assoc]
theorem Dr {B:Nat} (hB:2<=B):∀ (l:List Nat),(∀ x∈l,x<B)->nv B l<B^l.length
 | [],_=>by simp [nv]
 | x::r,h=>by
  have ih:=Dr hB r fun y hy=>h y (by simp [hy])
  have hx:=h x (by simp)
  simp only [nv,List.length_cons,Nat.pow_succ]
  have:B*nv B r<=B*(B^r.length-1):=Nat.mul_le_mul_left _ (by omega)
  have hp:0<B^r.length:=Nat.pow_pos (by omega)
  rw [Nat.mul_sub] at this
  have h1:B*1<=B*B^r.length:=Nat.mul_le_mul_left _ hp
  rw [Nat.mul_comm (B^r.length) B]
  omega
theorem JJ (B:Nat) (l:List Nat) (i:Nat) (h:i<=l.length):nv B l=nv B (l.take i)+B^i*nv B (l.drop i):=by
 conv=>lhs; rw [← List.take_append_drop i l]
 rw [N1]
 simp [h]
theorem HR {B:Nat} (hB:2<=B) {l:List Nat} (h:∀ x∈l,x<B):nv B (Ai l)=nv B l:=by
 rw [FE hB l h,WL hB]
theorem Ob {l:List Nat} {x:Nat} (h:x∈Ai l):x∈l:=by
 rw [(Dv l).2] at h
 exact List.mem_of_mem_take h
theorem xE {l:List Nat} {i:Nat} (h:i<(Ai l).length):(Ai l)[i]? = l[i]?:=by
 have:(Ai l)[i]? = (l.take (Ai l).length)[i]?:=congrArg (fun t:List Nat=>t[i]?) (Dv l).2
 rw [this,List.getElem?_take_of_lt h]
theorem nX {a b k:Nat} (ha:a<2^k) (hb:0<b):Ab (a+2^k*b)=k+Ab b:=by
 have hp:=Nat.two_pow_pos k
 have h1:2^k*1<=2^k*b:=Nat.mul_le_mul_left _ hb
 rw [VM (n:=a+2^k*b) (k:=k) (by omega),Nat.add_mul_div_left _ _ hp,Nat.div_eq_of_lt ha,Nat.zero_add]
theorem CB (i:Nat):(2^64)^i=2^(64*i):=by rw [← Nat.pow_mul]
theorem nW {l:List Nat} (h:∀ x∈l,x<2^64) (hl:0<(Ai l).length):Ab (nv (2^64) l)=64*((Ai l).length-1)+Ab (l.getD ((Ai l).length-1) 0):=by
 have hlast:=T8 l hl
 have hle:=(Dv l).1
 rw [← HR (by decide) h]
 have hm:∀ x∈Ai l,x<2^64:=fun x hx=>h x (Ob hx)
 rw [JJ _ (Ai l) ((Ai l).length-1) (by omega),CB]
 have hd:(Ai l).drop ((Ai l).length-1)=[l.getD ((Ai l).length-1) 0]:=by
  have hlt:(Ai l).length-1<(Ai l).length:=by omega
  rw [List.drop_eq_getElem_cons hlt]
  have e1:(Ai l).length-1+1=(Ai l).length:=by omega
  rw [e1,List.drop_length]
  congr 1
  have:(Ai l)[(Ai l).length-1]? = l[(Ai l).length-1]?:=xE hlt
  rw [List.getElem?_eq_getElem hlt] at this
  rw [List.getD_eq_getElem?_getD,← this]
  rfl
 rw [hd]
 have hlow:=Dr (B:=2^64) (by decide) ((Ai l).take ((Ai l).length-1)) fun x hx=>hm x (List.mem_of_mem_take hx)
 rw [List.length_take,Nat.min_eq_left (by omega),CB] at hlow
 have:nv (2^64) [l.getD ((Ai l).length-1) 0]=l.getD ((Ai l).length-1) 0:=by simp [nv]
 rw [this]
 exact nX hlow (by omega)
theorem xF {l:List Nat} (h:∀ x∈l,x<2^64) (h0:(Ai l).length=0):nv (2^64) l=0:=by
 have:Ai l=[]:=List.eq_nil_of_length_eq_zero h0
 rw [← HR (by decide) h,this]; rfl
theorem Cs {l:List Nat} {B:Nat} (hB:0<B) (h:∀ x∈l,x<B) (i:Nat):l.getD i 0<B:=by
 rw [List.getD_eq_getElem?_getD]
 cases e:l[i]? with
 | none=>exact hB
 | some x=>exact h x (List.mem_of_getElem? e)
theorem aAz (l:List Nat) (hl:Ws l):OH (Wd l,())=some ((Ab (nv (2^64) l):Int),()):=by
 obtain ⟨h,hlen⟩:=hl
 show XM Ah.pre Ah.F EU.pre EU.F (Wd l)=_
 unfold XM
 have p0:=Dz l hlen
 have hle:=(Dv l).1
 simp only [CS p0,CQ p0,cond_true,AC]
 rcases Nat.eq_zero_or_pos (Ai l).length with h0 | h0
 ·rw [h0,xF h h0]; rfl
 ·have e0:(((Ai l).length:Int)==0)=false:=by rw [HQ]; exact beq_false_of_ne (by omega)
  have e1:IntKind.wrap .i64 (((Ai l).length:Int)-1)=(((Ai l).length-1:Nat):Int):=DN (Ai l).length 1 (by omega) (by omega)
  have e2:(decide ((0:Int)<=(((Ai l).length-1:Nat):Int))&&decide ((((Ai l).length-1:Nat):Int)<((Ai l).length:Int)))=true:=by simp only [Bool.and_eq_true,decide_eq_true_eq]; omega
  have e3:(Wd (Ai l)).getD ((Ai l).length-1) 0=((l.getD ((Ai l).length-1) 0:Nat):Int):=by
   rw [Ci]
   congr 1
   rw [List.getD_eq_getElem?_getD,List.getD_eq_getElem?_getD]
   rw [xE (by omega)]
  have hd:=Cs (by decide) h ((Ai l).length-1)
  have p1:=jB _ hd
  have hb:Ab (l.getD ((Ai l).length-1) 0)<=64:=by
   rcases Nat.eq_zero_or_pos (l.getD ((Ai l).length-1) 0) with z | z
   ·rw [z]; decide
   ·have:=Gu (n:=l.getD ((Ai l).length-1) 0) (by omega)
    have:Ab (l.getD ((Ai l).length-1) 0)-1<64:=(Nat.pow_lt_pow_iff_right (a:=2) (by decide)).1 (Nat.lt_of_le_of_lt this hd)
    omega
  rw [e0,e1,e2,cond_false,cond_true,Int.toNat_natCast,e3]
  simp only [uJ p1,qO p1,cond_true]
  rw [nW h h0,Au (n:=64*(((Ai l).length-1:Nat):Int)) (by omega),Au (by omega)]
  congr 2
end VL
namespace VL
open Go Vx
theorem YT (x:Nat):IntKind.wrap .u64 (x:Int)=((x%2^64:Nat):Int):=by
 simp [IntKind.wrap,IntKind.bits,IntKind.signed]
 try omega
theorem GI (x n:Nat) (hn:n<=64):Bp .u64 (x:Int) (n:Int)=((x*2^n%2^64:Nat):Int):=by
 have hm:(min (n:Int).toNat IntKind.u64.bits)=n:=by simp [IntKind.bits]; omega
 unfold Bp
 rw [hm]
 have e:(x:Int)*2^n=((x*2^n:Nat):Int):=by simp
 rw [e]
 exact YT _
theorem JM {a b k:Nat} (ha:a<2^k) (h:a+b*2^k<2^64):Bz .u64 (a:Int) ((b*2^k:Nat):Int)=((a+b*2^k:Nat):Int):=by
 have key:(BitVec.ofInt 64 (a:Int) ||| BitVec.ofInt 64 ((b*2^k:Nat):Int)).toNat=a+b*2^k:=by
  rw [BitVec.toNat_or,HS (by omega),HS (by omega),Nat.mul_comm b,Nat.or_comm,← Nat.two_pow_add_eq_or_of_lt ha]
  omega
 show IntKind.u64.wrap (((BitVec.ofInt 64 (a:Int) ||| BitVec.ofInt 64 ((b*2^k:Nat):Int)).toNat:Nat):Int)=_
 rw [key]
 exact Eg (by omega)
def A1 (s:Nat):List Nat->List Nat
 | []=>[]
 | x::r=>(x/2^s+(r.getD 0 0%2^s)*2^(64-s))::A1 s r
theorem JW (s:Nat):∀ l,(A1 s l).length=l.length
 | []=>rfl
 | _::r=>by simp [A1,JW s r]
theorem TW (s:Nat):∀ (l:List Nat) (i:Nat),i<l.length->(A1 s l)[i]? = some (l.getD i 0/2^s+(l.getD (i+1) 0%2^s)*2^(64-s))
 | [],i,h=>by simp at h
 | x::r,0,_=>by simp [A1]
 | x::r,i+1,h=>by
  simp only [A1,List.getElem?_cons_succ]
  rw [TW s r i (by simpa using h)]
  simp
theorem Qn {s:Nat} (hs:s<=64):2^64=2^s*2^(64-s):=by rw [← Nat.pow_add]; congr 1; omega
theorem Xi {s:Nat} (hs:s<=64) {x y:Nat} (hx:x<2^64):x/2^s<2^(64-s)/\x/2^s+(y%2^s)*2^(64-s)<2^64:=by
 have hp:=Nat.two_pow_pos s
 have h1:x/2^s<2^(64-s):=by
  rw [Nat.div_lt_iff_lt_mul hp,Nat.mul_comm,← Qn hs]; exact hx
 refine ⟨h1,?_⟩
 have h2:y%2^s+1<=2^s:=Nat.mod_lt _ hp
 have h3:=Nat.mul_le_mul_right (2^(64-s)) h2
 rw [← Qn hs,Nat.add_mul,Nat.one_mul] at h3
 omega
theorem aEz {B:Nat} {s:Nat} (hB:B%2^s=0):∀ l:List Nat,nv B l%2^s=l.getD 0 0%2^s
 | []=>by simp [nv]
 | x::r=>by
  simp only [nv,List.getD_cons_zero]
  obtain ⟨c,hc⟩:=Nat.dvd_of_mod_eq_zero hB
  rw [hc,Nat.mul_assoc,Nat.add_mul_mod_self_left]
theorem eD {s:Nat} (hs:s<=64):∀ l:List Nat,nv (2^64) (A1 s l)=nv (2^64) l/2^s
 | []=>by simp [A1,nv]
 | x::r=>by
  have ih:=eD hs r
  simp only [A1,nv]
  rw [ih]
  have hp:=Nat.two_pow_pos s
  have hm:=aEz (B:=2^64) (s:=s) (by rw [Qn hs]; exact Nat.mul_mod_right _ _) r
  rw [← hm]
  have hN:nv (2^64) r=2^s*(nv (2^64) r/2^s)+nv (2^64) r%2^s:=(Nat.div_add_mod _ _).symm
  generalize nv (2^64) r/2^s=q at *
  generalize nv (2^64) r%2^s=t at *
  rw [hN]
  have e:x+2^64*(2^s*q+t)=x+2^s*(2^64*q+2^(64-s)*t):=by
   rw [Nat.mul_add,Nat.mul_add]
   have e1:2^64*(2^s*q)=2^s*(2^64*q):=by rw [← Nat.mul_assoc,← Nat.mul_assoc,Nat.mul_comm (2^64) (2^s)]
   have e2:2^64*t=2^s*(2^(64-s)*t):=by rw [← Nat.mul_assoc,← Qn hs]
   rw [e1,e2]
  rw [e,Nat.add_mul_div_left _ _ hp,Nat.mul_comm t]
  omega
end VL
namespace VL
open Go Vx
theorem v8 {O:List Nat} {i v:Nat} (hi:i<O.length) (hv:O[i]? = some v):(O.take i++List.replicate (O.length-i) 0).set i v=O.take (i+1)++List.replicate (O.length-(i+1)) 0:=by
 have e:O.length-i=(O.length-(i+1))+1:=by omega
 have hl:(O.take i).length=i:=by simp; omega
 rw [e,List.replicate_succ,List.set_append_right _ _ (by omega),hl,Nat.sub_self,List.set_cons_zero]
 rw [List.take_succ,hv]
 simp
theorem rB {l:List Nat} {i v:Nat} (hi:i<l.length):(l.set i v).getD i 0=v:=by
 rw [List.getD_eq_getElem?_getD,List.getElem?_set_self hi]; rfl
theorem V2 (l:List Nat) (w i:Nat):(l.drop w).getD i 0=l.getD (w+i) 0:=by
 rw [List.getD_eq_getElem?_getD,List.getD_eq_getElem?_getD,List.getElem?_drop]
theorem W9 (n:Nat) (hn:n<=1000000000):Cm .i64 (n:Int) 64=((n/64:Nat):Int):=by
 unfold Cm
 have e:(n:Int).tdiv 64=((n/64:Nat):Int):=rfl
 rw [e,Au (by omega)]
theorem aA7 (l:List Nat) (hl:l.length<=1000000) (n:Nat) (hn:n<=l.length) (ht:(Ai l).length<=n) :
  U1 (((),((n:Int),())),(Wd l,()))=some (.inl (((),(((Ai l).length:Int),())),(Wd l,()))):=by
 have key:=DH sB (fun x=>x.1.2.1.toNat)
  (fun x=>∃ n:Nat,n<=l.length/\(Ai l).length<=n/\x=(((),((n:Int),())),(Wd l,())))
  (fun _=>.inl (((),(((Ai l).length:Int),())),(Wd l,()))) ?_ (((),((n:Int),())),(Wd l,())) ⟨n,hn,ht,rfl⟩
 ·exact key
 intro L x hx hL
 obtain ⟨n,hn,ht,rfl⟩:=hx
 unfold PE
 rcases Nat.eq_zero_or_pos n with rfl | hpos
 ·have e1:decide (((0:Nat):Int)>0)=false:=rfl
  simp only [e1,Bool.not_false,Bool.or_true,cond_true,Bool.false_and,cond_false]
  have:(Ai l).length=0:=by omega
  rw [this]
 ·have e0:IntKind.wrap .i64 ((n:Int)-1)=((n-1:Nat):Int):=DN n 1 (by omega) (by omega)
  have e1:decide ((n:Int)>0)=true:=by simp; omega
  have e2:(decide ((0:Int)<=((n-1:Nat):Int))&&decide (((n-1:Nat):Int)<((Wd l).length:Int)))=true:=by
   rw [AC]; simp; omega
  simp only [e0,e1,e2,Bool.true_or,cond_true,Bool.true_and,Int.toNat_natCast,Ci,HQ]
  cases hz:(l.getD (n-1) 0==0) with
  | true =>
   simp only [cond_true]
   refine hL _ ⟨n-1,by omega,?_,rfl⟩ (by simp only [Int.toNat_natCast]; omega)
   rcases Nat.lt_or_ge (n-1) (Ai l).length with h | h
   ·exfalso
    have e:n=(Ai l).length:=by omega
    have:=T8 l (by omega)
    rw [← e] at this
    exact this (by simpa using hz)
   ·exact h
  | false =>
   simp only [cond_false]
   have:(Ai l).length=n:=by
    rcases Nat.lt_or_ge (n-1) (Ai l).length with h | h
    ·omega
    ·exfalso
     have:=gP l (n-1) h
     rw [this] at hz
     simp at hz
   rw [this]
theorem iV (l:List Nat) (hl:l.length<=1000000):QY (Wd l,())=some (Wd (Ai l),()):=by
 show Xu U1 (Wd l)=_
 unfold Xu
 have h:=aA7 l hl l.length (Nat.le_refl _) (Dv l).1
 rw [AC]
 rw [h]
 have e:(decide ((0:Int)<=((Ai l).length:Int))&&decide (((Ai l).length:Int)<=((Wd l).length:Int)))=true:=by
  rw [AC]; have:=(Dv l).1; simp; omega
 show (bif (decide ((0:Int)<=((Ai l).length:Int))&&decide (((Ai l).length:Int)<=((Wd l).length:Int))) then some (List.take (Int.toNat ((Ai l).length:Int)) (Wd l),()) else none)=_
 rw [e,cond_true,Int.toNat_natCast,Vg]
 have:=(Dv l).2
 rw [← this]
theorem aBc (a:List Nat) (ha:∀ x∈a,x<2^64) (hlen:a.length<=1000000) (w s:Nat) (hs:s<64) (hw:w<=a.length) (i:Nat) (hi:i<=(a.drop w).length) :
  U3 ((((a.drop w).length:Int),(Wd a,((w:Int),((s:Int),((i:Int),((),())))))),(Wd ((A1 s (a.drop w)).take i++List.replicate ((A1 s (a.drop w)).length-i) 0),()))=some (.inl (((),()),(Wd (A1 s (a.drop w)),()))):=by
 have key:=DH (sH Ah.pre Ah.F) (fun x=>(a.drop w).length-x.1.2.2.2.2.1.toNat)
  (fun x=>∃ i:Nat,i<=(a.drop w).length/\x=((((a.drop w).length:Int),(Wd a,((w:Int),((s:Int),((i:Int),((),())))))),(Wd ((A1 s (a.drop w)).take i++List.replicate ((A1 s (a.drop w)).length-i) 0),())))
  (fun _=>.inl (((),()),(Wd (A1 s (a.drop w)),()))) ?_ _ ⟨i,hi,rfl⟩
 ·exact key
 intro L x hx hL
 obtain ⟨i,hi,rfl⟩:=hx
 unfold PJ
 have hdl:(a.drop w).length=a.length-w:=by simp
 have hol:=JW s (a.drop w)
 rcases Nat.lt_or_ge i (a.drop w).length with hlt | hge
 ·have e1:decide ((i:Int)<((a.drop w).length:Int))=true:=by simp; omega
  have e2:IntKind.wrap .i64 ((w:Int)+(i:Int))=((w+i:Nat):Int):=by rw [Au (by omega)]; omega
  have e3:(decide ((0:Int)<=((w+i:Nat):Int))&&decide (((w+i:Nat):Int)<((Wd a).length:Int)))=true:=by
   rw [AC]; simp only [Bool.and_eq_true,decide_eq_true_eq]; omega
  have e4:decide ((0:Int)<=(s:Int))=true:=by simp
  have houtl:((A1 s (a.drop w)).take i++List.replicate ((A1 s (a.drop w)).length-i) 0).length=(a.drop w).length:=by simp; omega
  generalize hout:(A1 s (a.drop w)).take i++List.replicate ((A1 s (a.drop w)).length-i) 0=out at houtl ⊢
  have e5:(decide ((0:Int)<=(i:Int))&&decide ((i:Int)<((Wd out).length:Int)))=true:=by
   rw [AC]; simp only [Bool.and_eq_true,decide_eq_true_eq]; omega
  have e6:IntKind.wrap .i64 (((w+i:Nat):Int)+1)=((w+i+1:Nat):Int):=by rw [Au (by omega)]; omega
  have e7:IntKind.wrap .i64 ((i:Int)+1)=((i+1:Nat):Int):=by rw [Au (by omega)]; omega
  have e8:IntKind.wrap .i64 (64-(s:Int))=((64-s:Nat):Int):=DN 64 s (by omega) (by omega)
  have hx:=Cs (by decide) ha (w+i)
  have hget:=TW s (a.drop w) i hlt
  rw [V2,V2,← Nat.add_assoc] at hget
  have hnext:=fun v (hv:(A1 s (a.drop w))[i]? = some v)=>v8 (by omega) hv
  rw [hout] at hnext
  have e9:∀ v:Nat,(decide ((0:Int)<=(i:Int))&&decide ((i:Int)<((Wd (out.set i v)).length:Int)))=true:=fun v=>by
   rw [AC,List.length_set]; simp only [Bool.and_eq_true,decide_eq_true_eq]; omega
  simp only [e1,e2,e3,e4,e5,e6,e7,e8,cond_true,Int.toNat_natCast,Ci,DK _ s (by omega),Ep,e9]
  rcases Nat.lt_or_ge (w+i+1) a.length with h1 | h1
  ·have f1:decide (((w+i+1:Nat):Int)<((Wd a).length:Int))=true:=by rw [AC]; exact decide_eq_true (by omega)
   have f2:decide ((0:Int)<=((w+i+1:Nat):Int))=true:=decide_eq_true (by omega)
   have f3:decide ((0:Int)<=((64-s:Nat):Int))=true:=decide_eq_true (by omega)
   simp only [f1,f2,f3,Bool.and_self,cond_true]
   have hw2:=Xi (s:=s) (y:=a.getD (w+i+1) 0) (by omega) hx
   have g1:a.getD (w+i+1) 0*2^(64-s)%2^64=(a.getD (w+i+1) 0%2^s)*2^(64-s):=by
    rw [Qn (s:=s) (by omega),Nat.mul_mod_mul_right]
   rw [rB (by omega),GI _ _ (by omega),g1,JM hw2.1 hw2.2,Ep,List.set_set,hnext _ hget]
   exact hL _ ⟨i+1,by omega,rfl⟩ (by simp only [Int.toNat_natCast]; omega)
  ·have f1:decide (((w+i+1:Nat):Int)<((Wd a).length:Int))=false:=by rw [AC]; exact decide_eq_false (by omega)
   have hz:a.getD (w+i+1) 0=0:=by rw [List.getD_eq_getElem?_getD,List.getElem?_eq_none h1]; rfl
   rw [hz,Nat.zero_mod,Nat.zero_mul,Nat.add_zero] at hget
   simp only [f1,cond_false]
   rw [hnext _ hget]
   exact hL _ ⟨i+1,by omega,rfl⟩ (by simp only [Int.toNat_natCast]; omega)
 ·have hie:i=(a.drop w).length:=by omega
  subst hie
  have e1:decide (((a.drop w).length:Int)<((a.drop w).length:Int))=false:=by simp
  simp only [e1,cond_false]
  have:(A1 s (a.drop w)).take (a.drop w).length++List.replicate ((A1 s (a.drop w)).length-(a.drop w).length) 0=A1 s (a.drop w):=by
   rw [← hol,List.take_length,Nat.sub_self,List.replicate_zero,List.append_nil]
  rw [this]
theorem i6 (l:List Nat) (hl:Ws l) (n:Nat) (hn:n<=100000000):OI (Wd l,(n:Int),())=some (Wd (dg (2^64) (nv (2^64) l/2^n)),()):=by
 obtain ⟨h,hlen⟩:=hl
 show XP Ah.pre Ah.F U3 (Wd l) n=_
 unfold XP
 have p0:=Dz l hlen
 have hB:2<=2^64:=by decide
 have hle:=(Dv l).1
 have hm:∀ x∈Ai l,x<2^64:=fun x hx=>h x (Ob hx)
 have hv:=HR hB h
 have hsplit:2^n=(2^64)^(n/64)*2^(n%64):=by rw [CB,← Nat.pow_add]; congr 1; omega
 simp only [CS p0,CQ p0,cond_true,AC,W9 n (by omega)]
 rcases Nat.lt_or_ge (n/64) (Ai l).length with h1 | h1
 ·have e1:decide (((n/64:Nat):Int)>=((Ai l).length:Int))=false:=by simp; omega
  have e2:IntKind.wrap .i64 (((Ai l).length:Int)-((n/64:Nat):Int))=(((Ai l).drop (n/64)).length:Int):=by
   rw [DN _ _ (by omega) (by omega)]; simp
  have hdl:((Ai l).drop (n/64)).length<=1000000:=by simp; omega
  have e3:(decide ((0:Int)<=(((Ai l).drop (n/64)).length:Int))&&decide ((((Ai l).drop (n/64)).length:Int)*8<=140737488355328))=true:=by
   simp only [Bool.and_eq_true,decide_eq_true_eq]; omega
  have e4:Int.tmod (n:Int) 64=((n%64:Nat):Int):=rfl
  have hw:=aBc (Ai l) hm (by omega) (n/64) (n%64) (Nat.mod_lt _ (by decide)) (by omega) 0 (Nat.zero_le _)
  rw [List.take_zero,List.nil_append,Nat.sub_zero,JW] at hw
  rw [e1,e2,e3,cond_false,cond_true,Int.toNat_natCast,e4,Sj,AC,List.length_replicate]
  rw [show ((0:Nat):Int)=0 from rfl] at hw
  rw [hw]
  have hos:∀ x∈A1 (n%64) ((Ai l).drop (n/64)),x<2^64:=fun x hx=>by
   obtain ⟨i,hi⟩:=List.getElem?_of_mem hx
   have hil:i<((Ai l).drop (n/64)).length:=by rw [← JW (n%64)]; exact (List.getElem?_eq_some_iff.1 hi).1
   rw [TW _ _ i hil] at hi
   cases hi
   exact (Xi (s:=n%64) (by omega) (Cs (by decide) (fun y hy=>hm y (List.mem_of_mem_drop hy)) i)).2
  have p1:=Dz (A1 (n%64) ((Ai l).drop (n/64))) (by rw [JW]; exact hdl)
  show (bif Ah.pre (Wd (A1 (n%64) ((Ai l).drop (n/64))),()) then some (Ah.F (Wd (A1 (n%64) ((Ai l).drop (n/64))),())) else none)=_
  rw [CS p1,CQ p1,cond_true,FE hB _ hos,eD (by omega)]
  have hd:nv (2^64) ((Ai l).drop (n/64))=nv (2^64) l/(2^64)^(n/64):=by
   rw [← hv,JJ _ (Ai l) (n/64) (by omega)]
   have hlow:=Dr hB ((Ai l).take (n/64)) fun x hx=>hm x (List.mem_of_mem_take hx)
   rw [List.length_take,Nat.min_eq_left (by omega)] at hlow
   rw [Nat.add_mul_div_left _ _ (Nat.pow_pos (by decide)),Nat.div_eq_of_lt hlow,Nat.zero_add]
  rw [hd,Nat.div_div_eq_div_mul,← hsplit]
  rfl
 ·have e1:decide (((n/64:Nat):Int)>=((Ai l).length:Int))=true:=by simp; omega
  rw [e1,cond_true]
  have hz:nv (2^64) l/2^n=0:=by
   rw [← hv]
   have:=Dr hB (Ai l) hm
   apply Nat.div_eq_of_lt
   refine Nat.lt_of_lt_of_le this ?_
   rw [CB]
   exact Nat.pow_le_pow_right (by decide) (by omega)
  rw [hz,DD]; rfl
theorem aA6 (a:List Nat) (ha:∀ x∈a,x<2^64) (hlen:a.length<=1000000) (w s:Nat) (hs:s<64) (hw:w<=a.length) (i:Nat) (hi:i<=(a.drop w).length) :
  U0 ((((a.drop w).length:Int),(Wd a,((w:Int),((s:Int),((i:Int),((),())))))),(Wd ((A1 s (a.drop w)).take i++List.replicate ((A1 s (a.drop w)).length-i) 0),()))=some (.inl (((),()),(Wd (A1 s (a.drop w)),()))):=by
 have key:=DH (sA Bw.pre Bw.F Ah.pre Ah.F) (fun x=>(a.drop w).length-x.1.2.2.2.2.1.toNat)
  (fun x=>∃ i:Nat,i<=(a.drop w).length/\x=((((a.drop w).length:Int),(Wd a,((w:Int),((s:Int),((i:Int),((),())))))),(Wd ((A1 s (a.drop w)).take i++List.replicate ((A1 s (a.drop w)).length-i) 0),())))
  (fun _=>.inl (((),()),(Wd (A1 s (a.drop w)),()))) ?_ _ ⟨i,hi,rfl⟩
 ·exact key
 intro L x hx hL
 obtain ⟨i,hi,rfl⟩:=hx
 unfold PD
 have hdl:(a.drop w).length=a.length-w:=by simp
 have hol:=JW s (a.drop w)
 rcases Nat.lt_or_ge i (a.drop w).length with hlt | hge
 ·have e1:decide ((i:Int)<((a.drop w).length:Int))=true:=by simp; omega
  have e2:IntKind.wrap .i64 ((w:Int)+(i:Int))=((w+i:Nat):Int):=by rw [Au (by omega)]; omega
  have e3:(decide ((0:Int)<=((w+i:Nat):Int))&&decide (((w+i:Nat):Int)<((Wd a).length:Int)))=true:=by
   rw [AC]; simp only [Bool.and_eq_true,decide_eq_true_eq]; omega
  have e4:decide ((0:Int)<=(s:Int))=true:=by simp
  have houtl:((A1 s (a.drop w)).take i++List.replicate ((A1 s (a.drop w)).length-i) 0).length=(a.drop w).length:=by simp; omega
  generalize hout:(A1 s (a.drop w)).take i++List.replicate ((A1 s (a.drop w)).length-i) 0=out at houtl ⊢
  have e5:(decide ((0:Int)<=(i:Int))&&decide ((i:Int)<((Wd out).length:Int)))=true:=by
   rw [AC]; simp only [Bool.and_eq_true,decide_eq_true_eq]; omega
  have e6:IntKind.wrap .i64 (((w+i:Nat):Int)+1)=((w+i+1:Nat):Int):=by rw [Au (by omega)]; omega
  have e7:IntKind.wrap .i64 ((i:Int)+1)=((i+1:Nat):Int):=by rw [Au (by omega)]; omega
  have e8:IntKind.wrap .i64 (64-(s:Int))=((64-s:Nat):Int):=DN 64 s (by omega) (by omega)
  have hx:=Cs (by decide) ha (w+i)
  have hget:=TW s (a.drop w) i hlt
  rw [V2,V2,← Nat.add_assoc] at hget
  have hnext:=fun v (hv:(A1 s (a.drop w))[i]? = some v)=>v8 (by omega) hv
  rw [hout] at hnext
  have e9:∀ v:Nat,(decide ((0:Int)<=(i:Int))&&decide ((i:Int)<((Wd (out.set i v)).length:Int)))=true:=fun v=>by
   rw [AC,List.length_set]; simp only [Bool.and_eq_true,decide_eq_true_eq]; omega
  simp only [e1,e2,e3,e4,e5,e6,e7,e8,cond_true,Int.toNat_natCast,Ci,DK _ s (by omega),Ep,e9]
  rcases Nat.lt_or_ge (w+i+1) a.length with h1 | h1
  ·have f1:decide (((w+i+1:Nat):Int)<((Wd a).length:Int))=true:=by rw [AC]; exact decide_eq_true (by omega)
   have f2:decide ((0:Int)<=((w+i+1:Nat):Int))=true:=decide_eq_true (by omega)
   have f3:decide ((0:Int)<=((64-s:Nat):Int))=true:=decide_eq_true (by omega)
   simp only [f1,f2,f3,Bool.and_self,cond_true]
   have hw2:=Xi (s:=s) (y:=a.getD (w+i+1) 0) (by omega) hx
   have g1:a.getD (w+i+1) 0*2^(64-s)%2^64=(a.getD (w+i+1) 0%2^s)*2^(64-s):=by
    rw [Qn (s:=s) (by omega),Nat.mul_mod_mul_right]
   rw [rB (by omega),GI _ _ (by omega),g1,JM hw2.1 hw2.2,Ep,List.set_set,hnext _ hget]
   exact hL _ ⟨i+1,by omega,rfl⟩ (by simp only [Int.toNat_natCast]; omega)
  ·have f1:decide (((w+i+1:Nat):Int)<((Wd a).length:Int))=false:=by rw [AC]; exact decide_eq_false (by omega)
   have hz:a.getD (w+i+1) 0=0:=by rw [List.getD_eq_getElem?_getD,List.getElem?_eq_none h1]; rfl
   rw [hz,Nat.zero_mod,Nat.zero_mul,Nat.add_zero] at hget
   simp only [f1,cond_false]
   rw [hnext _ hget]
   exact hL _ ⟨i+1,by omega,rfl⟩ (by simp only [Int.toNat_natCast]; omega)
 ·have hie:i=(a.drop w).length:=by omega
  subst hie
  have e1:decide (((a.drop w).length:Int)<((a.drop w).length:Int))=false:=by simp
  simp only [e1,cond_false]
  have:(A1 s (a.drop w)).take (a.drop w).length++List.replicate ((A1 s (a.drop w)).length-(a.drop w).length) 0=A1 s (a.drop w):=by
   rw [← hol,List.take_length,Nat.sub_self,List.replicate_zero,List.append_nil]
  rw [this]
theorem aAp (l:List Nat) (hl:Ws l) (n:Nat) (hn:n<=100000000):QX (Wd l,(n:Int),())=some (Wd (dg (2^64) (nv (2^64) l/2^n)),()):=by
 obtain ⟨h,hlen⟩:=hl
 show Xt Bw.pre Bw.F Ah.pre Ah.F U0 (Wd l) n=_
 unfold Xt
 have p0:=Dz l hlen
 have hB:2<=2^64:=by decide
 have hle:=(Dv l).1
 have hm:∀ x∈Ai l,x<2^64:=fun x hx=>h x (Ob hx)
 have hv:=HR hB h
 have hsplit:2^n=(2^64)^(n/64)*2^(n%64):=by rw [CB,← Nat.pow_add]; congr 1; omega
 simp only [CS p0,CQ p0,cond_true,AC,W9 n (by omega)]
 rcases Nat.lt_or_ge (n/64) (Ai l).length with h1 | h1
 ·have e1:decide (((n/64:Nat):Int)>=((Ai l).length:Int))=false:=by simp; omega
  have e2:IntKind.wrap .i64 (((Ai l).length:Int)-((n/64:Nat):Int))=(((Ai l).drop (n/64)).length:Int):=by
   rw [DN _ _ (by omega) (by omega)]; simp
  have hdl:((Ai l).drop (n/64)).length<=1000000:=by simp; omega
  have e3:(decide ((0:Int)<=(((Ai l).drop (n/64)).length:Int))&&decide ((((Ai l).drop (n/64)).length:Int)*8<=140737488355328))=true:=by
   simp only [Bool.and_eq_true,decide_eq_true_eq]; omega
  have e4:Int.tmod (n:Int) 64=((n%64:Nat):Int):=rfl
  have hw:=aA6 (Ai l) hm (by omega) (n/64) (n%64) (Nat.mod_lt _ (by decide)) (by omega) 0 (Nat.zero_le _)
  rw [List.take_zero,List.nil_append,Nat.sub_zero,JW] at hw
  rw [e1,e2,e3,cond_false,cond_true,Int.toNat_natCast,e4,Sj,AC,List.length_replicate]
  rw [show ((0:Nat):Int)=0 from rfl] at hw
  rw [hw]
  have hos:∀ x∈A1 (n%64) ((Ai l).drop (n/64)),x<2^64:=fun x hx=>by
   obtain ⟨i,hi⟩:=List.getElem?_of_mem hx
   have hil:i<((Ai l).drop (n/64)).length:=by rw [← JW (n%64)]; exact (List.getElem?_eq_some_iff.1 hi).1
   rw [TW _ _ i hil] at hi
   cases hi
   exact (Xi (s:=n%64) (by omega) (Cs (by decide) (fun y hy=>hm y (List.mem_of_mem_drop hy)) i)).2
  have p1:=iV (A1 (n%64) ((Ai l).drop (n/64))) (by rw [JW]; exact hdl)
  show (bif Bw.pre (Wd (A1 (n%64) ((Ai l).drop (n/64))),()) then some (Bw.F (Wd (A1 (n%64) ((Ai l).drop (n/64))),())) else none)=_
  rw [uE p1,qJ p1,cond_true,FE hB _ hos,eD (by omega)]
  have hd:nv (2^64) ((Ai l).drop (n/64))=nv (2^64) l/(2^64)^(n/64):=by
   rw [← hv,JJ _ (Ai l) (n/64) (by omega)]
   have hlow:=Dr hB ((Ai l).take (n/64)) fun x hx=>hm x (List.mem_of_mem_take hx)
   rw [List.length_take,Nat.min_eq_left (by omega)] at hlow
   rw [Nat.add_mul_div_left _ _ (Nat.pow_pos (by decide)),Nat.div_eq_of_lt hlow,Nat.zero_add]
  rw [hd,Nat.div_div_eq_div_mul,← hsplit]
  rfl
 ·have e1:decide (((n/64:Nat):Int)>=((Ai l).length:Int))=true:=by simp; omega
  rw [e1,cond_true]
  have hz:nv (2^64) l/2^n=0:=by
   rw [← hv]
   have:=Dr hB (Ai l) hm
   apply Nat.div_eq_of_lt
   refine Nat.lt_of_lt_of_le this ?_
   rw [CB]
   exact Nat.pow_le_pow_right (by decide) (by omega)
  rw [hz,DD]; rfl
end VL
namespace VL
open Go Vx
theorem B4 (a b:Nat) (h:a+b<2^62):IntKind.wrap .i64 ((a:Int)+(b:Int))=((a+b:Nat):Int):=by rw [Au (by omega)]; omega
theorem BO (a:Nat) (h:a<2^62):IntKind.wrap .i64 ((a:Int)+1)=((a+1:Nat):Int):=by rw [Au (by omega)]; omega
theorem B5 (a:Nat) (h:a<2^56):IntKind.wrap .i64 (64*(a:Int))=((64*a:Nat):Int):=by rw [Au (by omega)]; omega
theorem B6 (a:Nat) (h:a<2^56):IntKind.wrap .i64 ((a:Int)*64)=((64*a:Nat):Int):=by rw [Au (by omega)]; omega
theorem BP (m n:Nat) (h:n<=m/\m<2^62):IntKind.wrap .i64 ((m:Int)-(n:Int))=((m-n:Nat):Int):=by rw [Au (by omega)]; omega
theorem Bq (m:Nat) (h:1<=m/\m<2^62):IntKind.wrap .i64 ((m:Int)-1)=((m-1:Nat):Int):=by rw [Au (by omega)]; omega
theorem BK (a b:Nat) (h:a<b):decide ((a:Int)<(b:Int))=true:=decide_eq_true (by omega)
theorem BJ (a b:Nat) (h:b<=a):decide ((a:Int)<(b:Int))=false:=decide_eq_false (by omega)
theorem BZ (a b:Nat) (h:a<=b):decide ((a:Int)<=(b:Int))=true:=decide_eq_true (by omega)
theorem BY (a b:Nat) (h:b<a):decide ((a:Int)<=(b:Int))=false:=decide_eq_false (by omega)
theorem BX (a b:Nat) (h:b<a):decide ((a:Int)>(b:Int))=true:=decide_eq_true (by omega)
theorem BW (a b:Nat) (h:a<=b):decide ((a:Int)>(b:Int))=false:=decide_eq_false (by omega)
theorem BU (a b:Nat) (h:b<=a):decide ((a:Int)>=(b:Int))=true:=decide_eq_true (by omega)
theorem BT (a b:Nat) (h:a<b):decide ((a:Int)>=(b:Int))=false:=decide_eq_false (by omega)
theorem B1 (a:Nat) (h:0<a):decide ((0:Int)<(a:Int))=true:=decide_eq_true (by omega)
theorem B0 (a:Nat) (h:a=0):decide ((0:Int)<(a:Int))=false:=decide_eq_false (by omega)
theorem BV (a:Nat) (h:0<a):decide ((a:Int)>0)=true:=decide_eq_true (by omega)
theorem BE (a:Nat) (h:a=0):decide ((a:Int)>0)=false:=decide_eq_false (by omega)
theorem cY (a:Nat):decide ((a:Int)<0)=false:=decide_eq_false (by omega)
theorem Bx (a:Nat) (h:a=0):((a:Int)==0)=true:=by rw [HQ]; simp [h]
theorem AX (a:Nat) (h:a≠0):((a:Int)==0)=false:=by rw [HQ]; simp [h]
theorem Bf (a:Nat) (h:a≠0):((a:Int) != 0)=true:=by rw [Qb]; simp [h]
theorem BC (a:Nat) (h:a=0):((a:Int) != 0)=false:=by rw [Qb]; simp [h]
def pd (B:Nat):Nat->Nat->List Nat
 | 0,_=>[]
 | k+1,v=>v%B::pd B k (v/B)
theorem E8 (B:Nat):∀ k v,(pd B k v).length=k
 | 0,_=>rfl
 | k+1,v=>by simp [pd,E8 B k]
theorem Qj {B:Nat} (hB:0<B):∀ k v,∀ x∈pd B k v,x<B
 | 0,_,x,hx=>by simp [pd] at hx
 | k+1,v,x,hx=>by
  simp only [pd,List.mem_cons] at hx
  rcases hx with rfl | hx
  ·exact Nat.mod_lt _ hB
  ·exact Qj hB k _ x hx
theorem t7 {B:Nat} (hB:0<B):∀ (l:List Nat),(∀ x∈l,x<B)->l=pd B l.length (nv B l)
 | [],_=>rfl
 | x::r,h=>by
  have hx:=h x (by simp)
  simp only [List.length_cons,pd,nv]
  rw [Nat.add_mul_mod_self_left,Nat.mod_eq_of_lt hx,Nat.add_mul_div_left _ _ hB,Nat.div_eq_of_lt hx,Nat.zero_add,← t7 hB r fun y hy=>h y (by simp [hy])]
theorem WR {B:Nat} (hB:0<B) {l:List Nat} {k v:Nat} (h:∀ x∈l,x<B) (hl:l.length=k) (hv:nv B l=v):l=pd B k v:=by
 have:=t7 hB l h
 rw [hl,hv] at this
 exact this
theorem Qk {B:Nat} (hB:0<B):∀ k v,v<B^k->nv B (pd B k v)=v
 | 0,v,h=>by simp at h; subst h; rfl
 | k+1,v,h=>by
  simp only [pd,nv]
  rw [Qk hB k (v/B) (by rw [Nat.div_lt_iff_lt_mul hB,← Nat.pow_succ]; exact h)]
  exact Nat.mod_add_div v B
theorem WS (B:Nat):∀ k v i,i<k->(pd B k v).getD i 0=v/B^i%B
 | 0,_,_,h=>by omega
 | k+1,v,0,_=>by simp [pd]
 | k+1,v,i+1,h=>by
  simp only [pd,List.getD_cons_succ]
  rw [WS B k (v/B) i (by omega),Nat.div_div_eq_div_mul,← Nat.pow_succ']
theorem t9 (B:Nat):∀ k,pd B k 0=List.replicate k 0
 | 0=>rfl
 | k+1=>by simp [pd,t9 B k,List.replicate_succ]
theorem eC (B:Nat):∀ (l:List Nat) (i x:Nat),i<l.length->nv B (l.set i x)+B^i*l.getD i 0=nv B l+B^i*x
 | [],_,_,h=>by simp at h
 | y::r,0,x,_=>by simp [nv]; omega
 | y::r,i+1,x,h=>by
  have:=eC B r i x (by simpa using h)
  simp only [List.set_cons_succ,nv,List.getD_cons_succ,Nat.pow_succ']
  rw [Nat.mul_assoc,Nat.mul_assoc,Nat.add_assoc,Nat.add_assoc,← Nat.mul_add,← Nat.mul_add,this]
theorem v7 {B:Nat} {l:List Nat} (h:∀ x∈l,x<B) {i v:Nat} (hv:v<B):∀ x∈l.set i v,x<B:=fun x hx=>by
 rcases List.mem_or_eq_of_mem_set hx with h1 | h1
 ·exact h x h1
 ·rw [h1]; exact hv
theorem ML {B:Nat} (hB:2<=B) (n:Nat):Ai (dg B n)=dg B n:=by
 rw [FE hB _ (Gx hB n),WL hB]
theorem WM (B:Nat) (l:List Nat) (i:Nat) (h:i<l.length):nv B (l.take (i+1))=nv B (l.take i)+B^i*l.getD i 0:=by
 have hs:=JJ B (l.take (i+1)) i (by simp; omega)
 rw [hs,List.take_take,Nat.min_eq_left (by omega)]
 congr 2
 rw [List.drop_take,Nat.add_sub_cancel_left,List.getD_eq_getElem?_getD]
 rw [List.drop_eq_getElem_cons h,List.getElem?_eq_getElem h]
 show l[i]+B*0=l[i]
 rw [Nat.mul_zero,Nat.add_zero]
theorem gQ {x:Nat} (h:0<x):∃ t k,x=2^t*(2*k+1):=by
 induction x using Nat.strongRecOn with
 | ind x ih =>
  rcases Nat.mod_two_eq_zero_or_one x with h0 | h1
  ·obtain ⟨t,k,e⟩:=ih (x/2) (by omega) (by omega)
   refine ⟨t+1,k,?_⟩
   rw [Nat.pow_succ,Nat.mul_comm (2^t) 2,Nat.mul_assoc,← e]
   omega
  ·exact ⟨0,x/2,by simp; omega⟩
theorem aED {t k n:Nat}:(2^t*(2*k+1))%2^n=0↔n<=t:=by
 constructor
 ·intro h
  rcases Nat.lt_or_ge t n with hlt | hge
  ·exfalso
   have e:n=t+(n-t-1)+1:=by omega
   rw [e,Nat.add_assoc,Nat.pow_add,Nat.mul_mod_mul_left,Nat.pow_succ] at h
   have hp:=Nat.two_pow_pos t
   have h2:(2*k+1)%(2^(n-t-1)*2)=0:=by
    rcases Nat.mul_eq_zero.1 h with h | h
    ·omega
    ·exact h
   have:(2*k+1)%2=0:=by
    have:=Nat.mod_mod_of_dvd (2*k+1) (show 2 ∣ 2^(n-t-1)*2 from ⟨_,Nat.mul_comm _ _⟩)
    rw [h2] at this
    omega
   omega
  ·exact hge
 ·intro h
  have e:t=n+(t-n):=by omega
  rw [e,Nat.pow_add,Nat.mul_assoc]
  exact Nat.mul_mod_right _ _
theorem aBG {t k:Nat} (h:2^t*(2*k+1)<2^64):2^t*(2*k+1) &&& (2^64-2^t*(2*k+1))=2^t:=by
 have hp:=Nat.two_pow_pos t
 have ht:t<64:=by
  have:2^t*1<=2^t*(2*k+1):=Nat.mul_le_mul_left _ (by omega)
  exact (Nat.pow_lt_pow_iff_right (a:=2) (by decide)).1 (by omega)
 have hz:2^t*(2*k)+(2^t-1)+1=2^t*(2*k+1):=by rw [Nat.mul_add,Nat.mul_one]; omega
 have hb:∀ i,(2^64-2^t*(2*k+1)).testBit i=(decide (i<64)&&!(2^t*(2*k)+(2^t-1)).testBit i):=fun i=>by
  rw [← hz,Nat.testBit_two_pow_sub_succ (by omega)]
 apply Nat.eq_of_testBit_eq
 intro i
 rw [Nat.testBit_and,hb,Nat.testBit_two_pow]
 have h1:(2^t*(2*k+1)).testBit i=(decide (t<=i)&&(2*k+1).testBit (i-t)):=by
  have:=Nat.testBit_two_pow_mul_add (2*k+1) hp i
  rw [Nat.add_zero] at this
  rw [this]
  by_cases hi:i<t
  ·simp [hi]; omega
  ·simp [hi]; omega
 rw [h1,Nat.testBit_two_pow_mul_add (2*k) (show 2^t-1<2^t by omega) i]
 rcases Nat.lt_trichotomy i t with hi | hi | hi
 ·simp [show ¬ t<=i by omega,show ¬ t=i by omega]
 ·subst hi
  simp [ht]
 ·have e:i-t=(i-t-1)+1:=by omega
  simp only [show ¬ i<t by omega,if_false,show ¬ t=i by omega,decide_false]
  rw [e,Nat.testBit_succ,Nat.testBit_succ,show (2*k+1)/2=k by omega,show 2*k/2=k by omega]
  cases k.testBit (i-t-1) <;> simp
theorem aBE {a b:Nat} (ha:a<2^64) (hb:b<2^64):CK .u64 (a:Int) (b:Int)=((a &&& b:Nat):Int):=by
 have key:(BitVec.ofInt 64 (a:Int) &&& BitVec.ofInt 64 (b:Int)).toNat=a &&& b:=by
  rw [BitVec.toNat_and,HS ha,HS hb]
 show IntKind.u64.wrap (((BitVec.ofInt 64 (a:Int) &&& BitVec.ofInt 64 (b:Int)).toNat:Nat):Int)=_
 rw [key]
 have:=Nat.and_le_left (n:=a) (m:=b)
 exact Eg (by omega)
theorem TF {a b:Nat} (ha:a<2^64) (hb:b<2^64):Bz .u64 (a:Int) (b:Int)=((a ||| b:Nat):Int):=by
 have key:(BitVec.ofInt 64 (a:Int) ||| BitVec.ofInt 64 (b:Int)).toNat=a ||| b:=by
  rw [BitVec.toNat_or,HS ha,HS hb]
 show IntKind.u64.wrap (((BitVec.ofInt 64 (a:Int) ||| BitVec.ofInt 64 (b:Int)).toNat:Nat):Int)=_
 rw [key]
 have:=Nat.or_lt_two_pow ha hb
 exact Eg (by omega)
theorem deb:∀ t:Nat,t<64->IntKind.wrap .i64 (k_deb.getD (2^t*285870213051353865%2^64/2^58) 0)=(t:Int):=by
 have h:((List.range 64).all fun t=>decide (IntKind.wrap .i64 (k_deb.getD (2^t*285870213051353865%2^64/2^58) (0:Int))=(t:Int)))=true:=by decide +kernel
 intro t ht
 have:=List.all_eq_true.1 h t (List.mem_range.2 ht)
 simpa using this
theorem UX {t k:Nat} (h:2^t*(2*k+1)<2^64):R6 (((2^t*(2*k+1):Nat):Int),())=some ((t:Int),()):=by
 have hp:=Nat.two_pow_pos t
 have h1:2^t*1<=2^t*(2*k+1):=Nat.mul_le_mul_left _ (by omega)
 have ht:t<64:=(Nat.pow_lt_pow_iff_right (a:=2) (by decide)).1 (by omega)
 have han:=aBG h
 show YJ ((2^t*(2*k+1):Nat):Int)=_
 generalize hx:2^t*(2*k+1)=x at *
 unfold YJ
 try dsimp only
 have e1:IntKind.wrap .u64 ((0:Int)-(x:Int))=((2^64-x:Nat):Int):=by
  have:∀ y:Int,IntKind.wrap .u64 y=y%18446744073709551616:=fun y=>by
   simp [IntKind.wrap,IntKind.bits,IntKind.signed]
  rw [this]; omega
 have e2:IntKind.wrap .u64 (((2^t:Nat):Int)*285870213051353865)=((2^t*285870213051353865%2^64:Nat):Int):=YT (2^t*285870213051353865)
 have e3:AN .u64 ((2^t*285870213051353865%2^64:Nat):Int) 58=((2^t*285870213051353865%2^64/2^58:Nat):Int):=DK _ 58 (by decide)
 have e4:2^t*285870213051353865%2^64/2^58<64:=by omega
 have e5:(decide ((0:Int)<=((2^t*285870213051353865%2^64/2^58:Nat):Int))&&decide (((2^t*285870213051353865%2^64/2^58:Nat):Int)<(64:Nat)))=true:=by
  rw [decide_eq_true (by omega),decide_eq_true (by omega)]; rfl
 rw [e1,aBE h (by omega),han,e2,e3,e5,v5,cond_true,AX x (by omega),cond_false,Int.toNat_natCast,deb t ht]
end VL
namespace VL
open Go Vx
def Dw (n:Nat):List Int:=Wd (dg (2^64) n)
theorem oR (n:Nat) (h:(dg (2^64) n).length<=1000000):Ws (dg (2^64) n):=⟨Gx (by decide) n,h⟩
theorem Da {B:Nat} (hB:2<=B):∀ (k n:Nat),n<B^k->(dg B n).length<=k
 | 0,n,h=>by simp at h; subst h; rw [DD]; simp
 | k+1,n,h=>by
  rcases Nat.eq_zero_or_pos n with rfl | hn
  ·rw [DD]; simp
  ·rw [E3 hB hn]
   have:=Da hB k (n/B) (by rw [Nat.div_lt_iff_lt_mul (by omega),← Nat.pow_succ]; exact h)
   simp; omega
theorem Pt {B:Nat} (hB:2<=B) (n:Nat):n<B^(dg B n).length:=by
 have:=Dr hB _ (Gx hB n)
 rwa [WL hB] at this
theorem aCy {x i t k r n:Nat} (hx:x=2^t*(2*k+1)) (ht:t<64):((2^64)^i*(x+2^64*r))%2^n=0↔n<=64*i+t:=by
 have e:(2^64)^i*(x+2^64*r)=2^(64*i+t)*(2*(k+2^(64-t-1)*r)+1):=by
  have h1:2^64=2^t*(2^(64-t-1)*2):=by rw [← Nat.pow_succ,← Nat.pow_add]; congr 1; omega
  rw [CB,hx,Nat.pow_add,Nat.mul_assoc]
  congr 1
  rw [h1,Nat.mul_assoc,← Nat.mul_add]
  congr 1
  rw [Nat.mul_assoc,Nat.mul_left_comm]
  omega
 rw [e]
 exact aED
theorem aBe (a:List Nat) (ha:∀ x∈a,x<2^64) (hlen:a.length<=1000000) (n:Nat) (hn:n<=1000000000) (i:Nat) (hi:i<=a.length) (hz:nv (2^64) (a.take i)=0) :
  U5 (((a.length:Int),(Wd a,((n:Int),((i:Int),())))),())=some (if nv (2^64) a=0 then .inl ((),()) else .inr ((decide (nv (2^64) a%2^n=0),()),())):=by
 have key:=DH (sJ Ah.pre Ah.F Bu.pre Bu.F) (fun x=>a.length-x.1.2.2.2.1.toNat)
  (fun x=>∃ i:Nat,i<=a.length/\nv (2^64) (a.take i)=0/\x=(((a.length:Int),(Wd a,((n:Int),((i:Int),())))),()))
  (fun _=>if nv (2^64) a=0 then .inl ((),()) else .inr ((decide (nv (2^64) a%2^n=0),()),())) ?_ _ ⟨i,hi,hz,rfl⟩
 ·exact key
 intro L x hx hL
 obtain ⟨i,hi,hz,rfl⟩:=hx
 unfold PL
 rcases Nat.lt_or_ge i a.length with hlt | hge
 ·simp (disch:=omega) only [B4,BO,B5,BP,Bq,B6,BK,BJ,BZ,BY,BX,BW,BU,BT,B1,B0,BV,BE,AU,Bx,AX,Bf,BC,Int.toNat_natCast,Int.toNat_zero,cond_true,cond_false,Bool.and_self,Bool.true_and,Bool.and_true,Bool.false_and,Bool.and_false,Bool.not_true,Bool.not_false,Bool.or_self,Bool.true_or,Bool.or_true,Bool.false_or,Bool.or_false,AC,Ci]
  have hxl:=Cs (by decide) ha i
  rcases Nat.eq_zero_or_pos (a.getD i 0) with h0 | h0
  ·simp (disch:=omega) only [B4,BO,B5,BP,Bq,B6,BK,BJ,BZ,BY,BX,BW,BU,BT,B1,B0,BV,BE,AU,Bx,AX,Bf,BC,Int.toNat_natCast,Int.toNat_zero,cond_true,cond_false,Bool.and_self,Bool.true_and,Bool.and_true,Bool.false_and,Bool.and_false,Bool.not_true,Bool.not_false,Bool.or_self,Bool.true_or,Bool.or_true,Bool.false_or,Bool.or_false]
   refine hL _ ⟨i+1,by omega,?_,rfl⟩ (by simp only [Int.toNat_natCast]; omega)
   rw [WM _ _ _ hlt,hz,h0,Nat.mul_zero]
  ·obtain ⟨t,k,e⟩:=gQ h0
   have ht:t<64:=by
    have hp:=Nat.two_pow_pos t
    have h1:2^t*1<=2^t*(2*k+1):=Nat.mul_le_mul_left _ (by omega)
    exact (Nat.pow_lt_pow_iff_right (a:=2) (by decide)).1 (by omega)
   have p0:=UX (t:=t) (k:=k) (by omega)
   rw [← e] at p0
   have hv:nv (2^64) a=(2^64)^i*(a.getD i 0+2^64*nv (2^64) (a.drop (i+1))):=by
    rw [JJ _ a i hi,hz,Nat.zero_add,List.drop_eq_getElem_cons hlt]
    simp only [nv]
    rw [List.getD_eq_getElem?_getD,List.getElem?_eq_getElem hlt]
    rfl
   have hne:nv (2^64) a≠0:=by
    rw [hv]
    have:0<(2^64)^i:=Nat.pow_pos (by decide)
    exact Nat.ne_of_gt (Nat.mul_pos this (by omega))
   have hd:=aCy (i:=i) (r:=nv (2^64) (a.drop (i+1))) (n:=n) e ht
   rw [← hv] at hd
   simp (disch:=omega) only [B4,BO,B5,BP,Bq,B6,BK,BJ,BZ,BY,BX,BW,BU,BT,B1,B0,BV,BE,AU,Bx,AX,Bf,BC,Int.toNat_natCast,Int.toNat_zero,cond_true,cond_false,Bool.and_self,Bool.true_and,Bool.and_true,Bool.false_and,Bool.and_false,Bool.not_true,Bool.not_false,Bool.or_self,Bool.true_or,Bool.or_true,Bool.false_or,Bool.or_false,W4 p0,Wt p0,if_neg hne]
   have:decide (((64*i+t:Nat):Int)>=(n:Int))=decide (nv (2^64) a%2^n=0):=by
    rw [Bool.eq_iff_iff,decide_eq_true_eq,decide_eq_true_eq,hd]; omega
   rw [this]
 ·have e:i=a.length:=by omega
  subst e
  rw [List.take_length] at hz
  simp (disch:=omega) only [B4,BO,B5,BP,Bq,B6,BK,BJ,BZ,BY,BX,BW,BU,BT,B1,B0,BV,BE,AU,Bx,AX,Bf,BC,Int.toNat_natCast,Int.toNat_zero,cond_true,cond_false,Bool.and_self,Bool.true_and,Bool.and_true,Bool.false_and,Bool.and_false,Bool.not_true,Bool.not_false,Bool.or_self,Bool.true_or,Bool.or_true,Bool.false_or,Bool.or_false,if_pos hz]
theorem aAD (l:List Nat) (hl:Ws l) (n:Nat) (hn:n<=1000000000):Rg (Wd l,(n:Int),())=some (decide (nv (2^64) l%2^n=0),()):=by
 obtain ⟨h,hlen⟩:=hl
 show XV Ah.pre Ah.F Bu.pre Bu.F U5 (Wd l) n=_
 unfold XV
 have p0:=Dz l hlen
 have hm:∀ x∈Ai l,x<2^64:=fun x hx=>h x (Ob hx)
 have hle:=(Dv l).1
 have hw:=aBe (Ai l) hm (by omega) n hn 0 (Nat.zero_le _) rfl
 rw [HR (by decide) h] at hw
 simp only [CS p0,CQ p0,cond_true,AC]
 rw [show ((0:Nat):Int)=0 from rfl] at hw
 rw [hw]
 by_cases h0:nv (2^64) l=0
 ·rw [if_pos h0,h0,Nat.zero_mod]; rfl
 ·rw [if_neg h0]
def JG (v n:Nat):Nat:=if v%2^n=0 then v/2^n else v/2^n/2*2+1
theorem tY (w:Nat):w ||| 1=w/2*2+1:=by
 apply Nat.eq_of_testBit_eq
 intro i
 rw [Nat.testBit_or]
 cases i with
 | zero=>simp [Nat.testBit_zero]
 | succ i =>
  rw [Nat.testBit_succ,Nat.testBit_succ,Nat.testBit_succ,show (w/2*2+1)/2=w/2 by omega,show 1/2=0 by rfl]
  simp
theorem aAC (l:List Nat) (hl:Ws l) (n:Nat) (hn:n<=100000000):OK (Wd l,(n:Int),())=some (Dw (JG (nv (2^64) l) n),0,()):=by
 show XR LS.pre LS.F Co.pre Co.F LW.pre LW.F (Wd l) n=_
 unfold XR
 have p0:=aAp l hl n hn
 have p1:=aAD l hl n (by omega)
 simp only [cY,cond_false,aFs p0,aC3 p0,aFD p1,aDe p1,cond_true,AC]
 unfold JG
 by_cases h0:nv (2^64) l%2^n=0
 ·rw [if_pos h0,decide_eq_true h0]; rfl
 ·rw [if_neg h0,decide_eq_false h0]
  generalize nv (2^64) l/2^n=q
  rcases Nat.eq_zero_or_pos q with rfl | hq
  ·have e:Dw (0/2*2+1)=[1]:=by
    show Wd (dg (2^64) 1)=[1]
    rw [E3 (by decide) (by decide),DD]; rfl
   rw [e,DD]; rfl
  ·have hB:2<=2^64:=by decide
   have e:Dw (q/2*2+1)=Wd ((q%2^64/2*2+1)::dg (2^64) (q/2^64)):=by
    show Wd (dg (2^64) (q/2*2+1))=_
    rw [E3 hB (by omega)]
    have e1:(q/2*2+1)%2^64=q%2^64/2*2+1:=by omega
    have e2:(q/2*2+1)/2^64=q/2^64:=by omega
    rw [e1,e2]
   have e2:Bz .u64 ((q%2^64:Nat):Int) 1=((q%2^64/2*2+1:Nat):Int):=by
    have:=TF (a:=q%2^64) (b:=1) (by omega) (by decide)
    rw [tY] at this
    exact this
   rw [e,E3 hB hq]
   simp (disch:=omega) only [B4,BO,B5,BP,Bq,B6,BK,BJ,BZ,BY,BX,BW,BU,BT,B1,B0,BV,BE,AU,Bx,AX,Bf,BC,Int.toNat_natCast,Int.toNat_zero,cond_true,cond_false,Bool.and_self,Bool.true_and,Bool.and_true,Bool.false_and,Bool.and_false,Bool.not_true,Bool.not_false,Bool.or_self,Bool.true_or,Bool.or_true,Bool.false_or,Bool.or_false,List.length_cons,Ci,List.getD_cons_zero,e2,Ep,List.set_cons_zero]
theorem iY (l:List Nat) (hl:Ws l) (n:Nat) (hn:n<=100000000):My (Wd l,(n:Int),())=some (Dw (nv (2^64) l/2^n),0,()):=by
 show XD Co.pre Co.F (Wd l) n=_
 unfold XD
 have p0:=i6 l hl n hn
 simp only [cY,cond_false,uI p0,qN p0,cond_true]
 rfl
end VL
namespace VL
open Go Vx
theorem aDG {l:List Nat} {i j v:Nat} (h:i≠j):(l.set i v).getD j 0=l.getD j 0:=by
 rw [List.getD_eq_getElem?_getD,List.getD_eq_getElem?_getD,List.getElem?_set_ne h]
theorem aDW {out:List Nat} {K V k s x:Nat} (hs:s<64) (ho:out=pd (2^64) K V) (hk:k+1<K) (hV:V<2^(64*k+s)) (hx:x<2^64) :
  (out.getD k 0<2^s)/\(out.getD k 0+x%2^(64-s)*2^s<2^64)/\((out.set k (out.getD k 0+x%2^(64-s)*2^s)).set (k+1) (x/2^(64-s))=pd (2^64) K (V+2^(64*k+s)*x)):=by
 have hB:0<2^64:=by decide
 have hps:=Nat.two_pow_pos s
 have hpk:=Nat.two_pow_pos (64*k)
 have hlen:out.length=K:=by rw [ho,E8]
 have hc:out.getD k 0=V/(2^64)^k%2^64:=by rw [ho,WS _ _ _ _ (by omega)]
 have hc2:V/(2^64)^k<2^s:=by
  rw [CB,Nat.div_lt_iff_lt_mul hpk,Nat.mul_comm,← Nat.pow_add]; exact hV
 have hc1:out.getD (k+1) 0=0:=by
  rw [ho,WS _ _ _ _ hk,CB]
  have:V<2^(64*(k+1)):=Nat.lt_of_lt_of_le hV (Nat.pow_le_pow_right (by decide) (by omega))
  rw [Nat.div_eq_of_lt this]
 have h64:2^64=2^(64-s)*2^s:=by rw [← Nat.pow_add]; congr 1; omega
 have hs64:2^s<=2^64:=Nat.pow_le_pow_right (by decide) (by omega)
 have hce:V/(2^64)^k%2^64=V/(2^64)^k:=Nat.mod_eq_of_lt (by omega)
 have hcl:out.getD k 0<2^s:=by rw [hc,hce]; exact hc2
 have hp1:=Nat.two_pow_pos (64-s)
 have hm:x%2^(64-s)+1<=2^(64-s):=Nat.mod_lt _ hp1
 have hm2:=Nat.mul_le_mul_right (2^s) hm
 rw [← h64,Nat.add_mul,Nat.one_mul] at hm2
 have hsum:out.getD k 0+x%2^(64-s)*2^s<2^64:=by omega
 refine ⟨hcl,hsum,?_⟩
 have hall:∀ y∈out,y<2^64:=by rw [ho]; exact Qj hB _ _
 have hxd:x/2^(64-s)<2^64:=Nat.lt_of_le_of_lt (Nat.div_le_self _ _) hx
 refine WR hB (v7 (v7 hall hsum) hxd) (by simp [hlen]) ?_
 have g1:=eC (2^64) out k (out.getD k 0+x%2^(64-s)*2^s) (by omega)
 have g2:=eC (2^64) (out.set k (out.getD k 0+x%2^(64-s)*2^s)) (k+1) (x/2^(64-s)) (by rw [List.length_set]; omega)
 rw [aDG (by omega),hc1,Nat.mul_zero,Nat.add_zero] at g2
 have hVK:V<(2^64)^K:=by
  rw [CB]; exact Nat.lt_of_lt_of_le hV (Nat.pow_le_pow_right (by decide) (by omega))
 have hnv:nv (2^64) out=V:=by rw [ho,Qk hB _ _ hVK]
 rw [hnv,Nat.mul_add] at g1
 rw [g2]
 have hx2:2^(64*k+s)*x=(2^64)^k*(x%2^(64-s)*2^s)+(2^64)^(k+1)*(x/2^(64-s)):=by
  have hdm:=Nat.div_add_mod x (2^(64-s))
  generalize x/2^(64-s)=q at *
  generalize x%2^(64-s)=r at *
  rw [Nat.pow_add 2 (64*k) s,← CB,show (2^64)^(k+1)=(2^64)^k*2^64 from Nat.pow_succ _ _,Nat.mul_assoc ((2^64)^k),Nat.mul_assoc ((2^64)^k),← Nat.mul_add,← hdm]
  congr 1
  rw [Nat.mul_add,Nat.mul_comm r,Nat.add_comm]
  congr 1
  rw [← Nat.mul_assoc,Nat.mul_comm (2^s),← h64]
 omega
theorem aBg (a:List Nat) (ha:∀ x∈a,x<2^64) (hlen:a.length<=1000000) (w s:Nat) (hs:s<64) (hw:w<=10000000) (i:Nat) (hi:i<=a.length) :
  U7 (((a.length:Int),(Wd a,((w:Int),((s:Int),((i:Int),((),())))))),(Wd (pd (2^64) (w+a.length+1) (2^(64*w+s)*nv (2^64) (a.take i))),()))=some (.inl (((),()),(Wd (pd (2^64) (w+a.length+1) (2^(64*w+s)*nv (2^64) a)),()))):=by
 have key:=DH (sL Ah.pre Ah.F) (fun x=>a.length-x.1.2.2.2.2.1.toNat)
  (fun x=>∃ i:Nat,i<=a.length/\x=(((a.length:Int),(Wd a,((w:Int),((s:Int),((i:Int),((),())))))),(Wd (pd (2^64) (w+a.length+1) (2^(64*w+s)*nv (2^64) (a.take i))),())))
  (fun _=>.inl (((),()),(Wd (pd (2^64) (w+a.length+1) (2^(64*w+s)*nv (2^64) a)),()))) ?_ _ ⟨i,hi,rfl⟩
 ·exact key
 intro L x hx hL
 obtain ⟨i,hi,rfl⟩:=hx
 unfold PN
 rcases Nat.lt_or_ge i a.length with hlt | hge
 ·have hxl:=Cs (by decide) ha i
  have ht:=Dr (B:=2^64) (by decide) (a.take i) fun x hx=>ha x (List.mem_of_mem_take hx)
  rw [List.length_take,Nat.min_eq_left (by omega),CB] at ht
  have hV:2^(64*w+s)*nv (2^64) (a.take i)<2^(64*(w+i)+s):=by
   have e:64*(w+i)+s=(64*w+s)+64*i:=by omega
   rw [e,Nat.pow_add _ (64*w+s)]
   exact Nat.mul_lt_mul_of_pos_left ht (Nat.two_pow_pos _)
  have hnext:=WM (2^64) a i hlt
  have hgo:=hL (((a.length:Int),(Wd a,((w:Int),((s:Int),(((i+1:Nat):Int),((),())))))),(Wd (pd (2^64) (w+a.length+1) (2^(64*w+s)*nv (2^64) (a.take (i+1)))),())) ⟨i+1,by omega,rfl⟩ (by simp only [Int.toNat_natCast]; omega)
  rw [hnext,Nat.mul_add,← Nat.mul_assoc,show 2^(64*w+s)*(2^64)^i=2^(64*(w+i)+s) by rw [CB,← Nat.pow_add]; congr 1; omega] at hgo
  generalize hout:pd (2^64) (w+a.length+1) (2^(64*w+s)*nv (2^64) (a.take i))=out at *
  obtain ⟨q1,q2,q3⟩:=aDW (k:=w+i) hs hout.symm (by omega) hV hxl
  have hol:out.length=w+a.length+1:=by rw [← hout,E8]
  have g1:a.getD i 0*2^s%2^64=(a.getD i 0%2^(64-s))*2^s:=by
   have:2^64=2^(64-s)*2^s:=by rw [← Nat.pow_add]; congr 1; omega
   rw [this,Nat.mul_mod_mul_right]
  have e8:IntKind.wrap .i64 (64-(s:Int))=((64-s:Nat):Int):=DN 64 s (by omega) (by omega)
  simp (disch:=omega) only [B4,BO,B5,BP,Bq,B6,BK,BJ,BZ,BY,BX,BW,BU,BT,B1,B0,BV,BE,AU,Bx,AX,Bf,BC,Int.toNat_natCast,Int.toNat_zero,cond_true,cond_false,Bool.and_self,Bool.true_and,Bool.and_true,Bool.false_and,Bool.and_false,Bool.not_true,Bool.not_false,Bool.or_self,Bool.true_or,Bool.or_true,Bool.false_or,Bool.or_false,AC,Ci,e8,GI _ s (by omega),DK _ (64-s) (by omega),g1,JM q1 q2,Ep,List.length_set,q3]
  exact hgo
 ·have e:i=a.length:=by omega
  subst e
  rw [List.take_length]
  simp (disch:=omega) only [B4,BO,B5,BP,Bq,B6,BK,BJ,BZ,BY,BX,BW,BU,BT,B1,B0,BV,BE,AU,Bx,AX,Bf,BC,Int.toNat_natCast,Int.toNat_zero,cond_true,cond_false,Bool.and_self,Bool.true_and,Bool.and_true,Bool.false_and,Bool.and_false,Bool.not_true,Bool.not_false,Bool.or_self,Bool.true_or,Bool.or_true,Bool.false_or,Bool.or_false]
theorem Zn (l:List Nat) (hl:Ws l) (n:Nat) (hn:n/64+(Ai l).length+1<=1000000):Nv (Wd l,(n:Int),())=some (Dw (nv (2^64) l*2^n),()):=by
 obtain ⟨h,hlen⟩:=hl
 show XX Ah.pre Ah.F U7 (Wd l) n=_
 unfold XX
 have hB:2<=2^64:=by decide
 have p0:=Dz l hlen
 have hm:∀ x∈Ai l,x<2^64:=fun x hx=>h x (Ob hx)
 have hle:=(Dv l).1
 have hv:=HR hB h
 simp only [CS p0,CQ p0,cond_true,AC]
 rcases Nat.eq_zero_or_pos (Ai l).length with h0 | h0
 ·rw [h0,xF h h0,Nat.zero_mul]
  unfold Dw
  rw [DD]; rfl
 ·have e4:Int.tmod (n:Int) 64=((n%64:Nat):Int):=rfl
  have e3:decide (((n/64+(Ai l).length+1:Nat):Int)*8<=140737488355328)=true:=decide_eq_true (by omega)
  have hw:=aBg (Ai l) hm (by omega) (n/64) (n%64) (Nat.mod_lt _ (by decide)) (by omega) 0 (Nat.zero_le _)
  rw [show nv (2^64) ((Ai l).take 0)=0 by rfl,Nat.mul_zero,t9,show 64*(n/64)+n%64=n by omega,show ((0:Nat):Int)=0 from rfl] at hw
  simp (disch:=omega) only [B4,BO,B5,BP,Bq,B6,BK,BJ,BZ,BY,BX,BW,BU,BT,B1,B0,BV,BE,AU,Bx,AX,Bf,BC,Int.toNat_natCast,Int.toNat_zero,cond_true,cond_false,Bool.and_self,Bool.true_and,Bool.and_true,Bool.false_and,Bool.and_false,Bool.not_true,Bool.not_false,Bool.or_self,Bool.true_or,Bool.or_true,Bool.false_or,Bool.or_false,W9 n (by omega),e4,e3,Sj,hw]
  have hV:2^n*nv (2^64) (Ai l)<(2^64)^(n/64+(Ai l).length+1):=by
   have:=Dr hB (Ai l) hm
   rw [CB] at this ⊢
   have h1:2^n*nv (2^64) (Ai l)<2^n*2^(64*(Ai l).length):=Nat.mul_lt_mul_of_pos_left this (Nat.two_pow_pos _)
   rw [← Nat.pow_add] at h1
   exact Nat.lt_of_lt_of_le h1 (Nat.pow_le_pow_right (by decide) (by omega))
  have p1:=Dz (pd (2^64) (n/64+(Ai l).length+1) (2^n*nv (2^64) (Ai l))) (by rw [E8]; omega)
  rw [FE hB _ (Qj (by decide) _ _),Qk (by decide) _ _ hV,hv,Nat.mul_comm (2^n)] at p1
  rw [hv,Nat.mul_comm (2^n)]
  generalize pd (2^64) (n/64+(Ai l).length+1) (nv (2^64) l*2^n)=out at *
  show (bif Ah.pre (Wd out,()) then some (Ah.F (Wd out,())) else none)=_
  rw [CS p1,CQ p1]
  rfl
theorem aBf (ls:List (List Nat)) (hls:∀ l∈ls,l.length<=1000000) (hn:ls.length<=1000000) (i:Nat) (hi:i<=ls.length) (hz:∀ l∈ls.take i,(Ai l).length<=1024) :
  U6 (((ls.length:Int),(ls.map Wd,((i:Int),()))),())=some (if (∀ l∈ls,(Ai l).length<=1024) then .inl ((),()) else .inr ((true,()),())):=by
 have key:=DH (sK Ah.pre Ah.F) (fun x=>ls.length-x.1.2.2.1.toNat)
  (fun x=>∃ i:Nat,i<=ls.length/\(∀ l∈ls.take i,(Ai l).length<=1024)/\x=(((ls.length:Int),(ls.map Wd,((i:Int),()))),()))
  (fun _=>if (∀ l∈ls,(Ai l).length<=1024) then .inl ((),()) else .inr ((true,()),())) ?_ _ ⟨i,hi,hz,rfl⟩
 ·exact key
 intro L x hx hL
 obtain ⟨i,hi,hz,rfl⟩:=hx
 unfold PM
 rcases Nat.lt_or_ge i ls.length with hlt | hge
 ·have eg:(ls.map Wd).getD i []=Wd (ls[i]):=by
   rw [List.getD_eq_getElem?_getD,List.getElem?_map,List.getElem?_eq_getElem hlt]; rfl
  have hil:ls[i]∈ls:=List.getElem_mem hlt
  have p0:=Dz ls[i] (hls _ hil)
  simp (disch:=omega) only [B4,BO,B5,BP,Bq,B6,BK,BJ,BZ,BY,BX,BW,BU,BT,B1,B0,BV,BE,AU,Bx,AX,Bf,BC,Int.toNat_natCast,Int.toNat_zero,cond_true,cond_false,Bool.and_self,Bool.true_and,Bool.and_true,Bool.false_and,Bool.and_false,Bool.not_true,Bool.not_false,Bool.or_self,Bool.true_or,Bool.or_true,Bool.false_or,Bool.or_false,List.length_map,eg,CS p0,CQ p0,AC]
  rcases Nat.lt_or_ge 1024 (Ai ls[i]).length with hg | hg
  ·have e:decide (((Ai ls[i]).length:Int)>1024)=true:=decide_eq_true (by omega)
   have hnot:¬ ∀ l∈ls,(Ai l).length<=1024:=fun hh=>by have:=hh _ hil; omega
   rw [e,cond_true,if_neg hnot]
  ·have e:decide (((Ai ls[i]).length:Int)>1024)=false:=decide_eq_false (by omega)
   rw [e,cond_false]
   refine hL _ ⟨i+1,by omega,?_,rfl⟩ (by simp only [Int.toNat_natCast]; omega)
   intro l hl
   rw [List.take_succ,List.getElem?_eq_getElem hlt] at hl
   rcases List.mem_append.1 hl with hl | hl
   ·exact hz l hl
   ·have:l=ls[i]:=by simpa using hl
    rw [this]; exact hg
 ·have e:i=ls.length:=by omega
  subst e
  rw [List.take_length] at hz
  simp (disch:=omega) only [B4,BO,B5,BP,Bq,B6,BK,BJ,BZ,BY,BX,BW,BU,BT,B1,B0,BV,BE,AU,Bx,AX,Bf,BC,Int.toNat_natCast,Int.toNat_zero,cond_true,cond_false,Bool.and_self,Bool.true_and,Bool.and_true,Bool.false_and,Bool.and_false,Bool.not_true,Bool.not_false,Bool.or_self,Bool.true_or,Bool.or_true,Bool.false_or,Bool.or_false,if_pos hz]
theorem jC (ls:List (List Nat)) (hls:∀ l∈ls,l.length<=1000000) (hn:ls.length<=1000000) :
  Mz (ls.map Wd,())=some (!decide (∀ l∈ls,(Ai l).length<=1024),()):=by
 show XW Ah.pre Ah.F U6 (ls.map Wd)=_
 unfold XW
 have hw:=aBf ls hls hn 0 (Nat.zero_le _) (fun l hl=>by simp at hl)
 rw [show ((0:Nat):Int)=0 from rfl] at hw
 rw [List.length_map,hw]
 by_cases h:∀ l∈ls,(Ai l).length<=1024
 ·rw [if_pos h,decide_eq_true h]; rfl
 ·rw [if_neg h,decide_eq_false h]; rfl
theorem jD (l:List Nat) (hl:l.length<=1000000):Mz ((Wd l::[]),())=some (!decide ((Ai l).length<=1024),()):=by
 have:=jC [l] (by simp; exact hl) (by simp)
 rw [show [l].map Wd=Wd l::[] from rfl] at this
 rw [this]
 simp
theorem jA (l:List Nat) (hl:Ws l) (n:Nat) (hn:n<=65536) (hv:nv (2^64) l*2^n<(2^64)^1024):Nt (Wd l,(n:Int),())=some (Dw (nv (2^64) l*2^n),0,()):=by
 show XS CV.pre CV.F EV.pre EV.F (Wd l) n=_
 unfold XS
 have p0:=jD l hl.2
 have hB:2<=2^64:=by decide
 have h1:=Da hB 1024 _ hv
 have h0:(Ai l).length<=1024:=by
  rw [FE hB _ hl.1]
  apply Da hB
  exact Nat.lt_of_le_of_lt (Nat.le_mul_of_pos_right _ (Nat.two_pow_pos _)) hv
 have p1:=Zn l hl n (by omega)
 have p2:=jD (dg (2^64) (nv (2^64) l*2^n)) (by omega)
 rw [ML hB] at p2
 rw [decide_eq_true h0] at p0
 rw [decide_eq_true h1] at p2
 have e2:decide ((n:Int)>65536)=false:=decide_eq_false (by omega)
 simp only [cY,e2,Bool.or_self,cond_false,eZ p0,cN p0,cond_true,Bool.not_true,fA p1,cO p1]
 unfold Dw
 simp only [eZ p2,cN p2,cond_true,Bool.not_true,cond_false]
end VL
namespace VL
open Go Vx
theorem Ef (B:Nat) (l:List Nat) (i:Nat):nv B (l.take (i+1))=nv B (l.take i)+B^i*l.getD i 0:=by
 rcases Nat.lt_or_ge i l.length with h | h
 ·exact WM B l i h
 ·rw [List.take_of_length_le (by omega),List.take_of_length_le h,List.getD_eq_getElem?_getD,List.getElem?_eq_none h]
  simp
def BN (a b:List Nat) (i:Nat):Nat:=nv (2^64) (a.take i)+nv (2^64) (b.take i)
def Dd (a b:List Nat) (i:Nat):List Nat:=pd (2^64) i (BN a b i%(2^64)^i)++(a++[0]).drop i
theorem TE {l:List Nat} (h:∀ x∈l,x<2^64) (i:Nat):nv (2^64) (l.take i)<(2^64)^i:=by
 have:=Dr (B:=2^64) (by decide) (l.take i) fun x hx=>h x (List.mem_of_mem_take hx)
 refine Nat.lt_of_lt_of_le this (Nat.pow_le_pow_right (by decide) ?_)
 rw [List.length_take]
 exact Nat.min_le_left _ _
theorem oE {a b:List Nat} (ha:∀ x∈a,x<2^64) (hb:∀ x∈b,x<2^64) (i:Nat):BN a b i/(2^64)^i<=1:=by
 have h1:=TE ha i
 have h2:=TE hb i
 have hp:0<(2^64)^i:=Nat.pow_pos (by decide)
 unfold BN
 have:(nv (2^64) (a.take i)+nv (2^64) (b.take i))/(2^64)^i<2:=by
  rw [Nat.div_lt_iff_lt_mul hp]; omega
 omega
theorem wI (a b:List Nat) (i:Nat):BN a b (i+1)=BN a b i%(2^64)^i+(2^64)^i*(a.getD i 0+b.getD i 0+BN a b i/(2^64)^i):=by
 have hdm:=Nat.div_add_mod (BN a b i) ((2^64)^i)
 have h1:BN a b (i+1)=BN a b i+(2^64)^i*(a.getD i 0+b.getD i 0):=by
  unfold BN
  rw [Ef,Ef,Nat.mul_add]
  omega
 rw [h1,Nat.mul_add ((2^64)^i) (a.getD i 0+b.getD i 0)]
 omega
theorem aI7 (a b:List Nat) (i:Nat):BN a b (i+1)/(2^64)^(i+1)=(a.getD i 0+b.getD i 0+BN a b i/(2^64)^i)/2^64:=by
 have hp:0<(2^64)^i:=Nat.pow_pos (by decide)
 rw [wI,Nat.pow_succ (2^64) i,← Nat.div_div_eq_div_mul,Nat.add_mul_div_left _ _ hp,Nat.div_eq_of_lt (Nat.mod_lt _ hp),Nat.zero_add]
theorem aI8 (a b:List Nat) (i:Nat):BN a b (i+1)%(2^64)^(i+1)=BN a b i%(2^64)^i+(2^64)^i*((a.getD i 0+b.getD i 0+BN a b i/(2^64)^i)%2^64):=by
 have hp:0<(2^64)^i:=Nat.pow_pos (by decide)
 rw [wI a b i,Nat.pow_succ (2^64) i,Nat.mod_mul,Nat.add_mul_mod_self_left,Nat.mod_mod,Nat.add_mul_div_left _ _ hp,Nat.div_eq_of_lt (Nat.mod_lt _ hp),Nat.zero_add]
theorem t8 {k r v:Nat} (hr:r<(2^64)^k) (hv:v<2^64):pd (2^64) k r++[v]=pd (2^64) (k+1) (r+(2^64)^k*v):=by
 refine WR (by decide) ?_ (by simp [E8]) ?_
 ·intro x hx
  rcases List.mem_append.1 hx with hx | hx
  ·exact Qj (by decide) _ _ x hx
  ·have:x=v:=by simpa using hx
   rw [this]; exact hv
 ·rw [N1,E8,Qk (by decide) _ _ hr]
  simp [nv]
theorem aFc (a b:List Nat) (i:Nat) (hi:i<a.length):(Dd a b i).set i ((a.getD i 0+b.getD i 0+BN a b i/(2^64)^i)%2^64)=Dd a b (i+1):=by
 have hp:0<(2^64)^i:=Nat.pow_pos (by decide)
 unfold Dd
 rw [aI8,← t8 (Nat.mod_lt _ hp) (Nat.mod_lt _ (by decide)),List.set_append_right _ _ (by rw [E8]; exact Nat.le_refl _),E8,Nat.sub_self,
  List.drop_eq_getElem_cons (l:=a++[0]) (i:=i) (by simp; omega),List.set_cons_zero,List.append_assoc]
 rfl
theorem t5 (a b:List Nat) (i:Nat) (hi:i<=a.length):(Dd a b i).length=a.length+1:=by
 unfold Dd; rw [List.length_append,E8]; simp; omega
theorem aBa (a b:List Nat) (ha:∀ x∈a,x<2^64) (hb:∀ x∈b,x<2^64) (hlen:a.length<=1000000) (i:Nat) (hi:i<=a.length) :
  Se (((a.length:Int),(Wd b,((i:Int),(Wd a,(((BN a b i/(2^64)^i:Nat):Int),((),())))))),(Wd (Dd a b i),()))=some (.inl ((Wd a,(((BN a b a.length/(2^64)^a.length:Nat):Int),((),()))),(Wd (Dd a b a.length),()))):=by
 have key:=DH (sE Az.pre Az.F Ah.pre Ah.F) (fun x=>a.length-x.1.2.2.1.toNat)
  (fun x=>∃ i:Nat,i<=a.length/\x=(((a.length:Int),(Wd b,((i:Int),(Wd a,(((BN a b i/(2^64)^i:Nat):Int),((),())))))),(Wd (Dd a b i),())))
  (fun _=>.inl ((Wd a,(((BN a b a.length/(2^64)^a.length:Nat):Int),((),()))),(Wd (Dd a b a.length),()))) ?_ _ ⟨i,hi,rfl⟩
 ·exact key
 intro L x hx hL
 obtain ⟨i,hi,rfl⟩:=hx
 unfold PH
 rcases Nat.lt_or_ge i a.length with hlt | hge
 ·have hc:=oE ha hb i
  have hol:=t5 a b i hi
  have hset:=aFc a b i hlt
  have hgo:=hL (((a.length:Int),(Wd b,(((i+1:Nat):Int),(Wd a,(((BN a b (i+1)/(2^64)^(i+1):Nat):Int),((),())))))),(Wd (Dd a b (i+1)),())) ⟨i+1,by omega,rfl⟩ (by simp only [Int.toNat_natCast]; omega)
  rw [aI7,← hset] at hgo
  have hF:∀ x y c:Nat,Az.F ((x:Int),((y:Int),((c:Int),())))=(((((x+y+c)%2^64:Nat):Int)),((((x+y+c)/2^64:Nat):Int)),()):=fun x y c=>rfl
  have hP:∀ (x y:Int) (c:Nat),c<=1->Az.pre (x,(y,((c:Int),())))=true:=fun x y c h=>by
   show (decide ((0:Int)<=(c:Int))&&decide ((c:Int)<=1))=true
   rw [decide_eq_true (by omega),decide_eq_true (by omega)]; rfl
  generalize BN a b i/(2^64)^i=c at *
  generalize Dd a b i=out at *
  rcases Nat.lt_or_ge i b.length with hbl | hbl
  ·simp (disch:=omega) only [B4,BO,B5,BP,Bq,B6,BK,BJ,BZ,BY,BX,BW,BU,BT,B1,B0,BV,BE,AU,Bx,AX,Bf,BC,Int.toNat_natCast,Int.toNat_zero,cond_true,cond_false,Bool.and_self,Bool.true_and,Bool.and_true,Bool.false_and,Bool.and_false,Bool.not_true,Bool.not_false,Bool.or_self,Bool.true_or,Bool.or_true,Bool.false_or,Bool.or_false,AC,Ci,hP _ _ c hc,hF,Ep]
   exact hgo
  ·have hbz:b.getD i 0=0:=by rw [List.getD_eq_getElem?_getD,List.getElem?_eq_none hbl]; rfl
   have hF0:Az.F (((a.getD i 0:Nat):Int),((0:Int),((c:Int),())))=((((a.getD i 0+b.getD i 0+c)%2^64:Nat):Int),(((a.getD i 0+b.getD i 0+c)/2^64:Nat):Int),()):=by rw [hbz]; rfl
   simp (disch:=omega) only [B4,BO,B5,BP,Bq,B6,BK,BJ,BZ,BY,BX,BW,BU,BT,B1,B0,BV,BE,AU,Bx,AX,Bf,BC,Int.toNat_natCast,Int.toNat_zero,cond_true,cond_false,Bool.and_self,Bool.true_and,Bool.and_true,Bool.false_and,Bool.and_false,Bool.not_true,Bool.not_false,Bool.or_self,Bool.true_or,Bool.or_true,Bool.false_or,Bool.or_false,AC,Ci,hP _ _ c hc,hF0,Ep]
   exact hgo
 ·have e:i=a.length:=by omega
  subst e
  simp (disch:=omega) only [B4,BO,B5,BP,Bq,B6,BK,BJ,BZ,BY,BX,BW,BU,BT,B1,B0,BV,BE,AU,Bx,AX,Bf,BC,Int.toNat_natCast,Int.toNat_zero,cond_true,cond_false,Bool.and_self,Bool.true_and,Bool.and_true,Bool.false_and,Bool.and_false,Bool.not_true,Bool.not_false,Bool.or_self,Bool.true_or,Bool.or_true,Bool.false_or,Bool.or_false]
theorem aI5 (a b:List Nat) (ha:∀ x∈a,x<2^64) (hb:∀ x∈b,x<2^64) (hab:b.length<=a.length) :
  (Dd a b a.length).set a.length (BN a b a.length/(2^64)^a.length)=pd (2^64) (a.length+1) (nv (2^64) a+nv (2^64) b)/\nv (2^64) a+nv (2^64) b<(2^64)^(a.length+1):=by
 have hp:0<(2^64)^a.length:=Nat.pow_pos (by decide)
 have hc:=oE ha hb a.length
 have hs:BN a b a.length=nv (2^64) a+nv (2^64) b:=by
  unfold BN; rw [List.take_length,List.take_of_length_le hab]
 have hdm:=Nat.div_add_mod (BN a b a.length) ((2^64)^a.length)
 refine ⟨?_,?_⟩
 ·have hd:(a++[0]).drop a.length=[0]:=by simp
  unfold Dd
  rw [hd,List.set_append_right _ _ (by rw [E8]; exact Nat.le_refl _),E8,Nat.sub_self,List.set_cons_zero,t8 (Nat.mod_lt _ hp) (by omega),Nat.add_comm (BN a b a.length%(2^64)^a.length),hdm,hs]
 ·rw [← hs]
  have h1:=TE ha a.length
  have h2:=TE hb a.length
  unfold BN
  rw [Nat.pow_succ (2^64) a.length]
  omega
theorem aBB {a:List Nat}:List.take (List.replicate (a.length+1) (0:Int)).length (Wd a)++List.drop a.length (List.replicate (a.length+1) (0:Int))=Wd (Dd a ([]:List Nat) 0):=by
 rw [List.length_replicate,List.drop_replicate,Nat.add_sub_cancel_left,List.take_of_length_le (by rw [AC]; omega)]
 unfold Dd
 simp [Wd,pd]
theorem aFd (a b c:List Nat):Dd a b 0=Dd a c 0:=by unfold Dd; simp [pd]
theorem nC (a b:List Nat) (ha:∀ x∈a,x<2^64) (hb:∀ x∈b,x<2^64) (hlen:a.length+1<=1000000) (hab:b.length<=a.length) :
  (bif decide (0<=IntKind.wrap .i64 ((a.length:Int)+1))&&decide (IntKind.wrap .i64 ((a.length:Int)+1)*8<=140737488355328) then
   Bh (Se (((a.length:Int),(Wd b,((0:Int),(Wd a,((0:Int),((),())))))),(List.take (List.replicate (Int.toNat (IntKind.wrap .i64 ((a.length:Int)+1))) (0:Int)).length (Wd a)++List.drop a.length (List.replicate (Int.toNat (IntKind.wrap .i64 ((a.length:Int)+1))) (0:Int)),()))) fun y4 =>
    Bi y4 (fun y5=>bif decide (0<=((y5.1.1.length:Nat):Int))&&decide (((y5.1.1.length:Nat):Int)<((y5.2.1.length:Nat):Int)) then
     (bif Ah.pre ((y5.2.1.set (Int.toNat ((y5.1.1.length:Nat):Int)) y5.1.2.1),()) then some (Ah.F ((y5.2.1.set (Int.toNat ((y5.1.1.length:Nat):Int)) y5.1.2.1),())) else none) else none) fun _=>none
  else none:Option (DenS FW))=some (Dw (nv (2^64) a+nv (2^64) b),()):=by
 have hw:=aBa a b ha hb (by omega) 0 (Nat.zero_le _)
 have h0:BN a b 0/(2^64)^0=0:=by unfold BN; simp [nv]
 rw [h0,show ((0:Nat):Int)=0 from rfl,aFd a b [],← aBB] at hw
 have e3:decide (((a.length+1:Nat):Int)*8<=140737488355328)=true:=decide_eq_true (by omega)
 rw [BO _ (by omega),e3,AU,Int.toNat_natCast,hw]
 obtain ⟨g1,g2⟩:=aI5 a b ha hb hab
 have hol:=t5 a b a.length (Nat.le_refl _)
 have p1:=Dz (pd (2^64) (a.length+1) (nv (2^64) a+nv (2^64) b)) (by rw [E8]; exact hlen)
 rw [FE (by decide) _ (Qj (by decide) _ _),Qk (by decide) _ _ g2,← g1,← Ep] at p1
 generalize BN a b a.length/(2^64)^a.length=c at *
 generalize Dd a b a.length=out at *
 show (bif decide (0<=(((Wd a).length:Nat):Int))&&decide ((((Wd a).length:Nat):Int)<(((Wd out).length:Nat):Int)) then
     (bif Ah.pre ((Wd out).set (Wd a).length (c:Int),()) then some (Ah.F ((Wd out).set (Wd a).length (c:Int),())) else none) else none)=_
 simp (disch:=omega) only [B4,BO,B5,BP,Bq,B6,BK,BJ,BZ,BY,BX,BW,BU,BT,B1,B0,BV,BE,AU,Bx,AX,Bf,BC,Int.toNat_natCast,Int.toNat_zero,cond_true,cond_false,Bool.and_self,Bool.true_and,Bool.and_true,Bool.false_and,Bool.and_false,Bool.not_true,Bool.not_false,Bool.or_self,Bool.true_or,Bool.or_true,Bool.false_or,Bool.or_false,AC,CS p1,CQ p1]
 rfl
theorem iZ (l m:List Nat) (hl:Ws l) (hm:Ws m) (hl2:(Ai l).length<1000000) (hm2:(Ai m).length<1000000):Nq (Wd l,Wd m,())=some (Dw (nv (2^64) l+nv (2^64) m),()):=by
 show XE Az.pre Az.F Ah.pre Ah.F Se (Wd l) (Wd m)=_
 unfold XE
 have p0:=Dz l hl.2
 have p1:=Dz m hm.2
 have h1:∀ x∈Ai l,x<2^64:=fun x hx=>hl.1 x (Ob hx)
 have h2:∀ x∈Ai m,x<2^64:=fun x hx=>hm.1 x (Ob hx)
 simp only [CS p0,CQ p0,CS p1,CQ p1,cond_true]
 rcases Nat.lt_or_ge (Ai l).length (Ai m).length with h | h
 ·rw [AC,AC,BK _ _ h,cond_true]
  have:=nC (Ai m) (Ai l) h2 h1 hm2 (by omega)
  rw [HR (by decide) hl.1,HR (by decide) hm.1,Nat.add_comm] at this
  exact this
 ·rw [AC,AC,BJ _ _ h,cond_false]
  have:=nC (Ai l) (Ai m) h1 h2 hl2 (by omega)
  rw [HR (by decide) hl.1,HR (by decide) hm.1] at this
  exact this
theorem aAv (l:List Nat) (hl:Ws l):Q9 (Wd l,())=some (Dw (nv (2^64) l),()):=by
 show XH Ah.pre Ah.F (Wd l)=_
 unfold XH
 have p0:=Dz l hl.2
 have hle:=(Dv l).1
 have h2:=hl.2
 have e3:decide ((((Ai l).length:Nat):Int)*8<=140737488355328)=true:=decide_eq_true (by omega)
 simp (disch:=omega) only [B4,BO,B5,BP,Bq,B6,BK,BJ,BZ,BY,BX,BW,BU,BT,B1,B0,BV,BE,AU,Bx,AX,Bf,BC,Int.toNat_natCast,Int.toNat_zero,cond_true,cond_false,Bool.and_self,Bool.true_and,Bool.and_true,Bool.false_and,Bool.and_false,Bool.not_true,Bool.not_false,Bool.or_self,Bool.true_or,Bool.or_true,Bool.false_or,Bool.or_false,CS p0,CQ p0,AC,e3,List.length_replicate,List.drop_replicate,Nat.sub_self]
 rw [List.take_of_length_le (by rw [AC]; exact Nat.le_refl _),List.replicate_zero,List.append_nil,FE (by decide) l hl.1]
 rfl
theorem Zh (l:List Nat) (hl:Ws l):OB (Wd l,())=some (Dw (nv (2^64) l),()):=by
 show Xm Cn.pre Cn.F (Wd l)=_
 unfold Xm
 have p0:=aAv l hl
 simp only [aFz p0,aDa p0,cond_true]
end VL
namespace VL
open Go Vx
def Wi (n:Nat):Aa (.pair (.int .u64) (.pair (.int .u64) .unit)):=(((n/2^64:Nat):Int),(((n%2^64:Nat):Int),()))
theorem jU (k:Nat) (h:0<k):decide ((k:Int)<=0)=false:=decide_eq_false (by omega)
theorem aBJ {A q R P:Nat} (g1:A%2^64=R) (g2:q<P) (g4:R+P<=2^64):(A+q)%2^64=q+R:=by omega
theorem aBK {X Y r:Nat} (h:X%2^64=Y) (hr:r<2^64):(2^64*X+r)%2^128=2^64*Y+r:=by omega
theorem aBL {X h q R P:Nat} (e:X=2^64*h+R+q) (g2:q<P) (g4:R+P<=2^64):X/2^64=h/\X%2^64=q+R:=by omega
theorem iW (n k:Nat) (hn:n<2^128):Np (Wi n,(k:Int),())=some (Wi (n*2^k%2^128),()):=by
 show Xw (Wi n) k=_
 unfold Xw
 rcases Nat.eq_zero_or_pos k with rfl | hk
 ·have e:n*2^0%2^128=n:=by rw [Nat.pow_zero,Nat.mul_one,Nat.mod_eq_of_lt hn]
  rw [e]; rfl
 rw [jU k hk,cond_false]
 rcases Nat.lt_or_ge k 128 with h128 | h128
 ·rw [show decide ((k:Int)>=128)=false from decide_eq_false (by omega),cond_false]
  have hlo:(n%2^64)<2^64:=Nat.mod_lt _ (by decide)
  have hhi:n/2^64<2^64:=by omega
  have hsplit:n=2^64*(n/2^64)+n%2^64:=(Nat.div_add_mod n (2^64)).symm
  rcases Nat.lt_or_ge k 64 with h64 | h64
  ·have e8:IntKind.wrap .i64 (64-(k:Int))=((64-k:Nat):Int):=DN 64 k (by omega) (by omega)
   rw [show decide ((k:Int)>=64)=false from decide_eq_false (by omega),cond_false,AU,cond_true,e8,AU,cond_true,cond_true]
   show some ((Bz .u64 (Bp .u64 ((n/2^64:Nat):Int) k) (AN .u64 ((n%2^64:Nat):Int) ((64-k:Nat):Int)),(Bp .u64 ((n%2^64:Nat):Int) k,())),())=_
   rw [GI _ k (by omega),GI _ k (by omega),DK _ (64-k) (by omega)]
   have hp:=Nat.two_pow_pos k
   have hp2:=Nat.two_pow_pos (64-k)
   have h2:2^64=2^(64-k)*2^k:=by rw [← Nat.pow_add]; congr 1; omega
   generalize n/2^64=hi at *
   generalize n%2^64=lo at *
   have g1:hi*2^k%2^64=(hi%2^(64-k))*2^k:=by rw [h2,Nat.mul_mod_mul_right]
   have g2:lo/2^(64-k)<2^k:=by rw [Nat.div_lt_iff_lt_mul hp2,Nat.mul_comm,← h2]; exact hlo
   have g3:hi%2^(64-k)+1<=2^(64-k):=Nat.mod_lt _ hp2
   have g4:=Nat.mul_le_mul_right (2^k) g3
   rw [← h2,Nat.add_mul,Nat.one_mul] at g4
   have hor:Bz .u64 ((hi*2^k%2^64:Nat):Int) ((lo/2^(64-k):Nat):Int)=((lo/2^(64-k)+(hi%2^(64-k))*2^k:Nat):Int):=by
    have:=JM g2 (b:=hi%2^(64-k)) (by omega)
    rw [g1]
    have hc:∀ a b:Nat,a<2^64->b<2^64->Bz .u64 (a:Int) (b:Int)=Bz .u64 (b:Int) (a:Int):=fun a b ha hb=>by
     rw [TF ha hb,TF hb ha,Nat.or_comm]
    rw [hc _ _ (by omega) (by omega)]
    exact this
   rw [hor]
   have hdm:=Nat.div_add_mod lo (2^(64-k))
   have v1:n*2^k=2^64*(hi*2^k+lo/2^(64-k))+lo*2^k%2^64:=by
    have g5:lo*2^k%2^64=(lo%2^(64-k))*2^k:=by rw [h2,Nat.mul_mod_mul_right]
    have g6:2^64*(lo/2^(64-k))=2^(64-k)*(lo/2^(64-k))*2^k:=by
     rw [Nat.mul_right_comm,← h2]
    rw [hsplit,Nat.add_mul,Nat.mul_add,Nat.mul_assoc,Nat.add_assoc,g6,g5,← Nat.add_mul,hdm]
   have v2:n*2^k%2^128=2^64*(lo/2^(64-k)+(hi%2^(64-k))*2^k)+lo*2^k%2^64:=by
    rw [v1]
    have hlo2:lo*2^k%2^64<2^64:=Nat.mod_lt _ (by decide)
    exact aBK (aBJ g1 g2 g4) hlo2
   have hlo2:lo*2^k%2^64<2^64:=Nat.mod_lt _ (by decide)
   have e1:n*2^k%2^128/2^64=lo/2^(64-k)+(hi%2^(64-k))*2^k:=by rw [v2]; omega
   have e2:n*2^k%2^128%2^64=lo*2^k%2^64:=by rw [v2]; omega
   unfold Wi
   rw [e1,e2]
  ·have e8:IntKind.wrap .i64 ((k:Int)-64)=((k-64:Nat):Int):=DN k 64 (by omega) (by omega)
   rw [show decide ((k:Int)>=64)=true from decide_eq_true (by omega),cond_true,e8,AU,cond_true]
   show some ((Bp .u64 ((n%2^64:Nat):Int) ((k-64:Nat):Int),((0:Int),())),())=_
   rw [GI _ (k-64) (by omega)]
   have v1:n*2^k%2^128=2^64*(n%2^64*2^(k-64)%2^64):=by
    have h2:2^k=2^(k-64)*2^64:=by rw [← Nat.pow_add]; congr 1; omega
    rw [h2,← Nat.mul_assoc,show 2^128=2^64*2^64 by decide,Nat.mul_mod_mul_right,Nat.mul_comm _ (2^64),Nat.mul_mod n (2^(k-64)),Nat.mul_mod (n%2^64) (2^(k-64)),Nat.mod_mod]
   have e1:n*2^k%2^128/2^64=n%2^64*2^(k-64)%2^64:=by rw [v1]; omega
   have e2:n*2^k%2^128%2^64=0:=by rw [v1]; omega
   unfold Wi
   rw [e1,e2]
   rfl
 ·rw [show decide ((k:Int)>=128)=true from decide_eq_true (by omega),cond_true]
  have e:n*2^k%2^128=0:=by
   rw [show k=(k-128)+128 by omega,Nat.pow_add,← Nat.mul_assoc]
   exact Nat.mul_mod_left _ _
  rw [e]
  rfl
theorem aAq (n k:Nat) (hn:n<2^128):OF (Wi n,(k:Int),())=some (Wi (n/2^k),()):=by
 show Xx (Wi n) k=_
 unfold Xx
 rcases Nat.eq_zero_or_pos k with rfl | hk
 ·have e:n/2^0=n:=by rw [Nat.pow_zero,Nat.div_one]
  rw [e]; rfl
 rw [jU k hk,cond_false]
 rcases Nat.lt_or_ge k 128 with h128 | h128
 ·rw [show decide ((k:Int)>=128)=false from decide_eq_false (by omega),cond_false]
  have hlo:(n%2^64)<2^64:=Nat.mod_lt _ (by decide)
  have hhi:n/2^64<2^64:=by omega
  rcases Nat.lt_or_ge k 64 with h64 | h64
  ·have e8:IntKind.wrap .i64 (64-(k:Int))=((64-k:Nat):Int):=DN 64 k (by omega) (by omega)
   rw [show decide ((k:Int)>=64)=false from decide_eq_false (by omega),cond_false,AU,cond_true,e8,AU,cond_true,cond_true]
   show some ((AN .u64 ((n/2^64:Nat):Int) k,(Bz .u64 (AN .u64 ((n%2^64:Nat):Int) k) (Bp .u64 ((n/2^64:Nat):Int) ((64-k:Nat):Int)),())),())=_
   rw [GI _ (64-k) (by omega),DK _ k (by omega),DK _ k (by omega)]
   have hp:=Nat.two_pow_pos k
   have hp2:=Nat.two_pow_pos (64-k)
   have h2:2^64=2^k*2^(64-k):=by rw [← Nat.pow_add]; congr 1; omega
   have hsplit:n=2^64*(n/2^64)+n%2^64:=(Nat.div_add_mod n (2^64)).symm
   generalize n/2^64=hi at *
   generalize n%2^64=lo at *
   have g1:hi*2^(64-k)%2^64=(hi%2^k)*2^(64-k):=by rw [h2,Nat.mul_mod_mul_right]
   have g2:lo/2^k<2^(64-k):=by rw [Nat.div_lt_iff_lt_mul hp,Nat.mul_comm,← h2]; exact hlo
   have g3:hi%2^k+1<=2^k:=Nat.mod_lt _ hp
   have g4:=Nat.mul_le_mul_right (2^(64-k)) g3
   rw [← h2,Nat.add_mul,Nat.one_mul] at g4
   rw [g1,JM g2 (by omega)]
   have v1:n/2^k=hi*2^(64-k)+lo/2^k:=by
    have:n=lo+2^k*(hi*2^(64-k)):=by rw [hsplit,h2,Nat.mul_assoc,Nat.mul_comm hi]; omega
    rw [this,Nat.add_mul_div_left _ _ hp,Nat.add_comm]
   have hdm:=Nat.div_add_mod hi (2^k)
   have v2:hi*2^(64-k)=2^64*(hi/2^k)+(hi%2^k)*2^(64-k):=by
    rw [h2,Nat.mul_right_comm,← Nat.add_mul,hdm]
   rw [v2] at v1
   obtain ⟨e1,e2⟩:=aBL v1 g2 g4
   unfold Wi
   rw [e1,e2]
  ·have e8:IntKind.wrap .i64 ((k:Int)-64)=((k-64:Nat):Int):=DN k 64 (by omega) (by omega)
   rw [show decide ((k:Int)>=64)=true from decide_eq_true (by omega),cond_true,e8,AU,cond_true]
   show some (((0:Int),(AN .u64 ((n/2^64:Nat):Int) ((k-64:Nat):Int),())),())=_
   rw [DK _ (k-64) (by omega)]
   have v1:n/2^k=n/2^64/2^(k-64):=by
    rw [Nat.div_div_eq_div_mul,← Nat.pow_add]; congr 2; omega
   have hs:n/2^k<2^64:=by
    rw [v1]; exact Nat.lt_of_le_of_lt (Nat.div_le_self _ _) hhi
   have e1:n/2^k/2^64=0:=Nat.div_eq_of_lt hs
   have e2:n/2^k%2^64=n/2^64/2^(k-64):=by rw [← v1]; exact Nat.mod_eq_of_lt hs
   unfold Wi
   rw [e1,e2]
   rfl
 ·rw [show decide ((k:Int)>=128)=true from decide_eq_true (by omega),cond_true]
  have e:n/2^k=0:=Nat.div_eq_of_lt (Nat.lt_of_lt_of_le hn (Nat.pow_le_pow_right (by decide) h128))
  rw [e]
  rfl
theorem Pi (x y c:Nat):Az.F ((x:Int),((y:Int),((c:Int),())))=(((((x+y+c)%2^64:Nat):Int)),((((x+y+c)/2^64:Nat):Int)),()):=rfl
theorem Pj (x y:Int) (c:Nat) (h:c<=1):Az.pre (x,(y,((c:Int),())))=true:=by
 show (decide ((0:Int)<=(c:Int))&&decide ((c:Int)<=1))=true
 rw [decide_eq_true (by omega),decide_eq_true (by omega)]; rfl
theorem TZ (x y c:Nat) (h:c<=1) (hx:x<2^64) (hy:y<2^64):AR.F ((x:Int),((y:Int),((c:Int),())))=(((((x+2^64-y-c)%2^64:Nat):Int)),((if x<y+c then 1 else 0:Nat):Int),()):=by
 show ((((x:Int)-y-c)%18446744073709551616:Int),((if (x:Int)<y+c then 1 else 0:Int)),())=_
 have e1:((x:Int)-y-c)%18446744073709551616=((x+2^64-y-c)%2^64:Nat):=by omega
 rw [e1]
 by_cases h:x<y+c
 ·rw [if_pos h,if_pos (by omega)]; rfl
 ·rw [if_neg h,if_neg (by omega)]; rfl
theorem T3 (x y:Int) (c:Nat) (h:c<=1):AR.pre (x,(y,((c:Int),())))=true:=by
 show (decide ((0:Int)<=(c:Int))&&decide ((c:Int)<=1))=true
 rw [decide_eq_true (by omega),decide_eq_true (by omega)]; rfl
theorem aAr (n m:Nat) (h:n+m<2^128):Q1 (Wi n,Wi m,())=some (Wi (n+m),0,()):=by
 show Xy Az.pre Az.F (Wi n) (Wi m)=_
 unfold Xy
 have c1:(n%2^64+m%2^64+0)/2^64<=1:=by omega
 have p1:Az.pre ((Wi n).2.1,((Wi m).2.1,((0:Int),())))=true:=Pj _ _ 0 (by decide)
 have q1:Az.F ((Wi n).2.1,((Wi m).2.1,((0:Int),())))=_:=Pi (n%2^64) (m%2^64) 0
 rw [p1,q1,cond_true]
 have p2:Az.pre ((Wi n).1,((Wi m).1,((((n%2^64+m%2^64+0)/2^64:Nat):Int),())))=true:=Pj _ _ _ c1
 have q2:Az.F ((Wi n).1,((Wi m).1,((((n%2^64+m%2^64+0)/2^64:Nat):Int),())))=_:=Pi (n/2^64) (m/2^64) ((n%2^64+m%2^64+0)/2^64)
 dsimp only
 rw [p2,q2,cond_true]
 have e1:(n/2^64+m/2^64+(n%2^64+m%2^64+0)/2^64)%2^64=(n+m)/2^64:=by omega
 have e2:(n%2^64+m%2^64+0)%2^64=(n+m)%2^64:=by omega
 have e3:(n/2^64+m/2^64+(n%2^64+m%2^64+0)/2^64)/2^64=0:=by omega
 rw [e1,e2,e3]
 rfl
theorem Zk (n m:Nat) (hn:n<2^128) (h:m<=n):Q5 (Wi n,Wi m,())=some (Wi (n-m),0,()):=by
 show XB AR.pre AR.F (Wi n) (Wi m)=_
 unfold XB
 have p1:AR.pre ((Wi n).2.1,((Wi m).2.1,((0:Int),())))=true:=T3 _ _ 0 (by decide)
 have q1:AR.F ((Wi n).2.1,((Wi m).2.1,((0:Int),())))=_:=TZ (n%2^64) (m%2^64) 0 (by decide) (by omega) (by omega)
 rw [p1,q1,cond_true]
 have c1:(if n%2^64<m%2^64+0 then 1 else 0)<=1:=by split <;> omega
 have p2:AR.pre ((Wi n).1,((Wi m).1,(((if n%2^64<m%2^64+0 then 1 else 0:Nat):Int),())))=true:=T3 _ _ _ c1
 have q2:AR.F ((Wi n).1,((Wi m).1,(((if n%2^64<m%2^64+0 then 1 else 0:Nat):Int),())))=_:=TZ (n/2^64) (m/2^64) _ c1 (by omega) (by omega)
 dsimp only
 rw [p2,q2,cond_true]
 have e2:(n%2^64+2^64-m%2^64-0)%2^64=(n-m)%2^64:=by omega
 rw [e2]
 by_cases hb:n%2^64<m%2^64+0
 ·rw [if_pos hb,if_neg (by omega)]
  have e1:(n/2^64+2^64-m/2^64-1)%2^64=(n-m)/2^64:=by omega
  rw [e1]
  rfl
 ·rw [if_neg hb,if_neg (by omega)]
  have e1:(n/2^64+2^64-m/2^64-0)%2^64=(n-m)/2^64:=by omega
  rw [e1]
  rfl
theorem aAs (n m:Nat):Q4 (Wi n,Wi m,())=some (if n=m then 0 else if n<m then -1 else 1,()):=by
 show XA (Wi n) (Wi m)=_
 unfold XA
 show (bif (((n/2^64:Nat):Int)==((m/2^64:Nat):Int)&&((n%2^64:Nat):Int)==((m%2^64:Nat):Int)) then some ((0:Int),())
  else bif (decide (((n/2^64:Nat):Int)<((m/2^64:Nat):Int))||(((n/2^64:Nat):Int)==((m/2^64:Nat):Int)&&decide (((n%2^64:Nat):Int)<((m%2^64:Nat):Int)))) then some ((-1:Int),()) else some ((1:Int),()):Option (Int×Unit))=_
 rw [NZ,NZ,dW,dW]
 rcases Nat.lt_trichotomy n m with h | h | h
 ·have e1:(n/2^64==m/2^64&&n%2^64==m%2^64)=false:=by
   rw [Bool.and_eq_false_iff,beq_eq_false_iff_ne,beq_eq_false_iff_ne]; omega
  have e2:(decide (n/2^64<m/2^64)||(n/2^64==m/2^64&&decide (n%2^64<m%2^64)))=true:=by
   rw [Bool.or_eq_true,Bool.and_eq_true,decide_eq_true_eq,decide_eq_true_eq,beq_iff_eq]; omega
  rw [e1,e2,if_neg (by omega),if_pos h]; rfl
 ·subst h
  rw [if_pos rfl]
  simp
 ·have e1:(n/2^64==m/2^64&&n%2^64==m%2^64)=false:=by
   rw [Bool.and_eq_false_iff,beq_eq_false_iff_ne,beq_eq_false_iff_ne]; omega
  have e2:(decide (n/2^64<m/2^64)||(n/2^64==m/2^64&&decide (n%2^64<m%2^64)))=false:=by
   rw [Bool.or_eq_false_iff,Bool.and_eq_false_iff,decide_eq_false_iff_not,decide_eq_false_iff_not,beq_eq_false_iff_ne]; omega
  rw [e1,e2,if_neg (by omega),if_neg (by omega)]; rfl
end VL
namespace VL
open Go Vx
def CR (m:Int) (neg odd:Bool) (rest:Nat):Bool :=
 if m=4 then neg else if m=3 then !neg else if m=0 then (if rest=2 then odd else decide (2<=rest)) else if m=1 then decide (2<=rest) else if m=5 then !odd else false
theorem P5 (a b:Int) (h:a≠b):(a==b)=false:=by simp [h]
theorem OL (m:Int) (neg odd:Bool) (rest:Nat):Nu (m,neg,odd,(rest:Int),())=some (CR m neg odd rest,()):=by
 show XT m neg odd (rest:Int)=_
 have e2:decide ((rest:Int)>=2)=decide (2<=rest):=by rw [Bool.eq_iff_iff,decide_eq_true_eq,decide_eq_true_eq]; omega
 have e3:((rest:Int)==2)=decide (rest=2):=by rw [Bool.eq_iff_iff,decide_eq_true_eq,beq_iff_eq]; omega
 unfold XT CR
 rw [e2,e3]
 by_cases h4:m=4
 ·subst h4; cases neg <;> rfl
 rw [P5 m 4 h4,cond_false,if_neg h4]
 by_cases h3:m=3
 ·subst h3; rfl
 rw [P5 m 3 h3,cond_false,if_neg h3]
 by_cases h0:m=0
 ·subst h0
  by_cases hr:rest=2
  ·subst hr; rfl
  ·rw [decide_eq_false hr,if_pos rfl,if_neg hr]; rfl
 rw [P5 m 0 h0,cond_false,if_neg h0]
 by_cases h1:m=1
 ·subst h1; rfl
 rw [P5 m 1 h1,cond_false,if_neg h1]
 by_cases h5:m=5
 ·subst h5; rfl
 rw [P5 m 5 h5,cond_false,if_neg h5]
def FB (n:Nat) (e q:Int):Nat:=if q<=e then n*2^(e-q).toNat else n/2^(q-e).toNat
def Cq (r s:Nat):Nat:=if r=0 then 0 else if r<2^(s-1) then 1 else if r=2^(s-1) then 2 else 3
def M5 (n:Nat) (e q:Int):Nat:=if q<=e then 0 else Cq (n%2^(q-e).toNat) (q-e).toNat
def j4 (n:Nat) (e q:Int):Nat:=if 2<=q-e then JG n (q-e-2).toNat else n*2^(2-(q-e)).toNat
theorem aDS (n:Nat) (e q:Int):j4 n e q/4=FB n e q/\j4 n e q%4=M5 n e q:=by
 unfold j4 FB M5
 by_cases h2:2<=q-e
 ·rw [if_pos h2,if_neg (by omega),if_neg (by omega)]
  have es:(q-e).toNat=(q-e-2).toNat+2:=by omega
  rw [es]
  generalize (q-e-2).toNat=s
  have hp:=Nat.two_pow_pos s
  have e1:2^(s+2)=2^s*4:=by rw [Nat.pow_add]
  have e2:2^(s+2-1)=2^s*2:=by rw [show s+2-1=s+1 by omega,Nat.pow_succ]
  unfold JG Cq
  rw [e2,e1,← Nat.div_div_eq_div_mul,Nat.mod_mul]
  have hr:=Nat.mod_lt n hp
  generalize n%2^s=r at *
  generalize n/2^s=u at *
  have h4:u%4=0∨u%4=1∨u%4=2∨u%4=3:=by omega
  constructor
  ·split <;> omega
  ·rcases h4 with h | h | h | h <;> rw [h] <;> by_cases hz:r=0
   ·rw [if_pos hz,if_pos (by omega)]; exact h
   ·rw [if_neg hz,if_neg (by omega),if_pos (by omega)]; omega
   ·rw [if_pos hz,if_neg (by omega),if_pos (by omega)]; exact h
   ·rw [if_neg hz,if_neg (by omega),if_pos (by omega)]; omega
   ·rw [if_pos hz,if_neg (by omega),if_neg (by omega),if_pos (by omega)]; exact h
   ·rw [if_neg hz,if_neg (by omega),if_neg (by omega),if_neg (by omega)]; omega
   ·rw [if_pos hz,if_neg (by omega),if_neg (by omega),if_neg (by omega)]; exact h
   ·rw [if_neg hz,if_neg (by omega),if_neg (by omega),if_neg (by omega)]; omega
 ·rw [if_neg h2]
  by_cases h1:q<=e
  ·rw [if_pos h1,if_pos h1,show (2-(q-e)).toNat=(e-q).toNat+2 by omega,Nat.pow_add,← Nat.mul_assoc]
   generalize n*2^(e-q).toNat=x
   omega
  ·rw [if_neg h1,if_neg h1,show (2-(q-e)).toNat=1 by omega,show (q-e).toNat=1 by omega]
   unfold Cq
   rcases Nat.mod_two_eq_zero_or_one n with h | h
   ·rw [show n%2^1=0 from h,if_pos rfl]; omega
   ·rw [show n%2^1=1 from h,if_neg (by omega),if_neg (by decide),if_pos (by decide)]; omega
def DC (n:Nat) (e q:Int) (more:Bool):Nat:=if more then M5 n e q/2*2+1 else M5 n e q
def BS (m:Int) (neg:Bool) (n:Nat) (e q:Int) (more:Bool):Nat :=
 if DC n e q more≠0/\CR m neg (decide (FB n e q%2=1)) (DC n e q more)=true then FB n e q+1 else FB n e q
theorem D5:Dw 0=[]:=by unfold Dw; rw [DD]; rfl
theorem Om {n:Nat} (h:n≠0):0<(Dw n).length:=by
 unfold Dw; rw [AC,E3 (by decide) (by omega)]; simp
theorem J3 {n:Nat} (h:n≠0):decide ((((Dw n).length:Nat):Int)>0)=true:=decide_eq_true (by have:=Om h; omega)
theorem QL {n:Nat} (h:n≠0):decide ((0:Int)<(((Dw n).length:Nat):Int))=true:=decide_eq_true (by have:=Om h; omega)
theorem Nc (n:Nat):(Dw n).getD 0 0=((n%2^64:Nat):Int):=by
 unfold Dw; rw [Ci]
 rcases Nat.eq_zero_or_pos n with rfl | h
 ·rw [DD]; rfl
 ·rw [E3 (by decide) h]; rfl
theorem xS:Dw 1=(1:Int)::[]:=by
 unfold Dw; rw [E3 (by decide) (by decide),DD]; rfl
theorem J2 (n:Nat):(decide ((0:Int)<(((Dw n).length:Nat):Int))||!decide ((((Dw n).length:Nat):Int)>0))=true:=by
 by_cases h:0<(Dw n).length
 ·rw [decide_eq_true (by omega)]; rfl
 ·rw [decide_eq_false (p:=(((Dw n).length:Nat):Int)>0) (by omega)]; simp
theorem VF (n:Nat):CK .u64 ((n%2^64:Nat):Int) 3=((n%4:Nat):Int):=by
 have:=Pl (m:=n%2^64) (n:=2) (Nat.mod_lt _ (by decide)) (by decide)
 rw [show n%2^64%2^2=n%4 by omega] at this
 exact this
theorem aBD (n:Nat):CK .u64 ((n%2^64:Nat):Int) 1=((n%2:Nat):Int):=by
 have:=Pl (m:=n%2^64) (n:=1) (Nat.mod_lt _ (by decide)) (by decide)
 rw [show n%2^64%2^1=n%2 by omega] at this
 exact this
theorem tX (n:Nat) (h:n<2^64):Bz .u64 (n:Int) 1=((n/2*2+1:Nat):Int):=by
 have:=TF (a:=n) (b:=1) h (by decide)
 rw [tY] at this
 exact this
theorem tW:Bz .u64 0 1=1:=by decide
theorem Qe (u:Nat):(decide ((((Dw u).length:Nat):Int)>0)&&(CK .u64 ((Dw u).getD 0 0) 1==1))=decide (u%2=1):=by
 rw [Nc,aBD]
 rcases Nat.eq_zero_or_pos u with rfl | h
 ·rw [D5]; rfl
 ·rw [J3 (by omega),Bool.true_and,Bool.eq_iff_iff,decide_eq_true_eq,beq_iff_eq]; omega
theorem CX {n:Nat} (h:n<(2^64)^5000):Ws (dg (2^64) n):=by
 have:=Da (B:=2^64) (by decide) 5000 n h
 exact oR n (by omega)
theorem B9 (n:Nat):nv (2^64) (dg (2^64) n)=n:=WL (by decide) n
theorem wA {j:Nat} (hj:Ws (dg (2^64) j)):My (Dw j,(2:Int),())=some (Dw (j/4),0,()):=by
 have:=iY (dg (2^64) j) hj 2 (by decide)
 rw [B9] at this
 exact this
theorem m9 {u:Nat} (hu:Ws (dg (2^64) u)) (hl:(dg (2^64) u).length<1000000):Nq (Dw u,((1:Int)::[]),())=some (Dw (u+1),()):=by
 have:=iZ (dg (2^64) u) [1] hu ⟨by simp,by simp⟩ (by rw [ML (by decide)]; exact hl) (by simp [Ai])
 rw [B9,show nv (2^64) [1]=1 by rfl] at this
 exact this
end VL
namespace VL
open Go Vx
theorem Wz:decide ((0:Int)>0)=false:=rfl
theorem aAy (m:Int) (neg:Bool) (n:Nat) (e q:Int) (more:Bool) (hn:n<(2^64)^2000) (hq:q-e<=10000000) (he:-1000000000<=e/\e<=1000000000) (hqb:-1000000000<=q/\q<=1000000000)
  (hs:q-e<2->2-(q-e)<=65536/\n*2^(2-(q-e)).toNat<(2^64)^1024) :
  OG ((neg,Dw n,e,more,()),m,q,())=some (Dw (BS m neg n e q more),decide (DC n e q more≠0),()):=by
 show XL _ _ _ _ _ _ _ _ _ _ (neg,Dw n,e,more,()) m q=_
 unfold XL
 have hnw:Ws (dg (2^64) n):=CX (Nat.lt_trans hn (Nat.pow_lt_pow_right (by decide) (by decide)))
 have e0:IntKind.wrap .i64 (q-e)=q-e:=Au (by omega)
 have hj4:=aDS n e q
 dsimp only
 rw [e0]
 by_cases h2:2<=q-e
 ·rw [show decide (q-e>=2)=true from decide_eq_true h2,cond_true]
  obtain ⟨s,hs⟩:=Int.eq_ofNat_of_zero_le (show 0<=q-e-2 by omega)
  have e1:IntKind.wrap .i64 (q-e-2)=(s:Int):=by rw [Au (by omega)]; exact hs
  have hj:j4 n e q=JG n s:=by unfold j4; rw [if_pos h2]; congr 1; omega
  rw [hj] at hj4
  have hjn:JG n s<=n+1:=by
   unfold JG
   have:=Nat.div_le_self n (2^s)
   split <;> omega
  have p0:=aAC (dg (2^64) n) hnw s (by omega)
  rw [B9] at p0
  have hjl:JG n s<(2^64)^5000:=by
   have h1:(2^64)^2000<(2^64)^5000:=Nat.pow_lt_pow_right (by decide) (by decide)
   generalize (2^64)^2000=A at *
   generalize (2^64)^5000=B at *
   omega
  clear hj
  generalize JG n s=j at *
  have hj:Ws (dg (2^64) j):=CX hjl
  rw [e1]
  have p0:OK (Dw n,(s:Int),())=some (Dw j,0,()):=p0
  have p1:=wA hj
  have hu:Ws (dg (2^64) (j/4)):=CX (Nat.lt_of_le_of_lt (Nat.div_le_self _ _) hjl)
  have hul:=Da (B:=2^64) (by decide) 5000 (j/4) (Nat.lt_of_le_of_lt (Nat.div_le_self _ _) hjl)
  have p3:=m9 hu (by omega)
  have h4:j%4<4:=Nat.mod_lt _ (by decide)
  unfold BS DC
  rw [← hj4.1,← hj4.2]
  rcases Nat.eq_zero_or_pos j with hj0 | hj0
  ·subst hj0
   have pz:My ([],(2:Int),())=some (Dw (0/4),0,()):=by rw [← D5]; exact p1
   cases more with
   | true =>
    have p2:Nu (m,neg,decide (0/4%2=1),(1:Int),())=some (CR m neg (decide (0/4%2=1)) 1,()):=OL m neg _ 1
    simp only [WU p0,Wg p0,cond_true,D5,List.length_nil,BE,Int.natCast_zero,cond_false,Int.toNat_zero,Wz,tW,JO pz,JB pz,J2,Qe,Qp p2,Py p2,Bool.true_or,Bool.or_true,Bool.true_and]
    cases hf:CR m neg (decide (0/4%2=1)) 1 with
    | true=>simp only [cond_true,JP p3,JC p3]; have hf:CR m neg false 1=true:=hf; simp [hf]
    | false=>simp only [cond_false]; have hf:CR m neg false 1=false:=hf; simp [hf]
   | false =>
    simp only [WU p0,Wg p0,cond_true,D5,List.length_nil,Int.natCast_zero,cond_false,Int.toNat_zero,Wz,JO pz,JB pz,J2,Bool.or_true]
    simp
  ·have hjn:j≠0:=by omega
   cases more with
   | true =>
    have p2:=OL m neg (decide (j/4%2=1)) (j%4/2*2+1)
    have hr:j%4/2*2+1≠0:=by omega
    simp only [WU p0,Wg p0,cond_true,J3 hjn,QL hjn,Int.toNat_zero,Nc j,VF,tX (j%4) (by omega),JO p1,JB p1,J2,Qe,Qp p2,Py p2,Bool.true_or,Bool.or_true,Bf _ hr,Bool.true_and]
    cases hf:CR m neg (decide (j/4%2=1)) (j%4/2*2+1) with
    | true=>simp only [cond_true,JP p3,JC p3]; simp [hf]
    | false=>simp only [cond_false]; simp [hf]
   | false =>
    have p2:=OL m neg (decide (j/4%2=1)) (j%4)
    simp only [WU p0,Wg p0,cond_true,cond_false,J3 hjn,QL hjn,Int.toNat_zero,Nc j,VF,JO p1,JB p1,J2,Qe,Qp p2,Py p2,Bool.true_or,Bool.or_true]
    rcases Nat.eq_zero_or_pos (j%4) with hz | hz
    ·rw [BC _ hz,Bool.false_and,cond_false]
     simp [hz]
    ·have hr:j%4≠0:=by omega
     rw [Bf _ hr,Bool.true_and]
     cases hf:CR m neg (decide (j/4%2=1)) (j%4) with
     | true=>simp only [cond_true,JP p3,JC p3]; simp [hf,hr]
     | false=>simp only [cond_false]; simp [hf,hr]
 ·rw [show decide (q-e>=2)=false from decide_eq_false h2,cond_false]
  obtain ⟨s,hse⟩:=Int.eq_ofNat_of_zero_le (show 0<=2-(q-e) by omega)
  have e1:IntKind.wrap .i64 (2-(q-e))=(s:Int):=by rw [Au (by omega)]; exact hse
  have hj:j4 n e q=n*2^s:=by unfold j4; rw [if_neg h2]; congr 2; omega
  rw [hj] at hj4
  obtain ⟨hs1,hs2⟩:=hs (by omega)
  rw [show (2-(q-e)).toNat=s by omega] at hs2
  have p0:=jA (dg (2^64) n) hnw s (by omega) (by rw [B9]; exact hs2)
  rw [B9] at p0
  have hjl:n*2^s<(2^64)^5000:=Nat.lt_trans hs2 (Nat.pow_lt_pow_right (by decide) (by decide))
  clear hj
  generalize n*2^s=j at *
  have hj:Ws (dg (2^64) j):=CX hjl
  rw [e1]
  have p0:Nt (Dw n,(s:Int),())=some (Dw j,0,()):=p0
  have p1:=wA hj
  have hu:Ws (dg (2^64) (j/4)):=CX (Nat.lt_of_le_of_lt (Nat.div_le_self _ _) hjl)
  have hul:=Da (B:=2^64) (by decide) 5000 (j/4) (Nat.lt_of_le_of_lt (Nat.div_le_self _ _) hjl)
  have p3:=m9 hu (by omega)
  have h4:j%4<4:=Nat.mod_lt _ (by decide)
  unfold BS DC
  rw [← hj4.1,← hj4.2]
  rcases Nat.eq_zero_or_pos j with hj0 | hj0
  ·subst hj0
   have pz:My ([],(2:Int),())=some (Dw (0/4),0,()):=by rw [← D5]; exact p1
   cases more with
   | true =>
    have p2:Nu (m,neg,decide (0/4%2=1),(1:Int),())=some (CR m neg (decide (0/4%2=1)) 1,()):=OL m neg _ 1
    simp only [TI p0,Te p0,cond_true,D5,List.length_nil,BE,Int.natCast_zero,cond_false,Int.toNat_zero,Wz,tW,JO pz,JB pz,J2,Qe,Qp p2,Py p2,Bool.true_or,Bool.or_true,Bool.true_and]
    cases hf:CR m neg (decide (0/4%2=1)) 1 with
    | true=>simp only [cond_true,JP p3,JC p3]; have hf:CR m neg false 1=true:=hf; simp [hf]
    | false=>simp only [cond_false]; have hf:CR m neg false 1=false:=hf; simp [hf]
   | false =>
    simp only [TI p0,Te p0,cond_true,D5,List.length_nil,Int.natCast_zero,cond_false,Int.toNat_zero,Wz,JO pz,JB pz,J2,Bool.or_true]
    simp
  ·have hjn:j≠0:=by omega
   cases more with
   | true =>
    have p2:=OL m neg (decide (j/4%2=1)) (j%4/2*2+1)
    have hr:j%4/2*2+1≠0:=by omega
    simp only [TI p0,Te p0,cond_true,J3 hjn,QL hjn,Int.toNat_zero,Nc j,VF,tX (j%4) (by omega),JO p1,JB p1,J2,Qe,Qp p2,Py p2,Bool.true_or,Bool.or_true,Bf _ hr,Bool.true_and]
    cases hf:CR m neg (decide (j/4%2=1)) (j%4/2*2+1) with
    | true=>simp only [cond_true,JP p3,JC p3]; simp [hf]
    | false=>simp only [cond_false]; simp [hf]
   | false =>
    have p2:=OL m neg (decide (j/4%2=1)) (j%4)
    simp only [TI p0,Te p0,cond_true,cond_false,J3 hjn,QL hjn,Int.toNat_zero,Nc j,VF,JO p1,JB p1,J2,Qe,Qp p2,Py p2,Bool.true_or,Bool.or_true]
    rcases Nat.eq_zero_or_pos (j%4) with hz | hz
    ·rw [BC _ hz,Bool.false_and,cond_false]
     simp [hz]
    ·have hr:j%4≠0:=by omega
     rw [Bf _ hr,Bool.true_and]
     cases hf:CR m neg (decide (j/4%2=1)) (j%4) with
     | true=>simp only [cond_true,JP p3,JC p3]; simp [hf,hr]
     | false=>simp only [cond_false]; simp [hf,hr]
end VL
namespace VL
open Go Vx
def AZ (f:Int) (neg:Bool):Nat:=if neg then 2^(fW f-1) else 0
def Bv (f:Int) (neg:Bool):Nat:=(2^(fW f-fP f)-1)*2^(fP f-1)+AZ f neg
def Oc (m:Int) (neg:Bool):Bool:=((m==0||m==1)||(m==3&&!neg))||(m==4&&neg)
def Pn (f m:Int) (neg:Bool):Nat:=if Oc m neg then Bv f neg else Bv f neg-1
theorem UY {f:Int} (h:Fm f) (neg:Bool):R7 (f,neg,())=some ((Bv f neg:Int),0,()):=by
 rcases CH h with rfl | rfl | rfl | rfl <;> cases neg <;> kernel_rfl
theorem aAW {f:Int} (h:Fm f) (neg:Bool):RJ (f,neg,())=some (((Bv f neg-1:Nat):Int),0,()):=by
 rcases CH h with rfl | rfl | rfl | rfl <;> cases neg <;> kernel_rfl
theorem OE {f:Int} (h:Fm f) (neg:Bool):Q0 (f,neg,())=some ((AZ f neg:Int),0,()):=by
 rcases CH h with rfl | rfl | rfl | rfl <;> cases neg <;> kernel_rfl
theorem aAx {f:Int} (h:Fm f) (m:Int) (neg:Bool):Rc (f,m,neg,())=some ((Pn f m neg:Int),()):=by
 show XK Cy.pre Cy.F Hr.pre Hr.F f m neg=_
 have p0:=UY h neg
 have p1:=aAW h neg
 unfold XK Pn
 show (bif Oc m neg then (bif Cy.pre (f,neg,()) then some ((Cy.F (f,neg,())).1,()) else none) else (bif Hr.pre (f,neg,()) then some ((Hr.F (f,neg,())).1,()) else none))=_
 rw [W5 p0,Wu p0,aFW p1,aDx p1]
 cases Oc m neg <;> rfl
def AA (n:Nat) (e:Int):Int:=e+(Ab n:Int)-1
theorem Cj {n k:Nat} (h:n<2^k):Ab n<=k:=by
 rcases Nat.eq_zero_or_pos n with rfl | hn
 ·exact Nat.zero_le _
 ·have:=Gu (n:=n) (by omega)
  have:Ab n-1<k:=(Nat.pow_lt_pow_iff_right (a:=2) (by decide)).1 (Nat.lt_of_le_of_lt this h)
  omega
theorem VK {n:Nat} (h:n≠0):1<=Ab n:=by unfold Ab; rw [if_neg h]; omega
theorem VI {n:Nat} (h:n<(2^64)^2000):Ab n<=128000:=by
 apply Cj
 rw [CB] at h
 exact h
theorem Nr {n:Nat} (h:n<(2^64)^5000):OH (Dw n,())=some ((Ab n:Int),()):=by
 have:=aAz _ (CX h)
 rw [B9] at this
 exact this
theorem dK {n:Nat} (h:n<(2^64)^2000):n<(2^64)^5000:=Nat.lt_trans h (Nat.pow_lt_pow_right (by decide) (by decide))
theorem aAw (neg:Bool) (n:Nat) (e:Int) (more:Bool) (hn:n<(2^64)^2000) (he:-1000000<=e/\e<=1000000):Rb ((neg,Dw n,e,more,()),())=some (AA n e,()):=by
 show XJ BA.pre BA.F (neg,Dw n,e,more,())=_
 unfold XJ
 have p0:=Nr (dK hn)
 have hb:=VI hn
 simp only [N4 p0,NT p0,cond_true]
 rw [Au (n:=e+(Ab n:Int)) (by omega),Au (by omega)]
 rfl
theorem aGa {n:Nat} {e q:Int} {p:Nat} (h:AA n e-p+1<=q):FB n e q<2^p:=by
 unfold AA at h
 unfold FB
 have hb:=Eq n
 by_cases hq:q<=e
 ·rw [if_pos hq]
  have h1:n*2^(e-q).toNat<2^Ab n*2^(e-q).toNat:=Nat.mul_lt_mul_of_pos_right hb (Nat.two_pow_pos _)
  rw [← Nat.pow_add] at h1
  exact Nat.lt_of_lt_of_le h1 (Nat.pow_le_pow_right (by decide) (by omega))
 ·rw [if_neg hq,Nat.div_lt_iff_lt_mul (Nat.two_pow_pos _),← Nat.pow_add]
  exact Nat.lt_of_lt_of_le hb (Nat.pow_le_pow_right (by decide) (by omega))
theorem bD {m:Int} {neg:Bool} {n:Nat} {e q:Int} {more:Bool} {p:Nat} (h:AA n e-p+1<=q):BS m neg n e q more<=2^p:=by
 have:=aGa h
 unfold BS
 split <;> omega
theorem i0 (m:Int) (neg:Bool) (n:Nat) (e q:Int) (more:Bool) (hn:n<(2^64)^2000) (he:-1000000<=e/\e<=1000000) {p:Nat} (hp:p<=60) (h1:AA n e-p+1<=q) (h2:q<=AA n e∨q<=1000) :
  OG ((neg,Dw n,e,more,()),m,q,())=some (Dw (BS m neg n e q more),decide (DC n e q more≠0),()):=by
 have hb:=VI hn
 unfold AA at h1 h2
 refine aAy m neg n e q more hn (by omega) (by omega) (by omega) fun hs=>?_
 refine ⟨by omega,?_⟩
 have hl:=Eq n
 have h3:n*2^(2-(q-e)).toNat<2^Ab n*2^(2-(q-e)).toNat:=Nat.mul_lt_mul_of_pos_right hl (Nat.two_pow_pos _)
 rw [← Nat.pow_add] at h3
 rw [CB]
 exact Nat.lt_of_lt_of_le h3 (Nat.pow_le_pow_right (by decide) (by omega))
theorem aAA (neg:Bool) (n:Nat) (e:Int) (more:Bool) (f m:Int) (hf:Fm f) (hn:n<(2^64)^2000) (he:-1000000<=e/\e<=1000000) :
  Rd ((neg,Dw n,e,more,()),BL f,m,AA n e,())=some (decide (AA n e<1-(fX f:Int)/\AA n e-fP f+Ab (BS m neg n e (AA n e-fP f+1) more)<1-(fX f:Int)),()):=by
 show XN Gn.pre Gn.F BA.pre BA.F (neg,Dw n,e,more,()) ((fW f:Int),((fP f:Int),((1-(fX f:Int)),((fX f:Int),())))) m (AA n e)=_
 unfold XN
 have hb:=VI hn
 have hp:=Ec hf
 have hw:=E4 hf
 have hx:=Jx hf
 have hp8:=BD hf
 have ht:AA n e=e+(Ab n:Int)-1:=rfl
 have p0:=i0 m neg n e (AA n e-fP f+1) more hn he (p:=fP f) (by omega) (by omega) (by omega)
 have hc:=bD (m:=m) (neg:=neg) (more:=more) (n:=n) (e:=e) (q:=AA n e-fP f+1) (p:=fP f) (by omega)
 generalize BS m neg n e (AA n e-fP f+1) more=u at *
 have hu:u<(2^64)^5000:=by
  rw [CB]
  exact Nat.lt_of_le_of_lt hc (Nat.pow_lt_pow_right (by decide) (by omega))
 have hub:Ab u<=fP f+1:=Cj (Nat.lt_of_le_of_lt hc (Nat.pow_lt_pow_right (by decide) (by omega)))
 have p1:=Nr hu
 have e1:IntKind.wrap .i64 (AA n e-(fP f:Int))=AA n e-(fP f:Int):=Au (by omega)
 have e2:IntKind.wrap .i64 (AA n e-(fP f:Int)+1)=AA n e-(fP f:Int)+1:=Au (by omega)
 have e3:IntKind.wrap .i64 (AA n e-(fP f:Int)+(Ab u:Int))=AA n e-(fP f:Int)+(Ab u:Int):=Au (by omega)
 dsimp only
 rw [e1,e2]
 by_cases h:AA n e>=1-(fX f:Int)
 ·rw [decide_eq_true h,cond_true,decide_eq_false (by omega)]
 ·rw [decide_eq_false h,cond_false]
  simp only [uG p0,qL p0,cond_true,N4 p1,NT p1,e3]
  have:(AA n e<1-(fX f:Int)):=by omega
  simp only [this,true_and]
end VL
namespace VL
open Go Vx
def B8 (f:Int) (t:Int):Int:=(if 1-(fX f:Int)>t then 1-(fX f:Int) else t)-fP f+1
def D2 (f m:Int) (neg:Bool) (n:Nat) (e:Int) (more:Bool):Prop:=AA n e<1-(fX f:Int)/\AA n e-fP f+Ab (BS m neg n e (AA n e-fP f+1) more)<1-(fX f:Int)
instance (f m:Int) (neg:Bool) (n:Nat) (e:Int) (more:Bool):Decidable (D2 f m neg n e more):=by unfold D2; infer_instance
def At (f m:Int) (neg:Bool) (n:Nat) (e:Int) (more:Bool):Nat×Nat :=
 if AA n e>fX f then (Pn f m neg,20)
 else
  let q:=B8 f (AA n e)
  let u:=BS m neg n e q more
  if q+Ab u-1>fX f then (Pn f m neg,20)
  else ((q-(1-(fX f:Int)-fP f+1)).toNat*2^(fP f-1)+u+AZ f neg,
   if DC n e q more=0 then 0 else if D2 f m neg n e more then 24 else 16)
theorem aDN {f:Int} (hf:Fm f):(2*fX f-1)*2^(fP f-1)+2^fP f+2^(fP f-1)=2^(fW f-1):=by
 rcases CH hf with rfl | rfl | rfl | rfl <;> decide
theorem Gz {f:Int} (hf:Fm f):15<=fX f:=by
 rcases CH hf with rfl | rfl | rfl | rfl <;> decide
theorem Zj (neg:Bool) (n:Nat) (e:Int) (more:Bool) (f m:Int) (hf:Fm f) (hn:n<(2^64)^2000) (he:-1000000<=e/\e<=1000000) :
  QV ((neg,Dw n,e,more,()),f,BL f,m,())=some (((At f m neg n e more).1:Int),((At f m neg n e more).2:Int),()):=by
 show Xr _ _ _ _ _ _ _ _ _ _ (neg,Dw n,e,more,()) f ((fW f:Int),((fP f:Int),((1-(fX f:Int)),((fX f:Int),())))) m=_
 unfold Xr At
 have hb:=VI hn
 have hp:=Ec hf
 have hp8:=BD hf
 have hw:=E4 hf
 have hx:=Jx hf
 have hx15:=Gz hf
 have ht:AA n e=e+(Ab n:Int)-1:=rfl
 have pt:=aAw neg n e more hn he
 have pb:=aAx hf m neg
 have py:=aAA neg n e more f m hf hn he
 have hrow:BL f=((fW f:Int),((fP f:Int),((1-(fX f:Int)),((fX f:Int),())))):=rfl
 rw [hrow] at py
 simp only [aFB pt,aDc pt,cond_true]
 by_cases h1:AA n e>(fX f:Int)
 ·rw [if_pos h1,decide_eq_true h1,cond_true]
  simp only [eY pb,cM pb,cond_true]
  rfl
 rw [if_neg h1,decide_eq_false h1,cond_false]
 have hM:∃ M:Int,(if 1-(fX f:Int)>AA n e then 1-(fX f:Int) else AA n e)=M/\AA n e<=M/\1-(fX f:Int)<=M/\M<=fX f/\(M=AA n e∨M=1-(fX f:Int)):=by
  refine ⟨_,rfl,?_⟩
  split <;> omega
 obtain ⟨M,hMe,m1,m2,m3,m4⟩:=hM
 have hq:B8 f (AA n e)=M-fP f+1:=by unfold B8; rw [hMe]
 simp only [hMe,hq]
 have e1:IntKind.wrap .i64 (M-(fP f:Int))=M-(fP f:Int):=Au (by omega)
 have e2:IntKind.wrap .i64 (M-(fP f:Int)+1)=M-(fP f:Int)+1:=Au (by omega)
 simp only [e1,e2]
 have p0:=i0 m neg n e (M-(fP f:Int)+1) more hn he (p:=fP f) (by omega) (by omega) (by omega)
 have hc:=bD (m:=m) (neg:=neg) (more:=more) (n:=n) (e:=e) (q:=M-(fP f:Int)+1) (p:=fP f) (by omega)
 generalize BS m neg n e (M-(fP f:Int)+1) more=u at *
 generalize DC n e (M-(fP f:Int)+1) more=r at *
 have hP60:2^fP f<=2^60:=Nat.pow_le_pow_right (by decide) (by omega)
 have hu:u<(2^64)^5000:=by
  rw [CB]
  exact Nat.lt_of_le_of_lt hc (Nat.pow_lt_pow_right (by decide) (by omega))
 have hub:Ab u<=fP f+1:=Cj (Nat.lt_of_le_of_lt hc (Nat.pow_lt_pow_right (by decide) (by omega)))
 have p1:=Nr hu
 have e3:IntKind.wrap .i64 ((fP f:Int)-1)=((fP f-1:Nat):Int):=Bq _ (by omega)
 have e4:IntKind.wrap .i64 ((fW f:Int)-1)=((fW f-1:Nat):Int):=Bq _ (by omega)
 have e5:IntKind.wrap .i64 (M-(fP f:Int)+1+(Ab u:Int))=M-(fP f:Int)+1+(Ab u:Int):=Au (by omega)
 have e6:IntKind.wrap .i64 (M-(fP f:Int)+1+(Ab u:Int)-1)=M-(fP f:Int)+1+(Ab u:Int)-1:=Au (by omega)
 have e7:IntKind.wrap .i64 (1-(fX f:Int)-(fP f:Int))=1-(fX f:Int)-(fP f:Int):=Au (by omega)
 have e8:IntKind.wrap .i64 (1-(fX f:Int)-(fP f:Int)+1)=1-(fX f:Int)-(fP f:Int)+1:=Au (by omega)
 obtain ⟨k,hk⟩:=Int.eq_ofNat_of_zero_le (show 0<=M-(fP f:Int)+1-(1-(fX f:Int)-(fP f:Int)+1) by omega)
 have e9:IntKind.wrap .i64 (M-(fP f:Int)+1-(1-(fX f:Int)-(fP f:Int)+1))=(k:Int):=by rw [Au (by omega)]; exact hk
 have e10:IntKind.wrap .u64 (k:Int)=(k:Int):=Eg (by omega)
 have hkn:(M-(fP f:Int)+1-(1-(fX f:Int)-(fP f:Int)+1)).toNat=k:=by omega
 have hhalf:=aDN hf
 have hk2:k<=2*fX f-1:=by omega
 have hk3:=Nat.mul_le_mul_right (2^(fP f-1)) hk2
 have hW64:2^(fW f-1)<=2^63:=Nat.pow_le_pow_right (by decide) (by omega)
 have hpp:=Nat.two_pow_pos (fP f-1)
 have e11:Bp .u64 (k:Int) ((fP f-1:Nat):Int)=((k*2^(fP f-1):Nat):Int):=by
  rw [GI _ _ (by omega),Nat.mod_eq_of_lt (by omega)]
 have e12:Bp .u64 1 ((fW f-1:Nat):Int)=((1*2^(fW f-1):Nat):Int):=by rw [Qv (by omega),Nat.one_mul]
 generalize hA:k*2^(fP f-1)=A at *
 have hbits:A+u<2^(fW f-1):=by omega
 have e13:IntKind.wrap .u64 ((A:Int)+((u%2^64:Nat):Int))=((A+u:Nat):Int):=by
  rw [Nat.mod_eq_of_lt (by omega),Eg (by omega)]; omega
 have hor:∀ b:Nat,b<2^(fW f-1)->Bz .u64 (b:Int) ((1*2^(fW f-1):Nat):Int)=((b+2^(fW f-1):Nat):Int):=fun b hb=>by
  have:=JM (a:=b) (b:=1) (k:=fW f-1) hb (by omega)
  rw [Nat.one_mul] at this ⊢
  exact this
 have hsg:AZ f neg=if neg then 2^(fW f-1) else 0:=rfl
 have htd:decide (AA n e<1-(fX f:Int)/\AA n e-fP f+Ab (BS m neg n e (AA n e-fP f+1) more)<1-(fX f:Int))=decide (D2 f m neg n e more):=by
  unfold D2; rfl
 rw [htd] at py
 simp only [uG p0,qL p0,cond_true,e3,AU,N4 p1,NT p1,e5,e6,e7,e8,e9,e10,e11,e4,e12,hkn,hA]
 rcases Nat.eq_zero_or_pos u with hu0 | hu0
 ·subst hu0
  have hl0:decide ((((Dw 0).length:Nat):Int)>0)=false:=by rw [D5]; rfl
  rw [hl0,cond_false]
  by_cases h2:M-(fP f:Int)+1+(Ab 0:Int)-1>(fX f:Int)
  ·rw [decide_eq_true h2,cond_true,if_pos h2]
   simp only [eY pb,cM pb,cond_true]
   rfl
  ·rw [decide_eq_false h2,cond_false,if_neg h2]
   have hbi:=hor (A) (by omega)
   rw [hbi]
   by_cases hr:r=0
   ·rw [if_pos hr,decide_eq_false (p:=r≠0) (by omega)]
    simp only [Bool.not_false,cond_true]
    cases neg <;> rfl
   ·rw [if_neg hr,decide_eq_true (p:=r≠0) hr]
    simp only [Bool.not_true,cond_false,uH py,qM py,cond_true]
    by_cases hti:D2 f m neg n e more
    ·rw [if_pos hti,decide_eq_true hti]
     cases neg <;> rfl
    ·rw [if_neg hti,decide_eq_false hti]
     cases neg <;> rfl
 ·have hun:u≠0:=by omega
  simp only [J3 hun,QL hun,cond_true,Int.toNat_zero,Nc,e13]
  by_cases h2:M-(fP f:Int)+1+(Ab u:Int)-1>(fX f:Int)
  ·rw [decide_eq_true h2,cond_true,if_pos h2]
   simp only [eY pb,cM pb,cond_true]
   rfl
  ·rw [decide_eq_false h2,cond_false,if_neg h2]
   have hbi:=hor (A+u) (by omega)
   rw [hbi]
   by_cases hr:r=0
   ·rw [if_pos hr,decide_eq_false (p:=r≠0) (by omega)]
    simp only [Bool.not_false,cond_true]
    cases neg <;> rfl
   ·rw [if_neg hr,decide_eq_true (p:=r≠0) hr]
    simp only [Bool.not_true,cond_false,uH py,qM py,cond_true]
    by_cases hti:D2 f m neg n e more
    ·rw [if_pos hti,decide_eq_true hti]
     cases neg <;> rfl
    ·rw [if_neg hti,decide_eq_false hti]
     cases neg <;> rfl
theorem Zi {f m:Int} (hf:Fm f) (hm:0<=m/\m<=5):QT (f,m,())=some (BL f,0,()):=by
 show Xp AE.pre AE.F LV.pre LV.F f m=_
 unfold Xp
 have p0:=Nx hf
 have p1:Ra (m,())=some (0,()):=by
  show XI m=_
  unfold XI
  rw [decide_eq_false (show ¬ m<0 by omega),decide_eq_false (show ¬ m>5 by omega)]; rfl
 simp only [HX p0,HO p0,cond_true,aFA p1,aDb p1]
 rfl
theorem aAB {f:Int} (h:Fm f) (neg:Bool):Re (f,neg,())=some ((AZ f neg:Int),0,0,()):=by
 show XO Bm.pre Bm.F f neg=_
 unfold XO
 have p0:=OE h neg
 simp only [Qo p0,Px p0,cond_true]
theorem aJj (s:Nat) (hs:s<2^128):(Wi s).2.1::(Wi s).1::[]=Wd [s%2^64,s/2^64]/\Ws [s%2^64,s/2^64]/\nv (2^64) [s%2^64,s/2^64]=s:=by
 refine ⟨rfl,⟨?_,by simp⟩,?_⟩
 ·intro x hx
  have:x=s%2^64∨x=s/2^64:=by simpa using hx
  omega
 ·simp only [nv]; omega
theorem Q3 {f m:Int} (hf:Fm f) (hm:0<=m/\m<=5) (neg:Bool) (s:Nat) (hs:s<2^128) (e:Int) (he:-40000<=e/\e<=40000) (more:Bool) (hmore:more=true->fP f+2<=Ab s) :
  Q2 (f,m,neg,Wi s,e,more,())=some (if s=0 then ((AZ f neg:Int),0,0,()) else (((At f m neg s e more).1:Int),((At f m neg s e more).2:Int),0,())):=by
 show Xz _ _ _ _ _ _ _ _ _ _ f m neg (Wi s) e more=_
 unfold Xz
 obtain ⟨w1,w2,w3⟩:=aJj s hs
 have hP:=Ec hf
 have hW:=E4 hf
 have p0:=Zi hf hm
 have p1:=Zh _ w2
 rw [← w1,w3] at p1
 have hs2:s<(2^64)^2000:=by
  rw [CB]
  exact Nat.lt_of_lt_of_le hs (Nat.pow_le_pow_right (by decide) (by decide))
 have p2:=Nr (dK hs2)
 have p3:=aAB hf neg
 have p4:=Zj neg s e more f m hf hs2 (by omega)
 have e1:decide (e < -40000)=false:=decide_eq_false (by omega)
 have e2:decide (e>40000)=false:=decide_eq_false (by omega)
 have e3:IntKind.wrap .i64 ((BL f).2.1+2)=((fP f+2:Nat):Int):=by
  show IntKind.wrap .i64 ((fP f:Int)+2)=_
  rw [Au (by omega)]; rfl
 have e4:(more&&decide ((Ab s:Int)<((fP f+2:Nat):Int)))=false:=by
  cases more with
  | false=>rfl
  | true=>rw [decide_eq_false (by have:=hmore rfl; omega)]; rfl
 have z0:((0:Int) != 0)=false:=rfl
 simp only [eQ p0,cH p0,cond_true,z0,cond_false,WT p1,Wf p1,e1,e2,Bool.or_self,N4 p2,NT p2,Bool.true_or,e3,e4]
 by_cases h0:s=0
 ·rw [if_pos h0]
  subst h0
  rw [show ((((Dw 0).length:Nat):Int)==0)=true by rw [D5]; rfl,cond_true]
  simp only [aFC p3,aDd p3,cond_true]
 ·rw [if_neg h0,AX _ (by have:=Om h0; omega),cond_false]
  simp only [eR p4,cI p4,cond_true]
end VL
namespace VL
open Go Vx
theorem aB6 {r k s ρ:Nat} (hρ:0<ρ) (hρ2:ρ<2^k) (hs:1<=s):Cq (ρ+2^k*r) (k+s)=Cq r s/2*2+1:=by
 unfold Cq
 have hp:2^(k+s-1)=2^k*2^(s-1):=by rw [← Nat.pow_add]; congr 1; omega
 rw [hp]
 have hh:=Nat.two_pow_pos (s-1)
 generalize 2^(s-1)=h at *
 generalize 2^k=K at *
 rw [if_neg (by omega)]
 rcases Nat.lt_trichotomy r h with h1 | h1 | h1
 ·have:K*(r+1)<=K*h:=Nat.mul_le_mul_left _ h1
  rw [Nat.mul_add,Nat.mul_one] at this
  rw [if_pos (by omega)]
  by_cases hr:r=0
  ·rw [if_pos hr]
  ·rw [if_neg hr,if_pos h1]
 ·subst h1
  rw [if_neg (by omega),if_neg (by omega),if_neg (by omega),if_neg (by omega),if_pos rfl]
 ·have:K*(h+1)<=K*r:=Nat.mul_le_mul_left _ h1
  rw [Nat.mul_add,Nat.mul_one] at this
  rw [if_neg (by omega),if_neg (by omega),if_neg (by omega),if_neg (by omega),if_neg (by omega)]
theorem oG {r k s:Nat} (hs:1<=s):Cq (2^k*r) (k+s)=Cq r s:=by
 unfold Cq
 have hp:2^(k+s-1)=2^k*2^(s-1):=by rw [← Nat.pow_add]; congr 1; omega
 rw [hp]
 have hk:=Nat.two_pow_pos k
 generalize 2^(s-1)=h at *
 generalize 2^k=K at *
 have h1:K*r=0↔r=0:=by
  constructor
  ·intro h; rcases Nat.mul_eq_zero.1 h with h | h <;> omega
  ·intro h; rw [h,Nat.mul_zero]
 have h2:K*r<K*h↔r<h:=Nat.mul_lt_mul_left hk
 have h3:K*r=K*h↔r=h:=Nat.mul_right_inj (by omega)
 simp only [h1,h2,h3]
theorem aEe (N k s:Nat):N%2^(k+s)=N%2^k+2^k*(N/2^k%2^s):=by
 rw [Nat.pow_add,Nat.mod_mul]
theorem TN {n:Nat} {e q:Int} (h:q<=e):FB n e q=n*2^(e-q).toNat:=if_pos h
theorem TM {n:Nat} {e q:Int} (h:e<q):FB n e q=n/2^(q-e).toNat:=if_neg (by omega)
theorem TR {n:Nat} {e q:Int} (h:q<=e):M5 n e q=0:=if_pos h
theorem TQ {n:Nat} {e q:Int} (h:e<q):M5 n e q=Cq (n%2^(q-e).toNat) (q-e).toNat:=if_neg (by omega)
theorem MJ (n:Nat) (e q:Int):DC n e q false=M5 n e q:=rfl
theorem aCg (n:Nat) (e q:Int):DC n e q true=M5 n e q/2*2+1:=rfl
theorem bE {N k:Nat} {E q:Int} (hq:N%2^k≠0->E+k<q) :
  FB (N/2^k) (E+k) q=FB N E q/\DC (N/2^k) (E+k) q (decide (N%2^k≠0))=DC N E q false:=by
 have hk:=Nat.two_pow_pos k
 have hdm:=Nat.div_add_mod N (2^k)
 by_cases h1:E+k<q
 ·have es:(q-E).toNat=k+(q-(E+k)).toNat:=by omega
  have hs:1<=(q-(E+k)).toNat:=by omega
  rw [TM h1,TM (by omega),MJ,TQ (e:=E) (by omega),es]
  have hrs:=TQ (n:=N/2^k) h1
  generalize (q-(E+k)).toNat=s at *
  refine ⟨by rw [Nat.div_div_eq_div_mul,← Nat.pow_add],?_⟩
  rw [aEe]
  by_cases hr:N%2^k=0
  ·rw [hr,Nat.zero_add,oG hs,show decide ((0:Nat)≠0)=false by decide,MJ,hrs]
  ·have hρ:0<N%2^k:=by omega
   rw [aB6 hρ (Nat.mod_lt _ hk) hs,decide_eq_true hr,aCg,hrs]
 ·have hr:N%2^k=0:=by
   by_cases h:N%2^k=0
   ·exact h
   ·exact absurd (hq h) h1
  rw [hr,Nat.add_zero] at hdm
  rw [hr]
  clear hq hr
  generalize N/2^k=n at *
  subst hdm
  have hz:decide ((0:Nat)≠0)=false:=by decide
  rw [hz,TN (by omega),MJ,MJ,TR (by omega)]
  by_cases h2:q<=E
  ·rw [TN h2,TR h2,show (E+k-q).toNat=k+(E-q).toNat by omega,Nat.pow_add,Nat.mul_comm (2^k) n,Nat.mul_assoc]
   exact ⟨rfl,rfl⟩
  ·rw [TM (by omega),TQ (by omega)]
   have ek:k=(q-E).toNat+(E+k-q).toNat:=by omega
   generalize (q-E).toNat=s at *
   generalize (E+k-q).toNat=t at *
   have:2^k*n=2^s*(2^t*n):=by rw [ek,Nat.pow_add,Nat.mul_assoc]
   rw [this,Nat.mul_div_cancel_left _ (Nat.two_pow_pos s),Nat.mul_mod_right]
   exact ⟨Nat.mul_comm _ _,rfl⟩
theorem VX {m:Int} {neg:Bool} {N k:Nat} {E q:Int} (hq:N%2^k≠0->E+k<q):BS m neg (N/2^k) (E+k) q (decide (N%2^k≠0))=BS m neg N E q false:=by
 obtain ⟨h1,h2⟩:=bE hq
 unfold BS
 rw [h1,h2]
theorem xD {N k:Nat} {E:Int} (hn:N/2^k≠0):AA (N/2^k) (E+k)=AA N E:=by
 have hk:=Nat.two_pow_pos k
 have h1:2^k<=N:=by
  rcases Nat.lt_or_ge N (2^k) with h | h
  ·exact absurd (Nat.div_eq_of_lt h) hn
  ·exact h
 have:=VM h1
 unfold AA
 omega
theorem fS {f m:Int} {neg:Bool} {N k:Nat} {E:Int} (hf:Fm f) (hn:N/2^k≠0) (hm:N%2^k≠0->fP f+2<=Ab (N/2^k)):At f m neg (N/2^k) (E+k) (decide (N%2^k≠0))=At f m neg N E false:=by
 have ht:=xD (E:=E) hn
 have htd:AA (N/2^k) (E+k)=E+k+(Ab (N/2^k):Int)-1:=rfl
 have hq1:N%2^k≠0->E+k<B8 f (AA N E):=fun h=>by
  have:=hm h
  unfold B8
  split <;> omega
 have hq2:N%2^k≠0->E+k<AA N E-fP f+1:=fun h=>by
  have:=hm h
  omega
 have hti:D2 f m neg (N/2^k) (E+k) (decide (N%2^k≠0))=D2 f m neg N E false:=by
  unfold D2
  rw [ht,VX hq2]
 unfold At
 simp only [ht,VX hq1,(bE hq1).2,hti]
theorem JS {f m:Int} {neg:Bool} (hf:Fm f) {n:Nat} (hn:n≠0) (k:Nat) (e:Int):At f m neg (n*2^k) e false=At f m neg n (e+k) false:=by
 have hk:=Nat.two_pow_pos k
 have:=fS (f:=f) (m:=m) (neg:=neg) (N:=n*2^k) (k:=k) (E:=e) hf (by rw [Nat.mul_div_cancel _ hk]; exact hn) (by rw [Nat.mul_mod_left]; omega)
 rw [Nat.mul_div_cancel _ hk,Nat.mul_mod_left] at this
 exact this.symm
end VL
namespace VL
open Go Vx
def QA (f m:Int) (nx:Bool) (X ex:Int) (ny:Bool) (Y ey:Int):Option (DenS Hh) :=
 bif (AJ.pre (((0:Int),(X,())),((if ((70:Int)<(IntKind.wrap .i64 (ex-ey))) then (70:Int) else (IntKind.wrap .i64 (ex-ey))),()))) then
  (bif (AG.pre (((0:Int),(Y,())),((IntKind.wrap .i64 ((IntKind.wrap .i64 (ex-(if ((70:Int)<(IntKind.wrap .i64 (ex-ey))) then (70:Int) else (IntKind.wrap .i64 (ex-ey)))))-ey)),()))) then
   (bif (AJ.pre ((AG.F (((0:Int),(Y,())),((IntKind.wrap .i64 ((IntKind.wrap .i64 (ex-(if ((70:Int)<(IntKind.wrap .i64 (ex-ey))) then (70:Int) else (IntKind.wrap .i64 (ex-ey)))))-ey)),()))).1,((IntKind.wrap .i64 ((IntKind.wrap .i64 (ex-(if ((70:Int)<(IntKind.wrap .i64 (ex-ey))) then (70:Int) else (IntKind.wrap .i64 (ex-ey)))))-ey)),()))) then
    (bif (AG.pre (((0:Int),(Y,())),((IntKind.wrap .i64 ((IntKind.wrap .i64 (ex-(if ((70:Int)<(IntKind.wrap .i64 (ex-ey))) then (70:Int) else (IntKind.wrap .i64 (ex-ey)))))-ey)),()))) then
     (bif (nx==ny) then
      (bif (IS.pre ((AJ.F (((0:Int),(X,())),((if ((70:Int)<(IntKind.wrap .i64 (ex-ey))) then (70:Int) else (IntKind.wrap .i64 (ex-ey))),()))).1,(AG.F (((0:Int),(Y,())),((IntKind.wrap .i64 ((IntKind.wrap .i64 (ex-(if ((70:Int)<(IntKind.wrap .i64 (ex-ey))) then (70:Int) else (IntKind.wrap .i64 (ex-ey)))))-ey)),()))))) then
       (bif (CU.pre (f,(m,(nx,((IS.F ((AJ.F (((0:Int),(X,())),((if ((70:Int)<(IntKind.wrap .i64 (ex-ey))) then (70:Int) else (IntKind.wrap .i64 (ex-ey))),()))).1,(AG.F (((0:Int),(Y,())),((IntKind.wrap .i64 ((IntKind.wrap .i64 (ex-(if ((70:Int)<(IntKind.wrap .i64 (ex-ey))) then (70:Int) else (IntKind.wrap .i64 (ex-ey)))))-ey)),()))))).1,((IntKind.wrap .i64 (ex-(if ((70:Int)<(IntKind.wrap .i64 (ex-ey))) then (70:Int) else (IntKind.wrap .i64 (ex-ey))))),(((!(((AJ.F ((AG.F (((0:Int),(Y,())),((IntKind.wrap .i64 ((IntKind.wrap .i64 (ex-(if ((70:Int)<(IntKind.wrap .i64 (ex-ey))) then (70:Int) else (IntKind.wrap .i64 (ex-ey)))))-ey)),()))).1,((IntKind.wrap .i64 ((IntKind.wrap .i64 (ex-(if ((70:Int)<(IntKind.wrap .i64 (ex-ey))) then (70:Int) else (IntKind.wrap .i64 (ex-ey)))))-ey)),()))).1.1==(0:Int))&&((AJ.F ((AG.F (((0:Int),(Y,())),((IntKind.wrap .i64 ((IntKind.wrap .i64 (ex-(if ((70:Int)<(IntKind.wrap .i64 (ex-ey))) then (70:Int) else (IntKind.wrap .i64 (ex-ey)))))-ey)),()))).1,((IntKind.wrap .i64 ((IntKind.wrap .i64 (ex-(if ((70:Int)<(IntKind.wrap .i64 (ex-ey))) then (70:Int) else (IntKind.wrap .i64 (ex-ey)))))-ey)),()))).1.2.1==Y)))||((decide ((IntKind.wrap .i64 ((IntKind.wrap .i64 (ex-(if ((70:Int)<(IntKind.wrap .i64 (ex-ey))) then (70:Int) else (IntKind.wrap .i64 (ex-ey)))))-ey))>(63:Int)))&&(Y != (0:Int)))),()))))))) then
        (some (CU.F (f,(m,(nx,((IS.F ((AJ.F (((0:Int),(X,())),((if ((70:Int)<(IntKind.wrap .i64 (ex-ey))) then (70:Int) else (IntKind.wrap .i64 (ex-ey))),()))).1,(AG.F (((0:Int),(Y,())),((IntKind.wrap .i64 ((IntKind.wrap .i64 (ex-(if ((70:Int)<(IntKind.wrap .i64 (ex-ey))) then (70:Int) else (IntKind.wrap .i64 (ex-ey)))))-ey)),()))))).1,((IntKind.wrap .i64 (ex-(if ((70:Int)<(IntKind.wrap .i64 (ex-ey))) then (70:Int) else (IntKind.wrap .i64 (ex-ey))))),(((!(((AJ.F ((AG.F (((0:Int),(Y,())),((IntKind.wrap .i64 ((IntKind.wrap .i64 (ex-(if ((70:Int)<(IntKind.wrap .i64 (ex-ey))) then (70:Int) else (IntKind.wrap .i64 (ex-ey)))))-ey)),()))).1,((IntKind.wrap .i64 ((IntKind.wrap .i64 (ex-(if ((70:Int)<(IntKind.wrap .i64 (ex-ey))) then (70:Int) else (IntKind.wrap .i64 (ex-ey)))))-ey)),()))).1.1==(0:Int))&&((AJ.F ((AG.F (((0:Int),(Y,())),((IntKind.wrap .i64 ((IntKind.wrap .i64 (ex-(if ((70:Int)<(IntKind.wrap .i64 (ex-ey))) then (70:Int) else (IntKind.wrap .i64 (ex-ey)))))-ey)),()))).1,((IntKind.wrap .i64 ((IntKind.wrap .i64 (ex-(if ((70:Int)<(IntKind.wrap .i64 (ex-ey))) then (70:Int) else (IntKind.wrap .i64 (ex-ey)))))-ey)),()))).1.2.1==Y)))||((decide ((IntKind.wrap .i64 ((IntKind.wrap .i64 (ex-(if ((70:Int)<(IntKind.wrap .i64 (ex-ey))) then (70:Int) else (IntKind.wrap .i64 (ex-ey)))))-ey))>(63:Int)))&&(Y != (0:Int)))),()))))))))
       else none)
      else none)
     else bif (LU.pre ((AJ.F (((0:Int),(X,())),((if ((70:Int)<(IntKind.wrap .i64 (ex-ey))) then (70:Int) else (IntKind.wrap .i64 (ex-ey))),()))).1,(AG.F (((0:Int),(Y,())),((IntKind.wrap .i64 ((IntKind.wrap .i64 (ex-(if ((70:Int)<(IntKind.wrap .i64 (ex-ey))) then (70:Int) else (IntKind.wrap .i64 (ex-ey)))))-ey)),()))))) then
      (bif (decide ((LU.F ((AJ.F (((0:Int),(X,())),((if ((70:Int)<(IntKind.wrap .i64 (ex-ey))) then (70:Int) else (IntKind.wrap .i64 (ex-ey))),()))).1,(AG.F (((0:Int),(Y,())),((IntKind.wrap .i64 ((IntKind.wrap .i64 (ex-(if ((70:Int)<(IntKind.wrap .i64 (ex-ey))) then (70:Int) else (IntKind.wrap .i64 (ex-ey)))))-ey)),()))))).1<(0:Int))) then
       (bif (Bn.pre ((AG.F (((0:Int),(Y,())),((IntKind.wrap .i64 ((IntKind.wrap .i64 (ex-(if ((70:Int)<(IntKind.wrap .i64 (ex-ey))) then (70:Int) else (IntKind.wrap .i64 (ex-ey)))))-ey)),()))).1,(AJ.F (((0:Int),(X,())),((if ((70:Int)<(IntKind.wrap .i64 (ex-ey))) then (70:Int) else (IntKind.wrap .i64 (ex-ey))),()))))) then
        (bif ((!(((AJ.F ((AG.F (((0:Int),(Y,())),((IntKind.wrap .i64 ((IntKind.wrap .i64 (ex-(if ((70:Int)<(IntKind.wrap .i64 (ex-ey))) then (70:Int) else (IntKind.wrap .i64 (ex-ey)))))-ey)),()))).1,((IntKind.wrap .i64 ((IntKind.wrap .i64 (ex-(if ((70:Int)<(IntKind.wrap .i64 (ex-ey))) then (70:Int) else (IntKind.wrap .i64 (ex-ey)))))-ey)),()))).1.1==(0:Int))&&((AJ.F ((AG.F (((0:Int),(Y,())),((IntKind.wrap .i64 ((IntKind.wrap .i64 (ex-(if ((70:Int)<(IntKind.wrap .i64 (ex-ey))) then (70:Int) else (IntKind.wrap .i64 (ex-ey)))))-ey)),()))).1,((IntKind.wrap .i64 ((IntKind.wrap .i64 (ex-(if ((70:Int)<(IntKind.wrap .i64 (ex-ey))) then (70:Int) else (IntKind.wrap .i64 (ex-ey)))))-ey)),()))).1.2.1==Y)))||((decide ((IntKind.wrap .i64 ((IntKind.wrap .i64 (ex-(if ((70:Int)<(IntKind.wrap .i64 (ex-ey))) then (70:Int) else (IntKind.wrap .i64 (ex-ey)))))-ey))>(63:Int)))&&(Y != (0:Int)))) then
         (bif (Bn.pre ((Bn.F ((AG.F (((0:Int),(Y,())),((IntKind.wrap .i64 ((IntKind.wrap .i64 (ex-(if ((70:Int)<(IntKind.wrap .i64 (ex-ey))) then (70:Int) else (IntKind.wrap .i64 (ex-ey)))))-ey)),()))).1,(AJ.F (((0:Int),(X,())),((if ((70:Int)<(IntKind.wrap .i64 (ex-ey))) then (70:Int) else (IntKind.wrap .i64 (ex-ey))),()))))).1,(((0:Int),((1:Int),())),()))) then
          (bif ((((Bn.F ((Bn.F ((AG.F (((0:Int),(Y,())),((IntKind.wrap .i64 ((IntKind.wrap .i64 (ex-(if ((70:Int)<(IntKind.wrap .i64 (ex-ey))) then (70:Int) else (IntKind.wrap .i64 (ex-ey)))))-ey)),()))).1,(AJ.F (((0:Int),(X,())),((if ((70:Int)<(IntKind.wrap .i64 (ex-ey))) then (70:Int) else (IntKind.wrap .i64 (ex-ey))),()))))).1,(((0:Int),((1:Int),())),()))).1.1==(0:Int))&&((Bn.F ((Bn.F ((AG.F (((0:Int),(Y,())),((IntKind.wrap .i64 ((IntKind.wrap .i64 (ex-(if ((70:Int)<(IntKind.wrap .i64 (ex-ey))) then (70:Int) else (IntKind.wrap .i64 (ex-ey)))))-ey)),()))).1,(AJ.F (((0:Int),(X,())),((if ((70:Int)<(IntKind.wrap .i64 (ex-ey))) then (70:Int) else (IntKind.wrap .i64 (ex-ey))),()))))).1,(((0:Int),((1:Int),())),()))).1.2.1==(0:Int)))&&(!((!(((AJ.F ((AG.F (((0:Int),(Y,())),((IntKind.wrap .i64 ((IntKind.wrap .i64 (ex-(if ((70:Int)<(IntKind.wrap .i64 (ex-ey))) then (70:Int) else (IntKind.wrap .i64 (ex-ey)))))-ey)),()))).1,((IntKind.wrap .i64 ((IntKind.wrap .i64 (ex-(if ((70:Int)<(IntKind.wrap .i64 (ex-ey))) then (70:Int) else (IntKind.wrap .i64 (ex-ey)))))-ey)),()))).1.1==(0:Int))&&((AJ.F ((AG.F (((0:Int),(Y,())),((IntKind.wrap .i64 ((IntKind.wrap .i64 (ex-(if ((70:Int)<(IntKind.wrap .i64 (ex-ey))) then (70:Int) else (IntKind.wrap .i64 (ex-ey)))))-ey)),()))).1,((IntKind.wrap .i64 ((IntKind.wrap .i64 (ex-(if ((70:Int)<(IntKind.wrap .i64 (ex-ey))) then (70:Int) else (IntKind.wrap .i64 (ex-ey)))))-ey)),()))).1.2.1==Y)))||((decide ((IntKind.wrap .i64 ((IntKind.wrap .i64 (ex-(if ((70:Int)<(IntKind.wrap .i64 (ex-ey))) then (70:Int) else (IntKind.wrap .i64 (ex-ey)))))-ey))>(63:Int)))&&(Y != (0:Int)))))) then
           (bif (Bm.pre (f,((m==(4:Int)),()))) then
            (some ((Bm.F (f,((m==(4:Int)),()))).1,((0:Int),((0:Int),()))))
           else none)
          else bif (CU.pre (f,(m,(ny,((Bn.F ((Bn.F ((AG.F (((0:Int),(Y,())),((IntKind.wrap .i64 ((IntKind.wrap .i64 (ex-(if ((70:Int)<(IntKind.wrap .i64 (ex-ey))) then (70:Int) else (IntKind.wrap .i64 (ex-ey)))))-ey)),()))).1,(AJ.F (((0:Int),(X,())),((if ((70:Int)<(IntKind.wrap .i64 (ex-ey))) then (70:Int) else (IntKind.wrap .i64 (ex-ey))),()))))).1,(((0:Int),((1:Int),())),()))).1,((IntKind.wrap .i64 (ex-(if ((70:Int)<(IntKind.wrap .i64 (ex-ey))) then (70:Int) else (IntKind.wrap .i64 (ex-ey))))),(((!(((AJ.F ((AG.F (((0:Int),(Y,())),((IntKind.wrap .i64 ((IntKind.wrap .i64 (ex-(if ((70:Int)<(IntKind.wrap .i64 (ex-ey))) then (70:Int) else (IntKind.wrap .i64 (ex-ey)))))-ey)),()))).1,((IntKind.wrap .i64 ((IntKind.wrap .i64 (ex-(if ((70:Int)<(IntKind.wrap .i64 (ex-ey))) then (70:Int) else (IntKind.wrap .i64 (ex-ey)))))-ey)),()))).1.1==(0:Int))&&((AJ.F ((AG.F (((0:Int),(Y,())),((IntKind.wrap .i64 ((IntKind.wrap .i64 (ex-(if ((70:Int)<(IntKind.wrap .i64 (ex-ey))) then (70:Int) else (IntKind.wrap .i64 (ex-ey)))))-ey)),()))).1,((IntKind.wrap .i64 ((IntKind.wrap .i64 (ex-(if ((70:Int)<(IntKind.wrap .i64 (ex-ey))) then (70:Int) else (IntKind.wrap .i64 (ex-ey)))))-ey)),()))).1.2.1==Y)))||((decide ((IntKind.wrap .i64 ((IntKind.wrap .i64 (ex-(if ((70:Int)<(IntKind.wrap .i64 (ex-ey))) then (70:Int) else (IntKind.wrap .i64 (ex-ey)))))-ey))>(63:Int)))&&(Y != (0:Int)))),()))))))) then
           (some (CU.F (f,(m,(ny,((Bn.F ((Bn.F ((AG.F (((0:Int),(Y,())),((IntKind.wrap .i64 ((IntKind.wrap .i64 (ex-(if ((70:Int)<(IntKind.wrap .i64 (ex-ey))) then (70:Int) else (IntKind.wrap .i64 (ex-ey)))))-ey)),()))).1,(AJ.F (((0:Int),(X,())),((if ((70:Int)<(IntKind.wrap .i64 (ex-ey))) then (70:Int) else (IntKind.wrap .i64 (ex-ey))),()))))).1,(((0:Int),((1:Int),())),()))).1,((IntKind.wrap .i64 (ex-(if ((70:Int)<(IntKind.wrap .i64 (ex-ey))) then (70:Int) else (IntKind.wrap .i64 (ex-ey))))),(((!(((AJ.F ((AG.F (((0:Int),(Y,())),((IntKind.wrap .i64 ((IntKind.wrap .i64 (ex-(if ((70:Int)<(IntKind.wrap .i64 (ex-ey))) then (70:Int) else (IntKind.wrap .i64 (ex-ey)))))-ey)),()))).1,((IntKind.wrap .i64 ((IntKind.wrap .i64 (ex-(if ((70:Int)<(IntKind.wrap .i64 (ex-ey))) then (70:Int) else (IntKind.wrap .i64 (ex-ey)))))-ey)),()))).1.1==(0:Int))&&((AJ.F ((AG.F (((0:Int),(Y,())),((IntKind.wrap .i64 ((IntKind.wrap .i64 (ex-(if ((70:Int)<(IntKind.wrap .i64 (ex-ey))) then (70:Int) else (IntKind.wrap .i64 (ex-ey)))))-ey)),()))).1,((IntKind.wrap .i64 ((IntKind.wrap .i64 (ex-(if ((70:Int)<(IntKind.wrap .i64 (ex-ey))) then (70:Int) else (IntKind.wrap .i64 (ex-ey)))))-ey)),()))).1.2.1==Y)))||((decide ((IntKind.wrap .i64 ((IntKind.wrap .i64 (ex-(if ((70:Int)<(IntKind.wrap .i64 (ex-ey))) then (70:Int) else (IntKind.wrap .i64 (ex-ey)))))-ey))>(63:Int)))&&(Y != (0:Int)))),()))))))))
          else none)
         else none)
        else bif ((((Bn.F ((AG.F (((0:Int),(Y,())),((IntKind.wrap .i64 ((IntKind.wrap .i64 (ex-(if ((70:Int)<(IntKind.wrap .i64 (ex-ey))) then (70:Int) else (IntKind.wrap .i64 (ex-ey)))))-ey)),()))).1,(AJ.F (((0:Int),(X,())),((if ((70:Int)<(IntKind.wrap .i64 (ex-ey))) then (70:Int) else (IntKind.wrap .i64 (ex-ey))),()))))).1.1==(0:Int))&&((Bn.F ((AG.F (((0:Int),(Y,())),((IntKind.wrap .i64 ((IntKind.wrap .i64 (ex-(if ((70:Int)<(IntKind.wrap .i64 (ex-ey))) then (70:Int) else (IntKind.wrap .i64 (ex-ey)))))-ey)),()))).1,(AJ.F (((0:Int),(X,())),((if ((70:Int)<(IntKind.wrap .i64 (ex-ey))) then (70:Int) else (IntKind.wrap .i64 (ex-ey))),()))))).1.2.1==(0:Int)))&&(!((!(((AJ.F ((AG.F (((0:Int),(Y,())),((IntKind.wrap .i64 ((IntKind.wrap .i64 (ex-(if ((70:Int)<(IntKind.wrap .i64 (ex-ey))) then (70:Int) else (IntKind.wrap .i64 (ex-ey)))))-ey)),()))).1,((IntKind.wrap .i64 ((IntKind.wrap .i64 (ex-(if ((70:Int)<(IntKind.wrap .i64 (ex-ey))) then (70:Int) else (IntKind.wrap .i64 (ex-ey)))))-ey)),()))).1.1==(0:Int))&&((AJ.F ((AG.F (((0:Int),(Y,())),((IntKind.wrap .i64 ((IntKind.wrap .i64 (ex-(if ((70:Int)<(IntKind.wrap .i64 (ex-ey))) then (70:Int) else (IntKind.wrap .i64 (ex-ey)))))-ey)),()))).1,((IntKind.wrap .i64 ((IntKind.wrap .i64 (ex-(if ((70:Int)<(IntKind.wrap .i64 (ex-ey))) then (70:Int) else (IntKind.wrap .i64 (ex-ey)))))-ey)),()))).1.2.1==Y)))||((decide ((IntKind.wrap .i64 ((IntKind.wrap .i64 (ex-(if ((70:Int)<(IntKind.wrap .i64 (ex-ey))) then (70:Int) else (IntKind.wrap .i64 (ex-ey)))))-ey))>(63:Int)))&&(Y != (0:Int)))))) then
         (bif (Bm.pre (f,((m==(4:Int)),()))) then
          (some ((Bm.F (f,((m==(4:Int)),()))).1,((0:Int),((0:Int),()))))
         else none)
        else bif (CU.pre (f,(m,(ny,((Bn.F ((AG.F (((0:Int),(Y,())),((IntKind.wrap .i64 ((IntKind.wrap .i64 (ex-(if ((70:Int)<(IntKind.wrap .i64 (ex-ey))) then (70:Int) else (IntKind.wrap .i64 (ex-ey)))))-ey)),()))).1,(AJ.F (((0:Int),(X,())),((if ((70:Int)<(IntKind.wrap .i64 (ex-ey))) then (70:Int) else (IntKind.wrap .i64 (ex-ey))),()))))).1,((IntKind.wrap .i64 (ex-(if ((70:Int)<(IntKind.wrap .i64 (ex-ey))) then (70:Int) else (IntKind.wrap .i64 (ex-ey))))),(((!(((AJ.F ((AG.F (((0:Int),(Y,())),((IntKind.wrap .i64 ((IntKind.wrap .i64 (ex-(if ((70:Int)<(IntKind.wrap .i64 (ex-ey))) then (70:Int) else (IntKind.wrap .i64 (ex-ey)))))-ey)),()))).1,((IntKind.wrap .i64 ((IntKind.wrap .i64 (ex-(if ((70:Int)<(IntKind.wrap .i64 (ex-ey))) then (70:Int) else (IntKind.wrap .i64 (ex-ey)))))-ey)),()))).1.1==(0:Int))&&((AJ.F ((AG.F (((0:Int),(Y,())),((IntKind.wrap .i64 ((IntKind.wrap .i64 (ex-(if ((70:Int)<(IntKind.wrap .i64 (ex-ey))) then (70:Int) else (IntKind.wrap .i64 (ex-ey)))))-ey)),()))).1,((IntKind.wrap .i64 ((IntKind.wrap .i64 (ex-(if ((70:Int)<(IntKind.wrap .i64 (ex-ey))) then (70:Int) else (IntKind.wrap .i64 (ex-ey)))))-ey)),()))).1.2.1==Y)))||((decide ((IntKind.wrap .i64 ((IntKind.wrap .i64 (ex-(if ((70:Int)<(IntKind.wrap .i64 (ex-ey))) then (70:Int) else (IntKind.wrap .i64 (ex-ey)))))-ey))>(63:Int)))&&(Y != (0:Int)))),()))))))) then
         (some (CU.F (f,(m,(ny,((Bn.F ((AG.F (((0:Int),(Y,())),((IntKind.wrap .i64 ((IntKind.wrap .i64 (ex-(if ((70:Int)<(IntKind.wrap .i64 (ex-ey))) then (70:Int) else (IntKind.wrap .i64 (ex-ey)))))-ey)),()))).1,(AJ.F (((0:Int),(X,())),((if ((70:Int)<(IntKind.wrap .i64 (ex-ey))) then (70:Int) else (IntKind.wrap .i64 (ex-ey))),()))))).1,((IntKind.wrap .i64 (ex-(if ((70:Int)<(IntKind.wrap .i64 (ex-ey))) then (70:Int) else (IntKind.wrap .i64 (ex-ey))))),(((!(((AJ.F ((AG.F (((0:Int),(Y,())),((IntKind.wrap .i64 ((IntKind.wrap .i64 (ex-(if ((70:Int)<(IntKind.wrap .i64 (ex-ey))) then (70:Int) else (IntKind.wrap .i64 (ex-ey)))))-ey)),()))).1,((IntKind.wrap .i64 ((IntKind.wrap .i64 (ex-(if ((70:Int)<(IntKind.wrap .i64 (ex-ey))) then (70:Int) else (IntKind.wrap .i64 (ex-ey)))))-ey)),()))).1.1==(0:Int))&&((AJ.F ((AG.F (((0:Int),(Y,())),((IntKind.wrap .i64 ((IntKind.wrap .i64 (ex-(if ((70:Int)<(IntKind.wrap .i64 (ex-ey))) then (70:Int) else (IntKind.wrap .i64 (ex-ey)))))-ey)),()))).1,((IntKind.wrap .i64 ((IntKind.wrap .i64 (ex-(if ((70:Int)<(IntKind.wrap .i64 (ex-ey))) then (70:Int) else (IntKind.wrap .i64 (ex-ey)))))-ey)),()))).1.2.1==Y)))||((decide ((IntKind.wrap .i64 ((IntKind.wrap .i64 (ex-(if ((70:Int)<(IntKind.wrap .i64 (ex-ey))) then (70:Int) else (IntKind.wrap .i64 (ex-ey)))))-ey))>(63:Int)))&&(Y != (0:Int)))),()))))))))
        else none)
       else none)
      else bif (Bn.pre ((AJ.F (((0:Int),(X,())),((if ((70:Int)<(IntKind.wrap .i64 (ex-ey))) then (70:Int) else (IntKind.wrap .i64 (ex-ey))),()))).1,(AG.F (((0:Int),(Y,())),((IntKind.wrap .i64 ((IntKind.wrap .i64 (ex-(if ((70:Int)<(IntKind.wrap .i64 (ex-ey))) then (70:Int) else (IntKind.wrap .i64 (ex-ey)))))-ey)),()))))) then
       (bif ((!(((AJ.F ((AG.F (((0:Int),(Y,())),((IntKind.wrap .i64 ((IntKind.wrap .i64 (ex-(if ((70:Int)<(IntKind.wrap .i64 (ex-ey))) then (70:Int) else (IntKind.wrap .i64 (ex-ey)))))-ey)),()))).1,((IntKind.wrap .i64 ((IntKind.wrap .i64 (ex-(if ((70:Int)<(IntKind.wrap .i64 (ex-ey))) then (70:Int) else (IntKind.wrap .i64 (ex-ey)))))-ey)),()))).1.1==(0:Int))&&((AJ.F ((AG.F (((0:Int),(Y,())),((IntKind.wrap .i64 ((IntKind.wrap .i64 (ex-(if ((70:Int)<(IntKind.wrap .i64 (ex-ey))) then (70:Int) else (IntKind.wrap .i64 (ex-ey)))))-ey)),()))).1,((IntKind.wrap .i64 ((IntKind.wrap .i64 (ex-(if ((70:Int)<(IntKind.wrap .i64 (ex-ey))) then (70:Int) else (IntKind.wrap .i64 (ex-ey)))))-ey)),()))).1.2.1==Y)))||((decide ((IntKind.wrap .i64 ((IntKind.wrap .i64 (ex-(if ((70:Int)<(IntKind.wrap .i64 (ex-ey))) then (70:Int) else (IntKind.wrap .i64 (ex-ey)))))-ey))>(63:Int)))&&(Y != (0:Int)))) then
        (bif (Bn.pre ((Bn.F ((AJ.F (((0:Int),(X,())),((if ((70:Int)<(IntKind.wrap .i64 (ex-ey))) then (70:Int) else (IntKind.wrap .i64 (ex-ey))),()))).1,(AG.F (((0:Int),(Y,())),((IntKind.wrap .i64 ((IntKind.wrap .i64 (ex-(if ((70:Int)<(IntKind.wrap .i64 (ex-ey))) then (70:Int) else (IntKind.wrap .i64 (ex-ey)))))-ey)),()))))).1,(((0:Int),((1:Int),())),()))) then
         (bif ((((Bn.F ((Bn.F ((AJ.F (((0:Int),(X,())),((if ((70:Int)<(IntKind.wrap .i64 (ex-ey))) then (70:Int) else (IntKind.wrap .i64 (ex-ey))),()))).1,(AG.F (((0:Int),(Y,())),((IntKind.wrap .i64 ((IntKind.wrap .i64 (ex-(if ((70:Int)<(IntKind.wrap .i64 (ex-ey))) then (70:Int) else (IntKind.wrap .i64 (ex-ey)))))-ey)),()))))).1,(((0:Int),((1:Int),())),()))).1.1==(0:Int))&&((Bn.F ((Bn.F ((AJ.F (((0:Int),(X,())),((if ((70:Int)<(IntKind.wrap .i64 (ex-ey))) then (70:Int) else (IntKind.wrap .i64 (ex-ey))),()))).1,(AG.F (((0:Int),(Y,())),((IntKind.wrap .i64 ((IntKind.wrap .i64 (ex-(if ((70:Int)<(IntKind.wrap .i64 (ex-ey))) then (70:Int) else (IntKind.wrap .i64 (ex-ey)))))-ey)),()))))).1,(((0:Int),((1:Int),())),()))).1.2.1==(0:Int)))&&(!((!(((AJ.F ((AG.F (((0:Int),(Y,())),((IntKind.wrap .i64 ((IntKind.wrap .i64 (ex-(if ((70:Int)<(IntKind.wrap .i64 (ex-ey))) then (70:Int) else (IntKind.wrap .i64 (ex-ey)))))-ey)),()))).1,((IntKind.wrap .i64 ((IntKind.wrap .i64 (ex-(if ((70:Int)<(IntKind.wrap .i64 (ex-ey))) then (70:Int) else (IntKind.wrap .i64 (ex-ey)))))-ey)),()))).1.1==(0:Int))&&((AJ.F ((AG.F (((0:Int),(Y,())),((IntKind.wrap .i64 ((IntKind.wrap .i64 (ex-(if ((70:Int)<(IntKind.wrap .i64 (ex-ey))) then (70:Int) else (IntKind.wrap .i64 (ex-ey)))))-ey)),()))).1,((IntKind.wrap .i64 ((IntKind.wrap .i64 (ex-(if ((70:Int)<(IntKind.wrap .i64 (ex-ey))) then (70:Int) else (IntKind.wrap .i64 (ex-ey)))))-ey)),()))).1.2.1==Y)))||((decide ((IntKind.wrap .i64 ((IntKind.wrap .i64 (ex-(if ((70:Int)<(IntKind.wrap .i64 (ex-ey))) then (70:Int) else (IntKind.wrap .i64 (ex-ey)))))-ey))>(63:Int)))&&(Y != (0:Int)))))) then
          (bif (Bm.pre (f,((m==(4:Int)),()))) then
           (some ((Bm.F (f,((m==(4:Int)),()))).1,((0:Int),((0:Int),()))))
          else none)
         else bif (CU.pre (f,(m,(nx,((Bn.F ((Bn.F ((AJ.F (((0:Int),(X,())),((if ((70:Int)<(IntKind.wrap .i64 (ex-ey))) then (70:Int) else (IntKind.wrap .i64 (ex-ey))),()))).1,(AG.F (((0:Int),(Y,())),((IntKind.wrap .i64 ((IntKind.wrap .i64 (ex-(if ((70:Int)<(IntKind.wrap .i64 (ex-ey))) then (70:Int) else (IntKind.wrap .i64 (ex-ey)))))-ey)),()))))).1,(((0:Int),((1:Int),())),()))).1,((IntKind.wrap .i64 (ex-(if ((70:Int)<(IntKind.wrap .i64 (ex-ey))) then (70:Int) else (IntKind.wrap .i64 (ex-ey))))),(((!(((AJ.F ((AG.F (((0:Int),(Y,())),((IntKind.wrap .i64 ((IntKind.wrap .i64 (ex-(if ((70:Int)<(IntKind.wrap .i64 (ex-ey))) then (70:Int) else (IntKind.wrap .i64 (ex-ey)))))-ey)),()))).1,((IntKind.wrap .i64 ((IntKind.wrap .i64 (ex-(if ((70:Int)<(IntKind.wrap .i64 (ex-ey))) then (70:Int) else (IntKind.wrap .i64 (ex-ey)))))-ey)),()))).1.1==(0:Int))&&((AJ.F ((AG.F (((0:Int),(Y,())),((IntKind.wrap .i64 ((IntKind.wrap .i64 (ex-(if ((70:Int)<(IntKind.wrap .i64 (ex-ey))) then (70:Int) else (IntKind.wrap .i64 (ex-ey)))))-ey)),()))).1,((IntKind.wrap .i64 ((IntKind.wrap .i64 (ex-(if ((70:Int)<(IntKind.wrap .i64 (ex-ey))) then (70:Int) else (IntKind.wrap .i64 (ex-ey)))))-ey)),()))).1.2.1==Y)))||((decide ((IntKind.wrap .i64 ((IntKind.wrap .i64 (ex-(if ((70:Int)<(IntKind.wrap .i64 (ex-ey))) then (70:Int) else (IntKind.wrap .i64 (ex-ey)))))-ey))>(63:Int)))&&(Y != (0:Int)))),()))))))) then
          (some (CU.F (f,(m,(nx,((Bn.F ((Bn.F ((AJ.F (((0:Int),(X,())),((if ((70:Int)<(IntKind.wrap .i64 (ex-ey))) then (70:Int) else (IntKind.wrap .i64 (ex-ey))),()))).1,(AG.F (((0:Int),(Y,())),((IntKind.wrap .i64 ((IntKind.wrap .i64 (ex-(if ((70:Int)<(IntKind.wrap .i64 (ex-ey))) then (70:Int) else (IntKind.wrap .i64 (ex-ey)))))-ey)),()))))).1,(((0:Int),((1:Int),())),()))).1,((IntKind.wrap .i64 (ex-(if ((70:Int)<(IntKind.wrap .i64 (ex-ey))) then (70:Int) else (IntKind.wrap .i64 (ex-ey))))),(((!(((AJ.F ((AG.F (((0:Int),(Y,())),((IntKind.wrap .i64 ((IntKind.wrap .i64 (ex-(if ((70:Int)<(IntKind.wrap .i64 (ex-ey))) then (70:Int) else (IntKind.wrap .i64 (ex-ey)))))-ey)),()))).1,((IntKind.wrap .i64 ((IntKind.wrap .i64 (ex-(if ((70:Int)<(IntKind.wrap .i64 (ex-ey))) then (70:Int) else (IntKind.wrap .i64 (ex-ey)))))-ey)),()))).1.1==(0:Int))&&((AJ.F ((AG.F (((0:Int),(Y,())),((IntKind.wrap .i64 ((IntKind.wrap .i64 (ex-(if ((70:Int)<(IntKind.wrap .i64 (ex-ey))) then (70:Int) else (IntKind.wrap .i64 (ex-ey)))))-ey)),()))).1,((IntKind.wrap .i64 ((IntKind.wrap .i64 (ex-(if ((70:Int)<(IntKind.wrap .i64 (ex-ey))) then (70:Int) else (IntKind.wrap .i64 (ex-ey)))))-ey)),()))).1.2.1==Y)))||((decide ((IntKind.wrap .i64 ((IntKind.wrap .i64 (ex-(if ((70:Int)<(IntKind.wrap .i64 (ex-ey))) then (70:Int) else (IntKind.wrap .i64 (ex-ey)))))-ey))>(63:Int)))&&(Y != (0:Int)))),()))))))))
         else none)
        else none)
       else bif ((((Bn.F ((AJ.F (((0:Int),(X,())),((if ((70:Int)<(IntKind.wrap .i64 (ex-ey))) then (70:Int) else (IntKind.wrap .i64 (ex-ey))),()))).1,(AG.F (((0:Int),(Y,())),((IntKind.wrap .i64 ((IntKind.wrap .i64 (ex-(if ((70:Int)<(IntKind.wrap .i64 (ex-ey))) then (70:Int) else (IntKind.wrap .i64 (ex-ey)))))-ey)),()))))).1.1==(0:Int))&&((Bn.F ((AJ.F (((0:Int),(X,())),((if ((70:Int)<(IntKind.wrap .i64 (ex-ey))) then (70:Int) else (IntKind.wrap .i64 (ex-ey))),()))).1,(AG.F (((0:Int),(Y,())),((IntKind.wrap .i64 ((IntKind.wrap .i64 (ex-(if ((70:Int)<(IntKind.wrap .i64 (ex-ey))) then (70:Int) else (IntKind.wrap .i64 (ex-ey)))))-ey)),()))))).1.2.1==(0:Int)))&&(!((!(((AJ.F ((AG.F (((0:Int),(Y,())),((IntKind.wrap .i64 ((IntKind.wrap .i64 (ex-(if ((70:Int)<(IntKind.wrap .i64 (ex-ey))) then (70:Int) else (IntKind.wrap .i64 (ex-ey)))))-ey)),()))).1,((IntKind.wrap .i64 ((IntKind.wrap .i64 (ex-(if ((70:Int)<(IntKind.wrap .i64 (ex-ey))) then (70:Int) else (IntKind.wrap .i64 (ex-ey)))))-ey)),()))).1.1==(0:Int))&&((AJ.F ((AG.F (((0:Int),(Y,())),((IntKind.wrap .i64 ((IntKind.wrap .i64 (ex-(if ((70:Int)<(IntKind.wrap .i64 (ex-ey))) then (70:Int) else (IntKind.wrap .i64 (ex-ey)))))-ey)),()))).1,((IntKind.wrap .i64 ((IntKind.wrap .i64 (ex-(if ((70:Int)<(IntKind.wrap .i64 (ex-ey))) then (70:Int) else (IntKind.wrap .i64 (ex-ey)))))-ey)),()))).1.2.1==Y)))||((decide ((IntKind.wrap .i64 ((IntKind.wrap .i64 (ex-(if ((70:Int)<(IntKind.wrap .i64 (ex-ey))) then (70:Int) else (IntKind.wrap .i64 (ex-ey)))))-ey))>(63:Int)))&&(Y != (0:Int)))))) then
        (bif (Bm.pre (f,((m==(4:Int)),()))) then
         (some ((Bm.F (f,((m==(4:Int)),()))).1,((0:Int),((0:Int),()))))
        else none)
       else bif (CU.pre (f,(m,(nx,((Bn.F ((AJ.F (((0:Int),(X,())),((if ((70:Int)<(IntKind.wrap .i64 (ex-ey))) then (70:Int) else (IntKind.wrap .i64 (ex-ey))),()))).1,(AG.F (((0:Int),(Y,())),((IntKind.wrap .i64 ((IntKind.wrap .i64 (ex-(if ((70:Int)<(IntKind.wrap .i64 (ex-ey))) then (70:Int) else (IntKind.wrap .i64 (ex-ey)))))-ey)),()))))).1,((IntKind.wrap .i64 (ex-(if ((70:Int)<(IntKind.wrap .i64 (ex-ey))) then (70:Int) else (IntKind.wrap .i64 (ex-ey))))),(((!(((AJ.F ((AG.F (((0:Int),(Y,())),((IntKind.wrap .i64 ((IntKind.wrap .i64 (ex-(if ((70:Int)<(IntKind.wrap .i64 (ex-ey))) then (70:Int) else (IntKind.wrap .i64 (ex-ey)))))-ey)),()))).1,((IntKind.wrap .i64 ((IntKind.wrap .i64 (ex-(if ((70:Int)<(IntKind.wrap .i64 (ex-ey))) then (70:Int) else (IntKind.wrap .i64 (ex-ey)))))-ey)),()))).1.1==(0:Int))&&((AJ.F ((AG.F (((0:Int),(Y,())),((IntKind.wrap .i64 ((IntKind.wrap .i64 (ex-(if ((70:Int)<(IntKind.wrap .i64 (ex-ey))) then (70:Int) else (IntKind.wrap .i64 (ex-ey)))))-ey)),()))).1,((IntKind.wrap .i64 ((IntKind.wrap .i64 (ex-(if ((70:Int)<(IntKind.wrap .i64 (ex-ey))) then (70:Int) else (IntKind.wrap .i64 (ex-ey)))))-ey)),()))).1.2.1==Y)))||((decide ((IntKind.wrap .i64 ((IntKind.wrap .i64 (ex-(if ((70:Int)<(IntKind.wrap .i64 (ex-ey))) then (70:Int) else (IntKind.wrap .i64 (ex-ey)))))-ey))>(63:Int)))&&(Y != (0:Int)))),()))))))) then
        (some (CU.F (f,(m,(nx,((Bn.F ((AJ.F (((0:Int),(X,())),((if ((70:Int)<(IntKind.wrap .i64 (ex-ey))) then (70:Int) else (IntKind.wrap .i64 (ex-ey))),()))).1,(AG.F (((0:Int),(Y,())),((IntKind.wrap .i64 ((IntKind.wrap .i64 (ex-(if ((70:Int)<(IntKind.wrap .i64 (ex-ey))) then (70:Int) else (IntKind.wrap .i64 (ex-ey)))))-ey)),()))))).1,((IntKind.wrap .i64 (ex-(if ((70:Int)<(IntKind.wrap .i64 (ex-ey))) then (70:Int) else (IntKind.wrap .i64 (ex-ey))))),(((!(((AJ.F ((AG.F (((0:Int),(Y,())),((IntKind.wrap .i64 ((IntKind.wrap .i64 (ex-(if ((70:Int)<(IntKind.wrap .i64 (ex-ey))) then (70:Int) else (IntKind.wrap .i64 (ex-ey)))))-ey)),()))).1,((IntKind.wrap .i64 ((IntKind.wrap .i64 (ex-(if ((70:Int)<(IntKind.wrap .i64 (ex-ey))) then (70:Int) else (IntKind.wrap .i64 (ex-ey)))))-ey)),()))).1.1==(0:Int))&&((AJ.F ((AG.F (((0:Int),(Y,())),((IntKind.wrap .i64 ((IntKind.wrap .i64 (ex-(if ((70:Int)<(IntKind.wrap .i64 (ex-ey))) then (70:Int) else (IntKind.wrap .i64 (ex-ey)))))-ey)),()))).1,((IntKind.wrap .i64 ((IntKind.wrap .i64 (ex-(if ((70:Int)<(IntKind.wrap .i64 (ex-ey))) then (70:Int) else (IntKind.wrap .i64 (ex-ey)))))-ey)),()))).1.2.1==Y)))||((decide ((IntKind.wrap .i64 ((IntKind.wrap .i64 (ex-(if ((70:Int)<(IntKind.wrap .i64 (ex-ey))) then (70:Int) else (IntKind.wrap .i64 (ex-ey)))))-ey))>(63:Int)))&&(Y != (0:Int)))),()))))))))
       else none)
      else none)
     else none)
    else none)
   else none)
  else none)
 else none
theorem aJa (f m:Int) (nx:Bool) (X ex:Int) (ny:Bool) (Y ey:Int):OT (f,m,(nx,X,ex,()),(ny,Y,ey,()),()) =
 (bif ((X==0)&&(Y==0))&&(nx==ny) then (bif Bm.pre (f,nx,()) then some ((Bm.F (f,nx,())).1,0,0,()) else none)
 else bif (X==0)||((Y != 0)&&decide (ex<ey)) then (bif X==0 then QA f m ny Y ey nx X ey else QA f m ny Y ey nx X ex)
 else bif Y==0 then QA f m nx X ex ny Y ex else QA f m nx X ex ny Y ey):=by kernel_rfl
theorem jW {n:Nat} (h:n<2^64):((0:Int),((n:Int),()))=Wi n:=by
 unfold Wi
 rw [Nat.div_eq_of_lt h,Nat.mod_eq_of_lt h]; rfl
theorem aBs:((0:Int),((1:Int),()))=Wi 1:=rfl
theorem jX {n:Nat} (h:n<2^128):(((Wi n).1==0)&&((Wi n).2.1==0))=decide (n=0):=by
 show (((n/2^64:Nat):Int)==0&&((n%2^64:Nat):Int)==0)=_
 rw [HQ,HQ,Bool.eq_iff_iff,Bool.and_eq_true,beq_iff_eq,beq_iff_eq,decide_eq_true_eq]
 omega
theorem aEg {Y dn:Nat} (hY:Y<2^64):((!(((Wi (Y/2^dn*2^dn)).1==0)&&((Wi (Y/2^dn*2^dn)).2.1==(Y:Int))))||(decide ((dn:Int)>63)&&((Y:Int) != 0)))=decide (Y%2^dn≠0):=by
 have hdm:=Nat.div_add_mod Y (2^dn)
 rw [Nat.mul_comm] at hdm
 generalize hL:Y/2^dn*2^dn=L at *
 show ((!(((L/2^64:Nat):Int)==0&&((L%2^64:Nat):Int)==(Y:Int)))||(decide ((dn:Int)>63)&&((Y:Int) != 0)))=_
 rw [HQ,NZ,Qb]
 by_cases h:Y%2^dn=0
 ·rw [decide_eq_false (p:=Y%2^dn≠0) (by omega)]
  rw [show (L/2^64==0)=true by rw [beq_iff_eq]; omega,show (L%2^64==Y)=true by rw [beq_iff_eq]; omega]
  by_cases hy:Y=0
  ·rw [hy]; simp
  ·have:¬ (dn:Int)>63:=fun hd=>by
    have h1:Y<2^dn:=Nat.lt_of_lt_of_le hY (Nat.pow_le_pow_right (by decide) (by omega))
    rw [Nat.mod_eq_of_lt h1] at h
    exact hy h
   rw [decide_eq_false this]; rfl
 ·rw [decide_eq_true (p:=Y%2^dn≠0) h]
  rw [show (L%2^64==Y)=false by rw [beq_eq_false_iff_ne]; omega]
  simp
theorem E2 {n k:Nat} (h:2^k<=n):k+1<=Ab n:=by
 have h1:=Eq n
 have:k<Ab n:=(Nat.pow_lt_pow_iff_right (a:=2) (by decide)).1 (Nat.lt_of_le_of_lt h h1)
 omega
def Df (f m:Int) (nx:Bool) (X:Nat) (ex:Int) (ny:Bool) (Y:Nat) (ey:Int):Nat×Nat :=
 let e:=if ex<=ey then ex else ey
 let a:=X*2^(ex-e).toNat
 let b:=Y*2^(ey-e).toNat
 if nx=ny then (if a+b=0 then (AZ f nx,0) else At f m nx (a+b) e false)
 else if a=b then (AZ f (m==4),0) else if b<a then At f m nx (a-b) e false else At f m ny (b-a) e false
theorem gF {f m:Int} {nx:Bool} {X:Nat} {ey:Int} {ny:Bool} {Y:Nat} (D:Nat) :
  Df f m nx X (ey+D) ny Y ey=if nx=ny then (if X*2^D+Y=0 then (AZ f nx,0) else At f m nx (X*2^D+Y) ey false)
   else if X*2^D=Y then (AZ f (m==4),0) else if Y<X*2^D then At f m nx (X*2^D-Y) ey false else At f m ny (Y-X*2^D) ey false:=by
 unfold Df
 have he:(if ey+(D:Int)<=ey then ey+(D:Int) else ey)=ey:=by split <;> omega
 simp only [he]
 rw [show (ey+(D:Int)-ey).toNat=D by omega,show (ey-ey).toNat=0 by omega,Nat.pow_zero,Nat.mul_one]
theorem gG (f m:Int) (nx:Bool) (X:Nat) (ex:Int) (ny:Bool) (Y:Nat) (ey:Int):Df f m nx X ex ny Y ey=Df f m ny Y ey nx X ex:=by
 unfold Df
 have he:(if ex<=ey then ex else ey)=(if ey<=ex then ey else ex):=by split <;> split <;> omega
 simp only [he]
 generalize (if ey<=ex then ey else ex)=e
 generalize X*2^(ex-e).toNat=a
 generalize Y*2^(ey-e).toNat=b
 by_cases hn:nx=ny
 ·subst hn
  rw [if_pos rfl,if_pos rfl,Nat.add_comm]
 ·rw [if_neg hn,if_neg (Ne.symm hn)]
  rcases Nat.lt_trichotomy a b with h | h | h
  ·rw [if_neg (by omega),if_neg (by omega),if_neg (by omega),if_pos h]
  ·rw [if_pos h,if_pos h.symm]
  ·rw [if_neg (by omega),if_pos h,if_neg (by omega),if_neg (by omega)]
theorem T4 {f m:Int} (hf:Fm f) (nx:Bool) (X:Nat) (ex:Int) (ny:Bool) (ey:Int):Df f m nx X ex ny 0 ey=if X=0 then (if nx=ny then (AZ f nx,0) else (AZ f (m==4),0)) else At f m nx X ex false:=by
 rcases Int.le_total ex ey with h | h
 ·obtain ⟨D,hD⟩:=Int.eq_ofNat_of_zero_le (show 0<=ey-ex by omega)
  have:ey=ex+D:=by omega
  subst this
  rw [gG,gF,Nat.zero_mul,Nat.zero_add]
  by_cases hn:nx=ny
  ·subst hn
   simp only [↓reduceIte]
  ·rw [if_neg (Ne.symm hn),if_neg hn]
   by_cases hx:X=0
   ·subst hx
    simp only [↓reduceIte]
   ·rw [if_neg (by omega),if_neg (by omega),if_neg hx,Nat.sub_zero]
 ·obtain ⟨D,hD⟩:=Int.eq_ofNat_of_zero_le (show 0<=ex-ey by omega)
  have:ex=ey+D:=by omega
  subst this
  rw [gF,Nat.add_zero]
  by_cases hx:X=0
  ·subst hx
   rw [if_pos rfl,Nat.zero_mul,if_pos rfl,if_pos rfl]
  ·have hp:=Nat.two_pow_pos D
   have hpos:0<X*2^D:=Nat.mul_pos (by omega) hp
   rw [if_neg hx]
   by_cases hn:nx=ny
   ·rw [if_pos hn,if_neg (by omega),JS hf hx]
   ·rw [if_neg hn,if_neg (by omega),if_pos hpos,Nat.sub_zero,JS hf hx]
theorem YM {f m:Int} (hf:Fm f) (hm:0<=m/\m<=5) (nx:Bool) (X D:Nat) (ny:Bool) (Y:Nat) (ey:Int) (hX:X<2^53) (hY:Y<2^53) (he:-2000<=ey/\ey+D<=2000) (h0:X≠0∨(Y=0/\nx≠ny)) :
  QA f m nx X (ey+D) ny Y ey=some (((Df f m nx X (ey+D) ny Y ey).1:Int),((Df f m nx X (ey+D) ny Y ey).2:Int),0,()):=by
 rw [gF]
 have hW:=E4 hf
 have hP:=Ec hf
 have hU:∃ U dn:Nat,(if (70:Int)<(D:Int) then (70:Int) else (D:Int))=(U:Int)/\D=U+dn/\U<=70/\(dn≠0->U=70):=by
  by_cases h:70<D
  ·exact ⟨70,D-70,by rw [if_pos (by omega)]; rfl,by omega,by omega,fun _=>rfl⟩
  ·exact ⟨D,0,by rw [if_neg (by omega)],by omega,by omega,fun h=>absurd rfl h⟩
 obtain ⟨U,dn,hU1,hU2,hU3,hU4⟩:=hU
 have e1:IntKind.wrap .i64 (ey+(D:Int)-ey)=(D:Int):=by rw [Au (by omega)]; omega
 have e2:IntKind.wrap .i64 (ey+(D:Int)-(U:Int))=ey+(dn:Int):=by rw [Au (by omega)]; omega
 have e3:IntKind.wrap .i64 (ey+(dn:Int)-ey)=(dn:Int):=by rw [Au (by omega)]; omega
 have hpU:=Nat.two_pow_pos U
 have hpd:=Nat.two_pow_pos dn
 have hU70:2^U<=2^70:=Nat.pow_le_pow_right (by decide) hU3
 have hH:X*2^U<2^123:=by
  have h1:X*2^U<=X*2^70:=Nat.mul_le_mul_left _ hU70
  have h2:X*2^70<2^53*2^70:=Nat.mul_lt_mul_of_pos_right hX (by decide)
  omega
 have hXD:X*2^D=X*2^U*2^dn:=by rw [hU2,Nat.pow_add,Nat.mul_assoc]
 have hbig:Y%2^dn≠0->2^70<=X*2^U/\X≠0:=fun h=>by
  have hd:dn≠0:=fun h1=>by rw [h1,Nat.pow_zero,Nat.mod_one] at h; exact h rfl
  have hy:Y≠0:=fun h1=>by rw [h1,Nat.zero_mod] at h; exact h rfl
  have hx:X≠0:=by
   rcases h0 with h | h
   ·exact h
   ·exact absurd h.1 hy
  refine ⟨?_,hx⟩
  rw [hU4 hd]
  exact Nat.le_mul_of_pos_left _ (by omega)
 have hYL:Y/2^dn<=Y:=Nat.div_le_self _ _
 have hLd:Y/2^dn*2^dn<=Y:=Nat.div_mul_le_self _ _
 have p1:Np (((0:Int),((X:Int),())),((U:Int),()))=some (Wi (X*2^U),()):=by
  rw [jW (by omega),iW _ _ (by omega),Nat.mod_eq_of_lt (by omega)]
 have p2:OF (((0:Int),((Y:Int),())),((dn:Int),()))=some (Wi (Y/2^dn),()):=by
  rw [jW (by omega),aAq _ _ (by omega)]
 have p3:Np (Wi (Y/2^dn),((dn:Int),()))=some (Wi (Y/2^dn*2^dn),()):=by
  rw [iW _ _ (by omega),Nat.mod_eq_of_lt (by omega)]
 have p4:=aAr (X*2^U) (Y/2^dn) (by omega)
 have p5:=aAs (X*2^U) (Y/2^dn)
 have pz:=OE hf (m==4)
 unfold QA
 simp only [e1,hU1,e2,e3,uF p1,qK p1,aFu p2,aC5 p2,uF p3,qK p3,cond_true,aFv p4,aC6 p4,aFw p5,aC7 p5,aEg (show Y<2^64 by omega)]
 have hdm:=Nat.div_add_mod Y (2^dn)
 have hml:=Nat.mod_lt Y hpd
 have hX0H:X=0->X*2^U=0:=fun h=>by rw [h,Nat.zero_mul]
 have hXb:X≠0->dn≠0->2^70<=X*2^U:=fun h1 h2=>by rw [hU4 h2]; exact Nat.le_mul_of_pos_left _ (by omega)
 have hHp:X≠0->0<X*2^U:=fun h=>Nat.mul_pos (by omega) hpU
 clear e1 e2 e3 p1 p2 p3
 rw [Nat.mul_comm] at hdm
 generalize hHe:X*2^U=H at *
 generalize hLe:Y/2^dn=L at *
 generalize hRe:Y%2^dn=R at *
 by_cases hn:nx=ny
 ·subst hn
  rw [if_pos rfl,show (nx==nx)=true by cases nx <;> rfl,cond_true]
  have hX0:X≠0:=by
   rcases h0 with h | h
   ·exact h
   ·exact absurd rfl h.2
  have hHp:=hHp hX0
  have hN:X*2^D+Y=Y+H*2^dn:=by rw [hXD,Nat.add_comm]
  have hNd:(X*2^D+Y)/2^dn=H+L:=by rw [hN,Nat.add_mul_div_right _ _ hpd,hLe,Nat.add_comm]
  have hNm:(X*2^D+Y)%2^dn=R:=by rw [hN,Nat.add_mul_mod_self_right,hRe]
  have hbl:R≠0->fP f+2<=Ab (H+L):=fun h=>by
   have h1:=(hbig h).1
   have:=E2 (n:=H+L) (k:=70) (by omega)
   omega
  have p6:=Q3 hf hm nx (H+L) (by omega) (ey+(dn:Int)) (by omega) (decide (R≠0)) (fun h=>hbl (by simpa using h))
  rw [if_neg (by omega)] at p6
  simp only [TH p6,Td p6,cond_true]
  have htr:=fS (f:=f) (m:=m) (neg:=nx) (N:=X*2^D+Y) (k:=dn) (E:=ey) hf (by rw [hNd]; omega) (by rw [hNd,hNm]; exact hbl)
  rw [hNd,hNm] at htr
  have hpp:0<H*2^dn:=Nat.mul_pos hHp hpd
  rw [htr,if_neg (by rw [hXD]; omega)]
 ·rw [if_neg hn,show (nx==ny)=false by cases nx <;> cases ny <;> first | rfl | exact absurd rfl hn,cond_false]
  by_cases hlt:H<L
  ·-- low is the greater: nothing is lost
   have hm0:R=0:=by
    by_cases h:R=0
    ·exact h
    ·have:=(hbig h).1; omega
   have hdn:dn=0:=by
    by_cases h:dn=0
    ·exact h
    ·exfalso
     rcases h0 with h1 | h1
     ·have h2:=hXb h1 h
      omega
     ·have:=h1.1; omega
   subst hdn
   have hY1:Y=L:=by rw [← hLe]; simp
   subst hY1
   have hXD1:X*2^D=H:=by rw [hXD]; simp
   rw [hm0,hXD1]
   have p7:=Zk Y H (by omega) (by omega)
   have p6:=Q3 hf hm ny (Y-H) (by omega) (ey+((0:Nat):Int)) (by omega) false (fun h=>by cases h)
   rw [if_neg (by omega)] at p6
   have z1:decide ((if H=Y then (0:Int) else if H<Y then -1 else 1)<0)=true:=by
    rw [if_neg (by omega),if_pos hlt]; rfl
   have z2:decide ((0:Nat)≠0)=false:=by decide
   have z3:=jX (n:=Y-H) (by omega)
   rw [decide_eq_false (p:=Y-H=0) (by omega)] at z3
   simp only [z1,z2,cond_true,cond_false,eV p7,cK p7,z3,Bool.false_and,TH p6,Td p6]
   rw [if_neg (by omega),if_neg (by omega),Int.natCast_zero,Int.add_zero]
  ·have hge:L<=H:=by omega
   have p7:=Zk H L (by omega) hge
   have z1:decide ((if H=L then (0:Int) else if H<L then -1 else 1)<0)=false:=by
    by_cases h:H=L
    ·rw [if_pos h]; rfl
    ·rw [if_neg h,if_neg hlt]; rfl
   simp only [z1,cond_false,eV p7,cK p7,cond_true]
   by_cases hm0:R=0
   ·rw [hm0,show decide ((0:Nat)≠0)=false by decide,cond_false]
    have hYe:Y=L*2^dn:=by omega
    have z3:=jX (n:=H-L) (by omega)
    rw [z3]
    by_cases hz:H-L=0
    ·have heq:X*2^D=Y:=by rw [hXD,hYe,show H=L by omega]
     rw [decide_eq_true hz,if_pos heq]
     simp only [Bool.not_false,Bool.and_self,cond_true,Qo pz,Px pz]
     rfl
    ·rw [decide_eq_false hz]
     have p6:=Q3 hf hm nx (H-L) (by omega) (ey+(dn:Int)) (by omega) false (fun h=>by cases h)
     rw [if_neg hz] at p6
     simp only [Bool.false_and,cond_false,TH p6,Td p6,cond_true]
     have hN:X*2^D-Y=(H-L)*2^dn:=by rw [hXD,Nat.sub_mul,← hYe]
     have hpp:0<(H-L)*2^dn:=Nat.mul_pos (by omega) hpd
     have hlt2:Y<X*2^D:=by omega
     rw [if_neg (by omega),if_pos hlt2,hN,JS hf hz]
   ·rw [decide_eq_true (p:=R≠0) hm0,cond_true]
    obtain ⟨hb1,hX0⟩:=hbig hm0
    have p8:=Zk (H-L) 1 (by omega) (by omega)
    rw [← aBs] at p8
    have hbl:fP f+2<=Ab (H-L-1):=by
     have:=E2 (n:=H-L-1) (k:=69) (by omega)
     omega
    have p6:=Q3 hf hm nx (H-L-1) (by omega) (ey+(dn:Int)) (by omega) true (fun _=>hbl)
    rw [if_neg (by omega)] at p6
    simp only [eV p8,cK p8,cond_true,Bool.not_true,Bool.and_false,cond_false,TH p6,Td p6]
    have h2:(L+1+(H-L-1))*2^dn=H*2^dn:=by rw [show L+1+(H-L-1)=H by omega]
    rw [Nat.add_mul,Nat.add_mul,Nat.one_mul] at h2
    have hN:X*2^D-Y=(2^dn-R)+(H-L-1)*2^dn:=by rw [hXD]; omega
    have hlt2:Y<X*2^D:=by omega
    have hNd:(X*2^D-Y)/2^dn=H-L-1:=by
     rw [hN,Nat.add_mul_div_right _ _ hpd,Nat.div_eq_of_lt (by omega),Nat.zero_add]
    have hNm:(X*2^D-Y)%2^dn=2^dn-R:=by
     rw [hN,Nat.add_mul_mod_self_right,Nat.mod_eq_of_lt (by omega)]
    have htr:=fS (f:=f) (m:=m) (neg:=nx) (N:=X*2^D-Y) (k:=dn) (E:=ey) hf (by rw [hNd]; omega) (fun _=>by rw [hNd]; exact hbl)
    rw [hNd,hNm,decide_eq_true (p:=2^dn-R≠0) (by omega)] at htr
    rw [htr,if_neg (by omega),if_pos hlt2]
theorem aA3 {f m:Int} (hf:Fm f) (hm:0<=m/\m<=5) (nx:Bool) (X:Nat) (ex:Int) (ny:Bool) (Y:Nat) (ey:Int) (hX:X<2^53) (hY:Y<2^53) (hex:-2000<=ex/\ex<=2000) (hey:-2000<=ey/\ey<=2000) :
  OT (f,m,(nx,(X:Int),ex,()),(ny,(Y:Int),ey,()),())=some (((Df f m nx X ex ny Y ey).1:Int),((Df f m nx X ex ny Y ey).2:Int),0,()):=by
 rw [aJa]
 by_cases hX0:X=0
 ·subst hX0
  by_cases hYn:Y=0/\nx=ny
  ·obtain ⟨rfl,rfl⟩:=hYn
   have p0:=OE hf nx
   rw [show ((((0:Nat):Int)==0)&&(((0:Nat):Int)==0)&&(nx==nx))=true by cases nx <;> rfl,cond_true]
   simp only [Qo p0,Px p0,cond_true]
   rw [T4 hf,if_pos rfl,if_pos rfl]
   rfl
  ·have hg:((((0:Nat):Int)==0)&&(((Y:Nat):Int)==0)&&(nx==ny))=false:=by
    by_cases hy:Y=0
    ·have:nx≠ny:=fun h=>hYn ⟨hy,h⟩
     subst hy
     cases nx <;> cases ny <;> first | rfl | exact absurd rfl this
    ·rw [AX Y hy,Bool.and_false,Bool.false_and]
   have h1:(((0:Nat):Int)==0)=true:=rfl
   rw [hg,cond_false,h1,Bool.true_or,cond_true,cond_true]
   have ht:=YM hf hm ny Y 0 nx 0 ey hY hX (by omega) (by
    by_cases hy:Y=0
    ·exact .inr ⟨rfl,fun h=>hYn ⟨hy,h.symm⟩⟩
    ·exact .inl hy)
   rw [Int.natCast_zero,Int.add_zero] at ht
   rw [Int.natCast_zero,ht,gG f m nx 0 ex,T4 hf,T4 hf]
 ·have hx0:((X:Int)==0)=false:=AX _ hX0
  rw [hx0,Bool.false_and,Bool.false_and,cond_false,Bool.false_or,cond_false]
  by_cases hY0:Y=0
  ·subst hY0
   have ht:=YM hf hm nx X 0 ny 0 ex hX hY (by omega) (.inl hX0)
   rw [Int.natCast_zero,Int.add_zero] at ht
   rw [show (((0:Nat):Int) != 0)=false by rfl,Bool.false_and,cond_false,show (((0:Nat):Int)==0)=true by rfl,cond_true,Int.natCast_zero,ht,T4 hf,T4 hf]
  ·rw [Bf _ hY0,Bool.true_and,AX _ hY0,cond_false]
   by_cases hlt:ex<ey
   ·rw [decide_eq_true hlt,cond_true]
    obtain ⟨D,hD⟩:=Int.eq_ofNat_of_zero_le (show 0<=ey-ex by omega)
    have hee:ey=ex+D:=by omega
    subst hee
    rw [YM hf hm ny Y D nx X ex hY hX (by omega) (.inl hY0),gG f m ny Y]
   ·rw [decide_eq_false hlt,cond_false]
    obtain ⟨D,hD⟩:=Int.eq_ofNat_of_zero_le (show 0<=ex-ey by omega)
    have hee:ex=ey+D:=by omega
    subst hee
    rw [YM hf hm nx X D ny Y ey hX hY (by omega) (.inl hX0)]
end VL
namespace VL
open Go Vx
def Hs (l:List Nat):Prop:=(∀ x∈l,x<2^32)/\l.length<=1000000
theorem Hs.dg {n:Nat} (h:n<2^100000):Hs (dg (2^32) n):=by
 refine ⟨Gx (by decide) n,?_⟩
 have:n<(2^32)^3125:=by rw [← Nat.pow_mul]; exact h
 have:=Da (B:=2^32) (by decide) 3125 n this
 omega
theorem Ub (n:Nat) (h:n<2^64):IntKind.wrap .u64 (n:Int)=(n:Int):=Eg (by omega)
theorem gT (a b:Nat) (h:a*b<2^64):IntKind.wrap .u64 ((a:Int)*(b:Int))=((a*b:Nat):Int):=by
 rw [← Int.natCast_mul,Ub _ h]
theorem YU (a b:Nat) (h:a+b<2^64):IntKind.wrap .u64 ((a:Int)+(b:Int))=((a+b:Nat):Int):=by
 rw [← Int.natCast_add,Ub _ h]
theorem SL {B:Nat} {l:List Nat} {v:Nat} (h:∀ x∈l,x<B) (hv:v<B):∀ x∈l++[v],x<B:=fun x hx=>by
 rcases List.mem_append.1 hx with hx | hx
 ·exact h x hx
 ·have:x=v:=by simpa using hx
  rw [this]; exact hv
theorem TD (B:Nat) (l:List Nat) (v:Nat):nv B (l++[v])=nv B l+B^l.length*v:=by
 rw [N1]; simp [nv]
theorem aEA (B n:Nat):nv B (List.replicate n 0)=0:=by
 induction n with
 | zero=>rfl
 | succ n ih=>rw [List.replicate_succ]; simp [nv,ih]
end VL
namespace VL
open Go Vx
theorem Qd (B:Nat) (l:List Nat) (i:Nat) (h:i<l.length):nv B (l.drop i)=l.getD i 0+B*nv B (l.drop (i+1)):=by
 rw [List.drop_eq_getElem_cons h,List.getD_eq_getElem?_getD,List.getElem?_eq_getElem h]; rfl
theorem aJe {B:Nat} (hB:2<=B) {l:List Nat} (h:∀ x∈l,x<B) (i:Nat):nv B (l.take i)<B^i:=by
 have:=Dr hB (l.take i) fun x hx=>h x (List.mem_of_mem_take hx)
 refine Nat.lt_of_lt_of_le this (Nat.pow_le_pow_right (by omega) ?_)
 rw [List.length_take]
 exact Nat.min_le_left _ _
theorem aIS {P A A' X Y:Nat} (h:A<P) (hxy:X<Y):A+P*X<A'+P*Y:=by
 have:P*(X+1)<=P*Y:=Nat.mul_le_mul_left _ hxy
 rw [Nat.mul_add,Nat.mul_one] at this
 omega
theorem M4 {B:Nat} (hB:2<=B) {a b:List Nat} (ha:∀ x∈a,x<B) {i:Nat} (hia:i<a.length) (hib:i<b.length) (hd:nv B (a.drop (i+1))=nv B (b.drop (i+1))) (h:a.getD i 0<b.getD i 0):nv B a<nv B b:=by
 rw [JJ B a i (by omega),JJ B b i (by omega),Qd B a i hia,Qd B b i hib,hd]
 exact aIS (aJe hB ha i) (by omega)
theorem bG {B:Nat} (hB:2<=B) {x y:Nat} (h:(dg B x).length<(dg B y).length):x<y:=by
 have h1:=Pt hB x
 rcases Nat.lt_or_ge x y with h2 | h2
 ·exact h2
 ·have:=Da hB (dg B x).length y (by omega)
  omega
theorem aEa {P B A A' O a b c c' v:Nat} (h:A+P*c=A'+O) (h2:a+B*c'=b+c+v):A+P*a+P*B*c'=A'+P*b+(O+P*v):=by
 have h3:P*(a+B*c')=P*(b+c+v):=by rw [h2]
 rw [Nat.mul_add,Nat.mul_add,Nat.mul_add,← Nat.mul_assoc] at h3
 omega
theorem oQ {B:Nat} (hB:2<=B) {x y:Nat} (h:y<=x):(dg B y).length<=(dg B x).length:=by
 rcases Nat.lt_or_ge (dg B x).length (dg B y).length with h1 | h1
 ·have:=bG hB h1; omega
 ·exact h1
theorem Hs.len {n:Nat} (h:n<2^100000):(VL.dg (2^32) n).length<=3125:=by
 have:n<(2^32)^3125:=by rw [← Nat.pow_mul]; exact h
 exact Da (B:=2^32) (by decide) 3125 n this
theorem aBQ {x:Nat} (h:x≠0):Ab x=Ab (x/2)+1:=by
 have:=VM (n:=x) (k:=1)
 rcases Nat.lt_or_ge x 2 with h1 | h1
 ·have:x=1:=by omega
  subst this; decide
 ·have:=this (by omega)
  rw [this,Nat.pow_one]; omega
theorem fJ (x m:Nat) (h:x<2^64) (hm:0<m):Cm .u64 (x:Int) (m:Int)=((x/m:Nat):Int):=by
 unfold Cm
 have e:(x:Int).tdiv (m:Int)=((x/m:Nat):Int):=rfl
 have:=Nat.div_le_self x m
 generalize x/m=q at *
 rw [e,Eg (by omega)]
end VL
namespace VL
open Go Vx
theorem Eu {f:Int} (hf:Fm f):fP f<=53:=by
 rcases CH hf with rfl | rfl | rfl | rfl <;> decide
theorem aEf {m:Int} (hm:0<=m/\m<=5):m=0∨m=1∨m=2∨m=3∨m=4∨m=5:=by omega
theorem aCh {f m:Int} (hf:Fm f) {neg:Bool} {n:Nat} {e q:Int} (h:AA n e-fP f+1<=q):BS m neg n e q false<=2^fP f:=bD h
end VL
namespace VL
open Go Vx
def Af (f:Int) (a:Nat):Nat:=if eF f a=0 then mF f a else mF f a+2^(fP f-1)
def Ag (f:Int) (a:Nat):Int:=1-(fX f:Int)-(fP f:Int)+1+(if eF f a=0 then 0 else (eF f a:Int)-1)
theorem HP (f:Int) (a:Nat):mF f a<2^(fP f-1):=Nat.mod_lt _ (Nat.two_pow_pos _)
theorem GE {f:Int} (hf:Fm f) (a:Nat):Af f a<2^53:=by
 have h1:=HP f a
 have h2:=BD hf
 have h3:=Ec hf
 have h4:=E4 hf
 have h5:2^(fP f-1)<=2^52:=Nat.pow_le_pow_right (by decide) (by rcases CH hf with rfl | rfl | rfl | rfl <;> decide)
 unfold Af
 split <;> omega
theorem V6 {f:Int} (hf:Fm f) (a:Nat):eF f a<2048:=by
 have:2^(fW f-fP f)<=2^11:=Nat.pow_le_pow_right (by decide) (by rcases CH hf with rfl | rfl | rfl | rfl <;> decide)
 have h:eF f a<2^(fW f-fP f):=Nat.mod_lt _ (Nat.two_pow_pos _)
 omega
theorem Of {f:Int} (hf:Fm f) (a:Nat):-2000<=Ag f a/\Ag f a<=2000:=by
 have h1:=V6 hf a
 have h2:=Jx hf
 have h3:=Eu hf
 have h4:=Gz hf
 have h5:=BD hf
 have h6:(eF f a:Int)<=2*fX f+1:=by
  have:eF f a<2^(fW f-fP f):=Nat.mod_lt _ (Nat.two_pow_pos _)
  have:=S5 hf
  omega
 unfold Ag
 split <;> omega
def Ao (f:Int) (a:Nat):Bool:=eF f a==Av f&&mF f a==0
def SF (f m:Int) (a b:Nat):Int×Int×Int×Unit :=
 bif BM f a||BM f b then ((By f:Int),1,0,())
 else bif nan f a||nan f b then ((By f:Int),0,0,())
 else bif (Ao f a&&Ao f b)&&!(sF f a==sF f b) then ((By f:Int),1,0,())
 else bif Ao f a then ((a:Int),0,0,())
 else bif Ao f b then ((b:Int),0,0,())
 else (((Df f m (sF f a) (Af f a) (Ag f a) (sF f b) (Af f b) (Ag f b)).1:Int),((Df f m (sF f a) (Af f a) (Ag f a) (sF f b) (Af f b) (Ag f b)).2:Int),0,())
def C8 (f m:Int) (a b:Nat):Int×Int×Int×Unit :=
 if Fm f then (if 0<=m/\m<=5 then (if Aj f a=0/\Aj f b=0 then SF f m a b else (0,0,4,())) else (0,0,3,())) else (0,0,2,())
theorem cG {f:Int} {a:Nat} (h:eF f a=Av f):nan f a=(!(mF f a==0))/\BM f a=(!(mF f a==0)&&(mF f a/2^(fP f-2)==0))/\Ao f a=(mF f a==0):=by
 unfold BM nan Ao
 rw [h]
 simp [bne]
theorem Qi {f:Int} {a:Nat} (h:eF f a≠Av f):nan f a=false/\BM f a=false/\Ao f a=false:=by
 unfold BM nan Ao
 simp [h]
def DM (f m:Int) (a b:Nat):Int×Int×Int×Unit:=C8 f m a (if Aj f b=0 then Cc f b else b)
theorem aEw {f:Int} {b:Nat} (h:Aj f b=0):Cc f b<2^64:=DJ (MZ (Ca h).1 b)
end VL
end
