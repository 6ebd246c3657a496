/- Part 5 of the proof. What is proved: symbolic execution of the functions, proved sound; what each function of the program computes, and that every run ends with it; what these functions compute, in plain numbers. Conditions: each theorem bears its own. -/
import Derived.Test.YtblmecpfokfjpaaDoorVxG4
import Derived.IntWalk
set_option linter.all false
set_option exponentiation.threshold 1000000
namespace Vx
open Go Go.Proofs
abbrev I333:Sig:=[(false,.slice (.int .u64)),(false,.slice (.int .u64))]
abbrev O333:Sig:=[(false,.slice (.int .u64)),(false,.slice (.int .u64))]
abbrev P333_14:Pat:=⟨91,[(9,.one (.sl (.int .u64))),(12,.one (.v .i64)),(4,.one (.own 1)),(10,.one (.own 0)),(11,.one (.v .i64)),(8,.one (.v .i64))],[.arr (.int .u64),.arr (.int .u64)]⟩
abbrev A333_14:List (Nat×Shape):=[]
abbrev X333_14:List (Nat×Pat):=[(0,⟨91,[(4,.one (.own 1)),(10,.one (.own 0)),(11,.one (.v .i64)),(8,.one (.v .i64))],[.arr (.int .u64),.arr (.int .u64)]⟩)]
abbrev Q333_14:Option Pat:=none
noncomputable def h333_14 (p1146:DenS I1146→Bool) (f1146:DenS I1146→DenS O1146) (p1329:DenS I1329→Bool) (f1329:DenS I1329→DenS O1329) (p144:DenS I144→Bool) (f144:DenS I144→DenS O144) (p146:DenS I146→Bool) (f146:DenS I146→DenS O146) (p329:DenS I329→Bool) (f329:DenS I329→DenS O329) (p327:DenS I327→Bool) (f327:DenS I327→DenS O327) (p186:DenS I186→Bool) (f186:DenS I186→DenS O186) (p332:LK.D K332×DenS I332→Bool) (f332:LK.D K332×DenS I332→LK.B K332×DenS O332) (p173:DenS I173→Bool) (f173:DenS I173→DenS O173) (p171:DenS I171→Bool) (f171:DenS I171→DenS O171) {R:Type} (L:Pat.D P333_14→Option R) (e:OutT X333_14 Q333_14→Option R) (x:Pat.D P333_14):Option R :=
 let e3_:=(IntKind.wrap .i64 ((IntKind.wrap .i64 (x.1.2.1+x.1.2.2.2.2.1))+(1:Int)))
 let e1_:=(f332 ((x.2.1,((Int.toNat x.1.2.1),((Int.toNat e3_)-(Int.toNat x.1.2.1)))),(x.1.1,())))
 let e2_:=e3_
 bif (decide (x.1.2.1≥(0:Int))) then
 (bif (((decide ((0:Int)≤x.1.2.1))&&(decide (x.1.2.1≤e2_)))&&(decide (e2_≤(x.2.1.length:Int)))) then
 (bif (p332 ((x.2.1,((Int.toNat x.1.2.1),((Int.toNat e2_)-(Int.toNat x.1.2.1)))),(x.1.1,()))) then
 (bif ((decide ((0:Int)≤x.1.2.1))&&(decide (x.1.2.1<(x.2.2.1.length:Int)))) then
 ((L ((x.1.1,((IntKind.wrap .i64 (x.1.2.1-(1:Int))),((),((),x.1.2.2.2.2)))),(e1_.1,((x.2.2.1.set (Int.toNat x.1.2.1) e1_.2.1),())))))
 else none)
 else none)
 else none)
 else (e (.inl (((),((),x.1.2.2.2.2)),x.2)))
theorem s333_14 (p1146:DenS I1146→Bool) (f1146:DenS I1146→DenS O1146) (p1329:DenS I1329→Bool) (f1329:DenS I1329→DenS O1329) (p144:DenS I144→Bool) (f144:DenS I144→DenS O144) (p146:DenS I146→Bool) (f146:DenS I146→DenS O146) (p329:DenS I329→Bool) (f329:DenS I329→DenS O329) (p327:DenS I327→Bool) (f327:DenS I327→DenS O327) (p186:DenS I186→Bool) (f186:DenS I186→DenS O186) (p332:LK.D K332×DenS I332→Bool) (f332:LK.D K332×DenS I332→LK.B K332×DenS O332) (p173:DenS I173→Bool) (f173:DenS I173→DenS O173) (p171:DenS I171→Bool) (f171:DenS I171→DenS O171) (w333_14:Pat.D P333_14→Option (OutT X333_14 Q333_14)) (d:Nat) (R:Type) (L:Pat.D P333_14→Option R) (e:OutT X333_14 Q333_14→Option R) (x:Pat.D P333_14) :
  lStep { P:=Tryd.prog,sums:=[(122,⟨I1146,O1146,p1146,f1146⟩),(123,⟨I1329,O1329,p1329,f1329⟩),(109,⟨I144,O144,p144,f144⟩),(122,⟨I146,O146,p146,f146⟩),(123,⟨I329,O329,p329,f329⟩),(124,⟨I327,O327,p327,f327⟩),(105,⟨I186,O186,p186,f186⟩),(106,⟨I173,O173,p173,f173⟩),(108,⟨I171,O171,p171,f171⟩)],loops:=[(107,14,LoopSpec.of P333_14 A333_14 X333_14 Q333_14 w333_14)],globs:=G1,cut:=true,lsums:=[(125,⟨K332,I332,O332,p332,f332⟩)] } (d+2) 107 (bodyOf Tryd.f107 14) P333_14 A333_14 X333_14 Q333_14 (R:=R) L e x=h333_14 p1146 f1146 p1329 f1329 p144 f144 p146 f146 p329 f329 p327 f327 p186 f186 p332 f332 p173 f173 p171 f171 L e x:=by kernel_rfl
theorem m333_14 (p1146:DenS I1146→Bool) (f1146:DenS I1146→DenS O1146) (p1329:DenS I1329→Bool) (f1329:DenS I1329→DenS O1329) (p144:DenS I144→Bool) (f144:DenS I144→DenS O144) (p146:DenS I146→Bool) (f146:DenS I146→DenS O146) (p329:DenS I329→Bool) (f329:DenS I329→DenS O329) (p327:DenS I327→Bool) (f327:DenS I327→DenS O327) (p186:DenS I186→Bool) (f186:DenS I186→DenS O186) (p332:LK.D K332×DenS I332→Bool) (f332:LK.D K332×DenS I332→LK.B K332×DenS O332) (p173:DenS I173→Bool) (f173:DenS I173→DenS O173) (p171:DenS I171→Bool) (f171:DenS I171→DenS O171):Par fun L e x=>h333_14 p1146 f1146 p1329 f1329 p144 f144 p146 f146 p329 f329 p327 f327 p186 f186 p332 f332 p173 f173 p171 f171 L e x:=by
 intro A B rel L L' e e' h0 hL he x
 unfold h333_14
 repeat' (first | exact h0 | exact hL _ | exact he _ | apply rel_cond | (apply rel_obind h0; intro _) | (apply rel_obind2 <;> intro _))
noncomputable def t333 (p1146:DenS I1146→Bool) (f1146:DenS I1146→DenS O1146) (p1329:DenS I1329→Bool) (f1329:DenS I1329→DenS O1329) (p144:DenS I144→Bool) (f144:DenS I144→DenS O144) (p146:DenS I146→Bool) (f146:DenS I146→DenS O146) (p329:DenS I329→Bool) (f329:DenS I329→DenS O329) (p327:DenS I327→Bool) (f327:DenS I327→DenS O327) (p186:DenS I186→Bool) (f186:DenS I186→DenS O186) (p332:LK.D K332×DenS I332→Bool) (f332:LK.D K332×DenS I332→LK.B K332×DenS O332) (p173:DenS I173→Bool) (f173:DenS I173→DenS O173) (p171:DenS I171→Bool) (f171:DenS I171→DenS O171) (w333_14:Pat.D P333_14→Option (OutT X333_14 Q333_14)) (a0:Den (.slice (.int .u64))) (a1:Den (.slice (.int .u64))):Option (DenS O333) :=
 let e17_:=(IntKind.wrap .i64 (((f173 (a1,())).1.length:Int)-(1:Int)))
 let e14_:=(f327 (((f173 (a1,())).1.getD (Int.toNat e17_) (0:Int)),()))
 let e12_:=(f186 ((f173 (a0,())).1,e14_))
 let e18_:=(IntKind.wrap .i64 (((f173 (a0,())).1.length:Int)+(1:Int)))
 let e15_:=(List.replicate (Int.toNat e18_) (0:Int))
 let e13_:=(f186 ((f173 (a1,())).1,e14_))
 let e11_:=(IntKind.wrap .i64 ((((e12_.1.take e15_.length)++(e15_.drop e12_.1.length)).length:Int)-(e13_.1.length:Int)))
 let e1_:=(List.replicate (Int.toNat e11_) (0:Int))
 let e2_:=e11_
 let e3_:=e13_
 let e4_:=e12_
 let e5_:=e14_
 let e6_:=e15_
 let e16_:=((f1146 (f173 (a0,()))).1,(((f173 (a1,())).1.getD (Int.toNat (0:Int)) (0:Int)),()))
 let e7_:=(((f1329 e16_).2.1::[]),())
 let e8_:=e16_
 let e9_:=e17_
 let e10_:=e18_
 bif (p173 (a0,())) then
 (bif (p173 (a1,())) then
 (bif (p144 ((f173 (a0,())).1,(f173 (a1,())))) then
 (bif (decide ((f144 ((f173 (a0,())).1,(f173 (a1,())))).1<(0:Int))) then
 (bif (p1146 (f173 (a0,()))) then
 (some ([],(f1146 (f173 (a0,())))))
 else none)
 else bif (((f173 (a1,())).1.length:Int)==(1:Int)) then
 (bif (p1146 (f173 (a0,()))) then
 (bif (decide ((0:Int)<((f173 (a1,())).1.length:Int))) then
 (bif (p1329 e8_) then
 (bif (p173 e7_) then
 (some ((f1329 e8_).1,(f173 e7_)))
 else none)
 else none)
 else none)
 else none)
 else bif ((decide ((0:Int)≤e9_))&&(decide (e9_<((f173 (a1,())).1.length:Int)))) then
 (bif (p327 (((f173 (a1,())).1.getD (Int.toNat e9_) (0:Int)),())) then
 (bif (p186 ((f173 (a1,())).1,e5_)) then
 (bif ((decide ((0:Int)≤e10_))&&(decide ((e10_*(8:Int))≤(140737488355328:Int)))) then
 (bif (p186 ((f173 (a0,())).1,e5_)) then
 (bif ((decide ((0:Int)≤e2_))&&(decide ((e2_*(8:Int))≤(140737488355328:Int)))) then
 (Vx.obind (w333_14 ((e3_.1,((IntKind.wrap .i64 ((e1_.length:Int)-(1:Int))),((),((),((e3_.1.length:Int),e5_))))),(((e4_.1.take e6_.length)++(e6_.drop e4_.1.length)),(e1_,())))) fun y11 =>
 Vx.obind2 y11 (fun y12 =>
 bif (p173 y12.2.2) then
 (bif ((decide ((0:Int)≤y12.1.2.2.1))&&(decide (y12.1.2.2.1≤(y12.2.1.length:Int)))) then
 (bif (p171 (((y12.2.1.take (Int.toNat y12.1.2.2.1)).drop (Int.toNat (0:Int))),y12.1.2.2.2)) then
 (some ((f173 y12.2.2).1,(f171 (((y12.2.1.take (Int.toNat y12.1.2.2.1)).drop (Int.toNat (0:Int))),y12.1.2.2.2))))
 else none)
 else none)
 else none) (fun z12 =>
 none))
 else none)
 else none)
 else none)
 else none)
 else none)
 else none)
 else none)
 else none)
 else none
theorem r333 (p1146:DenS I1146→Bool) (f1146:DenS I1146→DenS O1146) (p1329:DenS I1329→Bool) (f1329:DenS I1329→DenS O1329) (p144:DenS I144→Bool) (f144:DenS I144→DenS O144) (p146:DenS I146→Bool) (f146:DenS I146→DenS O146) (p329:DenS I329→Bool) (f329:DenS I329→DenS O329) (p327:DenS I327→Bool) (f327:DenS I327→DenS O327) (p186:DenS I186→Bool) (f186:DenS I186→DenS O186) (p332:LK.D K332×DenS I332→Bool) (f332:LK.D K332×DenS I332→LK.B K332×DenS O332) (p173:DenS I173→Bool) (f173:DenS I173→DenS O173) (p171:DenS I171→Bool) (f171:DenS I171→DenS O171) (w333_14:Pat.D P333_14→Option (OutT X333_14 Q333_14)) (a0:Den (.slice (.int .u64))) (a1:Den (.slice (.int .u64))) :
  run { P:=Tryd.prog,sums:=[(122,⟨I1146,O1146,p1146,f1146⟩),(123,⟨I1329,O1329,p1329,f1329⟩),(109,⟨I144,O144,p144,f144⟩),(122,⟨I146,O146,p146,f146⟩),(123,⟨I329,O329,p329,f329⟩),(124,⟨I327,O327,p327,f327⟩),(105,⟨I186,O186,p186,f186⟩),(106,⟨I173,O173,p173,f173⟩),(108,⟨I171,O171,p171,f171⟩)],loops:=[(107,14,LoopSpec.of P333_14 A333_14 X333_14 Q333_14 w333_14)],globs:=G1,cut:=true,lsums:=[(125,⟨K332,I332,O332,p332,f332⟩)] } 9 107 Tryd.f107 I333 O333 (a0,a1,())=t333 p1146 f1146 p1329 f1329 p144 f144 p146 f146 p329 f329 p327 f327 p186 f186 p332 f332 p173 f173 p171 f171 w333_14 a0 a1:=by kernel_rfl
noncomputable def W333_14:P333_14.D→Option (OutT X333_14 Q333_14):=lfix fun L=>h333_14 S1146.pre S1146.F S1329.pre S1329.F S144.pre S144.F S146.pre S146.F S329.pre S329.F S327.pre S327.F S186.pre S186.F S332.pre S332.F S173.pre S173.F S171.pre S171.F L some
noncomputable def T333 (x:DenS I333):Option (DenS O333):=t333 S1146.pre S1146.F S1329.pre S1329.F S144.pre S144.F S146.pre S146.F S329.pre S329.F S327.pre S327.F S186.pre S186.F S332.pre S332.F S173.pre S173.F S171.pre S171.F W333_14 x.1 x.2.1
noncomputable def C333:Cfg:={ P:=Tryd.prog,sums:=[(122,S1146),(123,S1329),(109,S144),(122,S146),(123,S329),(124,S327),(105,S186),(106,S173),(108,S171)],loops:=[(107,14,LoopSpec.of P333_14 A333_14 X333_14 Q333_14 W333_14)],globs:=G1,cut:=true,lsums:=[(125,S332)] }
noncomputable def S333:Sum:=sumOf I333 O333 T333 (DenS.dflt O333)
theorem S333_sound:Sound Tryd.prog G1 107 S333 :=
 fn_sound C333 9 107 Tryd.f107 mixedOk (by kernel_rfl) (by kernel_rfl) (by kernel_rfl) ⟨S1146_sound,⟨S1329_sound,⟨S144_sound,⟨S146_sound,⟨S329_sound,⟨S327_sound,⟨S186_sound,⟨S173_sound,⟨S171_sound,trivial⟩⟩⟩⟩⟩⟩⟩⟩⟩ ⟨rfl,fun d=>loopOk_of (fun L e x=>h333_14 S1146.pre S1146.F S1329.pre S1329.F S144.pre S144.F S146.pre S146.F S329.pre S329.F S327.pre S327.F S186.pre S186.F S332.pre S332.F S173.pre S173.F S171.pre S171.F L e x) (m333_14 S1146.pre S1146.F S1329.pre S1329.F S144.pre S144.F S146.pre S146.F S329.pre S329.F S327.pre S327.F S186.pre S186.F S332.pre S332.F S173.pre S173.F S171.pre S171.F) (fun R L e x=>s333_14 S1146.pre S1146.F S1329.pre S1329.F S144.pre S144.F S146.pre S146.F S329.pre S329.F S327.pre S327.F S186.pre S186.F S332.pre S332.F S173.pre S173.F S171.pre S171.F W333_14 d R L e x),trivial⟩ I333 O333 T333 _ (fun x=>r333 S1146.pre S1146.F S1329.pre S1329.F S144.pre S144.F S146.pre S146.F S329.pre S329.F S327.pre S327.F S186.pre S186.F S332.pre S332.F S173.pre S173.F S171.pre S171.F W333_14 x.1 x.2.1) (hls:=⟨S332_sound,trivial⟩)
abbrev I334:Sig:=[(false,.slice (.int .u64))]
abbrev O334:Sig:=[(false,.slice (.int .u64)),(false,.bool),(false,.int .i64)]
abbrev P334_7:Pat:=⟨45,[(5,.one (.sl (.int .u64))),(0,.one (.sl (.int .u64)))],[]⟩
abbrev A334_7:List (Nat×Shape):=[]
abbrev X334_7:List (Nat×Pat):=[(0,⟨45,[(5,.one (.sl (.int .u64))),(0,.one (.sl (.int .u64)))],[]⟩)]
abbrev Q334_7:Option Pat:=none
noncomputable def h334_7 (p185:DenS I185→Bool) (f185:DenS I185→DenS O185) (p173:DenS I173→Bool) (f173:DenS I173→DenS O173) (p151:DenS I151→Bool) (f151:DenS I151→DenS O151) (p186:DenS I186→Bool) (f186:DenS I186→DenS O186) (p333:DenS I333→Bool) (f333:DenS I333→DenS O333) (p143:DenS I143→Bool) (f143:DenS I143→DenS O143) (p171:DenS I171→Bool) (f171:DenS I171→DenS O171) (p324:DenS I324→Bool) (f324:DenS I324→DenS O324) (p144:DenS I144→Bool) (f144:DenS I144→DenS O144) {R:Type} (L:Pat.D P334_7→Option R) (e:OutT X334_7 Q334_7→Option R) (x:Pat.D P334_7):Option R :=
 let e4_:=(x.1.1,((f333 (x.1.2.1,(x.1.1,()))).1,()))
 let e3_:=((f143 e4_).1,((1:Int),()))
 let e1_:=((f171 e3_).1,(x.1.1,()))
 let e2_:=e3_
 bif (p333 (x.1.2.1,(x.1.1,()))) then
 (bif (p143 e4_) then
 (bif (p171 e2_) then
 (bif (p144 e1_) then
 (bif (decide ((f144 e1_).1≥(0:Int))) then
 ((e (.inl (x.1,()))))
 else (L (((f171 e2_).1,x.1.2),())))
 else none)
 else none)
 else none)
 else none
theorem s334_7 (p185:DenS I185→Bool) (f185:DenS I185→DenS O185) (p173:DenS I173→Bool) (f173:DenS I173→DenS O173) (p151:DenS I151→Bool) (f151:DenS I151→DenS O151) (p186:DenS I186→Bool) (f186:DenS I186→DenS O186) (p333:DenS I333→Bool) (f333:DenS I333→DenS O333) (p143:DenS I143→Bool) (f143:DenS I143→DenS O143) (p171:DenS I171→Bool) (f171:DenS I171→DenS O171) (p324:DenS I324→Bool) (f324:DenS I324→DenS O324) (p144:DenS I144→Bool) (f144:DenS I144→DenS O144) (w334_7:Pat.D P334_7→Option (OutT X334_7 Q334_7)) (d:Nat) (R:Type) (L:Pat.D P334_7→Option R) (e:OutT X334_7 Q334_7→Option R) (x:Pat.D P334_7) :
  lStep { P:=Tryd.prog,sums:=[(104,⟨I185,O185,p185,f185⟩),(106,⟨I173,O173,p173,f173⟩),(100,⟨I151,O151,p151,f151⟩),(105,⟨I186,O186,p186,f186⟩),(107,⟨I333,O333,p333,f333⟩),(80,⟨I143,O143,p143,f143⟩),(108,⟨I171,O171,p171,f171⟩),(110,⟨I324,O324,p324,f324⟩),(109,⟨I144,O144,p144,f144⟩)],loops:=[(74,7,LoopSpec.of P334_7 A334_7 X334_7 Q334_7 w334_7)],globs:=G1 } (d+2) 74 (bodyOf Tryd.f74 7) P334_7 A334_7 X334_7 Q334_7 (R:=R) L e x=h334_7 p185 f185 p173 f173 p151 f151 p186 f186 p333 f333 p143 f143 p171 f171 p324 f324 p144 f144 L e x:=by kernel_rfl
theorem m334_7 (p185:DenS I185→Bool) (f185:DenS I185→DenS O185) (p173:DenS I173→Bool) (f173:DenS I173→DenS O173) (p151:DenS I151→Bool) (f151:DenS I151→DenS O151) (p186:DenS I186→Bool) (f186:DenS I186→DenS O186) (p333:DenS I333→Bool) (f333:DenS I333→DenS O333) (p143:DenS I143→Bool) (f143:DenS I143→DenS O143) (p171:DenS I171→Bool) (f171:DenS I171→DenS O171) (p324:DenS I324→Bool) (f324:DenS I324→DenS O324) (p144:DenS I144→Bool) (f144:DenS I144→DenS O144):Par fun L e x=>h334_7 p185 f185 p173 f173 p151 f151 p186 f186 p333 f333 p143 f143 p171 f171 p324 f324 p144 f144 L e x:=by
 intro A B rel L L' e e' h0 hL he x
 unfold h334_7
 repeat' (first | exact h0 | exact hL _ | exact he _ | apply rel_cond | (apply rel_obind h0; intro _) | (apply rel_obind2 <;> intro _))
noncomputable def t334 (p185:DenS I185→Bool) (f185:DenS I185→DenS O185) (p173:DenS I173→Bool) (f173:DenS I173→DenS O173) (p151:DenS I151→Bool) (f151:DenS I151→DenS O151) (p186:DenS I186→Bool) (f186:DenS I186→DenS O186) (p333:DenS I333→Bool) (f333:DenS I333→DenS O333) (p143:DenS I143→Bool) (f143:DenS I143→DenS O143) (p171:DenS I171→Bool) (f171:DenS I171→DenS O171) (p324:DenS I324→Bool) (f324:DenS I324→DenS O324) (p144:DenS I144→Bool) (f144:DenS I144→DenS O144) (w334_7:Pat.D P334_7→Option (OutT X334_7 Q334_7)) (a0:Den (.slice (.int .u64))):Option (DenS O334) :=
 let e1_:=(((1:Int)::[]),((quoI .i64 (IntKind.wrap .i64 ((f151 (f173 (a0,()))).1+(1:Int))) (2:Int)),()))
 bif (p185 ((a0::[]),())) then
 (bif (f185 ((a0::[]),())).1 then
 (some ([],(false,((5:Int),()))))
 else bif (p173 (a0,())) then
 (bif (((f173 (a0,())).1.length:Int)==(0:Int)) then
 (some ([],(true,((0:Int),()))))
 else bif (p151 (f173 (a0,()))) then
 (bif (p186 e1_) then
 (Vx.obind (w334_7 (((f186 e1_).1,(f173 (a0,()))),())) fun y6 =>
 Vx.obind2 y6 (fun y7 =>
 bif (p324 (y7.1.1,(y7.1.1,()))) then
 (bif (p144 ((f324 (y7.1.1,(y7.1.1,()))).1,y7.1.2)) then
 (some (y7.1.1,(((f144 ((f324 (y7.1.1,(y7.1.1,()))).1,y7.1.2)).1==(0:Int)),((0:Int),()))))
 else none)
 else none) (fun z7 =>
 none))
 else none)
 else none)
 else none)
 else none
theorem r334 (p185:DenS I185→Bool) (f185:DenS I185→DenS O185) (p173:DenS I173→Bool) (f173:DenS I173→DenS O173) (p151:DenS I151→Bool) (f151:DenS I151→DenS O151) (p186:DenS I186→Bool) (f186:DenS I186→DenS O186) (p333:DenS I333→Bool) (f333:DenS I333→DenS O333) (p143:DenS I143→Bool) (f143:DenS I143→DenS O143) (p171:DenS I171→Bool) (f171:DenS I171→DenS O171) (p324:DenS I324→Bool) (f324:DenS I324→DenS O324) (p144:DenS I144→Bool) (f144:DenS I144→DenS O144) (w334_7:Pat.D P334_7→Option (OutT X334_7 Q334_7)) (a0:Den (.slice (.int .u64))) :
  run { P:=Tryd.prog,sums:=[(104,⟨I185,O185,p185,f185⟩),(106,⟨I173,O173,p173,f173⟩),(100,⟨I151,O151,p151,f151⟩),(105,⟨I186,O186,p186,f186⟩),(107,⟨I333,O333,p333,f333⟩),(80,⟨I143,O143,p143,f143⟩),(108,⟨I171,O171,p171,f171⟩),(110,⟨I324,O324,p324,f324⟩),(109,⟨I144,O144,p144,f144⟩)],loops:=[(74,7,LoopSpec.of P334_7 A334_7 X334_7 Q334_7 w334_7)],globs:=G1 } 9 74 Tryd.f74 I334 O334 (a0,())=t334 p185 f185 p173 f173 p151 f151 p186 f186 p333 f333 p143 f143 p171 f171 p324 f324 p144 f144 w334_7 a0:=by kernel_rfl
noncomputable def W334_7:P334_7.D→Option (OutT X334_7 Q334_7):=lfix fun L=>h334_7 S185.pre S185.F S173.pre S173.F S151.pre S151.F S186.pre S186.F S333.pre S333.F S143.pre S143.F S171.pre S171.F S324.pre S324.F S144.pre S144.F L some
noncomputable def T334 (x:DenS I334):Option (DenS O334):=t334 S185.pre S185.F S173.pre S173.F S151.pre S151.F S186.pre S186.F S333.pre S333.F S143.pre S143.F S171.pre S171.F S324.pre S324.F S144.pre S144.F W334_7 x.1
noncomputable def C334:Cfg:={ P:=Tryd.prog,sums:=[(104,S185),(106,S173),(100,S151),(105,S186),(107,S333),(80,S143),(108,S171),(110,S324),(109,S144)],loops:=[(74,7,LoopSpec.of P334_7 A334_7 X334_7 Q334_7 W334_7)],globs:=G1 }
noncomputable def S334:Sum:=sumOf I334 O334 T334 (DenS.dflt O334)
theorem S334_sound:Sound Tryd.prog G1 74 S334 :=
 fn_sound C334 9 74 Tryd.f74 mixedOk (by kernel_rfl) (by kernel_rfl) (by kernel_rfl) ⟨S185_sound,⟨S173_sound,⟨S151_sound,⟨S186_sound,⟨S333_sound,⟨S143_sound,⟨S171_sound,⟨S324_sound,⟨S144_sound,trivial⟩⟩⟩⟩⟩⟩⟩⟩⟩ ⟨rfl,fun d=>loopOk_of (fun L e x=>h334_7 S185.pre S185.F S173.pre S173.F S151.pre S151.F S186.pre S186.F S333.pre S333.F S143.pre S143.F S171.pre S171.F S324.pre S324.F S144.pre S144.F L e x) (m334_7 S185.pre S185.F S173.pre S173.F S151.pre S151.F S186.pre S186.F S333.pre S333.F S143.pre S143.F S171.pre S171.F S324.pre S324.F S144.pre S144.F) (fun R L e x=>s334_7 S185.pre S185.F S173.pre S173.F S151.pre S151.F S186.pre S186.F S333.pre S333.F S143.pre S143.F S171.pre S171.F S324.pre S324.F S144.pre S144.F W334_7 d R L e x),trivial⟩ I334 O334 T334 _ (fun x=>r334 S185.pre S185.F S173.pre S173.F S151.pre S151.F S186.pre S186.F S333.pre S333.F S143.pre S143.F S171.pre S171.F S324.pre S324.F S144.pre S144.F W334_7 x.1)
abbrev I335:Sig:=[(false,.int .i64),(false,.int .i64),(false,.slice (.int .u64)),(false,.int .i64),(false,.bool)]
abbrev O335:Sig:=[(false,.int .u64),(false,.int .i64),(false,.int .i64)]
noncomputable def t335 (p151:DenS I151→Bool) (f151:DenS I151→DenS O151) (p141:DenS I141→Bool) (f141:DenS I141→DenS O141) (p176:DenS I176→Bool) (f176:DenS I176→DenS O176) (p144:DenS I144→Bool) (f144:DenS I144→DenS O144) (p122:DenS I122→Bool) (f122:DenS I122→DenS O122) (a0:Den (.int .i64)) (a1:Den (.int .i64)) (a2:Den (.slice (.int .u64))) (a3:Den (.int .i64)) (a4:Den (.bool)):Option (DenS O335) :=
 let e13_:=(((0:Int)::((0:Int)::[])).take (0:Nat))
 let e12_:=(IntKind.wrap .i64 ((f151 (a2,())).1-(128:Int)))
 let e11_:=(e12_,())
 let e10_:=(f141 (a2,e11_))
 let e7_:=((e13_++(e10_.1.take ((0:Int)::((0:Int)::[])).length))++(((0:Int)::((0:Int)::[])).drop ((0:Nat)+(min e10_.1.length ((0:Int)::((0:Int)::[])).length))))
 let e9_:=(e10_.1,e11_)
 let e1_:=(a0,(a1,(false,(((e7_.getD (Int.toNat (1:Int)) (0:Int)),((e7_.getD (Int.toNat (0:Int)) (0:Int)),())),((IntKind.wrap .i64 (a3+e12_)),((a4||((f144 ((f176 e9_).1,(a2,()))).1 != (0:Int))),()))))))
 let e8_:=((e13_++(a2.take ((0:Int)::((0:Int)::[])).length))++(((0:Int)::((0:Int)::[])).drop ((0:Nat)+(min a2.length ((0:Int)::((0:Int)::[])).length))))
 let e2_:=(a0,(a1,(false,(((e8_.getD (Int.toNat (1:Int)) (0:Int)),((e8_.getD (Int.toNat (0:Int)) (0:Int)),())),(a3,(a4,()))))))
 let e3_:=(e7_.length:Int)
 let e4_:=(e8_.length:Int)
 let e5_:=e9_
 let e6_:=e12_
 bif (p151 (a2,())) then
 (bif (decide (e6_>(0:Int))) then
 (bif (p141 (a2,(e6_,()))) then
 (bif (p176 e5_) then
 (bif ((p144 ((f176 e5_).1,(a2,())))||(!(bif a4 then false else true))) then
 (bif (decide ((1:Int)<e3_)) then
 (bif (decide ((0:Int)<e3_)) then
 (bif (p122 e1_) then
 (some (f122 e1_))
 else none)
 else none)
 else none)
 else none)
 else none)
 else none)
 else bif (decide ((1:Int)<e4_)) then
 (bif (decide ((0:Int)<e4_)) then
 (bif (p122 e2_) then
 (some (f122 e2_))
 else none)
 else none)
 else none)
 else none
theorem r335 (p151:DenS I151→Bool) (f151:DenS I151→DenS O151) (p141:DenS I141→Bool) (f141:DenS I141→DenS O141) (p176:DenS I176→Bool) (f176:DenS I176→DenS O176) (p144:DenS I144→Bool) (f144:DenS I144→DenS O144) (p122:DenS I122→Bool) (f122:DenS I122→DenS O122) (a0:Den (.int .i64)) (a1:Den (.int .i64)) (a2:Den (.slice (.int .u64))) (a3:Den (.int .i64)) (a4:Den (.bool)) :
  run { P:=Tryd.prog,sums:=[(100,⟨I151,O151,p151,f151⟩),(111,⟨I141,O141,p141,f141⟩),(72,⟨I176,O176,p176,f176⟩),(109,⟨I144,O144,p144,f144⟩),(61,⟨I122,O122,p122,f122⟩)],loops:=[],globs:=G1 } 9 75 Tryd.f75 I335 O335 (a0,a1,a2,a3,a4,())=t335 p151 f151 p141 f141 p176 f176 p144 f144 p122 f122 a0 a1 a2 a3 a4:=by kernel_rfl
noncomputable def T335 (x:DenS I335):Option (DenS O335):=t335 S151.pre S151.F S141.pre S141.F S176.pre S176.F S144.pre S144.F S122.pre S122.F x.1 x.2.1 x.2.2.1 x.2.2.2.1 x.2.2.2.2.1
noncomputable def C335:Cfg:={ P:=Tryd.prog,sums:=[(100,S151),(111,S141),(72,S176),(109,S144),(61,S122)],loops:=[],globs:=G1 }
noncomputable def S335:Sum:=sumOf I335 O335 T335 (DenS.dflt O335)
theorem S335_sound:Sound Tryd.prog G1 75 S335 :=
 fn_sound C335 9 75 Tryd.f75 mixedOk (by kernel_rfl) (by kernel_rfl) (by kernel_rfl) ⟨S151_sound,⟨S141_sound,⟨S176_sound,⟨S144_sound,⟨S122_sound,trivial⟩⟩⟩⟩⟩ trivial I335 O335 T335 _ (fun x=>r335 S151.pre S151.F S141.pre S141.F S176.pre S176.F S144.pre S144.F S122.pre S122.F x.1 x.2.1 x.2.2.1 x.2.2.2.1 x.2.2.2.2.1)
abbrev I336:Sig:=[(false,.int .i64),(false,.int .i64),(false,.int .u64),(false,.int .u64)]
abbrev O336:Sig:=[(false,.int .u64),(false,.int .i64),(false,.int .i64)]
noncomputable def t336 (p311:DenS I311→Bool) (f311:DenS I311→DenS O311) (p65:DenS I65→Bool) (f65:DenS I65→DenS O65) (p323:DenS I323→Bool) (f323:DenS I323→DenS O323) (p97:DenS I97→Bool) (f97:DenS I97→DenS O97) (p70:DenS I70→Bool) (f70:DenS I70→DenS O70) (p313:DenS I313→Bool) (f313:DenS I313→DenS O313) (p118:DenS I118→Bool) (f118:DenS I118→DenS O118) (p326:DenS I326→Bool) (f326:DenS I326→DenS O326) (p143:DenS I143→Bool) (f143:DenS I143→DenS O143) (p176:DenS I176→Bool) (f176:DenS I176→DenS O176) (p334:DenS I334→Bool) (f334:DenS I334→DenS O334) (p335:DenS I335→Bool) (f335:DenS I335→DenS O335) (a0:Den (.int .i64)) (a1:Den (.int .i64)) (a2:Den (.int .u64)) (a3:Den (.int .u64)):Option (DenS O336) :=
 let e37_:=(a0,((f311 (a0,(a1,((a2::(a3::[])),())))).1,(a2,())))
 let e35_:=(f313 e37_)
 let e36_:=(a0,((f311 (a0,(a1,((a2::(a3::[])),())))).1,(a3,())))
 let e34_:=(f313 e36_)
 let e29_:=(if (e34_.2.1<e35_.2.1) then e34_.2.1 else e35_.2.1)
 let e27_:=(e35_.1,((IntKind.wrap .i64 (e35_.2.1-e29_)),()))
 let e28_:=(e34_.1,((IntKind.wrap .i64 (e34_.2.1-e29_)),()))
 let e20_:=((f143 ((f326 e27_).1,(f326 e28_))).1,((128:Int),()))
 let e19_:=(f334 ((f176 e20_).1,()))
 let e1_:=(a0,(a1,(e19_.1,((IntKind.wrap .i64 (e29_-(64:Int))),((!e19_.2.1),())))))
 let e30_:=(e35_.1,((IntKind.wrap .i64 (e35_.2.1-e35_.2.1)),()))
 let e31_:=(e34_.1,((IntKind.wrap .i64 (e34_.2.1-e35_.2.1)),()))
 let e26_:=((f326 e30_).1,(f326 e31_))
 let e24_:=((f143 e26_).1,((128:Int),()))
 let e23_:=((f176 e24_).1,())
 let e22_:=(f334 e23_)
 let e18_:=(a0,(a1,(e22_.1,((IntKind.wrap .i64 (e35_.2.1-(64:Int))),((!e22_.2.1),())))))
 let e2_:=(p335 e18_)
 let e3_:=(f335 e18_)
 let e32_:=(e35_.1,((IntKind.wrap .i64 (e35_.2.1-e34_.2.1)),()))
 let e33_:=(e34_.1,((IntKind.wrap .i64 (e34_.2.1-e34_.2.1)),()))
 let e25_:=((f143 ((f326 e32_).1,(f326 e33_))).1,((128:Int),()))
 let e21_:=(f334 ((f176 e25_).1,()))
 let e4_:=(a0,(a1,(e21_.1,((IntKind.wrap .i64 (e34_.2.1-(64:Int))),((!e21_.2.1),())))))
 let e5_:=e20_
 let e6_:=(p334 e23_)
 let e7_:=(p176 e24_)
 let e8_:=e25_
 let e9_:=(p143 e26_)
 let e10_:=e27_
 let e11_:=e28_
 let e12_:=(p326 e30_)
 let e13_:=(p326 e31_)
 let e14_:=e32_
 let e15_:=e33_
 let e16_:=(e34_.1==(0:Int))
 let e17_:=(e35_.1==(0:Int))
 bif (p311 (a0,(a1,((a2::(a3::[])),())))) then
 (bif ((f311 (a0,(a1,((a2::(a3::[])),())))).2.1 != (0:Int)) then
 (some ((0:Int),((0:Int),(f311 (a0,(a1,((a2::(a3::[])),())))).2)))
 else bif (p65 (a0,(a2,()))) then
 (bif (p65 (a0,(a3,()))) then
 (bif (((f65 (a0,(a2,()))).1==(0:Int))||((f65 (a0,(a3,()))).1==(0:Int))) then
 (bif (p70 (a0,())) then
 (some ((f70 (a0,())).1,((1:Int),(f70 (a0,())).2)))
 else none)
 else bif (p323 ((f65 (a0,(a2,()))).1,())) then
 (bif ((p323 ((f65 (a0,(a3,()))).1,()))||(!(bif (f323 ((f65 (a0,(a2,()))).1,())).1 then false else true))) then
 (bif ((f323 ((f65 (a0,(a2,()))).1,())).1||(f323 ((f65 (a0,(a3,()))).1,())).1) then
 (bif (p97 (a0,(false,()))) then
 (some ((f97 (a0,(false,()))).1,((0:Int),(f97 (a0,(false,()))).2)))
 else none)
 else bif (((f65 (a0,(a2,()))).1==(1:Int))||((f65 (a0,(a3,()))).1==(1:Int))) then
 (bif (p70 (a0,())) then
 (some ((f70 (a0,())).1,((0:Int),(f70 (a0,())).2)))
 else none)
 else bif (p313 e37_) then
 (bif (p313 e36_) then
 (bif (e17_&&e16_) then
 (bif (p118 (a0,(false,()))) then
 (some ((f118 (a0,(false,()))).1,((0:Int),(f118 (a0,(false,()))).2)))
 else none)
 else bif e17_ then
 (bif e16_ then
 (bif e12_ then
 (bif e13_ then
 (bif e9_ then
 (bif e7_ then
 (bif e6_ then
 (bif e2_ then
 (some e3_)
 else none)
 else none)
 else none)
 else none)
 else none)
 else none)
 else bif (p326 e14_) then
 (bif (p326 e15_) then
 (bif (p143 ((f326 e14_).1,(f326 e15_))) then
 (bif (p176 e8_) then
 (bif (p334 ((f176 e8_).1,())) then
 (bif (p335 e4_) then
 (some (f335 e4_))
 else none)
 else none)
 else none)
 else none)
 else none)
 else none)
 else bif e16_ then
 (bif e12_ then
 (bif e13_ then
 (bif e9_ then
 (bif e7_ then
 (bif e6_ then
 (bif e2_ then
 (some e3_)
 else none)
 else none)
 else none)
 else none)
 else none)
 else none)
 else bif (p326 e10_) then
 (bif (p326 e11_) then
 (bif (p143 ((f326 e10_).1,(f326 e11_))) then
 (bif (p176 e5_) then
 (bif (p334 ((f176 e5_).1,())) then
 (bif (p335 e1_) then
 (some (f335 e1_))
 else none)
 else none)
 else none)
 else none)
 else none)
 else none)
 else none)
 else none)
 else none)
 else none)
 else none)
 else none)
 else none
theorem r336 (p311:DenS I311→Bool) (f311:DenS I311→DenS O311) (p65:DenS I65→Bool) (f65:DenS I65→DenS O65) (p323:DenS I323→Bool) (f323:DenS I323→DenS O323) (p97:DenS I97→Bool) (f97:DenS I97→DenS O97) (p70:DenS I70→Bool) (f70:DenS I70→DenS O70) (p313:DenS I313→Bool) (f313:DenS I313→DenS O313) (p118:DenS I118→Bool) (f118:DenS I118→DenS O118) (p326:DenS I326→Bool) (f326:DenS I326→DenS O326) (p143:DenS I143→Bool) (f143:DenS I143→DenS O143) (p176:DenS I176→Bool) (f176:DenS I176→DenS O176) (p334:DenS I334→Bool) (f334:DenS I334→DenS O334) (p335:DenS I335→Bool) (f335:DenS I335→DenS O335) (a0:Den (.int .i64)) (a1:Den (.int .i64)) (a2:Den (.int .u64)) (a3:Den (.int .u64)) :
  run { P:=Tryd.prog,sums:=[(66,⟨I311,O311,p311,f311⟩),(26,⟨I65,O65,p65,f65⟩),(79,⟨I323,O323,p323,f323⟩),(60,⟨I97,O97,p97,f97⟩),(45,⟨I70,O70,p70,f70⟩),(68,⟨I313,O313,p313,f313⟩),(33,⟨I118,O118,p118,f118⟩),(81,⟨I326,O326,p326,f326⟩),(80,⟨I143,O143,p143,f143⟩),(72,⟨I176,O176,p176,f176⟩),(74,⟨I334,O334,p334,f334⟩),(75,⟨I335,O335,p335,f335⟩)],loops:=[],globs:=G1 } 9 34 Tryd.f34 I336 O336 (a0,a1,a2,a3,())=t336 p311 f311 p65 f65 p323 f323 p97 f97 p70 f70 p313 f313 p118 f118 p326 f326 p143 f143 p176 f176 p334 f334 p335 f335 a0 a1 a2 a3:=by kernel_rfl
noncomputable def T336 (x:DenS I336):Option (DenS O336):=t336 S311.pre S311.F S65.pre S65.F S323.pre S323.F S97.pre S97.F S70.pre S70.F S313.pre S313.F S118.pre S118.F S326.pre S326.F S143.pre S143.F S176.pre S176.F S334.pre S334.F S335.pre S335.F x.1 x.2.1 x.2.2.1 x.2.2.2.1
noncomputable def C336:Cfg:={ P:=Tryd.prog,sums:=[(66,S311),(26,S65),(79,S323),(60,S97),(45,S70),(68,S313),(33,S118),(81,S326),(80,S143),(72,S176),(74,S334),(75,S335)],loops:=[],globs:=G1 }
noncomputable def S336:Sum:=sumOf I336 O336 T336 (DenS.dflt O336)
theorem S336_sound:Sound Tryd.prog G1 34 S336 :=
 fn_sound C336 9 34 Tryd.f34 mixedOk (by kernel_rfl) (by kernel_rfl) (by kernel_rfl) ⟨S311_sound,⟨S65_sound,⟨S323_sound,⟨S97_sound,⟨S70_sound,⟨S313_sound,⟨S118_sound,⟨S326_sound,⟨S143_sound,⟨S176_sound,⟨S334_sound,⟨S335_sound,trivial⟩⟩⟩⟩⟩⟩⟩⟩⟩⟩⟩⟩ trivial I336 O336 T336 _ (fun x=>r336 S311.pre S311.F S65.pre S65.F S323.pre S323.F S97.pre S97.F S70.pre S70.F S313.pre S313.F S118.pre S118.F S326.pre S326.F S143.pre S143.F S176.pre S176.F S334.pre S334.F S335.pre S335.F x.1 x.2.1 x.2.2.1 x.2.2.2.1)
abbrev I337:Sig:=[]
abbrev O337:Sig:=[(false,.bool)]
noncomputable def t337 (p318:DenS I318→Bool) (f318:DenS I318→DenS O318) (p336:DenS I336→Bool) (f336:DenS I336→DenS O336):Option (DenS O337) :=
 let e3_:=((0:Int),((0:Int),((16896:Int),((50176:Int),()))))
 let e1_:=(f336 e3_)
 let e2_:=(f318 ((0:Int),((0:Int),((16384:Int),()))))
 bif (p318 ((0:Int),((0:Int),((16384:Int),())))) then
 (bif (p336 e3_) then
 (some (((((((e2_.1==(15784:Int))&&(e2_.2.1==(16:Int)))&&(e2_.2.2.1==(0:Int)))&&(e1_.1==(17664:Int)))&&(e1_.2.1==(0:Int)))&&(e1_.2.2.1==(0:Int))),()))
 else none)
 else none
theorem r337 (p318:DenS I318→Bool) (f318:DenS I318→DenS O318) (p336:DenS I336→Bool) (f336:DenS I336→DenS O336) :
  run { P:=Tryd.prog,sums:=[(30,⟨I318,O318,p318,f318⟩),(34,⟨I336,O336,p336,f336⟩)],loops:=[],globs:=G1 } 9 27 Tryd.f27 I337 O337 (())=t337 p318 f318 p336 f336:=by kernel_rfl
noncomputable def T337 (x:DenS I337):Option (DenS O337):=t337 S318.pre S318.F S336.pre S336.F
noncomputable def C337:Cfg:={ P:=Tryd.prog,sums:=[(30,S318),(34,S336)],loops:=[],globs:=G1 }
noncomputable def S337:Sum:=sumOf I337 O337 T337 (DenS.dflt O337)
theorem S337_sound:Sound Tryd.prog G1 27 S337 :=
 fn_sound C337 9 27 Tryd.f27 mixedOk (by kernel_rfl) (by kernel_rfl) (by kernel_rfl) ⟨S318_sound,⟨S336_sound,trivial⟩⟩ trivial I337 O337 T337 _ (fun x=>r337 S318.pre S318.F S336.pre S336.F)
abbrev I47:Sig:=[(true,.pair (.bool) (.pair (.slice (.int .u64)) (.pair (.int .i64) (.unit))))]
abbrev O47:Sig:=[(false,.int .i64)]
noncomputable def t47 (p102:DenS I102→Bool) (f102:DenS I102→DenS O102) (a0:Den (.pair (.bool) (.pair (.slice (.int .u64)) (.pair (.int .i64) (.unit))))):Option (DenS O47) :=
 bif (p102 (a0.2.1,())) then
 (bif (((f102 (a0.2.1,())).1.length:Int)==(0:Int)) then
 (some ((0:Int),()))
 else bif a0.1 then
 (some ((-(1:Int)),()))
 else some ((1:Int),()))
 else none
theorem r47 (p102:DenS I102→Bool) (f102:DenS I102→DenS O102) (a0:Den (.pair (.bool) (.pair (.slice (.int .u64)) (.pair (.int .i64) (.unit))))) :
  run { P:=Tryd.prog,sums:=[(99,⟨I102,O102,p102,f102⟩)],loops:=[],globs:=G1 } 9 82 Tryd.f82 I47 O47 (a0,())=t47 p102 f102 a0:=by kernel_rfl
noncomputable def T47 (x:DenS I47):Option (DenS O47):=t47 S102.pre S102.F x.1
noncomputable def C47:Cfg:={ P:=Tryd.prog,sums:=[(99,S102)],loops:=[],globs:=G1 }
noncomputable def S47:Sum:=sumOf I47 O47 T47 (DenS.dflt O47)
theorem S47_sound:Sound Tryd.prog G1 82 S47 :=
 fn_sound C47 9 82 Tryd.f82 mixedOk (by kernel_rfl) (by kernel_rfl) (by kernel_rfl) ⟨S102_sound,trivial⟩ trivial I47 O47 T47 _ (fun x=>r47 S102.pre S102.F x.1)
abbrev I99:Sig:=[(true,.pair (.bool) (.pair (.slice (.int .u64)) (.pair (.int .i64) (.unit)))),(true,.pair (.bool) (.pair (.slice (.int .u64)) (.pair (.int .i64) (.unit))))]
abbrev O99:Sig:=[(false,.int .i64)]
noncomputable def t99 (p103:DenS I103→Bool) (f103:DenS I103→DenS O103) (a0:Den (.pair (.bool) (.pair (.slice (.int .u64)) (.pair (.int .i64) (.unit))))) (a1:Den (.pair (.bool) (.pair (.slice (.int .u64)) (.pair (.int .i64) (.unit))))):Option (DenS O99) :=
 bif (p103 ((a0.1,a0.2),())) then
 (bif ((f103 ((a0.1,a0.2),())).1 != (0:Int)) then
 (some (f103 ((a0.1,a0.2),())))
 else bif (p103 ((a1.1,a1.2),())) then
 (some (f103 ((a1.1,a1.2),())))
 else none)
 else none
theorem r99 (p103:DenS I103→Bool) (f103:DenS I103→DenS O103) (a0:Den (.pair (.bool) (.pair (.slice (.int .u64)) (.pair (.int .i64) (.unit))))) (a1:Den (.pair (.bool) (.pair (.slice (.int .u64)) (.pair (.int .i64) (.unit))))) :
  run { P:=Tryd.prog,sums:=[(113,⟨I103,O103,p103,f103⟩)],loops:=[],globs:=G1 } 9 84 Tryd.f84 I99 O99 (a0,a1,())=t99 p103 f103 a0 a1:=by kernel_rfl
noncomputable def T99 (x:DenS I99):Option (DenS O99):=t99 S103.pre S103.F x.1 x.2.1
noncomputable def C99:Cfg:={ P:=Tryd.prog,sums:=[(113,S103)],loops:=[],globs:=G1 }
noncomputable def S99:Sum:=sumOf I99 O99 T99 (DenS.dflt O99)
theorem S99_sound:Sound Tryd.prog G1 84 S99 :=
 fn_sound C99 9 84 Tryd.f84 mixedOk (by kernel_rfl) (by kernel_rfl) (by kernel_rfl) ⟨S103_sound,trivial⟩ trivial I99 O99 T99 _ (fun x=>r99 S103.pre S103.F x.1 x.2.1)
abbrev I360:Sig:=[(true,.pair (.bool) (.pair (.slice (.int .u64)) (.pair (.int .i64) (.unit)))),(true,.pair (.bool) (.pair (.slice (.int .u64)) (.pair (.int .i64) (.unit))))]
abbrev O360:Sig:=[(true,.pair (.bool) (.pair (.slice (.int .u64)) (.pair (.int .i64) (.unit)))),(false,.int .i64)]
noncomputable def t360 (p99:DenS I99→Bool) (f99:DenS I99→DenS O99) (p100:DenS I100→Bool) (f100:DenS I100→DenS O100) (p325:DenS I325→Bool) (f325:DenS I325→DenS O325) (p104:DenS I104→Bool) (f104:DenS I104→DenS O104) (a0:Den (.pair (.bool) (.pair (.slice (.int .u64)) (.pair (.int .i64) (.unit))))) (a1:Den (.pair (.bool) (.pair (.slice (.int .u64)) (.pair (.int .i64) (.unit))))):Option (DenS O360) :=
 let e4_:=((f100 ((a0.1,a0.2),())).1.2.1,((f100 ((a1.1,a1.2),())).1.2.1,()))
 let e3_:=(f325 e4_)
 let e1_:=(((!((f100 ((a0.1,a0.2),())).1.1==(f100 ((a1.1,a1.2),())).1.1)),(e3_.1,((IntKind.wrap .i64 ((f100 ((a0.1,a0.2),())).1.2.2.1+(f100 ((a1.1,a1.2),())).1.2.2.1)),()))),())
 let e2_:=e3_
 bif (p99 ((a0.1,a0.2),((a1.1,a1.2),()))) then
 (bif ((f99 ((a0.1,a0.2),((a1.1,a1.2),()))).1 != (0:Int)) then
 (some ((false,([],((0:Int),()))),(f99 ((a0.1,a0.2),((a1.1,a1.2),())))))
 else bif (p100 ((a0.1,a0.2),())) then
 (bif (p100 ((a1.1,a1.2),())) then
 (bif (p325 e4_) then
 (bif (e2_.2.1 != (0:Int)) then
 (some ((false,([],((0:Int),()))),e2_.2))
 else bif (p104 e1_) then
 (some (f104 e1_))
 else none)
 else none)
 else none)
 else none)
 else none
theorem r360 (p99:DenS I99→Bool) (f99:DenS I99→DenS O99) (p100:DenS I100→Bool) (f100:DenS I100→DenS O100) (p325:DenS I325→Bool) (f325:DenS I325→DenS O325) (p104:DenS I104→Bool) (f104:DenS I104→DenS O104) (a0:Den (.pair (.bool) (.pair (.slice (.int .u64)) (.pair (.int .i64) (.unit))))) (a1:Den (.pair (.bool) (.pair (.slice (.int .u64)) (.pair (.int .i64) (.unit))))) :
  run { P:=Tryd.prog,sums:=[(84,⟨I99,O99,p99,f99⟩),(85,⟨I100,O100,p100,f100⟩),(86,⟨I325,O325,p325,f325⟩),(87,⟨I104,O104,p104,f104⟩)],loops:=[],globs:=G1 } 9 38 Tryd.f38 I360 O360 (a0,a1,())=t360 p99 f99 p100 f100 p325 f325 p104 f104 a0 a1:=by kernel_rfl
noncomputable def T360 (x:DenS I360):Option (DenS O360):=t360 S99.pre S99.F S100.pre S100.F S325.pre S325.F S104.pre S104.F x.1 x.2.1
noncomputable def C360:Cfg:={ P:=Tryd.prog,sums:=[(84,S99),(85,S100),(86,S325),(87,S104)],loops:=[],globs:=G1 }
noncomputable def S360:Sum:=sumOf I360 O360 T360 (DenS.dflt O360)
theorem S360_sound:Sound Tryd.prog G1 38 S360 :=
 fn_sound C360 9 38 Tryd.f38 mixedOk (by kernel_rfl) (by kernel_rfl) (by kernel_rfl) ⟨S99_sound,⟨S100_sound,⟨S325_sound,⟨S104_sound,trivial⟩⟩⟩⟩ trivial I360 O360 T360 _ (fun x=>r360 S99.pre S99.F S100.pre S100.F S325.pre S325.F S104.pre S104.F x.1 x.2.1)
abbrev I361:Sig:=[(true,.pair (.bool) (.pair (.slice (.int .u64)) (.pair (.int .i64) (.unit))))]
abbrev O361:Sig:=[(true,.pair (.bool) (.pair (.slice (.int .u64)) (.pair (.int .i64) (.unit))))]
noncomputable def t361 (p360:DenS I360→Bool) (f360:DenS I360→DenS O360) (a0:Den (.pair (.bool) (.pair (.slice (.int .u64)) (.pair (.int .i64) (.unit))))):Option (DenS O361) :=
 bif (p360 ((a0.1,a0.2),((a0.1,a0.2),()))) then
 (some ((f360 ((a0.1,a0.2),((a0.1,a0.2),()))).1,()))
 else none
theorem r361 (p360:DenS I360→Bool) (f360:DenS I360→DenS O360) (a0:Den (.pair (.bool) (.pair (.slice (.int .u64)) (.pair (.int .i64) (.unit))))) :
  run { P:=Tryd.prog,sums:=[(38,⟨I360,O360,p360,f360⟩)],loops:=[],globs:=G1 } 9 37 Tryd.f37 I361 O361 (a0,())=t361 p360 f360 a0:=by kernel_rfl
noncomputable def T361 (x:DenS I361):Option (DenS O361):=t361 S360.pre S360.F x.1
noncomputable def C361:Cfg:={ P:=Tryd.prog,sums:=[(38,S360)],loops:=[],globs:=G1 }
noncomputable def S361:Sum:=sumOf I361 O361 T361 (DenS.dflt O361)
theorem S361_sound:Sound Tryd.prog G1 37 S361 :=
 fn_sound C361 9 37 Tryd.f37 mixedOk (by kernel_rfl) (by kernel_rfl) (by kernel_rfl) ⟨S360_sound,trivial⟩ trivial I361 O361 T361 _ (fun x=>r361 S360.pre S360.F x.1)
abbrev I172:Sig:=[(false,.slice (.int .u64)),(false,.int .i64)]
abbrev O172:Sig:=[(false,.slice (.int .u64))]
abbrev P172_6:Pat:=⟨57,[(25,.one (.v .i64)),(24,.one (.sl (.int .u64))),(5,.one (.v .i64)),(6,.one (.v .u64)),(26,.one (.v .i64)),(7,.one (.own 0))],[.arr (.int .u64)]⟩
abbrev A172_6:List (Nat×Shape):=[]
abbrev X172_6:List (Nat×Pat):=[(0,⟨57,[(7,.one (.own 0))],[.arr (.int .u64)]⟩)]
abbrev Q172_6:Option Pat:=none
noncomputable def h172_6 (p102:DenS I102→Bool) (f102:DenS I102→DenS O102) {R:Type} (L:Pat.D P172_6→Option R) (e:OutT X172_6 Q172_6→Option R) (x:Pat.D P172_6):Option R :=
 bif (decide (x.1.2.2.2.2.1<x.1.1)) then
 (bif ((decide ((0:Int)≤x.1.2.2.2.2.1))&&(decide (x.1.2.2.2.2.1<(x.1.2.1.length:Int)))) then
 (bif ((decide ((0:Int)≤(IntKind.wrap .i64 (x.1.2.2.1+x.1.2.2.2.2.1))))&&(decide ((IntKind.wrap .i64 (x.1.2.2.1+x.1.2.2.2.2.1))<(x.2.1.length:Int)))) then
 (bif ((decide ((0:Int)≤(IntKind.wrap .i64 (x.1.2.2.1+x.1.2.2.2.2.1))))&&(decide ((IntKind.wrap .i64 (x.1.2.2.1+x.1.2.2.2.2.1))<(x.2.1.length:Int)))) then
 (bif (decide (x.1.2.2.2.1>(0:Int))) then
 (bif ((decide ((0:Int)≤(IntKind.wrap .i64 ((IntKind.wrap .i64 (x.1.2.2.1+x.1.2.2.2.2.1))+(1:Int)))))&&(decide ((IntKind.wrap .i64 ((IntKind.wrap .i64 (x.1.2.2.1+x.1.2.2.2.2.1))+(1:Int)))<((x.2.1.set (Int.toNat (IntKind.wrap .i64 (x.1.2.2.1+x.1.2.2.2.2.1))) (orI .u64 (x.2.1.getD (Int.toNat (IntKind.wrap .i64 (x.1.2.2.1+x.1.2.2.2.2.1))) (0:Int)) (shlI .u64 (x.1.2.1.getD (Int.toNat x.1.2.2.2.2.1) (0:Int)) x.1.2.2.2.1))).length:Int)))) then
 ((L ((x.1.1,(x.1.2.1,(x.1.2.2.1,(x.1.2.2.2.1,((IntKind.wrap .i64 (x.1.2.2.2.2.1+(1:Int))),((),())))))),(((x.2.1.set (Int.toNat (IntKind.wrap .i64 (x.1.2.2.1+x.1.2.2.2.2.1))) (orI .u64 (x.2.1.getD (Int.toNat (IntKind.wrap .i64 (x.1.2.2.1+x.1.2.2.2.2.1))) (0:Int)) (shlI .u64 (x.1.2.1.getD (Int.toNat x.1.2.2.2.2.1) (0:Int)) x.1.2.2.2.1))).set (Int.toNat (IntKind.wrap .i64 ((IntKind.wrap .i64 (x.1.2.2.1+x.1.2.2.2.2.1))+(1:Int)))) (shrI .u64 (x.1.2.1.getD (Int.toNat x.1.2.2.2.2.1) (0:Int)) (IntKind.wrap .u64 ((64:Int)-x.1.2.2.2.1)))),()))))
 else none)
 else (L ((x.1.1,(x.1.2.1,(x.1.2.2.1,(x.1.2.2.2.1,((IntKind.wrap .i64 (x.1.2.2.2.2.1+(1:Int))),((),())))))),((x.2.1.set (Int.toNat (IntKind.wrap .i64 (x.1.2.2.1+x.1.2.2.2.2.1))) (orI .u64 (x.2.1.getD (Int.toNat (IntKind.wrap .i64 (x.1.2.2.1+x.1.2.2.2.2.1))) (0:Int)) (shlI .u64 (x.1.2.1.getD (Int.toNat x.1.2.2.2.2.1) (0:Int)) x.1.2.2.2.1))),()))))
 else none)
 else none)
 else none)
 else (e (.inl (((),()),x.2)))
theorem s172_6 (p102:DenS I102→Bool) (f102:DenS I102→DenS O102) (w172_6:Pat.D P172_6→Option (OutT X172_6 Q172_6)) (d:Nat) (R:Type) (L:Pat.D P172_6→Option R) (e:OutT X172_6 Q172_6→Option R) (x:Pat.D P172_6) :
  lStep { P:=Tryd.prog,sums:=[(99,⟨I102,O102,p102,f102⟩)],loops:=[(126,6,LoopSpec.of P172_6 A172_6 X172_6 Q172_6 w172_6)],globs:=G1 } (d+2) 126 (bodyOf Tryd.f126 6) P172_6 A172_6 X172_6 Q172_6 (R:=R) L e x=h172_6 p102 f102 L e x:=by kernel_rfl
theorem m172_6 (p102:DenS I102→Bool) (f102:DenS I102→DenS O102):Par fun L e x=>h172_6 p102 f102 L e x:=by
 intro A B rel L L' e e' h0 hL he x
 unfold h172_6
 repeat' (first | exact h0 | exact hL _ | exact he _ | apply rel_cond | (apply rel_obind h0; intro _) | (apply rel_obind2 <;> intro _))
noncomputable def t172 (p102:DenS I102→Bool) (f102:DenS I102→DenS O102) (w172_6:Pat.D P172_6→Option (OutT X172_6 Q172_6)) (a0:Den (.slice (.int .u64))) (a1:Den (.int .i64)):Option (DenS O172) :=
 bif ((a0.length:Int)==(0:Int)) then
 (some ([],()))
 else bif ((decide ((0:Int)≤(IntKind.wrap .i64 ((IntKind.wrap .i64 ((quoI .i64 a1 (64:Int))+(a0.length:Int)))+(1:Int)))))&&(decide (((IntKind.wrap .i64 ((IntKind.wrap .i64 ((quoI .i64 a1 (64:Int))+(a0.length:Int)))+(1:Int)))*(8:Int))≤(140737488355328:Int)))) then
 (Vx.obind (w172_6 (((a0.length:Int),(a0,((quoI .i64 a1 (64:Int)),((IntKind.wrap .u64 (Int.tmod a1 (64:Int))),((0:Int),((),())))))),((List.replicate (Int.toNat (IntKind.wrap .i64 ((IntKind.wrap .i64 ((quoI .i64 a1 (64:Int))+(a0.length:Int)))+(1:Int)))) (0:Int)),()))) fun y2 =>
 Vx.obind2 y2 (fun y3 =>
 bif (p102 y3.2) then
 (some (f102 y3.2))
 else none) (fun z3 =>
 none))
 else none
theorem r172 (p102:DenS I102→Bool) (f102:DenS I102→DenS O102) (w172_6:Pat.D P172_6→Option (OutT X172_6 Q172_6)) (a0:Den (.slice (.int .u64))) (a1:Den (.int .i64)) :
  run { P:=Tryd.prog,sums:=[(99,⟨I102,O102,p102,f102⟩)],loops:=[(126,6,LoopSpec.of P172_6 A172_6 X172_6 Q172_6 w172_6)],globs:=G1 } 9 126 Tryd.f126 I172 O172 (a0,a1,())=t172 p102 f102 w172_6 a0 a1:=by kernel_rfl
noncomputable def W172_6:P172_6.D→Option (OutT X172_6 Q172_6):=lfix fun L=>h172_6 S102.pre S102.F L some
noncomputable def T172 (x:DenS I172):Option (DenS O172):=t172 S102.pre S102.F W172_6 x.1 x.2.1
noncomputable def C172:Cfg:={ P:=Tryd.prog,sums:=[(99,S102)],loops:=[(126,6,LoopSpec.of P172_6 A172_6 X172_6 Q172_6 W172_6)],globs:=G1 }
noncomputable def S172:Sum:=sumOf I172 O172 T172 (DenS.dflt O172)
theorem S172_sound:Sound Tryd.prog G1 126 S172 :=
 fn_sound C172 9 126 Tryd.f126 mixedOk (by kernel_rfl) (by kernel_rfl) (by kernel_rfl) ⟨S102_sound,trivial⟩ ⟨rfl,fun d=>loopOk_of (fun L e x=>h172_6 S102.pre S102.F L e x) (m172_6 S102.pre S102.F) (fun R L e x=>s172_6 S102.pre S102.F W172_6 d R L e x),trivial⟩ I172 O172 T172 _ (fun x=>r172 S102.pre S102.F W172_6 x.1 x.2.1)
abbrev I142:Sig:=[(true,.pair (.bool) (.pair (.slice (.int .u64)) (.pair (.int .i64) (.unit)))),(true,.pair (.bool) (.pair (.slice (.int .u64)) (.pair (.int .i64) (.unit))))]
abbrev O142:Sig:=[(false,.slice (.int .u64)),(false,.slice (.int .u64)),(false,.int .i64)]
noncomputable def t142 (p172:DenS I172→Bool) (f172:DenS I172→DenS O172) (a0:Den (.pair (.bool) (.pair (.slice (.int .u64)) (.pair (.int .i64) (.unit))))) (a1:Den (.pair (.bool) (.pair (.slice (.int .u64)) (.pair (.int .i64) (.unit))))):Option (DenS O142) :=
 bif (p172 (a0.2.1,((IntKind.wrap .i64 (a0.2.2.1-(if (a1.2.2.1<a0.2.2.1) then a1.2.2.1 else a0.2.2.1))),()))) then
 (bif (p172 (a1.2.1,((IntKind.wrap .i64 (a1.2.2.1-(if (a1.2.2.1<a0.2.2.1) then a1.2.2.1 else a0.2.2.1))),()))) then
 (some ((f172 (a0.2.1,((IntKind.wrap .i64 (a0.2.2.1-(if (a1.2.2.1<a0.2.2.1) then a1.2.2.1 else a0.2.2.1))),()))).1,((f172 (a1.2.1,((IntKind.wrap .i64 (a1.2.2.1-(if (a1.2.2.1<a0.2.2.1) then a1.2.2.1 else a0.2.2.1))),()))).1,((if (a1.2.2.1<a0.2.2.1) then a1.2.2.1 else a0.2.2.1),()))))
 else none)
 else none
theorem r142 (p172:DenS I172→Bool) (f172:DenS I172→DenS O172) (a0:Den (.pair (.bool) (.pair (.slice (.int .u64)) (.pair (.int .i64) (.unit))))) (a1:Den (.pair (.bool) (.pair (.slice (.int .u64)) (.pair (.int .i64) (.unit))))) :
  run { P:=Tryd.prog,sums:=[(126,⟨I172,O172,p172,f172⟩)],loops:=[],globs:=G1 } 9 114 Tryd.f114 I142 O142 (a0,a1,())=t142 p172 f172 a0 a1:=by kernel_rfl
noncomputable def T142 (x:DenS I142):Option (DenS O142):=t142 S172.pre S172.F x.1 x.2.1
noncomputable def C142:Cfg:={ P:=Tryd.prog,sums:=[(126,S172)],loops:=[],globs:=G1 }
noncomputable def S142:Sum:=sumOf I142 O142 T142 (DenS.dflt O142)
theorem S142_sound:Sound Tryd.prog G1 114 S142 :=
 fn_sound C142 9 114 Tryd.f114 mixedOk (by kernel_rfl) (by kernel_rfl) (by kernel_rfl) ⟨S172_sound,trivial⟩ trivial I142 O142 T142 _ (fun x=>r142 S172.pre S172.F x.1 x.2.1)
abbrev I1174:Sig:=[(true,.slice (.int .u64)),(false,.slice (.int .u64))]
abbrev O1174:Sig:=[(true,.slice (.int .u64))]
abbrev P1174_3:Pat:=⟨37,[(9,.one (.v .i64)),(1,.one (.sl (.int .u64))),(5,.one (.v .u64)),(10,.one (.v .i64)),(0,.one (.own 0))],[.arr (.int .u64)]⟩
abbrev A1174_3:List (Nat×Shape):=[]
abbrev X1174_3:List (Nat×Pat):=[(0,⟨37,[(0,.one (.own 0))],[.arr (.int .u64)]⟩)]
abbrev Q1174_3:Option Pat:=none
noncomputable def h1174_3 (p1173:DenS I1173→Bool) (f1173:DenS I1173→DenS O1173) (p157:DenS I157→Bool) (f157:DenS I157→DenS O157) (p173:DenS I173→Bool) (f173:DenS I173→DenS O173) {R:Type} (L:Pat.D P1174_3→Option R) (e:OutT X1174_3 Q1174_3→Option R) (x:Pat.D P1174_3):Option R :=
 bif (decide (x.1.2.2.2.1<x.1.1)) then
 (bif (decide (x.1.2.2.2.1<(x.1.2.1.length:Int))) then
 (bif ((decide ((0:Int)≤x.1.2.2.2.1))&&(decide (x.1.2.2.2.1<(x.1.2.1.length:Int)))) then
 (bif ((decide ((0:Int)≤x.1.2.2.2.1))&&(decide (x.1.2.2.2.1<(x.2.1.length:Int)))) then
 (bif (p157 ((x.2.1.getD (Int.toNat x.1.2.2.2.1) (0:Int)),((x.1.2.1.getD (Int.toNat x.1.2.2.2.1) (0:Int)),(x.1.2.2.1,())))) then
 (bif ((decide ((0:Int)≤x.1.2.2.2.1))&&(decide (x.1.2.2.2.1<(x.2.1.length:Int)))) then
 ((L ((x.1.1,(x.1.2.1,((f157 ((x.2.1.getD (Int.toNat x.1.2.2.2.1) (0:Int)),((x.1.2.1.getD (Int.toNat x.1.2.2.2.1) (0:Int)),(x.1.2.2.1,())))).2.1,((IntKind.wrap .i64 (x.1.2.2.2.1+(1:Int))),((),()))))),((x.2.1.set (Int.toNat x.1.2.2.2.1) (f157 ((x.2.1.getD (Int.toNat x.1.2.2.2.1) (0:Int)),((x.1.2.1.getD (Int.toNat x.1.2.2.2.1) (0:Int)),(x.1.2.2.1,())))).1),()))))
 else none)
 else none)
 else none)
 else none)
 else bif ((decide ((0:Int)≤x.1.2.2.2.1))&&(decide (x.1.2.2.2.1<(x.2.1.length:Int)))) then
 (bif (p157 ((x.2.1.getD (Int.toNat x.1.2.2.2.1) (0:Int)),((0:Int),(x.1.2.2.1,())))) then
 (bif ((decide ((0:Int)≤x.1.2.2.2.1))&&(decide (x.1.2.2.2.1<(x.2.1.length:Int)))) then
 ((L ((x.1.1,(x.1.2.1,((f157 ((x.2.1.getD (Int.toNat x.1.2.2.2.1) (0:Int)),((0:Int),(x.1.2.2.1,())))).2.1,((IntKind.wrap .i64 (x.1.2.2.2.1+(1:Int))),((),()))))),((x.2.1.set (Int.toNat x.1.2.2.2.1) (f157 ((x.2.1.getD (Int.toNat x.1.2.2.2.1) (0:Int)),((0:Int),(x.1.2.2.1,())))).1),()))))
 else none)
 else none)
 else none)
 else (e (.inl (((),()),x.2)))
theorem s1174_3 (p1173:DenS I1173→Bool) (f1173:DenS I1173→DenS O1173) (p157:DenS I157→Bool) (f157:DenS I157→DenS O157) (p173:DenS I173→Bool) (f173:DenS I173→DenS O173) (w1174_3:Pat.D P1174_3→Option (OutT X1174_3 Q1174_3)) (d:Nat) (R:Type) (L:Pat.D P1174_3→Option R) (e:OutT X1174_3 Q1174_3→Option R) (x:Pat.D P1174_3) :
  lStep { P:=Tryd.prog,sums:=[(106,⟨I1173,O1173,p1173,f1173⟩),(116,⟨I157,O157,p157,f157⟩),(106,⟨I173,O173,p173,f173⟩)],loops:=[(127,3,LoopSpec.of P1174_3 A1174_3 X1174_3 Q1174_3 w1174_3)],globs:=G1,keep:=true } (d+2) 127 (bodyOf Tryd.f127 3) P1174_3 A1174_3 X1174_3 Q1174_3 (R:=R) L e x=h1174_3 p1173 f1173 p157 f157 p173 f173 L e x:=by kernel_rfl
theorem m1174_3 (p1173:DenS I1173→Bool) (f1173:DenS I1173→DenS O1173) (p157:DenS I157→Bool) (f157:DenS I157→DenS O157) (p173:DenS I173→Bool) (f173:DenS I173→DenS O173):Par fun L e x=>h1174_3 p1173 f1173 p157 f157 p173 f173 L e x:=by
 intro A B rel L L' e e' h0 hL he x
 unfold h1174_3
 repeat' (first | exact h0 | exact hL _ | exact he _ | apply rel_cond | (apply rel_obind h0; intro _) | (apply rel_obind2 <;> intro _))
noncomputable def t1174 (p1173:DenS I1173→Bool) (f1173:DenS I1173→DenS O1173) (p157:DenS I157→Bool) (f157:DenS I157→DenS O157) (p173:DenS I173→Bool) (f173:DenS I173→DenS O173) (w1174_3:Pat.D P1174_3→Option (OutT X1174_3 Q1174_3)) (a0:Den (.slice (.int .u64))) (a1:Den (.slice (.int .u64))):Option (DenS O1174) :=
 Vx.obind (w1174_3 (((a0.length:Int),(a1,((0:Int),((0:Int),((),()))))),(a0,()))) fun y0 =>
 Vx.obind2 y0 (fun y1 =>
 bif (p1173 y1.2) then
 (some (f1173 y1.2))
 else none) (fun z1 =>
 none)
theorem r1174 (p1173:DenS I1173→Bool) (f1173:DenS I1173→DenS O1173) (p157:DenS I157→Bool) (f157:DenS I157→DenS O157) (p173:DenS I173→Bool) (f173:DenS I173→DenS O173) (w1174_3:Pat.D P1174_3→Option (OutT X1174_3 Q1174_3)) (a0:Den (.slice (.int .u64))) (a1:Den (.slice (.int .u64))) :
  run { P:=Tryd.prog,sums:=[(106,⟨I1173,O1173,p1173,f1173⟩),(116,⟨I157,O157,p157,f157⟩),(106,⟨I173,O173,p173,f173⟩)],loops:=[(127,3,LoopSpec.of P1174_3 A1174_3 X1174_3 Q1174_3 w1174_3)],globs:=G1,keep:=true } 9 127 Tryd.f127 I1174 O1174 (a0,a1,())=t1174 p1173 f1173 p157 f157 p173 f173 w1174_3 a0 a1:=by kernel_rfl
noncomputable def W1174_3:P1174_3.D→Option (OutT X1174_3 Q1174_3):=lfix fun L=>h1174_3 S1173.pre S1173.F S157.pre S157.F S173.pre S173.F L some
noncomputable def T1174 (x:DenS I1174):Option (DenS O1174):=t1174 S1173.pre S1173.F S157.pre S157.F S173.pre S173.F W1174_3 x.1 x.2.1
noncomputable def C1174:Cfg:={ P:=Tryd.prog,sums:=[(106,S1173),(116,S157),(106,S173)],loops:=[(127,3,LoopSpec.of P1174_3 A1174_3 X1174_3 Q1174_3 W1174_3)],globs:=G1,keep:=true }
noncomputable def S1174:Sum:=sumOf I1174 O1174 T1174 (DenS.dflt O1174)
theorem S1174_sound:Sound Tryd.prog G1 127 S1174 :=
 fn_sound C1174 9 127 Tryd.f127 mixedOk (by kernel_rfl) (by kernel_rfl) (by kernel_rfl) ⟨S1173_sound,⟨S157_sound,⟨S173_sound,trivial⟩⟩⟩ ⟨rfl,fun d=>loopOk_of (fun L e x=>h1174_3 S1173.pre S1173.F S157.pre S157.F S173.pre S173.F L e x) (m1174_3 S1173.pre S1173.F S157.pre S157.F S173.pre S173.F) (fun R L e x=>s1174_3 S1173.pre S1173.F S157.pre S157.F S173.pre S173.F W1174_3 d R L e x),trivial⟩ I1174 O1174 T1174 _ (fun x=>r1174 S1173.pre S1173.F S157.pre S157.F S173.pre S173.F W1174_3 x.1 x.2.1)
abbrev I174:Sig:=[(false,.slice (.int .u64)),(false,.slice (.int .u64))]
abbrev O174:Sig:=[(false,.slice (.int .u64))]
abbrev P174_3:Pat:=⟨37,[(9,.one (.v .i64)),(1,.one (.sl (.int .u64))),(5,.one (.v .u64)),(10,.one (.v .i64)),(0,.one (.sl (.int .u64)))],[]⟩
abbrev A174_3:List (Nat×Shape):=[]
abbrev X174_3:List (Nat×Pat):=[(0,⟨37,[(0,.one (.sl (.int .u64)))],[]⟩)]
abbrev Q174_3:Option Pat:=none
noncomputable def h174_3 (p157:DenS I157→Bool) (f157:DenS I157→DenS O157) (p173:DenS I173→Bool) (f173:DenS I173→DenS O173) {R:Type} (L:Pat.D P174_3→Option R) (e:OutT X174_3 Q174_3→Option R) (x:Pat.D P174_3):Option R :=
 bif (decide (x.1.2.2.2.1<x.1.1)) then
 (bif (decide (x.1.2.2.2.1<(x.1.2.1.length:Int))) then
 (bif ((decide ((0:Int)≤x.1.2.2.2.1))&&(decide (x.1.2.2.2.1<(x.1.2.1.length:Int)))) then
 (bif ((decide ((0:Int)≤x.1.2.2.2.1))&&(decide (x.1.2.2.2.1<(x.1.2.2.2.2.1.length:Int)))) then
 (bif (p157 ((x.1.2.2.2.2.1.getD (Int.toNat x.1.2.2.2.1) (0:Int)),((x.1.2.1.getD (Int.toNat x.1.2.2.2.1) (0:Int)),(x.1.2.2.1,())))) then
 (bif ((decide ((0:Int)≤x.1.2.2.2.1))&&(decide (x.1.2.2.2.1<(x.1.2.2.2.2.1.length:Int)))) then
       (none)
 else none)
 else none)
 else none)
 else none)
 else bif ((decide ((0:Int)≤x.1.2.2.2.1))&&(decide (x.1.2.2.2.1<(x.1.2.2.2.2.1.length:Int)))) then
 (bif (p157 ((x.1.2.2.2.2.1.getD (Int.toNat x.1.2.2.2.1) (0:Int)),((0:Int),(x.1.2.2.1,())))) then
 (bif ((decide ((0:Int)≤x.1.2.2.2.1))&&(decide (x.1.2.2.2.1<(x.1.2.2.2.2.1.length:Int)))) then
     (none)
 else none)
 else none)
 else none)
 else (e (.inl (x.1.2.2.2.2,())))
theorem s174_3 (p157:DenS I157→Bool) (f157:DenS I157→DenS O157) (p173:DenS I173→Bool) (f173:DenS I173→DenS O173) (w174_3:Pat.D P174_3→Option (OutT X174_3 Q174_3)) (d:Nat) (R:Type) (L:Pat.D P174_3→Option R) (e:OutT X174_3 Q174_3→Option R) (x:Pat.D P174_3) :
  lStep { P:=Tryd.prog,sums:=[(116,⟨I157,O157,p157,f157⟩),(106,⟨I173,O173,p173,f173⟩)],loops:=[(127,3,LoopSpec.of P174_3 A174_3 X174_3 Q174_3 w174_3)],globs:=G1 } (d+2) 127 (bodyOf Tryd.f127 3) P174_3 A174_3 X174_3 Q174_3 (R:=R) L e x=h174_3 p157 f157 p173 f173 L e x:=by kernel_rfl
theorem m174_3 (p157:DenS I157→Bool) (f157:DenS I157→DenS O157) (p173:DenS I173→Bool) (f173:DenS I173→DenS O173):Par fun L e x=>h174_3 p157 f157 p173 f173 L e x:=by
 intro A B rel L L' e e' h0 hL he x
 unfold h174_3
 repeat' (first | exact h0 | exact hL _ | exact he _ | apply rel_cond | (apply rel_obind h0; intro _) | (apply rel_obind2 <;> intro _))
noncomputable def t174 (p157:DenS I157→Bool) (f157:DenS I157→DenS O157) (p173:DenS I173→Bool) (f173:DenS I173→DenS O173) (w174_3:Pat.D P174_3→Option (OutT X174_3 Q174_3)) (a0:Den (.slice (.int .u64))) (a1:Den (.slice (.int .u64))):Option (DenS O174) :=
 Vx.obind (w174_3 (((a0.length:Int),(a1,((0:Int),((0:Int),(a0,()))))),())) fun y0 =>
 Vx.obind2 y0 (fun y1 =>
 bif (p173 y1.1) then
 (some (f173 y1.1))
 else none) (fun z1 =>
 none)
theorem r174 (p157:DenS I157→Bool) (f157:DenS I157→DenS O157) (p173:DenS I173→Bool) (f173:DenS I173→DenS O173) (w174_3:Pat.D P174_3→Option (OutT X174_3 Q174_3)) (a0:Den (.slice (.int .u64))) (a1:Den (.slice (.int .u64))) :
  run { P:=Tryd.prog,sums:=[(116,⟨I157,O157,p157,f157⟩),(106,⟨I173,O173,p173,f173⟩)],loops:=[(127,3,LoopSpec.of P174_3 A174_3 X174_3 Q174_3 w174_3)],globs:=G1 } 9 127 Tryd.f127 I174 O174 (a0,a1,())=t174 p157 f157 p173 f173 w174_3 a0 a1:=by kernel_rfl
noncomputable def W174_3:P174_3.D→Option (OutT X174_3 Q174_3):=lfix fun L=>h174_3 S157.pre S157.F S173.pre S173.F L some
noncomputable def T174 (x:DenS I174):Option (DenS O174):=t174 S157.pre S157.F S173.pre S173.F W174_3 x.1 x.2.1
noncomputable def C174:Cfg:={ P:=Tryd.prog,sums:=[(116,S157),(106,S173)],loops:=[(127,3,LoopSpec.of P174_3 A174_3 X174_3 Q174_3 W174_3)],globs:=G1 }
noncomputable def S174:Sum:=sumOf I174 O174 T174 (DenS.dflt O174)
theorem S174_sound:Sound Tryd.prog G1 127 S174 :=
 fn_sound C174 9 127 Tryd.f127 mixedOk (by kernel_rfl) (by kernel_rfl) (by kernel_rfl) ⟨S157_sound,⟨S173_sound,trivial⟩⟩ ⟨rfl,fun d=>loopOk_of (fun L e x=>h174_3 S157.pre S157.F S173.pre S173.F L e x) (m174_3 S157.pre S157.F S173.pre S173.F) (fun R L e x=>s174_3 S157.pre S157.F S173.pre S173.F W174_3 d R L e x),trivial⟩ I174 O174 T174 _ (fun x=>r174 S157.pre S157.F S173.pre S173.F W174_3 x.1 x.2.1)
abbrev I145:Sig:=[(false,.slice (.int .u64)),(false,.slice (.int .u64))]
abbrev O145:Sig:=[(false,.slice (.int .u64)),(false,.int .i64)]
noncomputable def t145 (p1174:DenS I1174→Bool) (f1174:DenS I1174→DenS O1174) (p1146:DenS I1146→Bool) (f1146:DenS I1146→DenS O1146) (p144:DenS I144→Bool) (f144:DenS I144→DenS O144) (p146:DenS I146→Bool) (f146:DenS I146→DenS O146) (p173:DenS I173→Bool) (f173:DenS I173→DenS O173) (p174:DenS I174→Bool) (f174:DenS I174→DenS O174) (a0:Den (.slice (.int .u64))) (a1:Den (.slice (.int .u64))):Option (DenS O145) :=
 bif (p144 (a0,(a1,()))) then
 (bif (decide ((f144 (a0,(a1,()))).1<(0:Int))) then
 (some ([],((20:Int),())))
 else bif (p1146 (a0,())) then
 (bif (p173 (a1,())) then
 (bif (p1174 ((f1146 (a0,())).1,(f173 (a1,())))) then
 (some ((f1174 ((f1146 (a0,())).1,(f173 (a1,())))).1,((0:Int),())))
 else none)
 else none)
 else none)
 else none
theorem r145 (p1174:DenS I1174→Bool) (f1174:DenS I1174→DenS O1174) (p1146:DenS I1146→Bool) (f1146:DenS I1146→DenS O1146) (p144:DenS I144→Bool) (f144:DenS I144→DenS O144) (p146:DenS I146→Bool) (f146:DenS I146→DenS O146) (p173:DenS I173→Bool) (f173:DenS I173→DenS O173) (p174:DenS I174→Bool) (f174:DenS I174→DenS O174) (a0:Den (.slice (.int .u64))) (a1:Den (.slice (.int .u64))) :
  run { P:=Tryd.prog,sums:=[(127,⟨I1174,O1174,p1174,f1174⟩),(122,⟨I1146,O1146,p1146,f1146⟩),(109,⟨I144,O144,p144,f144⟩),(122,⟨I146,O146,p146,f146⟩),(106,⟨I173,O173,p173,f173⟩),(127,⟨I174,O174,p174,f174⟩)],loops:=[],globs:=G1 } 9 115 Tryd.f115 I145 O145 (a0,a1,())=t145 p1174 f1174 p1146 f1146 p144 f144 p146 f146 p173 f173 p174 f174 a0 a1:=by kernel_rfl
noncomputable def T145 (x:DenS I145):Option (DenS O145):=t145 S1174.pre S1174.F S1146.pre S1146.F S144.pre S144.F S146.pre S146.F S173.pre S173.F S174.pre S174.F x.1 x.2.1
noncomputable def C145:Cfg:={ P:=Tryd.prog,sums:=[(127,S1174),(122,S1146),(109,S144),(122,S146),(106,S173),(127,S174)],loops:=[],globs:=G1 }
noncomputable def S145:Sum:=sumOf I145 O145 T145 (DenS.dflt O145)
theorem S145_sound:Sound Tryd.prog G1 115 S145 :=
 fn_sound C145 9 115 Tryd.f115 mixedOk (by kernel_rfl) (by kernel_rfl) (by kernel_rfl) ⟨S1174_sound,⟨S1146_sound,⟨S144_sound,⟨S146_sound,⟨S173_sound,⟨S174_sound,trivial⟩⟩⟩⟩⟩⟩ trivial I145 O145 T145 _ (fun x=>r145 S1174.pre S1174.F S1146.pre S1146.F S144.pre S144.F S146.pre S146.F S173.pre S173.F S174.pre S174.F x.1 x.2.1)
abbrev I101:Sig:=[(true,.pair (.bool) (.pair (.slice (.int .u64)) (.pair (.int .i64) (.unit)))),(true,.pair (.bool) (.pair (.slice (.int .u64)) (.pair (.int .i64) (.unit))))]
abbrev O101:Sig:=[(true,.pair (.bool) (.pair (.slice (.int .u64)) (.pair (.int .i64) (.unit))))]
noncomputable def t101 (p142:DenS I142→Bool) (f142:DenS I142→DenS O142) (p143:DenS I143→Bool) (f143:DenS I143→DenS O143) (p144:DenS I144→Bool) (f144:DenS I144→DenS O144) (p145:DenS I145→Bool) (f145:DenS I145→DenS O145) (p100:DenS I100→Bool) (f100:DenS I100→DenS O100) (a0:Den (.pair (.bool) (.pair (.slice (.int .u64)) (.pair (.int .i64) (.unit))))) (a1:Den (.pair (.bool) (.pair (.slice (.int .u64)) (.pair (.int .i64) (.unit))))):Option (DenS O101) :=
 bif ((a0.2.1.length:Int)==(0:Int)) then
 (some ((a1.1,a1.2),()))
 else bif ((a1.2.1.length:Int)==(0:Int)) then
 (some ((a0.1,a0.2),()))
 else bif (p142 ((a0.1,a0.2),((a1.1,a1.2),()))) then
 (bif (a0.1==a1.1) then
 (bif (p143 ((f142 ((a0.1,a0.2),((a1.1,a1.2),()))).1,((f142 ((a0.1,a0.2),((a1.1,a1.2),()))).2.1,()))) then
 (bif (p100 ((a0.1,((f143 ((f142 ((a0.1,a0.2),((a1.1,a1.2),()))).1,((f142 ((a0.1,a0.2),((a1.1,a1.2),()))).2.1,()))).1,(f142 ((a0.1,a0.2),((a1.1,a1.2),()))).2.2)),())) then
 (some (f100 ((a0.1,((f143 ((f142 ((a0.1,a0.2),((a1.1,a1.2),()))).1,((f142 ((a0.1,a0.2),((a1.1,a1.2),()))).2.1,()))).1,(f142 ((a0.1,a0.2),((a1.1,a1.2),()))).2.2)),())))
 else none)
 else none)
 else bif (p144 ((f142 ((a0.1,a0.2),((a1.1,a1.2),()))).1,((f142 ((a0.1,a0.2),((a1.1,a1.2),()))).2.1,()))) then
 (bif (decide ((f144 ((f142 ((a0.1,a0.2),((a1.1,a1.2),()))).1,((f142 ((a0.1,a0.2),((a1.1,a1.2),()))).2.1,()))).1<(0:Int))) then
 (bif (p145 ((f142 ((a0.1,a0.2),((a1.1,a1.2),()))).2.1,((f142 ((a0.1,a0.2),((a1.1,a1.2),()))).1,()))) then
 (bif (p100 ((a1.1,((f145 ((f142 ((a0.1,a0.2),((a1.1,a1.2),()))).2.1,((f142 ((a0.1,a0.2),((a1.1,a1.2),()))).1,()))).1,(f142 ((a0.1,a0.2),((a1.1,a1.2),()))).2.2)),())) then
 (some (f100 ((a1.1,((f145 ((f142 ((a0.1,a0.2),((a1.1,a1.2),()))).2.1,((f142 ((a0.1,a0.2),((a1.1,a1.2),()))).1,()))).1,(f142 ((a0.1,a0.2),((a1.1,a1.2),()))).2.2)),())))
 else none)
 else none)
 else bif (p145 ((f142 ((a0.1,a0.2),((a1.1,a1.2),()))).1,((f142 ((a0.1,a0.2),((a1.1,a1.2),()))).2.1,()))) then
 (bif (p100 ((a0.1,((f145 ((f142 ((a0.1,a0.2),((a1.1,a1.2),()))).1,((f142 ((a0.1,a0.2),((a1.1,a1.2),()))).2.1,()))).1,(f142 ((a0.1,a0.2),((a1.1,a1.2),()))).2.2)),())) then
 (some (f100 ((a0.1,((f145 ((f142 ((a0.1,a0.2),((a1.1,a1.2),()))).1,((f142 ((a0.1,a0.2),((a1.1,a1.2),()))).2.1,()))).1,(f142 ((a0.1,a0.2),((a1.1,a1.2),()))).2.2)),())))
 else none)
 else none)
 else none)
 else none
theorem r101 (p142:DenS I142→Bool) (f142:DenS I142→DenS O142) (p143:DenS I143→Bool) (f143:DenS I143→DenS O143) (p144:DenS I144→Bool) (f144:DenS I144→DenS O144) (p145:DenS I145→Bool) (f145:DenS I145→DenS O145) (p100:DenS I100→Bool) (f100:DenS I100→DenS O100) (a0:Den (.pair (.bool) (.pair (.slice (.int .u64)) (.pair (.int .i64) (.unit))))) (a1:Den (.pair (.bool) (.pair (.slice (.int .u64)) (.pair (.int .i64) (.unit))))) :
  run { P:=Tryd.prog,sums:=[(114,⟨I142,O142,p142,f142⟩),(80,⟨I143,O143,p143,f143⟩),(109,⟨I144,O144,p144,f144⟩),(115,⟨I145,O145,p145,f145⟩),(85,⟨I100,O100,p100,f100⟩)],loops:=[],globs:=G1 } 9 88 Tryd.f88 I101 O101 (a0,a1,())=t101 p142 f142 p143 f143 p144 f144 p145 f145 p100 f100 a0 a1:=by kernel_rfl
noncomputable def T101 (x:DenS I101):Option (DenS O101):=t101 S142.pre S142.F S143.pre S143.F S144.pre S144.F S145.pre S145.F S100.pre S100.F x.1 x.2.1
noncomputable def C101:Cfg:={ P:=Tryd.prog,sums:=[(114,S142),(80,S143),(109,S144),(115,S145),(85,S100)],loops:=[],globs:=G1 }
noncomputable def S101:Sum:=sumOf I101 O101 T101 (DenS.dflt O101)
theorem S101_sound:Sound Tryd.prog G1 88 S101 :=
 fn_sound C101 9 88 Tryd.f88 mixedOk (by kernel_rfl) (by kernel_rfl) (by kernel_rfl) ⟨S142_sound,⟨S143_sound,⟨S144_sound,⟨S145_sound,⟨S100_sound,trivial⟩⟩⟩⟩⟩ trivial I101 O101 T101 _ (fun x=>r101 S142.pre S142.F S143.pre S143.F S144.pre S144.F S145.pre S145.F S100.pre S100.F x.1 x.2.1)
abbrev I46:Sig:=[(true,.pair (.bool) (.pair (.slice (.int .u64)) (.pair (.int .i64) (.unit)))),(true,.pair (.bool) (.pair (.slice (.int .u64)) (.pair (.int .i64) (.unit))))]
abbrev O46:Sig:=[(false,.int .i64),(false,.int .i64)]
noncomputable def t46 (p99:DenS I99→Bool) (f99:DenS I99→DenS O99) (p100:DenS I100→Bool) (f100:DenS I100→DenS O100) (p101:DenS I101→Bool) (f101:DenS I101→DenS O101) (p47:DenS I47→Bool) (f47:DenS I47→DenS O47) (a0:Den (.pair (.bool) (.pair (.slice (.int .u64)) (.pair (.int .i64) (.unit))))) (a1:Den (.pair (.bool) (.pair (.slice (.int .u64)) (.pair (.int .i64) (.unit))))):Option (DenS O46) :=
 bif (p99 ((a0.1,a0.2),((a1.1,a1.2),()))) then
 (bif ((f99 ((a0.1,a0.2),((a1.1,a1.2),()))).1 != (0:Int)) then
 (some ((0:Int),(f99 ((a0.1,a0.2),((a1.1,a1.2),())))))
 else bif (p100 ((a1.1,a1.2),())) then
 (bif (p100 ((a0.1,a0.2),())) then
 (bif (p101 ((f100 ((a0.1,a0.2),())).1,(((!(f100 ((a1.1,a1.2),())).1.1),(f100 ((a1.1,a1.2),())).1.2),()))) then
 (bif (p47 (f101 ((f100 ((a0.1,a0.2),())).1,(((!(f100 ((a1.1,a1.2),())).1.1),(f100 ((a1.1,a1.2),())).1.2),())))) then
 (some ((f47 (f101 ((f100 ((a0.1,a0.2),())).1,(((!(f100 ((a1.1,a1.2),())).1.1),(f100 ((a1.1,a1.2),())).1.2),())))).1,((0:Int),())))
 else none)
 else none)
 else none)
 else none)
 else none
theorem r46 (p99:DenS I99→Bool) (f99:DenS I99→DenS O99) (p100:DenS I100→Bool) (f100:DenS I100→DenS O100) (p101:DenS I101→Bool) (f101:DenS I101→DenS O101) (p47:DenS I47→Bool) (f47:DenS I47→DenS O47) (a0:Den (.pair (.bool) (.pair (.slice (.int .u64)) (.pair (.int .i64) (.unit))))) (a1:Den (.pair (.bool) (.pair (.slice (.int .u64)) (.pair (.int .i64) (.unit))))) :
  run { P:=Tryd.prog,sums:=[(84,⟨I99,O99,p99,f99⟩),(85,⟨I100,O100,p100,f100⟩),(88,⟨I101,O101,p101,f101⟩),(82,⟨I47,O47,p47,f47⟩)],loops:=[],globs:=G1 } 9 83 Tryd.f83 I46 O46 (a0,a1,())=t46 p99 f99 p100 f100 p101 f101 p47 f47 a0 a1:=by kernel_rfl
noncomputable def T46 (x:DenS I46):Option (DenS O46):=t46 S99.pre S99.F S100.pre S100.F S101.pre S101.F S47.pre S47.F x.1 x.2.1
noncomputable def C46:Cfg:={ P:=Tryd.prog,sums:=[(84,S99),(85,S100),(88,S101),(82,S47)],loops:=[],globs:=G1 }
noncomputable def S46:Sum:=sumOf I46 O46 T46 (DenS.dflt O46)
theorem S46_sound:Sound Tryd.prog G1 83 S46 :=
 fn_sound C46 9 83 Tryd.f83 mixedOk (by kernel_rfl) (by kernel_rfl) (by kernel_rfl) ⟨S99_sound,⟨S100_sound,⟨S101_sound,⟨S47_sound,trivial⟩⟩⟩⟩ trivial I46 O46 T46 _ (fun x=>r46 S99.pre S99.F S100.pre S100.F S101.pre S101.F S47.pre S47.F x.1 x.2.1)
abbrev I362:Sig:=[(true,.pair (.bool) (.pair (.slice (.int .u64)) (.pair (.int .i64) (.unit)))),(true,.pair (.bool) (.pair (.slice (.int .u64)) (.pair (.int .i64) (.unit))))]
abbrev O362:Sig:=[(false,.int .i64)]
noncomputable def t362 (p46:DenS I46→Bool) (f46:DenS I46→DenS O46) (a0:Den (.pair (.bool) (.pair (.slice (.int .u64)) (.pair (.int .i64) (.unit))))) (a1:Den (.pair (.bool) (.pair (.slice (.int .u64)) (.pair (.int .i64) (.unit))))):Option (DenS O362) :=
 bif (p46 ((a0.1,a0.2),((a1.1,a1.2),()))) then
 (bif ((f46 ((a0.1,a0.2),((a1.1,a1.2),()))).2.1 != (0:Int)) then
 (some ((9:Int),()))
 else some ((f46 ((a0.1,a0.2),((a1.1,a1.2),()))).1,()))
 else none
theorem r362 (p46:DenS I46→Bool) (f46:DenS I46→DenS O46) (a0:Den (.pair (.bool) (.pair (.slice (.int .u64)) (.pair (.int .i64) (.unit))))) (a1:Den (.pair (.bool) (.pair (.slice (.int .u64)) (.pair (.int .i64) (.unit))))) :
  run { P:=Tryd.prog,sums:=[(83,⟨I46,O46,p46,f46⟩)],loops:=[],globs:=G1 } 9 36 Tryd.f36 I362 O362 (a0,a1,())=t362 p46 f46 a0 a1:=by kernel_rfl
noncomputable def T362 (x:DenS I362):Option (DenS O362):=t362 S46.pre S46.F x.1 x.2.1
noncomputable def C362:Cfg:={ P:=Tryd.prog,sums:=[(83,S46)],loops:=[],globs:=G1 }
noncomputable def S362:Sum:=sumOf I362 O362 T362 (DenS.dflt O362)
theorem S362_sound:Sound Tryd.prog G1 36 S362 :=
 fn_sound C362 9 36 Tryd.f36 mixedOk (by kernel_rfl) (by kernel_rfl) (by kernel_rfl) ⟨S46_sound,trivial⟩ trivial I362 O362 T362 _ (fun x=>r362 S46.pre S46.F x.1 x.2.1)
abbrev I49:Sig:=[(true,.pair (.bool) (.pair (.slice (.int .u64)) (.pair (.int .i64) (.unit)))),(true,.pair (.bool) (.pair (.slice (.int .u64)) (.pair (.int .i64) (.unit))))]
abbrev O49:Sig:=[(true,.pair (.bool) (.pair (.slice (.int .u64)) (.pair (.int .i64) (.unit)))),(false,.int .i64)]
noncomputable def t49 (p99:DenS I99→Bool) (f99:DenS I99→DenS O99) (p100:DenS I100→Bool) (f100:DenS I100→DenS O100) (p101:DenS I101→Bool) (f101:DenS I101→DenS O101) (p104:DenS I104→Bool) (f104:DenS I104→DenS O104) (a0:Den (.pair (.bool) (.pair (.slice (.int .u64)) (.pair (.int .i64) (.unit))))) (a1:Den (.pair (.bool) (.pair (.slice (.int .u64)) (.pair (.int .i64) (.unit))))):Option (DenS O49) :=
 bif (p99 ((a0.1,a0.2),((a1.1,a1.2),()))) then
 (bif ((f99 ((a0.1,a0.2),((a1.1,a1.2),()))).1 != (0:Int)) then
 (some ((false,([],((0:Int),()))),(f99 ((a0.1,a0.2),((a1.1,a1.2),())))))
 else bif (p100 ((a0.1,a0.2),())) then
 (bif (p100 ((a1.1,a1.2),())) then
 (bif (p101 ((f100 ((a0.1,a0.2),())).1,(f100 ((a1.1,a1.2),())))) then
 (bif (p104 (f101 ((f100 ((a0.1,a0.2),())).1,(f100 ((a1.1,a1.2),()))))) then
 (some (f104 (f101 ((f100 ((a0.1,a0.2),())).1,(f100 ((a1.1,a1.2),()))))))
 else none)
 else none)
 else none)
 else none)
 else none
theorem r49 (p99:DenS I99→Bool) (f99:DenS I99→DenS O99) (p100:DenS I100→Bool) (f100:DenS I100→DenS O100) (p101:DenS I101→Bool) (f101:DenS I101→DenS O101) (p104:DenS I104→Bool) (f104:DenS I104→DenS O104) (a0:Den (.pair (.bool) (.pair (.slice (.int .u64)) (.pair (.int .i64) (.unit))))) (a1:Den (.pair (.bool) (.pair (.slice (.int .u64)) (.pair (.int .i64) (.unit))))) :
  run { P:=Tryd.prog,sums:=[(84,⟨I99,O99,p99,f99⟩),(85,⟨I100,O100,p100,f100⟩),(88,⟨I101,O101,p101,f101⟩),(87,⟨I104,O104,p104,f104⟩)],loops:=[],globs:=G1 } 9 40 Tryd.f40 I49 O49 (a0,a1,())=t49 p99 f99 p100 f100 p101 f101 p104 f104 a0 a1:=by kernel_rfl
noncomputable def T49 (x:DenS I49):Option (DenS O49):=t49 S99.pre S99.F S100.pre S100.F S101.pre S101.F S104.pre S104.F x.1 x.2.1
noncomputable def C49:Cfg:={ P:=Tryd.prog,sums:=[(84,S99),(85,S100),(88,S101),(87,S104)],loops:=[],globs:=G1 }
noncomputable def S49:Sum:=sumOf I49 O49 T49 (DenS.dflt O49)
theorem S49_sound:Sound Tryd.prog G1 40 S49 :=
 fn_sound C49 9 40 Tryd.f40 mixedOk (by kernel_rfl) (by kernel_rfl) (by kernel_rfl) ⟨S99_sound,⟨S100_sound,⟨S101_sound,⟨S104_sound,trivial⟩⟩⟩⟩ trivial I49 O49 T49 _ (fun x=>r49 S99.pre S99.F S100.pre S100.F S101.pre S101.F S104.pre S104.F x.1 x.2.1)
abbrev I366:Sig:=[(true,.pair (.int .i64) (.pair (.int .i64) (.pair (.int .u64) (.pair (.int .u64) (.unit)))))]
abbrev O366:Sig:=[(false,.bool)]
noncomputable def t366 (p337:DenS I337→Bool) (f337:DenS I337→DenS O337) (p112:DenS I112→Bool) (f112:DenS I112→DenS O112) (p336:DenS I336→Bool) (f336:DenS I336→DenS O336) (p27:DenS I27→Bool) (f27:DenS I27→DenS O27) (p49:DenS I49→Bool) (f49:DenS I49→DenS O49) (p40:DenS I40→Bool) (f40:DenS I40→DenS O40) (p361:DenS I361→Bool) (f361:DenS I361→DenS O361) (p362:DenS I362→Bool) (f362:DenS I362→DenS O362) (a0:Den (.pair (.int .i64) (.pair (.int .i64) (.pair (.int .u64) (.pair (.int .u64) (.unit)))))):Option (DenS O366) :=
 let e21_:=((f112 (a0.1,(a0.2.2.1,()))).1,((f112 (a0.1,a0.2.2.2)).1,()))
 let e18_:=(a0.1,((4:Int),e21_))
 let e14_:=(f336 e18_)
 let e12_:=(f40 (a0.1,(e14_.1,())))
 let e19_:=((f361 ((f40 (a0.1,(a0.2.2.1,()))).1,())).1,(f361 ((f40 (a0.1,a0.2.2.2)).1,())))
 let e16_:=(f49 e19_)
 let e1_:=((f361 (e12_.1,())).1,(e16_.1,()))
 let e17_:=(a0.1,((3:Int),e21_))
 let e15_:=(f336 e17_)
 let e13_:=(f40 (a0.1,(e15_.1,())))
 let e2_:=(e16_.1,(f361 (e13_.1,())))
 let e3_:=(!(bif (e12_.2.1 != (0:Int)) then false else true))
 let e4_:=e12_
 let e5_:=e13_
 let e6_:=e14_
 let e7_:=e15_
 let e8_:=(f27 e17_)
 let e20_:=(a0.1,(a0.2.1,((f112 (a0.1,a0.2.2.2)).1,((f112 (a0.1,(a0.2.2.1,()))).1,()))))
 let e9_:=(f336 e20_)
 let e10_:=e17_
 let e11_:=e19_
 bif (p337 ()) then
 (bif (!(f337 ()).1) then
 (some (false,()))
 else bif (p112 (a0.1,(a0.2.2.1,()))) then
 (bif (p112 (a0.1,a0.2.2.2)) then
 (bif (p40 (a0.1,(a0.2.2.1,()))) then
 (bif (p40 (a0.1,a0.2.2.2)) then
 (bif (p336 (a0.1,a0.2)) then
 (bif ((((((f112 (a0.1,(a0.2.2.1,()))).2.1 != (0:Int))||((f112 (a0.1,a0.2.2.2)).2.1 != (0:Int)))||((f40 (a0.1,(a0.2.2.1,()))).2.1 != (0:Int)))||((f40 (a0.1,a0.2.2.2)).2.1 != (0:Int)))||((f336 (a0.1,a0.2)).2.2.1 != (0:Int))) then
 (some (true,()))
 else bif (p336 e20_) then
 (bif (((((e9_.1 != (f336 (a0.1,a0.2)).1)||(e9_.2.1 != (f336 (a0.1,a0.2)).2.1))||(e9_.2.2.1 != (f336 (a0.1,a0.2)).2.2.1))||(decide ((f336 (a0.1,a0.2)).1<(f112 (a0.1,(a0.2.2.1,()))).1)))||(decide ((f336 (a0.1,a0.2)).1<(f112 (a0.1,a0.2.2.2)).1))) then
 (some (false,()))
 else bif (p336 e18_) then
 (bif (p336 e10_) then
 (bif (p27 e10_) then
 (bif (p361 ((f40 (a0.1,(a0.2.2.1,()))).1,())) then
 (bif (p361 ((f40 (a0.1,a0.2.2.2)).1,())) then
 (bif (p49 e11_) then
 (bif ((((((e6_.2.2.1 != (0:Int))||(e7_.2.2.1 != (0:Int)))||(e8_.2.2.1 != (0:Int)))||((f49 e11_).2.1 != (0:Int)))||(decide (e7_.1>e8_.1)))||(((f336 (a0.1,a0.2)).1 != e6_.1)&&((f336 (a0.1,a0.2)).1 != e7_.1))) then
 (some (false,()))
 else bif (p40 (a0.1,(e6_.1,()))) then
 (bif ((p361 (e4_.1,()))||e3_) then
 (bif ((p362 e1_)||e3_) then
 (bif ((e4_.2.1 != (0:Int))||(decide ((f362 e1_).1>(0:Int)))) then
 (some (false,()))
 else bif (p40 (a0.1,(e7_.1,()))) then
 (bif (e5_.2.1 != (0:Int)) then
 (some ((((andI .i64 (f336 (a0.1,a0.2)).2.1 (4:Int)) != (0:Int))||((f336 (a0.1,a0.2)).1==e6_.1)),()))
 else bif (p361 (e5_.1,())) then
 (bif (p362 e2_) then
 (some (((decide ((f362 e2_).1≤(0:Int)))&&(((andI .i64 (f336 (a0.1,a0.2)).2.1 (16:Int))==(0:Int))==(e6_.1==e7_.1))),()))
 else none)
 else none)
 else none)
 else none)
 else none)
 else none)
 else none)
 else none)
 else none)
 else none)
 else none)
 else none)
 else none)
 else none)
 else none)
 else none)
 else none)
 else none)
 else none
theorem r366 (p337:DenS I337→Bool) (f337:DenS I337→DenS O337) (p112:DenS I112→Bool) (f112:DenS I112→DenS O112) (p336:DenS I336→Bool) (f336:DenS I336→DenS O336) (p27:DenS I27→Bool) (f27:DenS I27→DenS O27) (p49:DenS I49→Bool) (f49:DenS I49→DenS O49) (p40:DenS I40→Bool) (f40:DenS I40→DenS O40) (p361:DenS I361→Bool) (f361:DenS I361→DenS O361) (p362:DenS I362→Bool) (f362:DenS I362→DenS O362) (a0:Den (.pair (.int .i64) (.pair (.int .i64) (.pair (.int .u64) (.pair (.int .u64) (.unit)))))) :
  run { P:=Tryd.prog,sums:=[(27,⟨I337,O337,p337,f337⟩),(28,⟨I112,O112,p112,f112⟩),(34,⟨I336,O336,p336,f336⟩),(18,⟨I27,O27,p27,f27⟩),(40,⟨I49,O49,p49,f49⟩),(29,⟨I40,O40,p40,f40⟩),(37,⟨I361,O361,p361,f361⟩),(36,⟨I362,O362,p362,f362⟩)],loops:=[],globs:=G1 } 9 10 Tryd.f10 I366 O366 (a0,())=t366 p337 f337 p112 f112 p336 f336 p27 f27 p49 f49 p40 f40 p361 f361 p362 f362 a0:=by kernel_rfl
noncomputable def T366 (x:DenS I366):Option (DenS O366):=t366 S337.pre S337.F S112.pre S112.F S336.pre S336.F S27.pre S27.F S49.pre S49.F S40.pre S40.F S361.pre S361.F S362.pre S362.F x.1
noncomputable def C366:Cfg:={ P:=Tryd.prog,sums:=[(27,S337),(28,S112),(34,S336),(18,S27),(40,S49),(29,S40),(37,S361),(36,S362)],loops:=[],globs:=G1 }
noncomputable def S366:Sum:=sumOf I366 O366 T366 (DenS.dflt O366)
theorem S366_sound:Sound Tryd.prog G1 10 S366 :=
 fn_sound C366 9 10 Tryd.f10 mixedOk (by kernel_rfl) (by kernel_rfl) (by kernel_rfl) ⟨S337_sound,⟨S112_sound,⟨S336_sound,⟨S27_sound,⟨S49_sound,⟨S40_sound,⟨S361_sound,⟨S362_sound,trivial⟩⟩⟩⟩⟩⟩⟩⟩ trivial I366 O366 T366 _ (fun x=>r366 S337.pre S337.F S112.pre S112.F S336.pre S336.F S27.pre S27.F S49.pre S49.F S40.pre S40.F S361.pre S361.F S362.pre S362.F x.1)
end Vx
namespace Vx
open Go
theorem sum_pre {I O:Sig} {T:DenS I→Option (DenS O)} {d:DenS O} {x:DenS I} {y:DenS O} (h:T x=some y):(sumOf I O T d).pre x=true:=by
 show (T x).isSome=true
 rw [h]; rfl
theorem sum_F {I O:Sig} {T:DenS I→Option (DenS O)} {d:DenS O} {x:DenS I} {y:DenS O} (h:T x=some y):(sumOf I O T d).F x=y:=by
 show (T x).getD d=y
 rw [h]; rfl
theorem sumL_pre {k:LK} {I O:Sig} {T:k.D×DenS I→Option (k.B×DenS O)} {d:k.B×DenS O} {x:k.D×DenS I} {y:k.B×DenS O} (h:T x=some y):(sumOfL k I O T d).pre x=true:=by
 show (T x).isSome=true
 rw [h]; rfl
theorem sumL_F {k:LK} {I O:Sig} {T:k.D×DenS I→Option (k.B×DenS O)} {d:k.B×DenS O} {x:k.D×DenS I} {y:k.B×DenS O} (h:T x=some y):(sumOfL k I O T d).F x=y:=by
 show (T x).getD d=y
 rw [h]; rfl
theorem pre69 {x:DenS I69} {y:DenS O69} (h:T69 x=some y):S69.pre x=true:=sum_pre (T:=T69) h
theorem fun69 {x:DenS I69} {y:DenS O69} (h:T69 x=some y):S69.F x=y:=sum_F (T:=T69) h
theorem pre66 {x:DenS I66} {y:DenS O66} (h:T66 x=some y):S66.pre x=true:=sum_pre (T:=T66) h
theorem fun66 {x:DenS I66} {y:DenS O66} (h:T66 x=some y):S66.F x=y:=sum_F (T:=T66) h
theorem pre91 {x:DenS I91} {y:DenS O91} (h:T91 x=some y):S91.pre x=true:=sum_pre (T:=T91) h
theorem fun91 {x:DenS I91} {y:DenS O91} (h:T91 x=some y):S91.F x=y:=sum_F (T:=T91) h
theorem pre90 {x:DenS I90} {y:DenS O90} (h:T90 x=some y):S90.pre x=true:=sum_pre (T:=T90) h
theorem fun90 {x:DenS I90} {y:DenS O90} (h:T90 x=some y):S90.F x=y:=sum_F (T:=T90) h
theorem pre65 {x:DenS I65} {y:DenS O65} (h:T65 x=some y):S65.pre x=true:=sum_pre (T:=T65) h
theorem fun65 {x:DenS I65} {y:DenS O65} (h:T65 x=some y):S65.F x=y:=sum_F (T:=T65) h
theorem pre115 {x:DenS I115} {y:DenS O115} (h:T115 x=some y):S115.pre x=true:=sum_pre (T:=T115) h
theorem fun115 {x:DenS I115} {y:DenS O115} (h:T115 x=some y):S115.F x=y:=sum_F (T:=T115) h
theorem pre112 {x:DenS I112} {y:DenS O112} (h:T112 x=some y):S112.pre x=true:=sum_pre (T:=T112) h
theorem fun112 {x:DenS I112} {y:DenS O112} (h:T112 x=some y):S112.F x=y:=sum_F (T:=T112) h
theorem pre70 {x:DenS I70} {y:DenS O70} (h:T70 x=some y):S70.pre x=true:=sum_pre (T:=T70) h
theorem fun70 {x:DenS I70} {y:DenS O70} (h:T70 x=some y):S70.F x=y:=sum_F (T:=T70) h
theorem pre98 {x:DenS I98} {y:DenS O98} (h:T98 x=some y):S98.pre x=true:=sum_pre (T:=T98) h
theorem fun98 {x:DenS I98} {y:DenS O98} (h:T98 x=some y):S98.F x=y:=sum_F (T:=T98) h
theorem pre72 {x:DenS I72} {y:DenS O72} (h:T72 x=some y):S72.pre x=true:=sum_pre (T:=T72) h
theorem fun72 {x:DenS I72} {y:DenS O72} (h:T72 x=some y):S72.F x=y:=sum_F (T:=T72) h
theorem pre119 {x:DenS I119} {y:DenS O119} (h:T119 x=some y):S119.pre x=true:=sum_pre (T:=T119) h
theorem fun119 {x:DenS I119} {y:DenS O119} (h:T119 x=some y):S119.F x=y:=sum_F (T:=T119) h
theorem pre120 {x:DenS I120} {y:DenS O120} (h:T120 x=some y):S120.pre x=true:=sum_pre (T:=T120) h
theorem fun120 {x:DenS I120} {y:DenS O120} (h:T120 x=some y):S120.F x=y:=sum_F (T:=T120) h
theorem pre121 {x:DenS I121} {y:DenS O121} (h:T121 x=some y):S121.pre x=true:=sum_pre (T:=T121) h
theorem fun121 {x:DenS I121} {y:DenS O121} (h:T121 x=some y):S121.F x=y:=sum_F (T:=T121) h
theorem pre123 {x:DenS I123} {y:DenS O123} (h:T123 x=some y):S123.pre x=true:=sum_pre (T:=T123) h
theorem fun123 {x:DenS I123} {y:DenS O123} (h:T123 x=some y):S123.F x=y:=sum_F (T:=T123) h
theorem pre124 {x:DenS I124} {y:DenS O124} (h:T124 x=some y):S124.pre x=true:=sum_pre (T:=T124) h
theorem fun124 {x:DenS I124} {y:DenS O124} (h:T124 x=some y):S124.F x=y:=sum_F (T:=T124) h
theorem pre118 {x:DenS I118} {y:DenS O118} (h:T118 x=some y):S118.pre x=true:=sum_pre (T:=T118) h
theorem fun118 {x:DenS I118} {y:DenS O118} (h:T118 x=some y):S118.F x=y:=sum_F (T:=T118) h
theorem pre147 {x:DenS I147} {y:DenS O147} (h:T147 x=some y):S147.pre x=true:=sum_pre (T:=T147) h
theorem fun147 {x:DenS I147} {y:DenS O147} (h:T147 x=some y):S147.F x=y:=sum_F (T:=T147) h
theorem pre105 {x:DenS I105} {y:DenS O105} (h:T105 x=some y):S105.pre x=true:=sum_pre (T:=T105) h
theorem fun105 {x:DenS I105} {y:DenS O105} (h:T105 x=some y):S105.F x=y:=sum_F (T:=T105) h
theorem pre173 {x:DenS I173} {y:DenS O173} (h:T173 x=some y):S173.pre x=true:=sum_pre (T:=T173) h
theorem fun173 {x:DenS I173} {y:DenS O173} (h:T173 x=some y):S173.F x=y:=sum_F (T:=T173) h
theorem pre146 {x:DenS I146} {y:DenS O146} (h:T146 x=some y):S146.pre x=true:=sum_pre (T:=T146) h
theorem fun146 {x:DenS I146} {y:DenS O146} (h:T146 x=some y):S146.F x=y:=sum_F (T:=T146) h
theorem pre102 {x:DenS I102} {y:DenS O102} (h:T102 x=some y):S102.pre x=true:=sum_pre (T:=T102) h
theorem fun102 {x:DenS I102} {y:DenS O102} (h:T102 x=some y):S102.F x=y:=sum_F (T:=T102) h
theorem pre178 {x:DenS I178} {y:DenS O178} (h:T178 x=some y):S178.pre x=true:=sum_pre (T:=T178) h
theorem fun178 {x:DenS I178} {y:DenS O178} (h:T178 x=some y):S178.F x=y:=sum_F (T:=T178) h
theorem pre151 {x:DenS I151} {y:DenS O151} (h:T151 x=some y):S151.pre x=true:=sum_pre (T:=T151) h
theorem fun151 {x:DenS I151} {y:DenS O151} (h:T151 x=some y):S151.F x=y:=sum_F (T:=T151) h
theorem pre156 {x:DenS I156} {y:DenS O156} (h:T156 x=some y):S156.pre x=true:=sum_pre (T:=T156) h
theorem fun156 {x:DenS I156} {y:DenS O156} (h:T156 x=some y):S156.F x=y:=sum_F (T:=T156) h
theorem pre148 {x:DenS I148} {y:DenS O148} (h:T148 x=some y):S148.pre x=true:=sum_pre (T:=T148) h
theorem fun148 {x:DenS I148} {y:DenS O148} (h:T148 x=some y):S148.F x=y:=sum_F (T:=T148) h
theorem pre1173 {x:DenS I1173} {y:DenS O1173} (h:T1173 x=some y):S1173.pre x=true:=sum_pre (T:=T1173) h
theorem fun1173 {x:DenS I1173} {y:DenS O1173} (h:T1173 x=some y):S1173.F x=y:=sum_F (T:=T1173) h
theorem pre1171 {x:DenS I1171} {y:DenS O1171} (h:T1171 x=some y):S1171.pre x=true:=sum_pre (T:=T1171) h
theorem fun1171 {x:DenS I1171} {y:DenS O1171} (h:T1171 x=some y):S1171.F x=y:=sum_F (T:=T1171) h
theorem pre171 {x:DenS I171} {y:DenS O171} (h:T171 x=some y):S171.pre x=true:=sum_pre (T:=T171) h
theorem fun171 {x:DenS I171} {y:DenS O171} (h:T171 x=some y):S171.F x=y:=sum_F (T:=T171) h
theorem pre92 {x:DenS I92} {y:DenS O92} (h:T92 x=some y):S92.pre x=true:=sum_pre (T:=T92) h
theorem fun92 {x:DenS I92} {y:DenS O92} (h:T92 x=some y):S92.F x=y:=sum_F (T:=T92) h
theorem pre184 {x:DenS I184} {y:DenS O184} (h:T184 x=some y):S184.pre x=true:=sum_pre (T:=T184) h
theorem fun184 {x:DenS I184} {y:DenS O184} (h:T184 x=some y):S184.F x=y:=sum_F (T:=T184) h
theorem pre175 {x:DenS I175} {y:DenS O175} (h:T175 x=some y):S175.pre x=true:=sum_pre (T:=T175) h
theorem fun175 {x:DenS I175} {y:DenS O175} (h:T175 x=some y):S175.F x=y:=sum_F (T:=T175) h
theorem pre186 {x:DenS I186} {y:DenS O186} (h:T186 x=some y):S186.pre x=true:=sum_pre (T:=T186) h
theorem fun186 {x:DenS I186} {y:DenS O186} (h:T186 x=some y):S186.F x=y:=sum_F (T:=T186) h
theorem pre185 {x:DenS I185} {y:DenS O185} (h:T185 x=some y):S185.pre x=true:=sum_pre (T:=T185) h
theorem fun185 {x:DenS I185} {y:DenS O185} (h:T185 x=some y):S185.F x=y:=sum_F (T:=T185) h
theorem pre176 {x:DenS I176} {y:DenS O176} (h:T176 x=some y):S176.pre x=true:=sum_pre (T:=T176) h
theorem fun176 {x:DenS I176} {y:DenS O176} (h:T176 x=some y):S176.F x=y:=sum_F (T:=T176) h
theorem pre141 {x:DenS I141} {y:DenS O141} (h:T141 x=some y):S141.pre x=true:=sum_pre (T:=T141) h
theorem fun141 {x:DenS I141} {y:DenS O141} (h:T141 x=some y):S141.F x=y:=sum_F (T:=T141) h
theorem pre177 {x:DenS I177} {y:DenS O177} (h:T177 x=some y):S177.pre x=true:=sum_pre (T:=T177) h
theorem fun177 {x:DenS I177} {y:DenS O177} (h:T177 x=some y):S177.F x=y:=sum_F (T:=T177) h
theorem pre143 {x:DenS I143} {y:DenS O143} (h:T143 x=some y):S143.pre x=true:=sum_pre (T:=T143) h
theorem fun143 {x:DenS I143} {y:DenS O143} (h:T143 x=some y):S143.F x=y:=sum_F (T:=T143) h
theorem pre150 {x:DenS I150} {y:DenS O150} (h:T150 x=some y):S150.pre x=true:=sum_pre (T:=T150) h
theorem fun150 {x:DenS I150} {y:DenS O150} (h:T150 x=some y):S150.F x=y:=sum_F (T:=T150) h
theorem pre97 {x:DenS I97} {y:DenS O97} (h:T97 x=some y):S97.pre x=true:=sum_pre (T:=T97) h
theorem fun97 {x:DenS I97} {y:DenS O97} (h:T97 x=some y):S97.F x=y:=sum_F (T:=T97) h
theorem pre43 {x:DenS I43} {y:DenS O43} (h:T43 x=some y):S43.pre x=true:=sum_pre (T:=T43) h
theorem fun43 {x:DenS I43} {y:DenS O43} (h:T43 x=some y):S43.F x=y:=sum_F (T:=T43) h
theorem pre149 {x:DenS I149} {y:DenS O149} (h:T149 x=some y):S149.pre x=true:=sum_pre (T:=T149) h
theorem fun149 {x:DenS I149} {y:DenS O149} (h:T149 x=some y):S149.F x=y:=sum_F (T:=T149) h
theorem pre152 {x:DenS I152} {y:DenS O152} (h:T152 x=some y):S152.pre x=true:=sum_pre (T:=T152) h
theorem fun152 {x:DenS I152} {y:DenS O152} (h:T152 x=some y):S152.F x=y:=sum_F (T:=T152) h
theorem pre107 {x:DenS I107} {y:DenS O107} (h:T107 x=some y):S107.pre x=true:=sum_pre (T:=T107) h
theorem fun107 {x:DenS I107} {y:DenS O107} (h:T107 x=some y):S107.F x=y:=sum_F (T:=T107) h
theorem pre122 {x:DenS I122} {y:DenS O122} (h:T122 x=some y):S122.pre x=true:=sum_pre (T:=T122) h
theorem fun122 {x:DenS I122} {y:DenS O122} (h:T122 x=some y):S122.F x=y:=sum_F (T:=T122) h
theorem pre71 {x:DenS I71} {y:DenS O71} (h:T71 x=some y):S71.pre x=true:=sum_pre (T:=T71) h
theorem fun71 {x:DenS I71} {y:DenS O71} (h:T71 x=some y):S71.F x=y:=sum_F (T:=T71) h
theorem pre27 {x:DenS I27} {y:DenS O27} (h:T27 x=some y):S27.pre x=true:=sum_pre (T:=T27) h
theorem fun27 {x:DenS I27} {y:DenS O27} (h:T27 x=some y):S27.F x=y:=sum_F (T:=T27) h
theorem pre315 {x:DenS I315} {y:DenS O315} (h:T315 x=some y):S315.pre x=true:=sum_pre (T:=T315) h
theorem fun315 {x:DenS I315} {y:DenS O315} (h:T315 x=some y):S315.F x=y:=sum_F (T:=T315) h
theorem pre316 {x:DenS I316} {y:DenS O316} (h:T316 x=some y):S316.pre x=true:=sum_pre (T:=T316) h
theorem fun316 {x:DenS I316} {y:DenS O316} (h:T316 x=some y):S316.F x=y:=sum_F (T:=T316) h
theorem pre40 {x:DenS I40} {y:DenS O40} (h:T40 x=some y):S40.pre x=true:=sum_pre (T:=T40) h
theorem fun40 {x:DenS I40} {y:DenS O40} (h:T40 x=some y):S40.F x=y:=sum_F (T:=T40) h
theorem pre103 {x:DenS I103} {y:DenS O103} (h:T103 x=some y):S103.pre x=true:=sum_pre (T:=T103) h
theorem fun103 {x:DenS I103} {y:DenS O103} (h:T103 x=some y):S103.F x=y:=sum_F (T:=T103) h
theorem pre100 {x:DenS I100} {y:DenS O100} (h:T100 x=some y):S100.pre x=true:=sum_pre (T:=T100) h
theorem fun100 {x:DenS I100} {y:DenS O100} (h:T100 x=some y):S100.F x=y:=sum_F (T:=T100) h
theorem pre104 {x:DenS I104} {y:DenS O104} (h:T104 x=some y):S104.pre x=true:=sum_pre (T:=T104) h
theorem fun104 {x:DenS I104} {y:DenS O104} (h:T104 x=some y):S104.F x=y:=sum_F (T:=T104) h
theorem pre311 {x:DenS I311} {y:DenS O311} (h:T311 x=some y):S311.pre x=true:=sum_pre (T:=T311) h
theorem fun311 {x:DenS I311} {y:DenS O311} (h:T311 x=some y):S311.F x=y:=sum_F (T:=T311) h
theorem pre312 {x:DenS I312} {y:DenS O312} (h:T312 x=some y):S312.pre x=true:=sum_pre (T:=T312) h
theorem fun312 {x:DenS I312} {y:DenS O312} (h:T312 x=some y):S312.F x=y:=sum_F (T:=T312) h
theorem pre313 {x:DenS I313} {y:DenS O313} (h:T313 x=some y):S313.pre x=true:=sum_pre (T:=T313) h
theorem fun313 {x:DenS I313} {y:DenS O313} (h:T313 x=some y):S313.F x=y:=sum_F (T:=T313) h
theorem pre314 {x:DenS I314} {y:DenS O314} (h:T314 x=some y):S314.pre x=true:=sum_pre (T:=T314) h
theorem fun314 {x:DenS I314} {y:DenS O314} (h:T314 x=some y):S314.F x=y:=sum_F (T:=T314) h
theorem pre317 {x:DenS I317} {y:DenS O317} (h:T317 x=some y):S317.pre x=true:=sum_pre (T:=T317) h
theorem fun317 {x:DenS I317} {y:DenS O317} (h:T317 x=some y):S317.F x=y:=sum_F (T:=T317) h
theorem pre318 {x:DenS I318} {y:DenS O318} (h:T318 x=some y):S318.pre x=true:=sum_pre (T:=T318) h
theorem fun318 {x:DenS I318} {y:DenS O318} (h:T318 x=some y):S318.F x=y:=sum_F (T:=T318) h
theorem pre323 {x:DenS I323} {y:DenS O323} (h:T323 x=some y):S323.pre x=true:=sum_pre (T:=T323) h
theorem fun323 {x:DenS I323} {y:DenS O323} (h:T323 x=some y):S323.F x=y:=sum_F (T:=T323) h
theorem pre324 {x:DenS I324} {y:DenS O324} (h:T324 x=some y):S324.pre x=true:=sum_pre (T:=T324) h
theorem fun324 {x:DenS I324} {y:DenS O324} (h:T324 x=some y):S324.F x=y:=sum_F (T:=T324) h
theorem pre325 {x:DenS I325} {y:DenS O325} (h:T325 x=some y):S325.pre x=true:=sum_pre (T:=T325) h
theorem fun325 {x:DenS I325} {y:DenS O325} (h:T325 x=some y):S325.F x=y:=sum_F (T:=T325) h
theorem pre326 {x:DenS I326} {y:DenS O326} (h:T326 x=some y):S326.pre x=true:=sum_pre (T:=T326) h
theorem fun326 {x:DenS I326} {y:DenS O326} (h:T326 x=some y):S326.F x=y:=sum_F (T:=T326) h
theorem pre1146 {x:DenS I1146} {y:DenS O1146} (h:T1146 x=some y):S1146.pre x=true:=sum_pre (T:=T1146) h
theorem fun1146 {x:DenS I1146} {y:DenS O1146} (h:T1146 x=some y):S1146.F x=y:=sum_F (T:=T1146) h
theorem pre327 {x:DenS I327} {y:DenS O327} (h:T327 x=some y):S327.pre x=true:=sum_pre (T:=T327) h
theorem fun327 {x:DenS I327} {y:DenS O327} (h:T327 x=some y):S327.F x=y:=sum_F (T:=T327) h
theorem pre328 {x:DenS I328} {y:DenS O328} (h:T328 x=some y):S328.pre x=true:=sum_pre (T:=T328) h
theorem fun328 {x:DenS I328} {y:DenS O328} (h:T328 x=some y):S328.F x=y:=sum_F (T:=T328) h
theorem pre1329 {x:DenS I1329} {y:DenS O1329} (h:T1329 x=some y):S1329.pre x=true:=sum_pre (T:=T1329) h
theorem fun1329 {x:DenS I1329} {y:DenS O1329} (h:T1329 x=some y):S1329.F x=y:=sum_F (T:=T1329) h
theorem pre144 {x:DenS I144} {y:DenS O144} (h:T144 x=some y):S144.pre x=true:=sum_pre (T:=T144) h
theorem fun144 {x:DenS I144} {y:DenS O144} (h:T144 x=some y):S144.F x=y:=sum_F (T:=T144) h
theorem pre330 {x:LK.D K330×DenS I330} {y:LK.B K330×DenS O330} (h:T330 x=some y):S330.pre x=true:=sumL_pre (T:=T330) h
theorem fun330 {x:LK.D K330×DenS I330} {y:LK.B K330×DenS O330} (h:T330 x=some y):S330.F x=y:=sumL_F (T:=T330) h
theorem pre331 {x:LK.D K331×DenS I331} {y:LK.B K331×DenS O331} (h:T331 x=some y):S331.pre x=true:=sumL_pre (T:=T331) h
theorem fun331 {x:LK.D K331×DenS I331} {y:LK.B K331×DenS O331} (h:T331 x=some y):S331.F x=y:=sumL_F (T:=T331) h
theorem pre332 {x:LK.D K332×DenS I332} {y:LK.B K332×DenS O332} (h:T332 x=some y):S332.pre x=true:=sumL_pre (T:=T332) h
theorem fun332 {x:LK.D K332×DenS I332} {y:LK.B K332×DenS O332} (h:T332 x=some y):S332.F x=y:=sumL_F (T:=T332) h
theorem pre333 {x:DenS I333} {y:DenS O333} (h:T333 x=some y):S333.pre x=true:=sum_pre (T:=T333) h
theorem fun333 {x:DenS I333} {y:DenS O333} (h:T333 x=some y):S333.F x=y:=sum_F (T:=T333) h
theorem pre334 {x:DenS I334} {y:DenS O334} (h:T334 x=some y):S334.pre x=true:=sum_pre (T:=T334) h
theorem fun334 {x:DenS I334} {y:DenS O334} (h:T334 x=some y):S334.F x=y:=sum_F (T:=T334) h
theorem pre335 {x:DenS I335} {y:DenS O335} (h:T335 x=some y):S335.pre x=true:=sum_pre (T:=T335) h
theorem fun335 {x:DenS I335} {y:DenS O335} (h:T335 x=some y):S335.F x=y:=sum_F (T:=T335) h
theorem pre336 {x:DenS I336} {y:DenS O336} (h:T336 x=some y):S336.pre x=true:=sum_pre (T:=T336) h
theorem fun336 {x:DenS I336} {y:DenS O336} (h:T336 x=some y):S336.F x=y:=sum_F (T:=T336) h
theorem pre337 {x:DenS I337} {y:DenS O337} (h:T337 x=some y):S337.pre x=true:=sum_pre (T:=T337) h
theorem fun337 {x:DenS I337} {y:DenS O337} (h:T337 x=some y):S337.F x=y:=sum_F (T:=T337) h
theorem pre47 {x:DenS I47} {y:DenS O47} (h:T47 x=some y):S47.pre x=true:=sum_pre (T:=T47) h
theorem fun47 {x:DenS I47} {y:DenS O47} (h:T47 x=some y):S47.F x=y:=sum_F (T:=T47) h
theorem pre99 {x:DenS I99} {y:DenS O99} (h:T99 x=some y):S99.pre x=true:=sum_pre (T:=T99) h
theorem fun99 {x:DenS I99} {y:DenS O99} (h:T99 x=some y):S99.F x=y:=sum_F (T:=T99) h
theorem pre360 {x:DenS I360} {y:DenS O360} (h:T360 x=some y):S360.pre x=true:=sum_pre (T:=T360) h
theorem fun360 {x:DenS I360} {y:DenS O360} (h:T360 x=some y):S360.F x=y:=sum_F (T:=T360) h
theorem pre361 {x:DenS I361} {y:DenS O361} (h:T361 x=some y):S361.pre x=true:=sum_pre (T:=T361) h
theorem fun361 {x:DenS I361} {y:DenS O361} (h:T361 x=some y):S361.F x=y:=sum_F (T:=T361) h
theorem pre172 {x:DenS I172} {y:DenS O172} (h:T172 x=some y):S172.pre x=true:=sum_pre (T:=T172) h
theorem fun172 {x:DenS I172} {y:DenS O172} (h:T172 x=some y):S172.F x=y:=sum_F (T:=T172) h
theorem pre142 {x:DenS I142} {y:DenS O142} (h:T142 x=some y):S142.pre x=true:=sum_pre (T:=T142) h
theorem fun142 {x:DenS I142} {y:DenS O142} (h:T142 x=some y):S142.F x=y:=sum_F (T:=T142) h
theorem pre1174 {x:DenS I1174} {y:DenS O1174} (h:T1174 x=some y):S1174.pre x=true:=sum_pre (T:=T1174) h
theorem fun1174 {x:DenS I1174} {y:DenS O1174} (h:T1174 x=some y):S1174.F x=y:=sum_F (T:=T1174) h
theorem pre145 {x:DenS I145} {y:DenS O145} (h:T145 x=some y):S145.pre x=true:=sum_pre (T:=T145) h
theorem fun145 {x:DenS I145} {y:DenS O145} (h:T145 x=some y):S145.F x=y:=sum_F (T:=T145) h
theorem pre101 {x:DenS I101} {y:DenS O101} (h:T101 x=some y):S101.pre x=true:=sum_pre (T:=T101) h
theorem fun101 {x:DenS I101} {y:DenS O101} (h:T101 x=some y):S101.F x=y:=sum_F (T:=T101) h
theorem pre46 {x:DenS I46} {y:DenS O46} (h:T46 x=some y):S46.pre x=true:=sum_pre (T:=T46) h
theorem fun46 {x:DenS I46} {y:DenS O46} (h:T46 x=some y):S46.F x=y:=sum_F (T:=T46) h
theorem pre362 {x:DenS I362} {y:DenS O362} (h:T362 x=some y):S362.pre x=true:=sum_pre (T:=T362) h
theorem fun362 {x:DenS I362} {y:DenS O362} (h:T362 x=some y):S362.F x=y:=sum_F (T:=T362) h
theorem pre49 {x:DenS I49} {y:DenS O49} (h:T49 x=some y):S49.pre x=true:=sum_pre (T:=T49) h
theorem fun49 {x:DenS I49} {y:DenS O49} (h:T49 x=some y):S49.F x=y:=sum_F (T:=T49) h
end Vx
namespace Vx
open Go
theorem shrI_u64 {a:Int} (n:Nat) (hn:n≤64):shrI .u64 a (n:Int)=a/2^n:=by
 unfold shrI
 rw [Int.fdiv_eq_ediv_of_nonneg]
 ·congr 2
  simp [IntKind.bits]
  omega
 ·exact Int.pow_nonneg (by omega)
theorem ofInt_u64 {m:Nat} (h:m<2^64):(BitVec.ofInt 64 (m:Int)).toNat=m:=by
 rw [BitVec.toNat_ofInt]
 omega
theorem andI_mask {m n:Nat} (h:m<2^64) (hn:n≤64):andI .u64 (m:Int) ((2^n-1:Nat):Int)=((m%2^n:Nat):Int):=by
 have h2:2^n≤2^64:=Nat.pow_le_pow_right (by omega) hn
 have h3:0<2^n:=Nat.two_pow_pos n
 have hlt:m%2^n<2^n:=Nat.mod_lt _ h3
 have key:(BitVec.ofInt 64 (m:Int) &&& BitVec.ofInt 64 ((2^n-1:Nat):Int)).toNat=m%2^n:=by
  rw [BitVec.toNat_and,ofInt_u64 h,ofInt_u64 (by omega),Nat.and_two_pow_sub_one_eq_mod]
 show IntKind.u64.wrap (((BitVec.ofInt 64 (m:Int) &&& BitVec.ofInt 64 ((2^n-1:Nat):Int)).toNat:Nat):Int)=_
 rw [key]
 exact IntWalk.u64_in _ (by omega)
theorem shlI_one {n:Nat} (hn:n≤63):shlI .u64 1 (n:Int)=((2^n:Nat):Int):=by
 have h2:2^n≤2^63:=Nat.pow_le_pow_right (by omega) hn
 have:(min (n:Int).toNat IntKind.u64.bits)=n:=by simp [IntKind.bits]; omega
 unfold shlI
 rw [this,Int.one_mul]
 have e:(2:Int)^n=((2^n:Nat):Int):=by simp
 rw [e]
 refine IntWalk.u64_in _ ⟨Int.natCast_nonneg _,?_⟩
 have:((2^n:Nat):Int)≤((2^63:Nat):Int):=Int.ofNat_le.2 h2
 exact Int.le_trans this (by decide)
theorem andNotI_bit {m n:Nat} (hn:n≤63) (h:m<2^(n+1)):andNotI .u64 (m:Int) ((2^n:Nat):Int)=((m%2^n:Nat):Int):=by
 have h1:2^(n+1)≤2^64:=Nat.pow_le_pow_right (by omega) (by omega)
 have h2:2^n<2^64:=Nat.pow_lt_pow_right (by omega) (by omega)
 have hlt:m%2^n<2^n:=Nat.mod_lt _ (Nat.two_pow_pos n)
 have key:(BitVec.ofInt 64 (m:Int) &&& ~~~(BitVec.ofInt 64 ((2^n:Nat):Int))).toNat=m%2^n:=by
  apply Nat.eq_of_testBit_eq
  intro i
  rw [BitVec.toNat_and,Nat.testBit_and,ofInt_u64 (by omega),Nat.testBit_mod_two_pow]
  have e:(~~~(BitVec.ofInt 64 ((2^n:Nat):Int))).toNat.testBit i=(decide (i<64)&&!decide (n=i)):=by
   rw [← BitVec.getLsbD,BitVec.getLsbD_not,BitVec.getLsbD,ofInt_u64 h2,Nat.testBit_two_pow]
  rw [e]
  rcases Nat.lt_trichotomy i n with hi | hi | hi
  ·have:i<64:=by omega
   have hne:¬ n=i:=by omega
   simp [this,hne,hi]
  ·subst hi; simp
  ·have hz:m.testBit i=false:=Nat.testBit_lt_two_pow (Nat.lt_of_lt_of_le h (Nat.pow_le_pow_right (by omega) (by omega)))
   simp [hz]
 show IntKind.u64.wrap (((BitVec.ofInt 64 (m:Int) &&& ~~~(BitVec.ofInt 64 ((2^n:Nat):Int))).toNat:Nat):Int)=_
 rw [key]
 exact IntWalk.u64_in _ (by omega)
end Vx
namespace VL
open Go Vx
def Fm (f:Int):Prop:=0≤f∧f<4
instance (f:Int):Decidable (Fm f):=by unfold Fm; infer_instance
def fW (f:Int):Nat:=if f=0 then 16 else if f=1 then 16 else if f=2 then 32 else 64
def fP (f:Int):Nat:=if f=0 then 11 else if f=1 then 8 else if f=2 then 24 else 53
def fX (f:Int):Nat:=if f=0 then 15 else if f=1 then 127 else if f=2 then 127 else 1023
def rowOf (f:Int):Den rowsSh:=((fW f:Int),((fP f:Int),((1-(fX f:Int)),((fX f:Int),()))))
theorem Fm_cases {f:Int} (h:Fm f):f=0∨f=1∨f=2∨f=3:=by
 obtain ⟨h1,h2⟩:=h
 omega
theorem row_at {f:Int} (h:Fm f) (d:Den rowsSh):k_rows.getD (Int.toNat f) d=rowOf f:=by
 rcases Fm_cases h with rfl | rfl | rfl | rfl <;> rfl
theorem fP_ge {f:Int} (h:Fm f):8≤fP f:=by
 rcases Fm_cases h with rfl | rfl | rfl | rfl <;> decide
theorem fP_lt {f:Int} (h:Fm f):fP f+5≤fW f:=by
 rcases Fm_cases h with rfl | rfl | rfl | rfl <;> decide
theorem fW_le {f:Int} (h:Fm f):fW f≤64:=by
 rcases Fm_cases h with rfl | rfl | rfl | rfl <;> decide
theorem fX_le {f:Int} (h:Fm f):fX f≤1023:=by
 rcases Fm_cases h with rfl | rfl | rfl | rfl <;> decide
theorem fX_eq {f:Int} (h:Fm f):2*fX f+1=2^(fW f-fP f)-1:=by
 rcases Fm_cases h with rfl | rfl | rfl | rfl <;> decide
theorem wrapI {n:Int} (h:-9223372036854775808≤n∧n<9223372036854775808):IntKind.wrap .i64 n=n:=IntWalk.i64_in n ⟨h.1,by omega⟩
theorem wrapU {n:Int} (h:0≤n∧n<18446744073709551616):IntKind.wrap .u64 n=n:=IntWalk.u64_in n ⟨h.1,by omega⟩
theorem shrN (a n:Nat) (hn:n≤64):shrI .u64 (a:Int) (n:Int)=((a/2^n:Nat):Int):=by
 rw [shrI_u64 n hn]
 simp
theorem wsub (m n:Nat) (h:n≤m) (hm:m≤4611686018427387904):IntKind.wrap .i64 ((m:Int)-(n:Int))=((m-n:Nat):Int):=by
 rw [wrapI (by omega)]
 omega
theorem nbeq (m n:Nat):((m:Int)==(n:Int))=(m==n):=by
 rw [Bool.eq_iff_iff]; simp only [beq_iff_eq]; omega
theorem nbeq0 (m:Nat):((m:Int)==0)=(m==0):=nbeq m 0
theorem nbne (m n:Nat):((m:Int) != (n:Int))=(m != n):=by
 show (!((m:Int)==(n:Int)))=!(m==n)
 rw [nbeq]
theorem nbne0 (m:Nat):((m:Int) != 0)=(m != 0):=nbne m 0
theorem nlt (m n:Nat):(decide ((m:Int)<(n:Int)))=decide (m<n):=by
 rw [Bool.eq_iff_iff]; simp
theorem nnn (m:Nat):(decide (0≤(m:Int)))=true:=by simp
def chk (f:Int) (a:Nat):Int:=if Fm f then (if a<2^fW f then 0 else 4) else 2
def eF (f:Int) (a:Nat):Nat:=a/2^(fP f-1)%2^(fW f-fP f)
def mF (f:Int) (a:Nat):Nat:=a%2^(fP f-1)
def sF (f:Int) (a:Nat):Bool:=a/2^(fW f-1) != 0
def fullF (f:Int):Nat:=2^(fW f-fP f)-1
def absF (f:Int) (a:Nat):Nat:=a%2^(fW f-1)
theorem T69_ok {f:Int} (h:Fm f):T69 (f,())=some (rowOf f,0,()):=by
 rcases Fm_cases h with rfl | rfl | rfl | rfl <;> kernel_rfl
theorem T69_bad {f:Int} (h:¬ Fm f):T69 (f,())=some ((0,0,0,0,()),2,()):=by
 show t69 f=_
 unfold t69
 have:(decide (f<(0:Int))||decide (f≥(4:Int)))=true:=by
  simp only [Fm] at h
  simp only [Bool.or_eq_true,decide_eq_true_eq]
  omega
 rw [this]
 rfl
theorem chk_bad {f:Int} (h:¬ Fm f) (a:Nat):chk f a=2:=by unfold chk; rw [if_neg h]
theorem chk_ok {f:Int} (h:Fm f) {a:Nat} (ha:a<2^fW f):chk f a=0:=by unfold chk; rw [if_pos h,if_pos ha]
theorem chk_big {f:Int} (h:Fm f) {a:Nat} (ha:¬ a<2^fW f):chk f a=4:=by unfold chk; rw [if_pos h,if_neg ha]
theorem chk_zero {f:Int} {a:Nat} (h:chk f a=0):Fm f∧a<2^fW f:=by
 unfold chk at h
 split at h
 ·split at h
  ·exact ⟨by assumption,by assumption⟩
  ·cases h
 ·cases h
theorem div_ne_zero {a n:Nat}:(a/2^n != 0)=decide (2^n≤a):=by
 rw [Bool.eq_iff_iff]
 simp [Nat.div_eq_zero_iff,Nat.two_pow_pos]
theorem T66_eq (f:Int) (a:Nat) (ha:a<2^64):T66 (f,(a:Int),())=some (chk f a,()):=by
 show t66 S69.pre S69.F f a=_
 unfold t66
 by_cases hf:Fm f
 ·simp only [pre69 (T69_ok hf),fun69 (T69_ok hf),cond_true,rowOf,nnn,Bool.true_or]
  rw [shrN _ _ (fW_le hf),nbne0,div_ne_zero]
  show (bif decide ((fW f:Int)<((64:Nat):Int))&&_ then _ else _)=_
  rw [nlt]
  have hw:=fW_le hf
  by_cases h:a<2^fW f
  ·have:(decide (fW f<64)&&decide (2^fW f≤a))=false:=by simp; intro _; exact h
   rw [this,chk_ok hf h]; rfl
  ·have:(decide (fW f<64)&&decide (2^fW f≤a))=true:=by
    simp only [Bool.and_eq_true,decide_eq_true_eq]
    refine ⟨?_,by omega⟩
    rcases Nat.lt_or_ge (fW f) 64 with h1 | h1
    ·exact h1
    ·have:fW f=64:=by omega
     rw [this] at h; omega
   rw [this,chk_big hf h]; rfl
 ·simp only [pre69 (T69_bad hf),fun69 (T69_bad hf),cond_true,chk_bad hf]
  rfl
theorem T91_eq (n:Nat) (hn:n≤63):T91 ((n:Int),())=some (((2^n-1:Nat):Int),()):=by
 show t91 n=_
 unfold t91
 have h2:2^n≤2^63:=Nat.pow_le_pow_right (by omega) hn
 have h1:0<2^n:=Nat.two_pow_pos n
 rw [nnn,cond_true,shlI_one hn]
 generalize 2^n=c at *
 rw [wrapU (by omega)]
 have:(c:Int)-1=((c-1:Nat):Int):=by omega
 rw [this]
theorem T90_eq {f:Int} (hf:Fm f) (a:Nat) (ha:a<2^64):T90 (rowOf f,(a:Int),())=some (sF f a,(eF f a:Int),(mF f a:Int),()):=by
 show t90 S91.pre S91.F (rowOf f) a=_
 unfold t90
 have h1:=fP_ge hf
 have h2:=fP_lt hf
 have h3:=fW_le hf
 have e1:IntKind.wrap .i64 ((rowOf f).1-1)=((fW f-1:Nat):Int):=wsub (fW f) 1 (by omega) (by omega)
 have e2:IntKind.wrap .i64 ((rowOf f).2.1-1)=((fP f-1:Nat):Int):=wsub (fP f) 1 (by omega) (by omega)
 have e3:IntKind.wrap .i64 ((rowOf f).1-(rowOf f).2.1)=((fW f-fP f:Nat):Int):=wsub (fW f) (fP f) (by omega) (by omega)
 have p1:=T91_eq (fW f-fP f) (by omega)
 have p2:=T91_eq (fP f-1) (by omega)
 rw [e1,e2,e3]
 simp only [nnn,cond_true,pre91 p1,pre91 p2,fun91 p1,fun91 p2]
 rw [shrN _ _ (by omega),shrN _ _ (by omega),andI_mask (Nat.lt_of_le_of_lt (Nat.div_le_self _ _) ha) (by omega),andI_mask ha (by omega),nbne0]
 rfl
def cls (f:Int) (a:Nat):Int :=
 bif eF f a==fullF f&&mF f a==0 then (bif sF f a then 2 else 9)
 else bif eF f a==fullF f&&mF f a/2^(fP f-2) != 0 then 1
 else bif eF f a==fullF f then 0
 else bif eF f a==0&&mF f a==0 then (bif sF f a then 5 else 6)
 else bif eF f a==0 then (bif sF f a then 4 else 7)
 else (bif sF f a then 3 else 8)
theorem T65_ok {f:Int} {a:Nat} (ha:a<2^64) (h:chk f a=0):T65 (f,(a:Int),())=some (cls f a,0,()):=by
 obtain ⟨hf,h0⟩:=chk_zero h
 show t65 S66.pre S66.F S90.pre S90.F S91.pre S91.F f a=_
 unfold t65
 have h1:=fP_ge hf
 have h2:=fP_lt hf
 have h3:=fW_le hf
 have e3:IntKind.wrap .i64 ((rowOf f).1-(rowOf f).2.1)=((fW f-fP f:Nat):Int):=wsub (fW f) (fP f) (by omega) (by omega)
 have e4:IntKind.wrap .i64 ((rowOf f).2.1-2)=((fP f-2:Nat):Int):=wsub (fP f) 2 (by omega) (by omega)
 have p0:=T66_eq f a ha
 have p1:=T91_eq (fW f-fP f) (by omega)
 have p2:=T90_eq hf a ha
 have hr:(decide (0≤f)&&decide (f<((4:Nat):Int)))=true:=by
  simp only [Bool.and_eq_true,decide_eq_true_eq]; exact hf
 simp only [row_at hf,e3,e4,hr,pre66 p0,fun66 p0,pre91 p1,fun91 p1,pre90 p2,fun90 p2,h,cond_true,nnn,Bool.true_or,bne_self_eq_false,cond_false]
 rw [shrN _ _ (by omega),nbeq,nbeq0,nbeq0,nbne0]
 unfold cls fullF
 generalize (eF f a==2^(fW f-fP f)-1)=b1
 generalize (mF f a==0)=b2
 generalize (mF f a/2^(fP f-2) != 0)=b3
 generalize (eF f a==0)=b4
 generalize sF f a=b5
 cases b1 <;> cases b2 <;> cases b3 <;> cases b4 <;> cases b5 <;> rfl
theorem T65_bad {f:Int} {a:Nat} (ha:a<2^64) (h:chk f a≠0):T65 (f,(a:Int),())=some (0,chk f a,()):=by
 show t65 S66.pre S66.F S90.pre S90.F S91.pre S91.F f a=_
 unfold t65
 have p0:=T66_eq f a ha
 have:(chk f a != 0)=true:=by simpa using h
 simp only [pre66 p0,fun66 p0,this,cond_true]
theorem T115_ok {f:Int} (hf:Fm f):T115 (f,())=some (((2^(fW f-1):Nat):Int),()):=by
 rcases Fm_cases hf with rfl | rfl | rfl | rfl <;> kernel_rfl
theorem T112_ok {f:Int} {a:Nat} (ha:a<2^64) (h:chk f a=0):T112 (f,(a:Int),())=some ((absF f a:Int),0,()):=by
 obtain ⟨hf,h0⟩:=chk_zero h
 show t112 S66.pre S66.F S115.pre S115.F f a=_
 unfold t112
 have h2:=fP_lt hf
 have h3:=fW_le hf
 have p0:=T66_eq f a ha
 have p1:=T115_ok hf
 simp only [pre66 p0,fun66 p0,pre115 p1,fun115 p1,h,cond_true,bne_self_eq_false,cond_false]
 rw [andNotI_bit (by omega) (by rw [Nat.sub_add_cancel (by omega)]; exact h0)]
 rfl
def place (f:Int) (a:Nat):Int:=bif sF f a then -(absF f a:Int) else absF f a
def nan (f:Int) (a:Nat):Bool:=eF f a==fullF f&&mF f a != 0
def snan (f:Int) (a:Nat):Bool:=nan f a&&mF f a/2^(fP f-2)==0
theorem cls_nan (f:Int) (a:Nat):(cls f a==1||cls f a==0)=nan f a:=by
 unfold cls nan
 simp only [bne]
 cases eF f a==fullF f <;> cases mF f a==0 <;> cases sF f a <;> cases eF f a==0 <;> cases mF f a/2^(fP f-2)==0 <;> rfl
theorem cls_snan (f:Int) (a:Nat):(cls f a==0)=snan f a:=by
 unfold cls snan nan
 simp only [bne]
 cases eF f a==fullF f <;> cases hm:mF f a==0 <;> cases sF f a <;> cases eF f a==0 <;> cases mF f a/2^(fP f-2)==0 <;> rfl
end VL
namespace VL
open Go Vx
theorem snan_nan {f:Int} {a:Nat} (h:nan f a=false):snan f a=false:=by
 unfold snan; rw [h]; rfl
end VL
namespace VL
open Go Vx
theorem pow_split {f:Int} (hf:Fm f):2^(fW f-1)=2^(fP f-1)*2^(fW f-fP f):=by
 have h1:=fP_ge hf
 have h2:=fP_lt hf
 rw [← Nat.pow_add]
 congr 1
 omega
theorem abs_eq {f:Int} (hf:Fm f) (a:Nat):absF f a=mF f a+2^(fP f-1)*eF f a:=by
 unfold absF mF eF
 rw [pow_split hf,Nat.mod_mul]
theorem pat_eq {f:Int} {a:Nat} (h:chk f a=0):a=absF f a+(bif sF f a then 2^(fW f-1) else 0):=by
 obtain ⟨hf,h0⟩:=chk_zero h
 have h2:=fP_lt hf
 have e:2^fW f=2*2^(fW f-1):=by rw [← Nat.pow_succ']; congr 1; omega
 unfold absF sF
 rw [div_ne_zero]
 by_cases hc:2^(fW f-1)≤a
 ·rw [decide_eq_true hc]
  simp only [cond_true]
  have:a%2^(fW f-1)=a-2^(fW f-1):=by
   rw [Nat.mod_eq_sub_mod hc,Nat.mod_eq_of_lt (by omega)]
  omega
 ·rw [decide_eq_false hc]
  simp only [cond_false]
  rw [Nat.mod_eq_of_lt (by omega)]
  rfl
theorem abs_lt' {f:Int} (a:Nat):absF f a<2^(fW f-1):=Nat.mod_lt _ (Nat.two_pow_pos _)
theorem full_pos {f:Int} (hf:Fm f):0<fullF f:=by
 rcases Fm_cases hf with rfl | rfl | rfl | rfl <;> decide
def nanF (f:Int):Nat:=2^(fW f-1)-2^(fP f-2)
theorem T70_ok {f:Int} (hf:Fm f):T70 (f,())=some ((nanF f:Int),0,()):=by
 rcases Fm_cases hf with rfl | rfl | rfl | rfl <;> kernel_rfl
end VL
namespace VL
open Go Vx
def mkF (f:Int) (s:Bool) (n:Nat):Nat:=n+(bif s then 2^(fW f-1) else 0)
theorem two_half {f:Int} (hf:Fm f):2^fW f=2*2^(fW f-1):=by
 have h2:=fP_lt hf
 rw [← Nat.pow_succ']; congr 1; omega
theorem mk_abs {f:Int} (s:Bool) {n:Nat} (hn:n<2^(fW f-1)):absF f (mkF f s n)=n:=by
 unfold absF mkF
 cases s
 ·simp only [cond_false,Nat.add_zero]; exact Nat.mod_eq_of_lt hn
 ·simp only [cond_true,Nat.add_mod_right]; exact Nat.mod_eq_of_lt hn
theorem mk_sgn {f:Int} (s:Bool) {n:Nat} (hn:n<2^(fW f-1)):sF f (mkF f s n)=s:=by
 unfold sF mkF
 rw [div_ne_zero]
 cases s
 ·simp only [cond_false,Nat.add_zero,decide_eq_false_iff_not]; omega
 ·simp
theorem pat_mk {f:Int} {a:Nat} (h:chk f a=0):a=mkF f (sF f a) (absF f a):=pat_eq h
theorem pat_lt {f:Int} {a:Nat} (h:chk f a=0):a<2^64:=by
 obtain ⟨hf,h0⟩:=chk_zero h
 exact Nat.lt_of_lt_of_le h0 (Nat.pow_le_pow_right (by omega) (fW_le hf))
theorem eF_abs {f:Int} (hf:Fm f) (a:Nat):eF f a=absF f a/2^(fP f-1):=by
 rw [abs_eq hf,Nat.add_mul_div_left _ _ (Nat.two_pow_pos _)]
 have:mF f a/2^(fP f-1)=0:=Nat.div_eq_of_lt (Nat.mod_lt _ (Nat.two_pow_pos _))
 omega
theorem mF_abs {f:Int} (hf:Fm f) (a:Nat):mF f a=absF f a%2^(fP f-1):=by
 rw [abs_eq hf,Nat.add_mul_mod_self_left]
 exact (Nat.mod_eq_of_lt (Nat.mod_lt _ (Nat.two_pow_pos _))).symm
def infF (f:Int):Nat:=2^(fP f-1)*fullF f
theorem inf_room {f:Int} (hf:Fm f):infF f+128≤2^(fW f-1):=by
 rcases Fm_cases hf with rfl | rfl | rfl | rfl <;> decide
theorem e_le {f:Int} (a:Nat):eF f a≤fullF f:=by
 have:eF f a<2^(fW f-fP f):=Nat.mod_lt _ (Nat.two_pow_pos _)
 unfold fullF; omega
end VL
namespace VL
open Go Vx
def nv (B:Nat):List Nat→Nat
 | []=>0
 | x::r=>x+B*nv B r
def trimL:List Nat→List Nat
 | []=>[]
 | x::r=>match trimL r with
  | []=>if x=0 then [] else [x]
  | y::t=>x::y::t
def dg (B:Nat) (n:Nat):List Nat :=
 if h:n=0∨B<2 then [] else n%B::dg B (n/B)
termination_by n
decreasing_by exact Nat.div_lt_self (by omega) (by omega)
theorem dg_zero (B:Nat):dg B 0=[]:=by rw [dg]; simp
theorem dg_pos {B n:Nat} (hB:2≤B) (hn:0<n):dg B n=n%B::dg B (n/B):=by
 rw [dg]; rw [dif_neg (by omega)]
theorem dg_lt {B:Nat} (hB:2≤B):∀ (n:Nat),∀ x∈dg B n,x<B:=by
 intro n
 induction n using Nat.strongRecOn with
 | ind n ih =>
  intro x hx
  rcases Nat.eq_zero_or_pos n with rfl | hn
  ·rw [dg_zero] at hx; simp at hx
  ·rw [dg_pos hB hn] at hx
   rcases List.mem_cons.1 hx with rfl | hx
   ·exact Nat.mod_lt _ (by omega)
   ·exact ih (n/B) (Nat.div_lt_self hn (by omega)) x hx
theorem nv_dg {B:Nat} (hB:2≤B):∀ (n:Nat),nv B (dg B n)=n:=by
 intro n
 induction n using Nat.strongRecOn with
 | ind n ih =>
  rcases Nat.eq_zero_or_pos n with rfl | hn
  ·rw [dg_zero]; rfl
  ·rw [dg_pos hB hn]
   simp only [nv]
   rw [ih (n/B) (Nat.div_lt_self hn (by omega))]
   exact Nat.mod_add_div n B
theorem dg_cons {B x v:Nat} (hB:2≤B) (hx:x<B) (h:0<x+B*v):dg B (x+B*v)=x::dg B v:=by
 rw [dg_pos hB h,Nat.add_mul_mod_self_left,Nat.mod_eq_of_lt hx,Nat.add_mul_div_left _ _ (by omega),Nat.div_eq_of_lt hx,Nat.zero_add]
theorem trim_dg {B:Nat} (hB:2≤B):∀ (l:List Nat),(∀ x∈l,x<B)→trimL l=dg B (nv B l)
 | [],_=>by simp only [nv]; rw [dg_zero]; rfl
 | x::r,h=>by
  have ih:=trim_dg hB r fun y hy=>h y (by simp [hy])
  simp only [trimL,nv]
  rcases Nat.eq_zero_or_pos (nv B r) with h0 | h0
  ·rw [ih,h0,dg_zero,Nat.mul_zero,Nat.add_zero]
   simp only
   rcases Nat.eq_zero_or_pos x with rfl | hx
   ·rw [dg_zero]; rfl
   ·rw [if_neg (by omega)]
    have:=dg_cons (v:=0) hB (h x (by simp)) (by omega)
    rw [Nat.mul_zero,Nat.add_zero,dg_zero] at this
    exact this.symm
  ·have hp:0<B*nv B r:=Nat.mul_pos (by omega) h0
   rw [dg_cons hB (h x (by simp)) (by omega),ih]
   rw [dg_pos hB h0]
theorem trim_len:∀ (l:List Nat),(trimL l).length≤l.length∧trimL l=l.take (trimL l).length
 | []=>⟨Nat.le_refl _,rfl⟩
 | x::r=>by
  obtain ⟨h1,h2⟩:=trim_len r
  simp only [trimL]
  cases e:trimL r with
  | nil =>
   simp only
   split
   ·exact ⟨by simp,rfl⟩
   ·exact ⟨by simp,rfl⟩
  | cons y t =>
   rw [e] at h1 h2
   simp only
   refine ⟨by simp at h1 ⊢; omega,?_⟩
   simp only [List.length_cons,List.take_succ_cons]
   congr 1
theorem trim_out:∀ (l:List Nat) (i:Nat),(trimL l).length≤i→l.getD i 0=0
 | [],i,_=>by simp
 | x::r,i,h=>by
  have ih:=trim_out r
  simp only [trimL] at h
  cases e:trimL r with
  | nil =>
   rw [e] at h ih
   simp only at h
   cases i with
   | zero =>
    split at h
    ·rename_i hx; simp [hx]
    ·simp at h
   | succ i=>simpa using ih i (by simp)
  | cons y t =>
   rw [e] at h ih
   simp only at h
   cases i with
   | zero=>simp at h
   | succ i=>simpa using ih i (by simpa using h)
theorem trim_last:∀ (l:List Nat),0<(trimL l).length→l.getD ((trimL l).length-1) 0≠0
 | [],h=>by simp [trimL] at h
 | x::r,h=>by
  have ih:=trim_last r
  simp only [trimL] at h ⊢
  cases e:trimL r with
  | nil =>
   rw [e] at h
   simp only at h ⊢
   split at h
   ·simp at h
   ·rename_i hx; rw [if_neg hx]; simpa using hx
  | cons y t =>
   rw [e] at ih
   simp only [List.length_cons] at ih ⊢
   have:=ih (by simp)
   simpa using this
def Wd (l:List Nat):List Int:=l.map fun n:Nat=>(n:Int)
theorem Wd_len (l:List Nat):(Wd l).length=l.length:=by simp [Wd]
theorem Wd_getD (l:List Nat) (i:Nat):(Wd l).getD i 0=((l.getD i 0:Nat):Int):=by
 unfold Wd
 rw [List.getD_eq_getElem?_getD,List.getD_eq_getElem?_getD,List.getElem?_map]
 cases l[i]? <;> simp
theorem Wd_take (l:List Nat) (n:Nat):(Wd l).take n=Wd (l.take n):=by simp [Wd,List.map_take]
theorem Wd_drop (l:List Nat) (n:Nat):(Wd l).drop n=Wd (l.drop n):=by simp [Wd,List.map_drop]
theorem Wd_set (l:List Nat) (i n:Nat):(Wd l).set i (n:Int)=Wd (l.set i n):=by simp [Wd,List.map_set]
theorem Wd_rep (n:Nat):List.replicate n (0:Int)=Wd (List.replicate n 0):=by simp [Wd]
end VL
namespace VL
open Go Vx
def Ws (l:List Nat):Prop:=(∀ x∈l,x<2^64)∧l.length≤1000000
theorem W173_eq (l:List Nat) (hl:l.length≤1000000) (n:Nat) (hn:n≤l.length) (ht:(trimL l).length≤n) :
  W173_2 ((Wd l,((n:Int),())),())=some (.inl ((Wd l,(((trimL l).length:Int),())),())):=by
 have key:=lfix_ind m173_2 (fun x=>x.1.2.1.toNat)
  (fun x=>∃ n:Nat,n≤l.length∧(trimL l).length≤n∧x=((Wd l,((n:Int),())),()))
  (fun _=>.inl ((Wd l,(((trimL l).length:Int),())),())) ?_ ((Wd l,((n:Int),())),()) ⟨n,hn,ht,rfl⟩
 ·exact key
 intro L x hx hL
 obtain ⟨n,hn,ht,rfl⟩:=hx
 unfold h173_2
 rcases Nat.eq_zero_or_pos n with rfl | hpos
 ·have e1:decide (((0:Nat):Int)>0)=false:=rfl
  simp only [e1,Bool.not_false,Bool.or_true,cond_true,Bool.false_and,cond_false]
  have:(trimL l).length=0:=by omega
  rw [this]
 ·have e0:IntKind.wrap .i64 ((n:Int)-1)=((n-1:Nat):Int):=wsub n 1 (by omega) (by omega)
  have e1:decide ((n:Int)>0)=true:=by simp; omega
  have e2:(decide ((0:Int)≤((n-1:Nat):Int))&&decide (((n-1:Nat):Int)<((Wd l).length:Int)))=true:=by
   rw [Wd_len]; simp; omega
  simp only [e0,e1,e2,Bool.true_or,cond_true,Bool.true_and,Int.toNat_natCast,Wd_getD,nbeq0]
  cases hz:(l.getD (n-1) 0==0) with
  | true =>
   simp only [cond_true]
   refine hL _ ⟨n-1,by omega,?_,rfl⟩ (by simp only [Int.toNat_natCast]; omega)
   rcases Nat.lt_or_ge (n-1) (trimL l).length with h | h
   ·exfalso
    have e:n=(trimL l).length:=by omega
    have:=trim_last l (by omega)
    rw [← e] at this
    exact this (by simpa using hz)
   ·exact h
  | false =>
   simp only [cond_false]
   have:(trimL l).length=n:=by
    rcases Nat.lt_or_ge (n-1) (trimL l).length with h | h
    ·omega
    ·exfalso
     have:=trim_out l (n-1) h
     rw [this] at hz
     simp at hz
   rw [this]
theorem T173_eq (l:List Nat) (hl:l.length≤1000000):T173 (Wd l,())=some (Wd (trimL l),()):=by
 show t173 W173_2 (Wd l)=_
 unfold t173
 have h:=W173_eq l hl l.length (Nat.le_refl _) (trim_len l).1
 rw [Wd_len]
 rw [h]
 have e:(decide ((0:Int)≤((trimL l).length:Int))&&decide (((trimL l).length:Int)≤((Wd l).length:Int)))=true:=by
  rw [Wd_len]; have:=(trim_len l).1; simp; omega
 show (bif (decide ((0:Int)≤((trimL l).length:Int))&&decide (((trimL l).length:Int)≤((Wd l).length:Int))) then some (List.drop (Int.toNat 0) (List.take (Int.toNat ((trimL l).length:Int)) (Wd l)),()) else none)=_
 rw [e,cond_true,Int.toNat_natCast,Int.toNat_zero,List.drop_zero,Wd_take]
 have:=(trim_len l).2
 rw [← this]
def blen (n:Nat):Nat:=if n=0 then 0 else Nat.log2 n+1
theorem blen_lt (n:Nat):n<2^blen n:=by
 unfold blen
 split
 ·subst_vars; decide
 ·exact Nat.lt_log2_self
theorem blen_le {n:Nat} (h:n≠0):2^(blen n-1)≤n:=by
 unfold blen
 rw [if_neg h]
 exact Nat.log2_self_le h
theorem blen_of {n k:Nat} (h1:2^k≤n) (h2:n<2^(k+1)):blen n=k+1:=by
 have hp:=Nat.two_pow_pos k
 have hn:n≠0:=by omega
 have a1:=blen_lt n
 have a2:=blen_le hn
 have b1:blen n-1<k+1:=(Nat.pow_lt_pow_iff_right (by decide)).1 (Nat.lt_of_le_of_lt a2 h2)
 have b2:k<blen n:=(Nat.pow_lt_pow_iff_right (by decide)).1 (Nat.lt_of_le_of_lt h1 a1)
 omega
theorem blen_shift {n k:Nat} (h:2^k≤n):blen n=k+blen (n/2^k):=by
 have hp:=Nat.two_pow_pos k
 have hq:0<n/2^k:=Nat.div_pos h hp
 have a1:=blen_lt (n/2^k)
 have a2:=blen_le (n:=n/2^k) (by omega)
 have hb:0<blen (n/2^k):=by unfold blen; rw [if_neg (by omega)]; omega
 have h1:2^(k+(blen (n/2^k)-1))≤n:=by
  rw [Nat.pow_add]
  calc 2^k*2^(blen (n/2^k)-1)≤2^k*(n/2^k):=Nat.mul_le_mul_left _ a2
   _≤n:=Nat.mul_div_le n _
 have h2:n<2^(k+(blen (n/2^k)-1)+1):=by
  rw [show k+(blen (n/2^k)-1)+1=k+blen (n/2^k) by omega,Nat.pow_add,Nat.mul_comm]
  exact (Nat.div_lt_iff_lt_mul hp).1 a1
 have:=blen_of h1 h2
 omega
theorem len8:∀ i:Nat,i<256→(k_len8.getD i 0).toNat=blen i:=by
 have h:((List.range 256).all fun i=>decide ((k_len8.getD i 0).toNat=blen i))=true:=by decide +kernel
 intro i hi
 have:=List.all_eq_true.1 h i (List.mem_range.2 hi)
 simpa using this
theorem T178_eq (n:Nat) (hn:n<2^64):T178 ((n:Int),())=some ((blen n:Int),()):=by
 have hs:∀ m k:Nat,k≤64→shrI .u64 (m:Int) (k:Int)=((m/2^k:Nat):Int):=fun m k hk=>shrN m k hk
 have s32:∀ m:Nat,shrI .u64 (m:Int) 32=((m/2^32:Nat):Int):=fun m=>hs m 32 (by decide)
 have s16:∀ m:Nat,shrI .u64 (m:Int) 16=((m/2^16:Nat):Int):=fun m=>hs m 16 (by decide)
 have s8:∀ m:Nat,shrI .u64 (m:Int) 8=((m/2^8:Nat):Int):=fun m=>hs m 8 (by decide)
 have ge:∀ m k:Nat,decide ((m:Int)≥(k:Int))=decide (k≤m):=fun m k=>by rw [Bool.eq_iff_iff]; simp
 have g32:∀ m:Nat,decide ((m:Int)≥4294967296)=decide (2^32≤m):=fun m=>ge m (2^32)
 have g16:∀ m:Nat,decide ((m:Int)≥65536)=decide (2^16≤m):=fun m=>ge m (2^16)
 have g8:∀ m:Nat,decide ((m:Int)≥256)=decide (2^8≤m):=fun m=>ge m (2^8)
 have tab:∀ m:Nat,m<256→IntKind.wrap .u8 (m:Int)=(m:Int):=fun m hm=>IntWalk.u8_in _ (by omega)
 have look:∀ (m:Nat) (c:Int) (d:Nat),m<256→c=(d:Int)→d≤56→(bif (decide ((0:Int)≤IntKind.wrap .u8 (m:Int))&&decide (IntKind.wrap .u8 (m:Int)<(256:Int))) then (some (IntKind.wrap .i64 (c+IntKind.wrap .i64 ((UInt8.toNat (k_len8.getD (Int.toNat (IntKind.wrap .u8 (m:Int))) 0):Nat):Int)),()):Option (DenS O178)) else none)=some (((d+blen m:Nat):Int),()):=fun m c d hm hc hd=>by
  have e:(decide ((0:Int)≤(m:Int))&&decide ((m:Int)<(256:Int)))=true:=by simp; omega
  have hb:blen m≤8:=by
   have:=len8 m hm
   rcases Nat.eq_zero_or_pos m with rfl | hpos
   ·decide
   ·have:=blen_le (n:=m) (by omega)
    have h8:blen m-1<8:=(Nat.pow_lt_pow_iff_right (a:=2) (by decide)).1 (Nat.lt_of_le_of_lt this hm)
    omega
  rw [tab m hm,e,cond_true,Int.toNat_natCast,len8 m hm,hc,wrapI (n:=((blen m:Nat):Int)) (by omega),wrapI (by omega)]
  rfl
 show t178 n=_
 unfold t178
 have fin:∀ (k:Nat),2^k≤n→k+blen (n/2^k)=blen n:=fun k h=>(blen_shift h).symm
 have dd:∀ a b:Nat,n/2^a/2^b=n/2^(a+b):=fun a b=>by rw [Nat.div_div_eq_div_mul,← Nat.pow_add]
 have up:∀ a b:Nat,2^b≤n/2^a→2^(a+b)≤n:=fun a b h=>by
  rw [Nat.pow_add,Nat.mul_comm]
  exact (Nat.le_div_iff_mul_le (Nat.two_pow_pos a)).1 h
 have down:∀ a b:Nat,n/2^a<2^b→n<2^(a+b):=fun a b h=>by
  rw [Nat.pow_add,Nat.mul_comm]
  exact (Nat.div_lt_iff_lt_mul (Nat.two_pow_pos a)).1 h
 have small:∀ a:Nat,n<2^(a+8)→n/2^a<256:=fun a h=>by
  rw [Nat.div_lt_iff_lt_mul (Nat.two_pow_pos a),Nat.mul_comm]
  rw [Nat.pow_add] at h; exact h
 simp only [s32,s16,s8,g32,g16,g8]
 by_cases h1:2^32≤n
 ·rw [decide_eq_true h1,cond_true]
  by_cases h2:2^16≤n/2^32
  ·rw [decide_eq_true h2,cond_true]
   by_cases h3:2^8≤n/2^32/2^16
   ·rw [decide_eq_true h3,cond_true]
    rw [dd 32 16] at h3
    have hm:n/2^32/2^16/2^8=n/2^56:=by rw [dd 32 16,dd 48 8]
    refine (look (n/2^32/2^16/2^8) _ 56 (by rw [hm]; exact small 56 hn) rfl (by decide)).trans ?_
    rw [hm,fin 56 (up 48 8 h3)]
   ·rw [decide_eq_false h3,cond_false]
    rw [dd 32 16] at h3
    refine (look (n/2^32/2^16) _ 48 (by rw [dd 32 16]; exact small 48 (down 48 8 (by omega))) rfl (by decide)).trans ?_
    rw [dd 32 16,fin 48 (up 32 16 h2)]
  ·rw [decide_eq_false h2,cond_false]
   by_cases h3:2^8≤n/2^32
   ·rw [decide_eq_true h3,cond_true]
    refine (look (n/2^32/2^8) _ 40 (by rw [dd 32 8]; exact small 40 (down 32 16 (by omega))) rfl (by decide)).trans ?_
    rw [dd 32 8,fin 40 (up 32 8 h3)]
   ·rw [decide_eq_false h3,cond_false]
    refine (look (n/2^32) _ 32 (small 32 (down 32 8 (by omega))) rfl (by decide)).trans ?_
    rw [fin 32 h1]
 ·rw [decide_eq_false h1,cond_false]
  by_cases h2:2^16≤n
  ·rw [decide_eq_true h2,cond_true]
   by_cases h3:2^8≤n/2^16
   ·rw [decide_eq_true h3,cond_true]
    refine (look (n/2^16/2^8) _ 24 (by rw [dd 16 8]; exact small 24 (by omega)) rfl (by decide)).trans ?_
    rw [dd 16 8,fin 24 (up 16 8 h3)]
   ·rw [decide_eq_false h3,cond_false]
    refine (look (n/2^16) _ 16 (small 16 (down 16 8 (by omega))) rfl (by decide)).trans ?_
    rw [fin 16 h2]
  ·rw [decide_eq_false h2,cond_false]
   by_cases h3:2^8≤n
   ·rw [decide_eq_true h3,cond_true]
    refine (look (n/2^8) _ 8 (small 8 (by omega)) rfl (by decide)).trans ?_
    rw [fin 8 h3]
   ·rw [decide_eq_false h3,cond_false]
    refine (look n 0 0 (by omega) rfl (by decide)).trans ?_
    rw [Nat.zero_add]
end VL
namespace VL
open Go Vx
theorem nv_append (B:Nat):∀ (l m:List Nat),nv B (l++m)=nv B l+B^l.length*nv B m
 | [],m=>by simp [nv]
 | x::r,m=>by
  simp only [List.cons_append,nv,List.length_cons]
  rw [nv_append B r m,Nat.pow_succ,Nat.mul_add,Nat.add_assoc]
  congr 2
  rw [Nat.mul_comm (B^r.length) B,Nat.mul_assoc]
theorem nv_lt {B:Nat} (hB:2≤B):∀ (l:List Nat),(∀ x∈l,x<B)→nv B l<B^l.length
 | [],_=>by simp [nv]
 | x::r,h=>by
  have ih:=nv_lt hB r fun y hy=>h y (by simp [hy])
  have hx:=h x (by simp)
  simp only [nv,List.length_cons,Nat.pow_succ]
  have:B*nv B r≤B*(B^r.length-1):=Nat.mul_le_mul_left _ (by omega)
  have hp:0<B^r.length:=Nat.pow_pos (by omega)
  rw [Nat.mul_sub] at this
  have h1:B*1≤B*B^r.length:=Nat.mul_le_mul_left _ hp
  rw [Nat.mul_comm (B^r.length) B]
  omega
theorem nv_split (B:Nat) (l:List Nat) (i:Nat) (h:i≤l.length):nv B l=nv B (l.take i)+B^i*nv B (l.drop i):=by
 conv=>lhs; rw [← List.take_append_drop i l]
 rw [nv_append]
 simp [h]
theorem nv_trim {B:Nat} (hB:2≤B) {l:List Nat} (h:∀ x∈l,x<B):nv B (trimL l)=nv B l:=by
 rw [trim_dg hB l h,nv_dg hB]
theorem trim_mem {l:List Nat} {x:Nat} (h:x∈trimL l):x∈l:=by
 rw [(trim_len l).2] at h
 exact List.mem_of_mem_take h
theorem trim_get {l:List Nat} {i:Nat} (h:i<(trimL l).length):(trimL l)[i]? = l[i]?:=by
 have:(trimL l)[i]? = (l.take (trimL l).length)[i]?:=congrArg (fun t:List Nat=>t[i]?) (trim_len l).2
 rw [this,List.getElem?_take_of_lt h]
theorem blen_split {a b k:Nat} (ha:a<2^k) (hb:0<b):blen (a+2^k*b)=k+blen b:=by
 have hp:=Nat.two_pow_pos k
 have h1:2^k*1≤2^k*b:=Nat.mul_le_mul_left _ hb
 rw [blen_shift (n:=a+2^k*b) (k:=k) (by omega),Nat.add_mul_div_left _ _ hp,Nat.div_eq_of_lt ha,Nat.zero_add]
theorem pow64 (i:Nat):(2^64)^i=2^(64*i):=by rw [← Nat.pow_mul]
theorem blen_row {l:List Nat} (h:∀ x∈l,x<2^64) (hl:0<(trimL l).length):blen (nv (2^64) l)=64*((trimL l).length-1)+blen (l.getD ((trimL l).length-1) 0):=by
 have hlast:=trim_last l hl
 have hle:=(trim_len l).1
 rw [← nv_trim (by decide) h]
 have hm:∀ x∈trimL l,x<2^64:=fun x hx=>h x (trim_mem hx)
 rw [nv_split _ (trimL l) ((trimL l).length-1) (by omega),pow64]
 have hd:(trimL l).drop ((trimL l).length-1)=[l.getD ((trimL l).length-1) 0]:=by
  have hlt:(trimL l).length-1<(trimL l).length:=by omega
  rw [List.drop_eq_getElem_cons hlt]
  have e1:(trimL l).length-1+1=(trimL l).length:=by omega
  rw [e1,List.drop_length]
  congr 1
  have:(trimL l)[(trimL l).length-1]? = l[(trimL l).length-1]?:=trim_get hlt
  rw [List.getElem?_eq_getElem hlt] at this
  rw [List.getD_eq_getElem?_getD,← this]
  rfl
 rw [hd]
 have hlow:=nv_lt (B:=2^64) (by decide) ((trimL l).take ((trimL l).length-1)) fun x hx=>hm x (List.mem_of_mem_take hx)
 rw [List.length_take,Nat.min_eq_left (by omega),pow64] at hlow
 have:nv (2^64) [l.getD ((trimL l).length-1) 0]=l.getD ((trimL l).length-1) 0:=by simp [nv]
 rw [this]
 exact blen_split hlow (by omega)
theorem trim_nil {l:List Nat} (h:∀ x∈l,x<2^64) (h0:(trimL l).length=0):nv (2^64) l=0:=by
 have:trimL l=[]:=List.eq_nil_of_length_eq_zero h0
 rw [← nv_trim (by decide) h,this]; rfl
theorem getD_lt {l:List Nat} {B:Nat} (hB:0<B) (h:∀ x∈l,x<B) (i:Nat):l.getD i 0<B:=by
 rw [List.getD_eq_getElem?_getD]
 cases e:l[i]? with
 | none=>exact hB
 | some x=>exact h x (List.mem_of_getElem? e)
theorem T151_eq (l:List Nat) (hl:Ws l):T151 (Wd l,())=some ((blen (nv (2^64) l):Int),()):=by
 obtain ⟨h,hlen⟩:=hl
 show t151 S173.pre S173.F S178.pre S178.F (Wd l)=_
 unfold t151
 have p0:=T173_eq l hlen
 have hle:=(trim_len l).1
 simp only [pre173 p0,fun173 p0,cond_true,Wd_len]
 rcases Nat.eq_zero_or_pos (trimL l).length with h0 | h0
 ·rw [h0,trim_nil h h0]; rfl
 ·have e0:(((trimL l).length:Int)==0)=false:=by rw [nbeq0]; exact beq_false_of_ne (by omega)
  have e1:IntKind.wrap .i64 (((trimL l).length:Int)-1)=(((trimL l).length-1:Nat):Int):=wsub (trimL l).length 1 (by omega) (by omega)
  have e2:(decide ((0:Int)≤(((trimL l).length-1:Nat):Int))&&decide ((((trimL l).length-1:Nat):Int)<((trimL l).length:Int)))=true:=by simp only [Bool.and_eq_true,decide_eq_true_eq]; omega
  have e3:(Wd (trimL l)).getD ((trimL l).length-1) 0=((l.getD ((trimL l).length-1) 0:Nat):Int):=by
   rw [Wd_getD]
   congr 1
   rw [List.getD_eq_getElem?_getD,List.getD_eq_getElem?_getD]
   rw [trim_get (by omega)]
  have hd:=getD_lt (by decide) h ((trimL l).length-1)
  have p1:=T178_eq _ hd
  have hb:blen (l.getD ((trimL l).length-1) 0)≤64:=by
   rcases Nat.eq_zero_or_pos (l.getD ((trimL l).length-1) 0) with z | z
   ·rw [z]; decide
   ·have:=blen_le (n:=l.getD ((trimL l).length-1) 0) (by omega)
    have:blen (l.getD ((trimL l).length-1) 0)-1<64:=(Nat.pow_lt_pow_iff_right (a:=2) (by decide)).1 (Nat.lt_of_le_of_lt this hd)
    omega
  rw [e0,e1,e2,cond_false,cond_true,Int.toNat_natCast,e3]
  simp only [pre178 p1,fun178 p1,cond_true]
  rw [blen_row h h0,wrapI (n:=64*(((trimL l).length-1:Nat):Int)) (by omega),wrapI (by omega)]
  congr 2
end VL
namespace VL
open Go Vx
theorem wrapN (x:Nat):IntKind.wrap .u64 (x:Int)=((x%2^64:Nat):Int):=by
 simp [IntKind.wrap,IntKind.bits,IntKind.signed]
 try omega
theorem shlN (x n:Nat) (hn:n≤64):shlI .u64 (x:Int) (n:Int)=((x*2^n%2^64:Nat):Int):=by
 have hm:(min (n:Int).toNat IntKind.u64.bits)=n:=by simp [IntKind.bits]; omega
 unfold shlI
 rw [hm]
 have e:(x:Int)*2^n=((x*2^n:Nat):Int):=by simp
 rw [e]
 exact wrapN _
theorem orN {a b k:Nat} (ha:a<2^k) (h:a+b*2^k<2^64):orI .u64 (a:Int) ((b*2^k:Nat):Int)=((a+b*2^k:Nat):Int):=by
 have key:(BitVec.ofInt 64 (a:Int) ||| BitVec.ofInt 64 ((b*2^k:Nat):Int)).toNat=a+b*2^k:=by
  rw [BitVec.toNat_or,ofInt_u64 (by omega),ofInt_u64 (by omega),Nat.mul_comm b,Nat.or_comm,← Nat.two_pow_add_eq_or_of_lt ha]
  omega
 show IntKind.u64.wrap (((BitVec.ofInt 64 (a:Int) ||| BitVec.ofInt 64 ((b*2^k:Nat):Int)).toNat:Nat):Int)=_
 rw [key]
 exact wrapU (by omega)
def shrL (s:Nat):List Nat→List Nat
 | []=>[]
 | x::r=>(x/2^s+(r.getD 0 0%2^s)*2^(64-s))::shrL s r
theorem shrL_len (s:Nat):∀ l,(shrL s l).length=l.length
 | []=>rfl
 | _::r=>by simp [shrL,shrL_len s r]
theorem shrL_get (s:Nat):∀ (l:List Nat) (i:Nat),i<l.length→(shrL s l)[i]? = some (l.getD i 0/2^s+(l.getD (i+1) 0%2^s)*2^(64-s))
 | [],i,h=>by simp at h
 | x::r,0,_=>by simp [shrL]
 | x::r,i+1,h=>by
  simp only [shrL,List.getElem?_cons_succ]
  rw [shrL_get s r i (by simpa using h)]
  simp
theorem pow_parts {s:Nat} (hs:s≤64):2^64=2^s*2^(64-s):=by rw [← Nat.pow_add]; congr 1; omega
theorem shr_word {s:Nat} (hs:s≤64) {x y:Nat} (hx:x<2^64):x/2^s<2^(64-s)∧x/2^s+(y%2^s)*2^(64-s)<2^64:=by
 have hp:=Nat.two_pow_pos s
 have h1:x/2^s<2^(64-s):=by
  rw [Nat.div_lt_iff_lt_mul hp,Nat.mul_comm,← pow_parts hs]; exact hx
 refine ⟨h1,?_⟩
 have h2:y%2^s+1≤2^s:=Nat.mod_lt _ hp
 have h3:=Nat.mul_le_mul_right (2^(64-s)) h2
 rw [← pow_parts hs,Nat.add_mul,Nat.one_mul] at h3
 omega
theorem nv_mod {B:Nat} {s:Nat} (hB:B%2^s=0):∀ l:List Nat,nv B l%2^s=l.getD 0 0%2^s
 | []=>by simp [nv]
 | x::r=>by
  simp only [nv,List.getD_cons_zero]
  obtain ⟨c,hc⟩:=Nat.dvd_of_mod_eq_zero hB
  rw [hc,Nat.mul_assoc,Nat.add_mul_mod_self_left]
theorem nv_shrL {s:Nat} (hs:s≤64):∀ l:List Nat,nv (2^64) (shrL s l)=nv (2^64) l/2^s
 | []=>by simp [shrL,nv]
 | x::r=>by
  have ih:=nv_shrL hs r
  simp only [shrL,nv]
  rw [ih]
  have hp:=Nat.two_pow_pos s
  have hm:=nv_mod (B:=2^64) (s:=s) (by rw [pow_parts hs]; exact Nat.mul_mod_right _ _) r
  rw [← hm]
  have hN:nv (2^64) r=2^s*(nv (2^64) r/2^s)+nv (2^64) r%2^s:=(Nat.div_add_mod _ _).symm
  generalize nv (2^64) r/2^s=q at *
  generalize nv (2^64) r%2^s=t at *
  rw [hN]
  have e:x+2^64*(2^s*q+t)=x+2^s*(2^64*q+2^(64-s)*t):=by
   rw [Nat.mul_add,Nat.mul_add]
   have e1:2^64*(2^s*q)=2^s*(2^64*q):=by rw [← Nat.mul_assoc,← Nat.mul_assoc,Nat.mul_comm (2^64) (2^s)]
   have e2:2^64*t=2^s*(2^(64-s)*t):=by rw [← Nat.mul_assoc,← pow_parts hs]
   rw [e1,e2]
  rw [e,Nat.add_mul_div_left _ _ hp,Nat.mul_comm t]
  omega
end VL
namespace VL
open Go Vx
theorem set_next {O:List Nat} {i v:Nat} (hi:i<O.length) (hv:O[i]? = some v):(O.take i++List.replicate (O.length-i) 0).set i v=O.take (i+1)++List.replicate (O.length-(i+1)) 0:=by
 have e:O.length-i=(O.length-(i+1))+1:=by omega
 have hl:(O.take i).length=i:=by simp; omega
 rw [e,List.replicate_succ,List.set_append_right _ _ (by omega),hl,Nat.sub_self,List.set_cons_zero]
 rw [List.take_succ,hv]
 simp
theorem getD_set {l:List Nat} {i v:Nat} (hi:i<l.length):(l.set i v).getD i 0=v:=by
 rw [List.getD_eq_getElem?_getD,List.getElem?_set_self hi]; rfl
theorem drop_getD (l:List Nat) (w i:Nat):(l.drop w).getD i 0=l.getD (w+i) 0:=by
 rw [List.getD_eq_getElem?_getD,List.getD_eq_getElem?_getD,List.getElem?_drop]
theorem quoN (n:Nat) (hn:n≤1000000000):quoI .i64 (n:Int) 64=((n/64:Nat):Int):=by
 unfold quoI
 have e:(n:Int).tdiv 64=((n/64:Nat):Int):=rfl
 rw [e,wrapI (by omega)]
theorem W1173_eq (l:List Nat) (hl:l.length≤1000000) (n:Nat) (hn:n≤l.length) (ht:(trimL l).length≤n) :
  W1173_2 (((),((n:Int),())),(Wd l,()))=some (.inl (((),(((trimL l).length:Int),())),(Wd l,()))):=by
 have key:=lfix_ind m1173_2 (fun x=>x.1.2.1.toNat)
  (fun x=>∃ n:Nat,n≤l.length∧(trimL l).length≤n∧x=(((),((n:Int),())),(Wd l,())))
  (fun _=>.inl (((),(((trimL l).length:Int),())),(Wd l,()))) ?_ (((),((n:Int),())),(Wd l,())) ⟨n,hn,ht,rfl⟩
 ·exact key
 intro L x hx hL
 obtain ⟨n,hn,ht,rfl⟩:=hx
 unfold h1173_2
 rcases Nat.eq_zero_or_pos n with rfl | hpos
 ·have e1:decide (((0:Nat):Int)>0)=false:=rfl
  simp only [e1,Bool.not_false,Bool.or_true,cond_true,Bool.false_and,cond_false]
  have:(trimL l).length=0:=by omega
  rw [this]
 ·have e0:IntKind.wrap .i64 ((n:Int)-1)=((n-1:Nat):Int):=wsub n 1 (by omega) (by omega)
  have e1:decide ((n:Int)>0)=true:=by simp; omega
  have e2:(decide ((0:Int)≤((n-1:Nat):Int))&&decide (((n-1:Nat):Int)<((Wd l).length:Int)))=true:=by
   rw [Wd_len]; simp; omega
  simp only [e0,e1,e2,Bool.true_or,cond_true,Bool.true_and,Int.toNat_natCast,Wd_getD,nbeq0]
  cases hz:(l.getD (n-1) 0==0) with
  | true =>
   simp only [cond_true]
   refine hL _ ⟨n-1,by omega,?_,rfl⟩ (by simp only [Int.toNat_natCast]; omega)
   rcases Nat.lt_or_ge (n-1) (trimL l).length with h | h
   ·exfalso
    have e:n=(trimL l).length:=by omega
    have:=trim_last l (by omega)
    rw [← e] at this
    exact this (by simpa using hz)
   ·exact h
  | false =>
   simp only [cond_false]
   have:(trimL l).length=n:=by
    rcases Nat.lt_or_ge (n-1) (trimL l).length with h | h
    ·omega
    ·exfalso
     have:=trim_out l (n-1) h
     rw [this] at hz
     simp at hz
   rw [this]
theorem T1173_eq (l:List Nat) (hl:l.length≤1000000):T1173 (Wd l,())=some (Wd (trimL l),()):=by
 show t1173 W1173_2 (Wd l)=_
 unfold t1173
 have h:=W1173_eq l hl l.length (Nat.le_refl _) (trim_len l).1
 rw [Wd_len]
 rw [h]
 have e:(decide ((0:Int)≤((trimL l).length:Int))&&decide (((trimL l).length:Int)≤((Wd l).length:Int)))=true:=by
  rw [Wd_len]; have:=(trim_len l).1; simp; omega
 show (bif (decide ((0:Int)≤((trimL l).length:Int))&&decide (((trimL l).length:Int)≤((Wd l).length:Int))) then some (List.take (Int.toNat ((trimL l).length:Int)) (Wd l),()) else none)=_
 rw [e,cond_true,Int.toNat_natCast,Wd_take]
 have:=(trim_len l).2
 rw [← this]
theorem W171_eq (a:List Nat) (ha:∀ x∈a,x<2^64) (hlen:a.length≤1000000) (w s:Nat) (hs:s<64) (hw:w≤a.length) (i:Nat) (hi:i≤(a.drop w).length) :
  W171_7 ((((a.drop w).length:Int),(Wd a,((w:Int),((s:Int),((i:Int),((),())))))),(Wd ((shrL s (a.drop w)).take i++List.replicate ((shrL s (a.drop w)).length-i) 0),()))=some (.inl (((),()),(Wd (shrL s (a.drop w)),()))):=by
 have key:=lfix_ind (m171_7 S173.pre S173.F) (fun x=>(a.drop w).length-x.1.2.2.2.2.1.toNat)
  (fun x=>∃ i:Nat,i≤(a.drop w).length∧x=((((a.drop w).length:Int),(Wd a,((w:Int),((s:Int),((i:Int),((),())))))),(Wd ((shrL s (a.drop w)).take i++List.replicate ((shrL s (a.drop w)).length-i) 0),())))
  (fun _=>.inl (((),()),(Wd (shrL s (a.drop w)),()))) ?_ _ ⟨i,hi,rfl⟩
 ·exact key
 intro L x hx hL
 obtain ⟨i,hi,rfl⟩:=hx
 unfold h171_7
 have hdl:(a.drop w).length=a.length-w:=by simp
 have hol:=shrL_len s (a.drop w)
 rcases Nat.lt_or_ge i (a.drop w).length with hlt | hge
 ·have e1:decide ((i:Int)<((a.drop w).length:Int))=true:=by simp; omega
  have e2:IntKind.wrap .i64 ((w:Int)+(i:Int))=((w+i:Nat):Int):=by rw [wrapI (by omega)]; omega
  have e3:(decide ((0:Int)≤((w+i:Nat):Int))&&decide (((w+i:Nat):Int)<((Wd a).length:Int)))=true:=by
   rw [Wd_len]; simp only [Bool.and_eq_true,decide_eq_true_eq]; omega
  have e4:decide ((0:Int)≤(s:Int))=true:=by simp
  have houtl:((shrL s (a.drop w)).take i++List.replicate ((shrL s (a.drop w)).length-i) 0).length=(a.drop w).length:=by simp; omega
  generalize hout:(shrL s (a.drop w)).take i++List.replicate ((shrL s (a.drop w)).length-i) 0=out at houtl ⊢
  have e5:(decide ((0:Int)≤(i:Int))&&decide ((i:Int)<((Wd out).length:Int)))=true:=by
   rw [Wd_len]; simp only [Bool.and_eq_true,decide_eq_true_eq]; omega
  have e6:IntKind.wrap .i64 (((w+i:Nat):Int)+1)=((w+i+1:Nat):Int):=by rw [wrapI (by omega)]; omega
  have e7:IntKind.wrap .i64 ((i:Int)+1)=((i+1:Nat):Int):=by rw [wrapI (by omega)]; omega
  have e8:IntKind.wrap .i64 (64-(s:Int))=((64-s:Nat):Int):=wsub 64 s (by omega) (by omega)
  have hx:=getD_lt (by decide) ha (w+i)
  have hget:=shrL_get s (a.drop w) i hlt
  rw [drop_getD,drop_getD,← Nat.add_assoc] at hget
  have hnext:=fun v (hv:(shrL s (a.drop w))[i]? = some v)=>set_next (by omega) hv
  rw [hout] at hnext
  have e9:∀ v:Nat,(decide ((0:Int)≤(i:Int))&&decide ((i:Int)<((Wd (out.set i v)).length:Int)))=true:=fun v=>by
   rw [Wd_len,List.length_set]; simp only [Bool.and_eq_true,decide_eq_true_eq]; omega
  simp only [e1,e2,e3,e4,e5,e6,e7,e8,cond_true,Int.toNat_natCast,Wd_getD,shrN _ s (by omega),Wd_set,e9]
  rcases Nat.lt_or_ge (w+i+1) a.length with h1 | h1
  ·have f1:decide (((w+i+1:Nat):Int)<((Wd a).length:Int))=true:=by rw [Wd_len]; exact decide_eq_true (by omega)
   have f2:decide ((0:Int)≤((w+i+1:Nat):Int))=true:=decide_eq_true (by omega)
   have f3:decide ((0:Int)≤((64-s:Nat):Int))=true:=decide_eq_true (by omega)
   simp only [f1,f2,f3,Bool.and_self,cond_true]
   have hw2:=shr_word (s:=s) (y:=a.getD (w+i+1) 0) (by omega) hx
   have g1:a.getD (w+i+1) 0*2^(64-s)%2^64=(a.getD (w+i+1) 0%2^s)*2^(64-s):=by
    rw [pow_parts (s:=s) (by omega),Nat.mul_mod_mul_right]
   rw [getD_set (by omega),shlN _ _ (by omega),g1,orN hw2.1 hw2.2,Wd_set,List.set_set,hnext _ hget]
   exact hL _ ⟨i+1,by omega,rfl⟩ (by simp only [Int.toNat_natCast]; omega)
  ·have f1:decide (((w+i+1:Nat):Int)<((Wd a).length:Int))=false:=by rw [Wd_len]; exact decide_eq_false (by omega)
   have hz:a.getD (w+i+1) 0=0:=by rw [List.getD_eq_getElem?_getD,List.getElem?_eq_none h1]; rfl
   rw [hz,Nat.zero_mod,Nat.zero_mul,Nat.add_zero] at hget
   simp only [f1,cond_false]
   rw [hnext _ hget]
   exact hL _ ⟨i+1,by omega,rfl⟩ (by simp only [Int.toNat_natCast]; omega)
 ·have hie:i=(a.drop w).length:=by omega
  subst hie
  have e1:decide (((a.drop w).length:Int)<((a.drop w).length:Int))=false:=by simp
  simp only [e1,cond_false]
  have:(shrL s (a.drop w)).take (a.drop w).length++List.replicate ((shrL s (a.drop w)).length-(a.drop w).length) 0=shrL s (a.drop w):=by
   rw [← hol,List.take_length,Nat.sub_self,List.replicate_zero,List.append_nil]
  rw [this]
theorem T171_eq (l:List Nat) (hl:Ws l) (n:Nat) (hn:n≤100000000):T171 (Wd l,(n:Int),())=some (Wd (dg (2^64) (nv (2^64) l/2^n)),()):=by
 obtain ⟨h,hlen⟩:=hl
 show t171 S173.pre S173.F W171_7 (Wd l) n=_
 unfold t171
 have p0:=T173_eq l hlen
 have hB:2≤2^64:=by decide
 have hle:=(trim_len l).1
 have hm:∀ x∈trimL l,x<2^64:=fun x hx=>h x (trim_mem hx)
 have hv:=nv_trim hB h
 have hsplit:2^n=(2^64)^(n/64)*2^(n%64):=by rw [pow64,← Nat.pow_add]; congr 1; omega
 simp only [pre173 p0,fun173 p0,cond_true,Wd_len,quoN n (by omega)]
 rcases Nat.lt_or_ge (n/64) (trimL l).length with h1 | h1
 ·have e1:decide (((n/64:Nat):Int)≥((trimL l).length:Int))=false:=by simp; omega
  have e2:IntKind.wrap .i64 (((trimL l).length:Int)-((n/64:Nat):Int))=(((trimL l).drop (n/64)).length:Int):=by
   rw [wsub _ _ (by omega) (by omega)]; simp
  have hdl:((trimL l).drop (n/64)).length≤1000000:=by simp; omega
  have e3:(decide ((0:Int)≤(((trimL l).drop (n/64)).length:Int))&&decide ((((trimL l).drop (n/64)).length:Int)*8≤140737488355328))=true:=by
   simp only [Bool.and_eq_true,decide_eq_true_eq]; omega
  have e4:Int.tmod (n:Int) 64=((n%64:Nat):Int):=rfl
  have hw:=W171_eq (trimL l) hm (by omega) (n/64) (n%64) (Nat.mod_lt _ (by decide)) (by omega) 0 (Nat.zero_le _)
  rw [List.take_zero,List.nil_append,Nat.sub_zero,shrL_len] at hw
  rw [e1,e2,e3,cond_false,cond_true,Int.toNat_natCast,e4,Wd_rep,Wd_len,List.length_replicate]
  rw [show ((0:Nat):Int)=0 from rfl] at hw
  rw [hw]
  have hos:∀ x∈shrL (n%64) ((trimL l).drop (n/64)),x<2^64:=fun x hx=>by
   obtain ⟨i,hi⟩:=List.getElem?_of_mem hx
   have hil:i<((trimL l).drop (n/64)).length:=by rw [← shrL_len (n%64)]; exact (List.getElem?_eq_some_iff.1 hi).1
   rw [shrL_get _ _ i hil] at hi
   cases hi
   exact (shr_word (s:=n%64) (by omega) (getD_lt (by decide) (fun y hy=>hm y (List.mem_of_mem_drop hy)) i)).2
  have p1:=T173_eq (shrL (n%64) ((trimL l).drop (n/64))) (by rw [shrL_len]; exact hdl)
  show (bif S173.pre (Wd (shrL (n%64) ((trimL l).drop (n/64))),()) then some (S173.F (Wd (shrL (n%64) ((trimL l).drop (n/64))),())) else none)=_
  rw [pre173 p1,fun173 p1,cond_true,trim_dg hB _ hos,nv_shrL (by omega)]
  have hd:nv (2^64) ((trimL l).drop (n/64))=nv (2^64) l/(2^64)^(n/64):=by
   rw [← hv,nv_split _ (trimL l) (n/64) (by omega)]
   have hlow:=nv_lt hB ((trimL l).take (n/64)) fun x hx=>hm x (List.mem_of_mem_take hx)
   rw [List.length_take,Nat.min_eq_left (by omega)] at hlow
   rw [Nat.add_mul_div_left _ _ (Nat.pow_pos (by decide)),Nat.div_eq_of_lt hlow,Nat.zero_add]
  rw [hd,Nat.div_div_eq_div_mul,← hsplit]
  rfl
 ·have e1:decide (((n/64:Nat):Int)≥((trimL l).length:Int))=true:=by simp; omega
  rw [e1,cond_true]
  have hz:nv (2^64) l/2^n=0:=by
   rw [← hv]
   have:=nv_lt hB (trimL l) hm
   apply Nat.div_eq_of_lt
   refine Nat.lt_of_lt_of_le this ?_
   rw [pow64]
   exact Nat.pow_le_pow_right (by decide) (by omega)
  rw [hz,dg_zero]; rfl
theorem W1171_eq (a:List Nat) (ha:∀ x∈a,x<2^64) (hlen:a.length≤1000000) (w s:Nat) (hs:s<64) (hw:w≤a.length) (i:Nat) (hi:i≤(a.drop w).length) :
  W1171_7 ((((a.drop w).length:Int),(Wd a,((w:Int),((s:Int),((i:Int),((),())))))),(Wd ((shrL s (a.drop w)).take i++List.replicate ((shrL s (a.drop w)).length-i) 0),()))=some (.inl (((),()),(Wd (shrL s (a.drop w)),()))):=by
 have key:=lfix_ind (m1171_7 S1173.pre S1173.F S173.pre S173.F) (fun x=>(a.drop w).length-x.1.2.2.2.2.1.toNat)
  (fun x=>∃ i:Nat,i≤(a.drop w).length∧x=((((a.drop w).length:Int),(Wd a,((w:Int),((s:Int),((i:Int),((),())))))),(Wd ((shrL s (a.drop w)).take i++List.replicate ((shrL s (a.drop w)).length-i) 0),())))
  (fun _=>.inl (((),()),(Wd (shrL s (a.drop w)),()))) ?_ _ ⟨i,hi,rfl⟩
 ·exact key
 intro L x hx hL
 obtain ⟨i,hi,rfl⟩:=hx
 unfold h1171_7
 have hdl:(a.drop w).length=a.length-w:=by simp
 have hol:=shrL_len s (a.drop w)
 rcases Nat.lt_or_ge i (a.drop w).length with hlt | hge
 ·have e1:decide ((i:Int)<((a.drop w).length:Int))=true:=by simp; omega
  have e2:IntKind.wrap .i64 ((w:Int)+(i:Int))=((w+i:Nat):Int):=by rw [wrapI (by omega)]; omega
  have e3:(decide ((0:Int)≤((w+i:Nat):Int))&&decide (((w+i:Nat):Int)<((Wd a).length:Int)))=true:=by
   rw [Wd_len]; simp only [Bool.and_eq_true,decide_eq_true_eq]; omega
  have e4:decide ((0:Int)≤(s:Int))=true:=by simp
  have houtl:((shrL s (a.drop w)).take i++List.replicate ((shrL s (a.drop w)).length-i) 0).length=(a.drop w).length:=by simp; omega
  generalize hout:(shrL s (a.drop w)).take i++List.replicate ((shrL s (a.drop w)).length-i) 0=out at houtl ⊢
  have e5:(decide ((0:Int)≤(i:Int))&&decide ((i:Int)<((Wd out).length:Int)))=true:=by
   rw [Wd_len]; simp only [Bool.and_eq_true,decide_eq_true_eq]; omega
  have e6:IntKind.wrap .i64 (((w+i:Nat):Int)+1)=((w+i+1:Nat):Int):=by rw [wrapI (by omega)]; omega
  have e7:IntKind.wrap .i64 ((i:Int)+1)=((i+1:Nat):Int):=by rw [wrapI (by omega)]; omega
  have e8:IntKind.wrap .i64 (64-(s:Int))=((64-s:Nat):Int):=wsub 64 s (by omega) (by omega)
  have hx:=getD_lt (by decide) ha (w+i)
  have hget:=shrL_get s (a.drop w) i hlt
  rw [drop_getD,drop_getD,← Nat.add_assoc] at hget
  have hnext:=fun v (hv:(shrL s (a.drop w))[i]? = some v)=>set_next (by omega) hv
  rw [hout] at hnext
  have e9:∀ v:Nat,(decide ((0:Int)≤(i:Int))&&decide ((i:Int)<((Wd (out.set i v)).length:Int)))=true:=fun v=>by
   rw [Wd_len,List.length_set]; simp only [Bool.and_eq_true,decide_eq_true_eq]; omega
  simp only [e1,e2,e3,e4,e5,e6,e7,e8,cond_true,Int.toNat_natCast,Wd_getD,shrN _ s (by omega),Wd_set,e9]
  rcases Nat.lt_or_ge (w+i+1) a.length with h1 | h1
  ·have f1:decide (((w+i+1:Nat):Int)<((Wd a).length:Int))=true:=by rw [Wd_len]; exact decide_eq_true (by omega)
   have f2:decide ((0:Int)≤((w+i+1:Nat):Int))=true:=decide_eq_true (by omega)
   have f3:decide ((0:Int)≤((64-s:Nat):Int))=true:=decide_eq_true (by omega)
   simp only [f1,f2,f3,Bool.and_self,cond_true]
   have hw2:=shr_word (s:=s) (y:=a.getD (w+i+1) 0) (by omega) hx
   have g1:a.getD (w+i+1) 0*2^(64-s)%2^64=(a.getD (w+i+1) 0%2^s)*2^(64-s):=by
    rw [pow_parts (s:=s) (by omega),Nat.mul_mod_mul_right]
   rw [getD_set (by omega),shlN _ _ (by omega),g1,orN hw2.1 hw2.2,Wd_set,List.set_set,hnext _ hget]
   exact hL _ ⟨i+1,by omega,rfl⟩ (by simp only [Int.toNat_natCast]; omega)
  ·have f1:decide (((w+i+1:Nat):Int)<((Wd a).length:Int))=false:=by rw [Wd_len]; exact decide_eq_false (by omega)
   have hz:a.getD (w+i+1) 0=0:=by rw [List.getD_eq_getElem?_getD,List.getElem?_eq_none h1]; rfl
   rw [hz,Nat.zero_mod,Nat.zero_mul,Nat.add_zero] at hget
   simp only [f1,cond_false]
   rw [hnext _ hget]
   exact hL _ ⟨i+1,by omega,rfl⟩ (by simp only [Int.toNat_natCast]; omega)
 ·have hie:i=(a.drop w).length:=by omega
  subst hie
  have e1:decide (((a.drop w).length:Int)<((a.drop w).length:Int))=false:=by simp
  simp only [e1,cond_false]
  have:(shrL s (a.drop w)).take (a.drop w).length++List.replicate ((shrL s (a.drop w)).length-(a.drop w).length) 0=shrL s (a.drop w):=by
   rw [← hol,List.take_length,Nat.sub_self,List.replicate_zero,List.append_nil]
  rw [this]
theorem T1171_eq (l:List Nat) (hl:Ws l) (n:Nat) (hn:n≤100000000):T1171 (Wd l,(n:Int),())=some (Wd (dg (2^64) (nv (2^64) l/2^n)),()):=by
 obtain ⟨h,hlen⟩:=hl
 show t1171 S1173.pre S1173.F S173.pre S173.F W1171_7 (Wd l) n=_
 unfold t1171
 have p0:=T173_eq l hlen
 have hB:2≤2^64:=by decide
 have hle:=(trim_len l).1
 have hm:∀ x∈trimL l,x<2^64:=fun x hx=>h x (trim_mem hx)
 have hv:=nv_trim hB h
 have hsplit:2^n=(2^64)^(n/64)*2^(n%64):=by rw [pow64,← Nat.pow_add]; congr 1; omega
 simp only [pre173 p0,fun173 p0,cond_true,Wd_len,quoN n (by omega)]
 rcases Nat.lt_or_ge (n/64) (trimL l).length with h1 | h1
 ·have e1:decide (((n/64:Nat):Int)≥((trimL l).length:Int))=false:=by simp; omega
  have e2:IntKind.wrap .i64 (((trimL l).length:Int)-((n/64:Nat):Int))=(((trimL l).drop (n/64)).length:Int):=by
   rw [wsub _ _ (by omega) (by omega)]; simp
  have hdl:((trimL l).drop (n/64)).length≤1000000:=by simp; omega
  have e3:(decide ((0:Int)≤(((trimL l).drop (n/64)).length:Int))&&decide ((((trimL l).drop (n/64)).length:Int)*8≤140737488355328))=true:=by
   simp only [Bool.and_eq_true,decide_eq_true_eq]; omega
  have e4:Int.tmod (n:Int) 64=((n%64:Nat):Int):=rfl
  have hw:=W1171_eq (trimL l) hm (by omega) (n/64) (n%64) (Nat.mod_lt _ (by decide)) (by omega) 0 (Nat.zero_le _)
  rw [List.take_zero,List.nil_append,Nat.sub_zero,shrL_len] at hw
  rw [e1,e2,e3,cond_false,cond_true,Int.toNat_natCast,e4,Wd_rep,Wd_len,List.length_replicate]
  rw [show ((0:Nat):Int)=0 from rfl] at hw
  rw [hw]
  have hos:∀ x∈shrL (n%64) ((trimL l).drop (n/64)),x<2^64:=fun x hx=>by
   obtain ⟨i,hi⟩:=List.getElem?_of_mem hx
   have hil:i<((trimL l).drop (n/64)).length:=by rw [← shrL_len (n%64)]; exact (List.getElem?_eq_some_iff.1 hi).1
   rw [shrL_get _ _ i hil] at hi
   cases hi
   exact (shr_word (s:=n%64) (by omega) (getD_lt (by decide) (fun y hy=>hm y (List.mem_of_mem_drop hy)) i)).2
  have p1:=T1173_eq (shrL (n%64) ((trimL l).drop (n/64))) (by rw [shrL_len]; exact hdl)
  show (bif S1173.pre (Wd (shrL (n%64) ((trimL l).drop (n/64))),()) then some (S1173.F (Wd (shrL (n%64) ((trimL l).drop (n/64))),())) else none)=_
  rw [pre1173 p1,fun1173 p1,cond_true,trim_dg hB _ hos,nv_shrL (by omega)]
  have hd:nv (2^64) ((trimL l).drop (n/64))=nv (2^64) l/(2^64)^(n/64):=by
   rw [← hv,nv_split _ (trimL l) (n/64) (by omega)]
   have hlow:=nv_lt hB ((trimL l).take (n/64)) fun x hx=>hm x (List.mem_of_mem_take hx)
   rw [List.length_take,Nat.min_eq_left (by omega)] at hlow
   rw [Nat.add_mul_div_left _ _ (Nat.pow_pos (by decide)),Nat.div_eq_of_lt hlow,Nat.zero_add]
  rw [hd,Nat.div_div_eq_div_mul,← hsplit]
  rfl
 ·have e1:decide (((n/64:Nat):Int)≥((trimL l).length:Int))=true:=by simp; omega
  rw [e1,cond_true]
  have hz:nv (2^64) l/2^n=0:=by
   rw [← hv]
   have:=nv_lt hB (trimL l) hm
   apply Nat.div_eq_of_lt
   refine Nat.lt_of_lt_of_le this ?_
   rw [pow64]
   exact Nat.pow_le_pow_right (by decide) (by omega)
  rw [hz,dg_zero]; rfl
end VL
namespace VL
open Go Vx
theorem wadd (a b:Nat) (h:a+b<2^62):IntKind.wrap .i64 ((a:Int)+(b:Int))=((a+b:Nat):Int):=by rw [wrapI (by omega)]; omega
theorem wadd1 (a:Nat) (h:a<2^62):IntKind.wrap .i64 ((a:Int)+1)=((a+1:Nat):Int):=by rw [wrapI (by omega)]; omega
theorem wadd64 (a:Nat) (h:a<2^56):IntKind.wrap .i64 (64*(a:Int))=((64*a:Nat):Int):=by rw [wrapI (by omega)]; omega
theorem wmul64 (a:Nat) (h:a<2^56):IntKind.wrap .i64 ((a:Int)*64)=((64*a:Nat):Int):=by rw [wrapI (by omega)]; omega
theorem wsubn (m n:Nat) (h:n≤m∧m<2^62):IntKind.wrap .i64 ((m:Int)-(n:Int))=((m-n:Nat):Int):=by rw [wrapI (by omega)]; omega
theorem wsub1 (m:Nat) (h:1≤m∧m<2^62):IntKind.wrap .i64 ((m:Int)-1)=((m-1:Nat):Int):=by rw [wrapI (by omega)]; omega
theorem ilt_t (a b:Nat) (h:a<b):decide ((a:Int)<(b:Int))=true:=decide_eq_true (by omega)
theorem ilt_f (a b:Nat) (h:b≤a):decide ((a:Int)<(b:Int))=false:=decide_eq_false (by omega)
theorem ile_t (a b:Nat) (h:a≤b):decide ((a:Int)≤(b:Int))=true:=decide_eq_true (by omega)
theorem ile_f (a b:Nat) (h:b<a):decide ((a:Int)≤(b:Int))=false:=decide_eq_false (by omega)
theorem igt_t (a b:Nat) (h:b<a):decide ((a:Int)>(b:Int))=true:=decide_eq_true (by omega)
theorem igt_f (a b:Nat) (h:a≤b):decide ((a:Int)>(b:Int))=false:=decide_eq_false (by omega)
theorem ige_t (a b:Nat) (h:b≤a):decide ((a:Int)≥(b:Int))=true:=decide_eq_true (by omega)
theorem ige_f (a b:Nat) (h:a<b):decide ((a:Int)≥(b:Int))=false:=decide_eq_false (by omega)
theorem ipos_t (a:Nat) (h:0<a):decide ((0:Int)<(a:Int))=true:=decide_eq_true (by omega)
theorem ipos_f (a:Nat) (h:a=0):decide ((0:Int)<(a:Int))=false:=decide_eq_false (by omega)
theorem igt0_t (a:Nat) (h:0<a):decide ((a:Int)>0)=true:=decide_eq_true (by omega)
theorem igt0_f (a:Nat) (h:a=0):decide ((a:Int)>0)=false:=decide_eq_false (by omega)
theorem ineg_f (a:Nat):decide ((a:Int)<0)=false:=decide_eq_false (by omega)
theorem beq0_t (a:Nat) (h:a=0):((a:Int)==0)=true:=by rw [nbeq0]; simp [h]
theorem beq0_f (a:Nat) (h:a≠0):((a:Int)==0)=false:=by rw [nbeq0]; simp [h]
theorem bne0_t (a:Nat) (h:a≠0):((a:Int) != 0)=true:=by rw [nbne0]; simp [h]
theorem bne0_f (a:Nat) (h:a=0):((a:Int) != 0)=false:=by rw [nbne0]; simp [h]
def pd (B:Nat):Nat→Nat→List Nat
 | 0,_=>[]
 | k+1,v=>v%B::pd B k (v/B)
theorem pd_len (B:Nat):∀ k v,(pd B k v).length=k
 | 0,_=>rfl
 | k+1,v=>by simp [pd,pd_len B k]
theorem pd_lt {B:Nat} (hB:0<B):∀ k v,∀ x∈pd B k v,x<B
 | 0,_,x,hx=>by simp [pd] at hx
 | k+1,v,x,hx=>by
  simp only [pd,List.mem_cons] at hx
  rcases hx with rfl | hx
  ·exact Nat.mod_lt _ hB
  ·exact pd_lt hB k _ x hx
theorem pd_of {B:Nat} (hB:0<B):∀ (l:List Nat),(∀ x∈l,x<B)→l=pd B l.length (nv B l)
 | [],_=>rfl
 | x::r,h=>by
  have hx:=h x (by simp)
  simp only [List.length_cons,pd,nv]
  rw [Nat.add_mul_mod_self_left,Nat.mod_eq_of_lt hx,Nat.add_mul_div_left _ _ hB,Nat.div_eq_of_lt hx,Nat.zero_add,← pd_of hB r fun y hy=>h y (by simp [hy])]
theorem pd_at {B:Nat} (hB:0<B) {l:List Nat} {k v:Nat} (h:∀ x∈l,x<B) (hl:l.length=k) (hv:nv B l=v):l=pd B k v:=by
 have:=pd_of hB l h
 rw [hl,hv] at this
 exact this
theorem pd_nv {B:Nat} (hB:0<B):∀ k v,v<B^k→nv B (pd B k v)=v
 | 0,v,h=>by simp at h; subst h; rfl
 | k+1,v,h=>by
  simp only [pd,nv]
  rw [pd_nv hB k (v/B) (by rw [Nat.div_lt_iff_lt_mul hB,← Nat.pow_succ]; exact h)]
  exact Nat.mod_add_div v B
theorem pd_get (B:Nat):∀ k v i,i<k→(pd B k v).getD i 0=v/B^i%B
 | 0,_,_,h=>by omega
 | k+1,v,0,_=>by simp [pd]
 | k+1,v,i+1,h=>by
  simp only [pd,List.getD_cons_succ]
  rw [pd_get B k (v/B) i (by omega),Nat.div_div_eq_div_mul,← Nat.pow_succ']
theorem pd_zero (B:Nat):∀ k,pd B k 0=List.replicate k 0
 | 0=>rfl
 | k+1=>by simp [pd,pd_zero B k,List.replicate_succ]
theorem nv_set (B:Nat):∀ (l:List Nat) (i x:Nat),i<l.length→nv B (l.set i x)+B^i*l.getD i 0=nv B l+B^i*x
 | [],_,_,h=>by simp at h
 | y::r,0,x,_=>by simp [nv]; omega
 | y::r,i+1,x,h=>by
  have:=nv_set B r i x (by simpa using h)
  simp only [List.set_cons_succ,nv,List.getD_cons_succ,Nat.pow_succ']
  rw [Nat.mul_assoc,Nat.mul_assoc,Nat.add_assoc,Nat.add_assoc,← Nat.mul_add,← Nat.mul_add,this]
theorem set_lt {B:Nat} {l:List Nat} (h:∀ x∈l,x<B) {i v:Nat} (hv:v<B):∀ x∈l.set i v,x<B:=fun x hx=>by
 rcases List.mem_or_eq_of_mem_set hx with h1 | h1
 ·exact h x h1
 ·rw [h1]; exact hv
theorem dg_trim {B:Nat} (hB:2≤B) (n:Nat):trimL (dg B n)=dg B n:=by
 rw [trim_dg hB _ (dg_lt hB n),nv_dg hB]
theorem nv_take_succ (B:Nat) (l:List Nat) (i:Nat) (h:i<l.length):nv B (l.take (i+1))=nv B (l.take i)+B^i*l.getD i 0:=by
 have hs:=nv_split B (l.take (i+1)) i (by simp; omega)
 rw [hs,List.take_take,Nat.min_eq_left (by omega)]
 congr 2
 rw [List.drop_take,Nat.add_sub_cancel_left,List.getD_eq_getElem?_getD]
 rw [List.drop_eq_getElem_cons h,List.getElem?_eq_getElem h]
 show l[i]+B*0=l[i]
 rw [Nat.mul_zero,Nat.add_zero]
theorem two_split {x:Nat} (h:0<x):∃ t k,x=2^t*(2*k+1):=by
 induction x using Nat.strongRecOn with
 | ind x ih =>
  rcases Nat.mod_two_eq_zero_or_one x with h0 | h1
  ·obtain ⟨t,k,e⟩:=ih (x/2) (by omega) (by omega)
   refine ⟨t+1,k,?_⟩
   rw [Nat.pow_succ,Nat.mul_comm (2^t) 2,Nat.mul_assoc,← e]
   omega
  ·exact ⟨0,x/2,by simp; omega⟩
theorem odd_pow {t k n:Nat}:(2^t*(2*k+1))%2^n=0↔n≤t:=by
 constructor
 ·intro h
  rcases Nat.lt_or_ge t n with hlt | hge
  ·exfalso
   have e:n=t+(n-t-1)+1:=by omega
   rw [e,Nat.add_assoc,Nat.pow_add,Nat.mul_mod_mul_left,Nat.pow_succ] at h
   have hp:=Nat.two_pow_pos t
   have h2:(2*k+1)%(2^(n-t-1)*2)=0:=by
    rcases Nat.mul_eq_zero.1 h with h | h
    ·omega
    ·exact h
   have:(2*k+1)%2=0:=by
    have:=Nat.mod_mod_of_dvd (2*k+1) (show 2 ∣ 2^(n-t-1)*2 from ⟨_,Nat.mul_comm _ _⟩)
    rw [h2] at this
    omega
   omega
  ·exact hge
 ·intro h
  have e:t=n+(t-n):=by omega
  rw [e,Nat.pow_add,Nat.mul_assoc]
  exact Nat.mul_mod_right _ _
theorem and_neg {t k:Nat} (h:2^t*(2*k+1)<2^64):2^t*(2*k+1) &&& (2^64-2^t*(2*k+1))=2^t:=by
 have hp:=Nat.two_pow_pos t
 have ht:t<64:=by
  have:2^t*1≤2^t*(2*k+1):=Nat.mul_le_mul_left _ (by omega)
  exact (Nat.pow_lt_pow_iff_right (a:=2) (by decide)).1 (by omega)
 have hz:2^t*(2*k)+(2^t-1)+1=2^t*(2*k+1):=by rw [Nat.mul_add,Nat.mul_one]; omega
 have hb:∀ i,(2^64-2^t*(2*k+1)).testBit i=(decide (i<64)&&!(2^t*(2*k)+(2^t-1)).testBit i):=fun i=>by
  rw [← hz,Nat.testBit_two_pow_sub_succ (by omega)]
 apply Nat.eq_of_testBit_eq
 intro i
 rw [Nat.testBit_and,hb,Nat.testBit_two_pow]
 have h1:(2^t*(2*k+1)).testBit i=(decide (t≤i)&&(2*k+1).testBit (i-t)):=by
  have:=Nat.testBit_two_pow_mul_add (2*k+1) hp i
  rw [Nat.add_zero] at this
  rw [this]
  by_cases hi:i<t
  ·simp [hi]; omega
  ·simp [hi]; omega
 rw [h1,Nat.testBit_two_pow_mul_add (2*k) (show 2^t-1<2^t by omega) i]
 rcases Nat.lt_trichotomy i t with hi | hi | hi
 ·simp [show ¬ t≤i by omega,show ¬ t=i by omega]
 ·subst hi
  simp [ht]
 ·have e:i-t=(i-t-1)+1:=by omega
  simp only [show ¬ i<t by omega,if_false,show ¬ t=i by omega,decide_false]
  rw [e,Nat.testBit_succ,Nat.testBit_succ,show (2*k+1)/2=k by omega,show 2*k/2=k by omega]
  cases k.testBit (i-t-1) <;> simp
theorem andN {a b:Nat} (ha:a<2^64) (hb:b<2^64):andI .u64 (a:Int) (b:Int)=((a &&& b:Nat):Int):=by
 have key:(BitVec.ofInt 64 (a:Int) &&& BitVec.ofInt 64 (b:Int)).toNat=a &&& b:=by
  rw [BitVec.toNat_and,ofInt_u64 ha,ofInt_u64 hb]
 show IntKind.u64.wrap (((BitVec.ofInt 64 (a:Int) &&& BitVec.ofInt 64 (b:Int)).toNat:Nat):Int)=_
 rw [key]
 have:=Nat.and_le_left (n:=a) (m:=b)
 exact wrapU (by omega)
theorem orN2 {a b:Nat} (ha:a<2^64) (hb:b<2^64):orI .u64 (a:Int) (b:Int)=((a ||| b:Nat):Int):=by
 have key:(BitVec.ofInt 64 (a:Int) ||| BitVec.ofInt 64 (b:Int)).toNat=a ||| b:=by
  rw [BitVec.toNat_or,ofInt_u64 ha,ofInt_u64 hb]
 show IntKind.u64.wrap (((BitVec.ofInt 64 (a:Int) ||| BitVec.ofInt 64 (b:Int)).toNat:Nat):Int)=_
 rw [key]
 have:=Nat.or_lt_two_pow ha hb
 exact wrapU (by omega)
theorem deb:∀ t:Nat,t<64→IntKind.wrap .i64 (k_deb.getD (2^t*285870213051353865%2^64/2^58) 0)=(t:Int):=by
 have h:((List.range 64).all fun t=>decide (IntKind.wrap .i64 (k_deb.getD (2^t*285870213051353865%2^64/2^58) (0:Int))=(t:Int)))=true:=by decide +kernel
 intro t ht
 have:=List.all_eq_true.1 h t (List.mem_range.2 ht)
 simpa using this
theorem T92_eq {t k:Nat} (h:2^t*(2*k+1)<2^64):T92 (((2^t*(2*k+1):Nat):Int),())=some ((t:Int),()):=by
 have hp:=Nat.two_pow_pos t
 have h1:2^t*1≤2^t*(2*k+1):=Nat.mul_le_mul_left _ (by omega)
 have ht:t<64:=(Nat.pow_lt_pow_iff_right (a:=2) (by decide)).1 (by omega)
 have han:=and_neg h
 show t92 ((2^t*(2*k+1):Nat):Int)=_
 generalize hx:2^t*(2*k+1)=x at *
 unfold t92
 have e1:IntKind.wrap .u64 ((0:Int)-(x:Int))=((2^64-x:Nat):Int):=by
  have:∀ y:Int,IntKind.wrap .u64 y=y%18446744073709551616:=fun y=>by
   simp [IntKind.wrap,IntKind.bits,IntKind.signed]
  rw [this]; omega
 have e2:IntKind.wrap .u64 (((2^t:Nat):Int)*285870213051353865)=((2^t*285870213051353865%2^64:Nat):Int):=wrapN (2^t*285870213051353865)
 have e3:shrI .u64 ((2^t*285870213051353865%2^64:Nat):Int) 58=((2^t*285870213051353865%2^64/2^58:Nat):Int):=shrN _ 58 (by decide)
 have e4:2^t*285870213051353865%2^64/2^58<64:=by omega
 have e5:(decide ((0:Int)≤((2^t*285870213051353865%2^64/2^58:Nat):Int))&&decide (((2^t*285870213051353865%2^64/2^58:Nat):Int)<(64:Nat)))=true:=by
  rw [decide_eq_true (by omega),decide_eq_true (by omega)]; rfl
 rw [e1,andN h (by omega),han,e2,e3,e5,sealB_eq,cond_true,beq0_f x (by omega),cond_false,Int.toNat_natCast,deb t ht]
end VL
namespace VL
open Go Vx
def Dw (n:Nat):List Int:=Wd (dg (2^64) n)
theorem dg_ws (n:Nat) (h:(dg (2^64) n).length≤1000000):Ws (dg (2^64) n):=⟨dg_lt (by decide) n,h⟩
theorem dg_len_le {B:Nat} (hB:2≤B):∀ (k n:Nat),n<B^k→(dg B n).length≤k
 | 0,n,h=>by simp at h; subst h; rw [dg_zero]; simp
 | k+1,n,h=>by
  rcases Nat.eq_zero_or_pos n with rfl | hn
  ·rw [dg_zero]; simp
  ·rw [dg_pos hB hn]
   have:=dg_len_le hB k (n/B) (by rw [Nat.div_lt_iff_lt_mul (by omega),← Nat.pow_succ]; exact h)
   simp; omega
theorem dg_len_gt {B:Nat} (hB:2≤B) (n:Nat):n<B^(dg B n).length:=by
 have:=nv_lt hB _ (dg_lt hB n)
 rwa [nv_dg hB] at this
theorem div_word {x i t k r n:Nat} (hx:x=2^t*(2*k+1)) (ht:t<64):((2^64)^i*(x+2^64*r))%2^n=0↔n≤64*i+t:=by
 have e:(2^64)^i*(x+2^64*r)=2^(64*i+t)*(2*(k+2^(64-t-1)*r)+1):=by
  have h1:2^64=2^t*(2^(64-t-1)*2):=by rw [← Nat.pow_succ,← Nat.pow_add]; congr 1; omega
  rw [pow64,hx,Nat.pow_add,Nat.mul_assoc]
  congr 1
  rw [h1,Nat.mul_assoc,← Nat.mul_add]
  congr 1
  rw [Nat.mul_assoc,Nat.mul_left_comm]
  omega
 rw [e]
 exact odd_pow
theorem W184_eq (a:List Nat) (ha:∀ x∈a,x<2^64) (hlen:a.length≤1000000) (n:Nat) (hn:n≤1000000000) (i:Nat) (hi:i≤a.length) (hz:nv (2^64) (a.take i)=0) :
  W184_2 (((a.length:Int),(Wd a,((n:Int),((i:Int),())))),())=some (if nv (2^64) a=0 then .inl ((),()) else .inr ((decide (nv (2^64) a%2^n=0),()),())):=by
 have key:=lfix_ind (m184_2 S173.pre S173.F S92.pre S92.F) (fun x=>a.length-x.1.2.2.2.1.toNat)
  (fun x=>∃ i:Nat,i≤a.length∧nv (2^64) (a.take i)=0∧x=(((a.length:Int),(Wd a,((n:Int),((i:Int),())))),()))
  (fun _=>if nv (2^64) a=0 then .inl ((),()) else .inr ((decide (nv (2^64) a%2^n=0),()),())) ?_ _ ⟨i,hi,hz,rfl⟩
 ·exact key
 intro L x hx hL
 obtain ⟨i,hi,hz,rfl⟩:=hx
 unfold h184_2
 rcases Nat.lt_or_ge i a.length with hlt | hge
 ·simp (disch:=omega) only [wadd,wadd1,wadd64,wsubn,wsub1,wmul64,ilt_t,ilt_f,ile_t,ile_f,igt_t,igt_f,ige_t,ige_f,ipos_t,ipos_f,igt0_t,igt0_f,nnn,beq0_t,beq0_f,bne0_t,bne0_f,Int.toNat_natCast,Int.toNat_zero,cond_true,cond_false,Bool.and_self,Bool.true_and,Bool.and_true,Bool.false_and,Bool.and_false,Bool.not_true,Bool.not_false,Bool.or_self,Bool.true_or,Bool.or_true,Bool.false_or,Bool.or_false,Wd_len,Wd_getD]
  have hxl:=getD_lt (by decide) ha i
  rcases Nat.eq_zero_or_pos (a.getD i 0) with h0 | h0
  ·simp (disch:=omega) only [wadd,wadd1,wadd64,wsubn,wsub1,wmul64,ilt_t,ilt_f,ile_t,ile_f,igt_t,igt_f,ige_t,ige_f,ipos_t,ipos_f,igt0_t,igt0_f,nnn,beq0_t,beq0_f,bne0_t,bne0_f,Int.toNat_natCast,Int.toNat_zero,cond_true,cond_false,Bool.and_self,Bool.true_and,Bool.and_true,Bool.false_and,Bool.and_false,Bool.not_true,Bool.not_false,Bool.or_self,Bool.true_or,Bool.or_true,Bool.false_or,Bool.or_false]
   refine hL _ ⟨i+1,by omega,?_,rfl⟩ (by simp only [Int.toNat_natCast]; omega)
   rw [nv_take_succ _ _ _ hlt,hz,h0,Nat.mul_zero]
  ·obtain ⟨t,k,e⟩:=two_split h0
   have ht:t<64:=by
    have hp:=Nat.two_pow_pos t
    have h1:2^t*1≤2^t*(2*k+1):=Nat.mul_le_mul_left _ (by omega)
    exact (Nat.pow_lt_pow_iff_right (a:=2) (by decide)).1 (by omega)
   have p0:=T92_eq (t:=t) (k:=k) (by omega)
   rw [← e] at p0
   have hv:nv (2^64) a=(2^64)^i*(a.getD i 0+2^64*nv (2^64) (a.drop (i+1))):=by
    rw [nv_split _ a i hi,hz,Nat.zero_add,List.drop_eq_getElem_cons hlt]
    simp only [nv]
    rw [List.getD_eq_getElem?_getD,List.getElem?_eq_getElem hlt]
    rfl
   have hne:nv (2^64) a≠0:=by
    rw [hv]
    have:0<(2^64)^i:=Nat.pow_pos (by decide)
    exact Nat.ne_of_gt (Nat.mul_pos this (by omega))
   have hd:=div_word (i:=i) (r:=nv (2^64) (a.drop (i+1))) (n:=n) e ht
   rw [← hv] at hd
   simp (disch:=omega) only [wadd,wadd1,wadd64,wsubn,wsub1,wmul64,ilt_t,ilt_f,ile_t,ile_f,igt_t,igt_f,ige_t,ige_f,ipos_t,ipos_f,igt0_t,igt0_f,nnn,beq0_t,beq0_f,bne0_t,bne0_f,Int.toNat_natCast,Int.toNat_zero,cond_true,cond_false,Bool.and_self,Bool.true_and,Bool.and_true,Bool.false_and,Bool.and_false,Bool.not_true,Bool.not_false,Bool.or_self,Bool.true_or,Bool.or_true,Bool.false_or,Bool.or_false,pre92 p0,fun92 p0,if_neg hne]
   have:decide (((64*i+t:Nat):Int)≥(n:Int))=decide (nv (2^64) a%2^n=0):=by
    rw [Bool.eq_iff_iff,decide_eq_true_eq,decide_eq_true_eq,hd]; omega
   rw [this]
 ·have e:i=a.length:=by omega
  subst e
  rw [List.take_length] at hz
  simp (disch:=omega) only [wadd,wadd1,wadd64,wsubn,wsub1,wmul64,ilt_t,ilt_f,ile_t,ile_f,igt_t,igt_f,ige_t,ige_f,ipos_t,ipos_f,igt0_t,igt0_f,nnn,beq0_t,beq0_f,bne0_t,bne0_f,Int.toNat_natCast,Int.toNat_zero,cond_true,cond_false,Bool.and_self,Bool.true_and,Bool.and_true,Bool.false_and,Bool.and_false,Bool.not_true,Bool.not_false,Bool.or_self,Bool.true_or,Bool.or_true,Bool.false_or,Bool.or_false,if_pos hz]
theorem T184_eq (l:List Nat) (hl:Ws l) (n:Nat) (hn:n≤1000000000):T184 (Wd l,(n:Int),())=some (decide (nv (2^64) l%2^n=0),()):=by
 obtain ⟨h,hlen⟩:=hl
 show t184 S173.pre S173.F S92.pre S92.F W184_2 (Wd l) n=_
 unfold t184
 have p0:=T173_eq l hlen
 have hm:∀ x∈trimL l,x<2^64:=fun x hx=>h x (trim_mem hx)
 have hle:=(trim_len l).1
 have hw:=W184_eq (trimL l) hm (by omega) n hn 0 (Nat.zero_le _) rfl
 rw [nv_trim (by decide) h] at hw
 simp only [pre173 p0,fun173 p0,cond_true,Wd_len]
 rw [show ((0:Nat):Int)=0 from rfl] at hw
 rw [hw]
 by_cases h0:nv (2^64) l=0
 ·rw [if_pos h0,h0,Nat.zero_mod]; rfl
 ·rw [if_neg h0]
def jamN (v n:Nat):Nat:=if v%2^n=0 then v/2^n else v/2^n/2*2+1
theorem or_one (w:Nat):w ||| 1=w/2*2+1:=by
 apply Nat.eq_of_testBit_eq
 intro i
 rw [Nat.testBit_or]
 cases i with
 | zero=>simp [Nat.testBit_zero]
 | succ i =>
  rw [Nat.testBit_succ,Nat.testBit_succ,Nat.testBit_succ,show (w/2*2+1)/2=w/2 by omega,show 1/2=0 by rfl]
  simp
theorem T175_eq (l:List Nat) (hl:Ws l) (n:Nat) (hn:n≤100000000):T175 (Wd l,(n:Int),())=some (Dw (jamN (nv (2^64) l) n),0,()):=by
 show t175 S1171.pre S1171.F S171.pre S171.F S184.pre S184.F (Wd l) n=_
 unfold t175
 have p0:=T1171_eq l hl n hn
 have p1:=T184_eq l hl n (by omega)
 simp only [ineg_f,cond_false,pre1171 p0,fun1171 p0,pre184 p1,fun184 p1,cond_true,Wd_len]
 unfold jamN
 by_cases h0:nv (2^64) l%2^n=0
 ·rw [if_pos h0,decide_eq_true h0]; rfl
 ·rw [if_neg h0,decide_eq_false h0]
  generalize nv (2^64) l/2^n=q
  rcases Nat.eq_zero_or_pos q with rfl | hq
  ·have e:Dw (0/2*2+1)=[1]:=by
    show Wd (dg (2^64) 1)=[1]
    rw [dg_pos (by decide) (by decide),dg_zero]; rfl
   rw [e,dg_zero]; rfl
  ·have hB:2≤2^64:=by decide
   have e:Dw (q/2*2+1)=Wd ((q%2^64/2*2+1)::dg (2^64) (q/2^64)):=by
    show Wd (dg (2^64) (q/2*2+1))=_
    rw [dg_pos hB (by omega)]
    have e1:(q/2*2+1)%2^64=q%2^64/2*2+1:=by omega
    have e2:(q/2*2+1)/2^64=q/2^64:=by omega
    rw [e1,e2]
   have e2:orI .u64 ((q%2^64:Nat):Int) 1=((q%2^64/2*2+1:Nat):Int):=by
    have:=orN2 (a:=q%2^64) (b:=1) (by omega) (by decide)
    rw [or_one] at this
    exact this
   rw [e,dg_pos hB hq]
   simp (disch:=omega) only [wadd,wadd1,wadd64,wsubn,wsub1,wmul64,ilt_t,ilt_f,ile_t,ile_f,igt_t,igt_f,ige_t,ige_f,ipos_t,ipos_f,igt0_t,igt0_f,nnn,beq0_t,beq0_f,bne0_t,bne0_f,Int.toNat_natCast,Int.toNat_zero,cond_true,cond_false,Bool.and_self,Bool.true_and,Bool.and_true,Bool.false_and,Bool.and_false,Bool.not_true,Bool.not_false,Bool.or_self,Bool.true_or,Bool.or_true,Bool.false_or,Bool.or_false,List.length_cons,Wd_getD,List.getD_cons_zero,e2,Wd_set,List.set_cons_zero]
theorem T141_eq (l:List Nat) (hl:Ws l) (n:Nat) (hn:n≤100000000):T141 (Wd l,(n:Int),())=some (Dw (nv (2^64) l/2^n),0,()):=by
 show t141 S171.pre S171.F (Wd l) n=_
 unfold t141
 have p0:=T171_eq l hl n hn
 simp only [ineg_f,cond_false,pre171 p0,fun171 p0,cond_true]
 rfl
end VL
namespace VL
open Go Vx
theorem getD_set_ne {l:List Nat} {i j v:Nat} (h:i≠j):(l.set i v).getD j 0=l.getD j 0:=by
 rw [List.getD_eq_getElem?_getD,List.getD_eq_getElem?_getD,List.getElem?_set_ne h]
theorem left_step {out:List Nat} {K V k s x:Nat} (hs:s<64) (ho:out=pd (2^64) K V) (hk:k+1<K) (hV:V<2^(64*k+s)) (hx:x<2^64) :
  (out.getD k 0<2^s)∧(out.getD k 0+x%2^(64-s)*2^s<2^64)∧((out.set k (out.getD k 0+x%2^(64-s)*2^s)).set (k+1) (x/2^(64-s))=pd (2^64) K (V+2^(64*k+s)*x)):=by
 have hB:0<2^64:=by decide
 have hps:=Nat.two_pow_pos s
 have hpk:=Nat.two_pow_pos (64*k)
 have hlen:out.length=K:=by rw [ho,pd_len]
 have hc:out.getD k 0=V/(2^64)^k%2^64:=by rw [ho,pd_get _ _ _ _ (by omega)]
 have hc2:V/(2^64)^k<2^s:=by
  rw [pow64,Nat.div_lt_iff_lt_mul hpk,Nat.mul_comm,← Nat.pow_add]; exact hV
 have hc1:out.getD (k+1) 0=0:=by
  rw [ho,pd_get _ _ _ _ hk,pow64]
  have:V<2^(64*(k+1)):=Nat.lt_of_lt_of_le hV (Nat.pow_le_pow_right (by decide) (by omega))
  rw [Nat.div_eq_of_lt this]
 have h64:2^64=2^(64-s)*2^s:=by rw [← Nat.pow_add]; congr 1; omega
 have hs64:2^s≤2^64:=Nat.pow_le_pow_right (by decide) (by omega)
 have hce:V/(2^64)^k%2^64=V/(2^64)^k:=Nat.mod_eq_of_lt (by omega)
 have hcl:out.getD k 0<2^s:=by rw [hc,hce]; exact hc2
 have hp1:=Nat.two_pow_pos (64-s)
 have hm:x%2^(64-s)+1≤2^(64-s):=Nat.mod_lt _ hp1
 have hm2:=Nat.mul_le_mul_right (2^s) hm
 rw [← h64,Nat.add_mul,Nat.one_mul] at hm2
 have hsum:out.getD k 0+x%2^(64-s)*2^s<2^64:=by omega
 refine ⟨hcl,hsum,?_⟩
 have hall:∀ y∈out,y<2^64:=by rw [ho]; exact pd_lt hB _ _
 have hxd:x/2^(64-s)<2^64:=Nat.lt_of_le_of_lt (Nat.div_le_self _ _) hx
 refine pd_at hB (set_lt (set_lt hall hsum) hxd) (by simp [hlen]) ?_
 have g1:=nv_set (2^64) out k (out.getD k 0+x%2^(64-s)*2^s) (by omega)
 have g2:=nv_set (2^64) (out.set k (out.getD k 0+x%2^(64-s)*2^s)) (k+1) (x/2^(64-s)) (by rw [List.length_set]; omega)
 rw [getD_set_ne (by omega),hc1,Nat.mul_zero,Nat.add_zero] at g2
 have hVK:V<(2^64)^K:=by
  rw [pow64]; exact Nat.lt_of_lt_of_le hV (Nat.pow_le_pow_right (by decide) (by omega))
 have hnv:nv (2^64) out=V:=by rw [ho,pd_nv hB _ _ hVK]
 rw [hnv,Nat.mul_add] at g1
 rw [g2]
 have hx2:2^(64*k+s)*x=(2^64)^k*(x%2^(64-s)*2^s)+(2^64)^(k+1)*(x/2^(64-s)):=by
  have hdm:=Nat.div_add_mod x (2^(64-s))
  generalize x/2^(64-s)=q at *
  generalize x%2^(64-s)=r at *
  rw [Nat.pow_add 2 (64*k) s,← pow64,show (2^64)^(k+1)=(2^64)^k*2^64 from Nat.pow_succ _ _,Nat.mul_assoc ((2^64)^k),Nat.mul_assoc ((2^64)^k),← Nat.mul_add,← hdm]
  congr 1
  rw [Nat.mul_add,Nat.mul_comm r,Nat.add_comm]
  congr 1
  rw [← Nat.mul_assoc,Nat.mul_comm (2^s),← h64]
 omega
theorem W186_eq (a:List Nat) (ha:∀ x∈a,x<2^64) (hlen:a.length≤1000000) (w s:Nat) (hs:s<64) (hw:w≤10000000) (i:Nat) (hi:i≤a.length) :
  W186_7 (((a.length:Int),(Wd a,((w:Int),((s:Int),((i:Int),((),())))))),(Wd (pd (2^64) (w+a.length+1) (2^(64*w+s)*nv (2^64) (a.take i))),()))=some (.inl (((),()),(Wd (pd (2^64) (w+a.length+1) (2^(64*w+s)*nv (2^64) a)),()))):=by
 have key:=lfix_ind (m186_7 S173.pre S173.F) (fun x=>a.length-x.1.2.2.2.2.1.toNat)
  (fun x=>∃ i:Nat,i≤a.length∧x=(((a.length:Int),(Wd a,((w:Int),((s:Int),((i:Int),((),())))))),(Wd (pd (2^64) (w+a.length+1) (2^(64*w+s)*nv (2^64) (a.take i))),())))
  (fun _=>.inl (((),()),(Wd (pd (2^64) (w+a.length+1) (2^(64*w+s)*nv (2^64) a)),()))) ?_ _ ⟨i,hi,rfl⟩
 ·exact key
 intro L x hx hL
 obtain ⟨i,hi,rfl⟩:=hx
 unfold h186_7
 rcases Nat.lt_or_ge i a.length with hlt | hge
 ·have hxl:=getD_lt (by decide) ha i
  have ht:=nv_lt (B:=2^64) (by decide) (a.take i) fun x hx=>ha x (List.mem_of_mem_take hx)
  rw [List.length_take,Nat.min_eq_left (by omega),pow64] at ht
  have hV:2^(64*w+s)*nv (2^64) (a.take i)<2^(64*(w+i)+s):=by
   have e:64*(w+i)+s=(64*w+s)+64*i:=by omega
   rw [e,Nat.pow_add _ (64*w+s)]
   exact Nat.mul_lt_mul_of_pos_left ht (Nat.two_pow_pos _)
  have hnext:=nv_take_succ (2^64) a i hlt
  have hgo:=hL (((a.length:Int),(Wd a,((w:Int),((s:Int),(((i+1:Nat):Int),((),())))))),(Wd (pd (2^64) (w+a.length+1) (2^(64*w+s)*nv (2^64) (a.take (i+1)))),())) ⟨i+1,by omega,rfl⟩ (by simp only [Int.toNat_natCast]; omega)
  rw [hnext,Nat.mul_add,← Nat.mul_assoc,show 2^(64*w+s)*(2^64)^i=2^(64*(w+i)+s) by rw [pow64,← Nat.pow_add]; congr 1; omega] at hgo
  generalize hout:pd (2^64) (w+a.length+1) (2^(64*w+s)*nv (2^64) (a.take i))=out at *
  obtain ⟨q1,q2,q3⟩:=left_step (k:=w+i) hs hout.symm (by omega) hV hxl
  have hol:out.length=w+a.length+1:=by rw [← hout,pd_len]
  have g1:a.getD i 0*2^s%2^64=(a.getD i 0%2^(64-s))*2^s:=by
   have:2^64=2^(64-s)*2^s:=by rw [← Nat.pow_add]; congr 1; omega
   rw [this,Nat.mul_mod_mul_right]
  have e8:IntKind.wrap .i64 (64-(s:Int))=((64-s:Nat):Int):=wsub 64 s (by omega) (by omega)
  simp (disch:=omega) only [wadd,wadd1,wadd64,wsubn,wsub1,wmul64,ilt_t,ilt_f,ile_t,ile_f,igt_t,igt_f,ige_t,ige_f,ipos_t,ipos_f,igt0_t,igt0_f,nnn,beq0_t,beq0_f,bne0_t,bne0_f,Int.toNat_natCast,Int.toNat_zero,cond_true,cond_false,Bool.and_self,Bool.true_and,Bool.and_true,Bool.false_and,Bool.and_false,Bool.not_true,Bool.not_false,Bool.or_self,Bool.true_or,Bool.or_true,Bool.false_or,Bool.or_false,Wd_len,Wd_getD,e8,shlN _ s (by omega),shrN _ (64-s) (by omega),g1,orN q1 q2,Wd_set,List.length_set,q3]
  exact hgo
 ·have e:i=a.length:=by omega
  subst e
  rw [List.take_length]
  simp (disch:=omega) only [wadd,wadd1,wadd64,wsubn,wsub1,wmul64,ilt_t,ilt_f,ile_t,ile_f,igt_t,igt_f,ige_t,ige_f,ipos_t,ipos_f,igt0_t,igt0_f,nnn,beq0_t,beq0_f,bne0_t,bne0_f,Int.toNat_natCast,Int.toNat_zero,cond_true,cond_false,Bool.and_self,Bool.true_and,Bool.and_true,Bool.false_and,Bool.and_false,Bool.not_true,Bool.not_false,Bool.or_self,Bool.true_or,Bool.or_true,Bool.false_or,Bool.or_false]
theorem T186_eq (l:List Nat) (hl:Ws l) (n:Nat) (hn:n/64+(trimL l).length+1≤1000000):T186 (Wd l,(n:Int),())=some (Dw (nv (2^64) l*2^n),()):=by
 obtain ⟨h,hlen⟩:=hl
 show t186 S173.pre S173.F W186_7 (Wd l) n=_
 unfold t186
 have hB:2≤2^64:=by decide
 have p0:=T173_eq l hlen
 have hm:∀ x∈trimL l,x<2^64:=fun x hx=>h x (trim_mem hx)
 have hle:=(trim_len l).1
 have hv:=nv_trim hB h
 simp only [pre173 p0,fun173 p0,cond_true,Wd_len]
 rcases Nat.eq_zero_or_pos (trimL l).length with h0 | h0
 ·rw [h0,trim_nil h h0,Nat.zero_mul]
  unfold Dw
  rw [dg_zero]; rfl
 ·have e4:Int.tmod (n:Int) 64=((n%64:Nat):Int):=rfl
  have e3:decide (((n/64+(trimL l).length+1:Nat):Int)*8≤140737488355328)=true:=decide_eq_true (by omega)
  have hw:=W186_eq (trimL l) hm (by omega) (n/64) (n%64) (Nat.mod_lt _ (by decide)) (by omega) 0 (Nat.zero_le _)
  rw [show nv (2^64) ((trimL l).take 0)=0 by rfl,Nat.mul_zero,pd_zero,show 64*(n/64)+n%64=n by omega,show ((0:Nat):Int)=0 from rfl] at hw
  simp (disch:=omega) only [wadd,wadd1,wadd64,wsubn,wsub1,wmul64,ilt_t,ilt_f,ile_t,ile_f,igt_t,igt_f,ige_t,ige_f,ipos_t,ipos_f,igt0_t,igt0_f,nnn,beq0_t,beq0_f,bne0_t,bne0_f,Int.toNat_natCast,Int.toNat_zero,cond_true,cond_false,Bool.and_self,Bool.true_and,Bool.and_true,Bool.false_and,Bool.and_false,Bool.not_true,Bool.not_false,Bool.or_self,Bool.true_or,Bool.or_true,Bool.false_or,Bool.or_false,quoN n (by omega),e4,e3,Wd_rep,hw]
  have hV:2^n*nv (2^64) (trimL l)<(2^64)^(n/64+(trimL l).length+1):=by
   have:=nv_lt hB (trimL l) hm
   rw [pow64] at this ⊢
   have h1:2^n*nv (2^64) (trimL l)<2^n*2^(64*(trimL l).length):=Nat.mul_lt_mul_of_pos_left this (Nat.two_pow_pos _)
   rw [← Nat.pow_add] at h1
   exact Nat.lt_of_lt_of_le h1 (Nat.pow_le_pow_right (by decide) (by omega))
  have p1:=T173_eq (pd (2^64) (n/64+(trimL l).length+1) (2^n*nv (2^64) (trimL l))) (by rw [pd_len]; omega)
  rw [trim_dg hB _ (pd_lt (by decide) _ _),pd_nv (by decide) _ _ hV,hv,Nat.mul_comm (2^n)] at p1
  rw [hv,Nat.mul_comm (2^n)]
  generalize pd (2^64) (n/64+(trimL l).length+1) (nv (2^64) l*2^n)=out at *
  show (bif S173.pre (Wd out,()) then some (S173.F (Wd out,())) else none)=_
  rw [pre173 p1,fun173 p1]
  rfl
theorem W185_eq (ls:List (List Nat)) (hls:∀ l∈ls,l.length≤1000000) (hn:ls.length≤1000000) (i:Nat) (hi:i≤ls.length) (hz:∀ l∈ls.take i,(trimL l).length≤1024) :
  W185_2 (((ls.length:Int),(ls.map Wd,((i:Int),()))),())=some (if (∀ l∈ls,(trimL l).length≤1024) then .inl ((),()) else .inr ((true,()),())):=by
 have key:=lfix_ind (m185_2 S173.pre S173.F) (fun x=>ls.length-x.1.2.2.1.toNat)
  (fun x=>∃ i:Nat,i≤ls.length∧(∀ l∈ls.take i,(trimL l).length≤1024)∧x=(((ls.length:Int),(ls.map Wd,((i:Int),()))),()))
  (fun _=>if (∀ l∈ls,(trimL l).length≤1024) then .inl ((),()) else .inr ((true,()),())) ?_ _ ⟨i,hi,hz,rfl⟩
 ·exact key
 intro L x hx hL
 obtain ⟨i,hi,hz,rfl⟩:=hx
 unfold h185_2
 rcases Nat.lt_or_ge i ls.length with hlt | hge
 ·have eg:(ls.map Wd).getD i []=Wd (ls[i]):=by
   rw [List.getD_eq_getElem?_getD,List.getElem?_map,List.getElem?_eq_getElem hlt]; rfl
  have hil:ls[i]∈ls:=List.getElem_mem hlt
  have p0:=T173_eq ls[i] (hls _ hil)
  simp (disch:=omega) only [wadd,wadd1,wadd64,wsubn,wsub1,wmul64,ilt_t,ilt_f,ile_t,ile_f,igt_t,igt_f,ige_t,ige_f,ipos_t,ipos_f,igt0_t,igt0_f,nnn,beq0_t,beq0_f,bne0_t,bne0_f,Int.toNat_natCast,Int.toNat_zero,cond_true,cond_false,Bool.and_self,Bool.true_and,Bool.and_true,Bool.false_and,Bool.and_false,Bool.not_true,Bool.not_false,Bool.or_self,Bool.true_or,Bool.or_true,Bool.false_or,Bool.or_false,List.length_map,eg,pre173 p0,fun173 p0,Wd_len]
  rcases Nat.lt_or_ge 1024 (trimL ls[i]).length with hg | hg
  ·have e:decide (((trimL ls[i]).length:Int)>1024)=true:=decide_eq_true (by omega)
   have hnot:¬ ∀ l∈ls,(trimL l).length≤1024:=fun hh=>by have:=hh _ hil; omega
   rw [e,cond_true,if_neg hnot]
  ·have e:decide (((trimL ls[i]).length:Int)>1024)=false:=decide_eq_false (by omega)
   rw [e,cond_false]
   refine hL _ ⟨i+1,by omega,?_,rfl⟩ (by simp only [Int.toNat_natCast]; omega)
   intro l hl
   rw [List.take_succ,List.getElem?_eq_getElem hlt] at hl
   rcases List.mem_append.1 hl with hl | hl
   ·exact hz l hl
   ·have:l=ls[i]:=by simpa using hl
    rw [this]; exact hg
 ·have e:i=ls.length:=by omega
  subst e
  rw [List.take_length] at hz
  simp (disch:=omega) only [wadd,wadd1,wadd64,wsubn,wsub1,wmul64,ilt_t,ilt_f,ile_t,ile_f,igt_t,igt_f,ige_t,ige_f,ipos_t,ipos_f,igt0_t,igt0_f,nnn,beq0_t,beq0_f,bne0_t,bne0_f,Int.toNat_natCast,Int.toNat_zero,cond_true,cond_false,Bool.and_self,Bool.true_and,Bool.and_true,Bool.false_and,Bool.and_false,Bool.not_true,Bool.not_false,Bool.or_self,Bool.true_or,Bool.or_true,Bool.false_or,Bool.or_false,if_pos hz]
theorem T185_eq (ls:List (List Nat)) (hls:∀ l∈ls,l.length≤1000000) (hn:ls.length≤1000000) :
  T185 (ls.map Wd,())=some (!decide (∀ l∈ls,(trimL l).length≤1024),()):=by
 show t185 S173.pre S173.F W185_2 (ls.map Wd)=_
 unfold t185
 have hw:=W185_eq ls hls hn 0 (Nat.zero_le _) (fun l hl=>by simp at hl)
 rw [show ((0:Nat):Int)=0 from rfl] at hw
 rw [List.length_map,hw]
 by_cases h:∀ l∈ls,(trimL l).length≤1024
 ·rw [if_pos h,decide_eq_true h]; rfl
 ·rw [if_neg h,decide_eq_false h]; rfl
theorem T185_one (l:List Nat) (hl:l.length≤1000000):T185 ((Wd l::[]),())=some (!decide ((trimL l).length≤1024),()):=by
 have:=T185_eq [l] (by simp; exact hl) (by simp)
 rw [show [l].map Wd=Wd l::[] from rfl] at this
 rw [this]
 simp
theorem T176_eq (l:List Nat) (hl:Ws l) (n:Nat) (hn:n≤65536) (hv:nv (2^64) l*2^n<(2^64)^1024):T176 (Wd l,(n:Int),())=some (Dw (nv (2^64) l*2^n),0,()):=by
 show t176 S186.pre S186.F S185.pre S185.F (Wd l) n=_
 unfold t176
 have p0:=T185_one l hl.2
 have hB:2≤2^64:=by decide
 have h1:=dg_len_le hB 1024 _ hv
 have h0:(trimL l).length≤1024:=by
  rw [trim_dg hB _ hl.1]
  apply dg_len_le hB
  exact Nat.lt_of_le_of_lt (Nat.le_mul_of_pos_right _ (Nat.two_pow_pos _)) hv
 have p1:=T186_eq l hl n (by omega)
 have p2:=T185_one (dg (2^64) (nv (2^64) l*2^n)) (by omega)
 rw [dg_trim hB] at p2
 rw [decide_eq_true h0] at p0
 rw [decide_eq_true h1] at p2
 have e2:decide ((n:Int)>65536)=false:=decide_eq_false (by omega)
 simp only [ineg_f,e2,Bool.or_self,cond_false,pre185 p0,fun185 p0,cond_true,Bool.not_true,pre186 p1,fun186 p1]
 unfold Dw
 simp only [pre185 p2,fun185 p2,cond_true,Bool.not_true,cond_false]
end VL
namespace VL
open Go Vx
theorem nv_take_next (B:Nat) (l:List Nat) (i:Nat):nv B (l.take (i+1))=nv B (l.take i)+B^i*l.getD i 0:=by
 rcases Nat.lt_or_ge i l.length with h | h
 ·exact nv_take_succ B l i h
 ·rw [List.take_of_length_le (by omega),List.take_of_length_le h,List.getD_eq_getElem?_getD,List.getElem?_eq_none h]
  simp
def sumAt (a b:List Nat) (i:Nat):Nat:=nv (2^64) (a.take i)+nv (2^64) (b.take i)
def outAt (a b:List Nat) (i:Nat):List Nat:=pd (2^64) i (sumAt a b i%(2^64)^i)++(a++[0]).drop i
theorem nv_take_lt {l:List Nat} (h:∀ x∈l,x<2^64) (i:Nat):nv (2^64) (l.take i)<(2^64)^i:=by
 have:=nv_lt (B:=2^64) (by decide) (l.take i) fun x hx=>h x (List.mem_of_mem_take hx)
 refine Nat.lt_of_lt_of_le this (Nat.pow_le_pow_right (by decide) ?_)
 rw [List.length_take]
 exact Nat.min_le_left _ _
theorem carry_le {a b:List Nat} (ha:∀ x∈a,x<2^64) (hb:∀ x∈b,x<2^64) (i:Nat):sumAt a b i/(2^64)^i≤1:=by
 have h1:=nv_take_lt ha i
 have h2:=nv_take_lt hb i
 have hp:0<(2^64)^i:=Nat.pow_pos (by decide)
 unfold sumAt
 have:(nv (2^64) (a.take i)+nv (2^64) (b.take i))/(2^64)^i<2:=by
  rw [Nat.div_lt_iff_lt_mul hp]; omega
 omega
theorem sum_next (a b:List Nat) (i:Nat):sumAt a b (i+1)=sumAt a b i%(2^64)^i+(2^64)^i*(a.getD i 0+b.getD i 0+sumAt a b i/(2^64)^i):=by
 have hdm:=Nat.div_add_mod (sumAt a b i) ((2^64)^i)
 have h1:sumAt a b (i+1)=sumAt a b i+(2^64)^i*(a.getD i 0+b.getD i 0):=by
  unfold sumAt
  rw [nv_take_next,nv_take_next,Nat.mul_add]
  omega
 rw [h1,Nat.mul_add ((2^64)^i) (a.getD i 0+b.getD i 0)]
 omega
theorem sum_next_div (a b:List Nat) (i:Nat):sumAt a b (i+1)/(2^64)^(i+1)=(a.getD i 0+b.getD i 0+sumAt a b i/(2^64)^i)/2^64:=by
 have hp:0<(2^64)^i:=Nat.pow_pos (by decide)
 rw [sum_next,Nat.pow_succ (2^64) i,← Nat.div_div_eq_div_mul,Nat.add_mul_div_left _ _ hp,Nat.div_eq_of_lt (Nat.mod_lt _ hp),Nat.zero_add]
theorem sum_next_mod (a b:List Nat) (i:Nat):sumAt a b (i+1)%(2^64)^(i+1)=sumAt a b i%(2^64)^i+(2^64)^i*((a.getD i 0+b.getD i 0+sumAt a b i/(2^64)^i)%2^64):=by
 have hp:0<(2^64)^i:=Nat.pow_pos (by decide)
 rw [sum_next a b i,Nat.pow_succ (2^64) i,Nat.mod_mul,Nat.add_mul_mod_self_left,Nat.mod_mod,Nat.add_mul_div_left _ _ hp,Nat.div_eq_of_lt (Nat.mod_lt _ hp),Nat.zero_add]
theorem pd_snoc {k r v:Nat} (hr:r<(2^64)^k) (hv:v<2^64):pd (2^64) k r++[v]=pd (2^64) (k+1) (r+(2^64)^k*v):=by
 refine pd_at (by decide) ?_ (by simp [pd_len]) ?_
 ·intro x hx
  rcases List.mem_append.1 hx with hx | hx
  ·exact pd_lt (by decide) _ _ x hx
  ·have:x=v:=by simpa using hx
   rw [this]; exact hv
 ·rw [nv_append,pd_len,pd_nv (by decide) _ _ hr]
  simp [nv]
theorem out_set (a b:List Nat) (i:Nat) (hi:i<a.length):(outAt a b i).set i ((a.getD i 0+b.getD i 0+sumAt a b i/(2^64)^i)%2^64)=outAt a b (i+1):=by
 have hp:0<(2^64)^i:=Nat.pow_pos (by decide)
 unfold outAt
 rw [sum_next_mod,← pd_snoc (Nat.mod_lt _ hp) (Nat.mod_lt _ (by decide)),List.set_append_right _ _ (by rw [pd_len]; exact Nat.le_refl _),pd_len,Nat.sub_self,
  List.drop_eq_getElem_cons (l:=a++[0]) (i:=i) (by simp; omega),List.set_cons_zero,List.append_assoc]
 rfl
theorem out_len (a b:List Nat) (i:Nat) (hi:i≤a.length):(outAt a b i).length=a.length+1:=by
 unfold outAt; rw [List.length_append,pd_len]; simp; omega
theorem W143_eq (a b:List Nat) (ha:∀ x∈a,x<2^64) (hb:∀ x∈b,x<2^64) (hlen:a.length≤1000000) (i:Nat) (hi:i≤a.length) :
  W143_8 (((a.length:Int),(Wd b,((i:Int),(Wd a,(((sumAt a b i/(2^64)^i:Nat):Int),((),())))))),(Wd (outAt a b i),()))=some (.inl ((Wd a,(((sumAt a b a.length/(2^64)^a.length:Nat):Int),((),()))),(Wd (outAt a b a.length),()))):=by
 have key:=lfix_ind (m143_8 S155.pre S155.F S173.pre S173.F) (fun x=>a.length-x.1.2.2.1.toNat)
  (fun x=>∃ i:Nat,i≤a.length∧x=(((a.length:Int),(Wd b,((i:Int),(Wd a,(((sumAt a b i/(2^64)^i:Nat):Int),((),())))))),(Wd (outAt a b i),())))
  (fun _=>.inl ((Wd a,(((sumAt a b a.length/(2^64)^a.length:Nat):Int),((),()))),(Wd (outAt a b a.length),()))) ?_ _ ⟨i,hi,rfl⟩
 ·exact key
 intro L x hx hL
 obtain ⟨i,hi,rfl⟩:=hx
 unfold h143_8
 rcases Nat.lt_or_ge i a.length with hlt | hge
 ·have hc:=carry_le ha hb i
  have hol:=out_len a b i hi
  have hset:=out_set a b i hlt
  have hgo:=hL (((a.length:Int),(Wd b,(((i+1:Nat):Int),(Wd a,(((sumAt a b (i+1)/(2^64)^(i+1):Nat):Int),((),())))))),(Wd (outAt a b (i+1)),())) ⟨i+1,by omega,rfl⟩ (by simp only [Int.toNat_natCast]; omega)
  rw [sum_next_div,← hset] at hgo
  have hF:∀ x y c:Nat,S155.F ((x:Int),((y:Int),((c:Int),())))=(((((x+y+c)%2^64:Nat):Int)),((((x+y+c)/2^64:Nat):Int)),()):=fun x y c=>rfl
  have hP:∀ (x y:Int) (c:Nat),c≤1→S155.pre (x,(y,((c:Int),())))=true:=fun x y c h=>by
   show (decide ((0:Int)≤(c:Int))&&decide ((c:Int)≤1))=true
   rw [decide_eq_true (by omega),decide_eq_true (by omega)]; rfl
  generalize sumAt a b i/(2^64)^i=c at *
  generalize outAt a b i=out at *
  rcases Nat.lt_or_ge i b.length with hbl | hbl
  ·simp (disch:=omega) only [wadd,wadd1,wadd64,wsubn,wsub1,wmul64,ilt_t,ilt_f,ile_t,ile_f,igt_t,igt_f,ige_t,ige_f,ipos_t,ipos_f,igt0_t,igt0_f,nnn,beq0_t,beq0_f,bne0_t,bne0_f,Int.toNat_natCast,Int.toNat_zero,cond_true,cond_false,Bool.and_self,Bool.true_and,Bool.and_true,Bool.false_and,Bool.and_false,Bool.not_true,Bool.not_false,Bool.or_self,Bool.true_or,Bool.or_true,Bool.false_or,Bool.or_false,Wd_len,Wd_getD,hP _ _ c hc,hF,Wd_set]
   exact hgo
  ·have hbz:b.getD i 0=0:=by rw [List.getD_eq_getElem?_getD,List.getElem?_eq_none hbl]; rfl
   have hF0:S155.F (((a.getD i 0:Nat):Int),((0:Int),((c:Int),())))=((((a.getD i 0+b.getD i 0+c)%2^64:Nat):Int),(((a.getD i 0+b.getD i 0+c)/2^64:Nat):Int),()):=by rw [hbz]; rfl
   simp (disch:=omega) only [wadd,wadd1,wadd64,wsubn,wsub1,wmul64,ilt_t,ilt_f,ile_t,ile_f,igt_t,igt_f,ige_t,ige_f,ipos_t,ipos_f,igt0_t,igt0_f,nnn,beq0_t,beq0_f,bne0_t,bne0_f,Int.toNat_natCast,Int.toNat_zero,cond_true,cond_false,Bool.and_self,Bool.true_and,Bool.and_true,Bool.false_and,Bool.and_false,Bool.not_true,Bool.not_false,Bool.or_self,Bool.true_or,Bool.or_true,Bool.false_or,Bool.or_false,Wd_len,Wd_getD,hP _ _ c hc,hF0,Wd_set]
   exact hgo
 ·have e:i=a.length:=by omega
  subst e
  simp (disch:=omega) only [wadd,wadd1,wadd64,wsubn,wsub1,wmul64,ilt_t,ilt_f,ile_t,ile_f,igt_t,igt_f,ige_t,ige_f,ipos_t,ipos_f,igt0_t,igt0_f,nnn,beq0_t,beq0_f,bne0_t,bne0_f,Int.toNat_natCast,Int.toNat_zero,cond_true,cond_false,Bool.and_self,Bool.true_and,Bool.and_true,Bool.false_and,Bool.and_false,Bool.not_true,Bool.not_false,Bool.or_self,Bool.true_or,Bool.or_true,Bool.false_or,Bool.or_false]
theorem sum_end (a b:List Nat) (ha:∀ x∈a,x<2^64) (hb:∀ x∈b,x<2^64) (hab:b.length≤a.length) :
  (outAt a b a.length).set a.length (sumAt a b a.length/(2^64)^a.length)=pd (2^64) (a.length+1) (nv (2^64) a+nv (2^64) b)∧nv (2^64) a+nv (2^64) b<(2^64)^(a.length+1):=by
 have hp:0<(2^64)^a.length:=Nat.pow_pos (by decide)
 have hc:=carry_le ha hb a.length
 have hs:sumAt a b a.length=nv (2^64) a+nv (2^64) b:=by
  unfold sumAt; rw [List.take_length,List.take_of_length_le hab]
 have hdm:=Nat.div_add_mod (sumAt a b a.length) ((2^64)^a.length)
 refine ⟨?_,?_⟩
 ·have hd:(a++[0]).drop a.length=[0]:=by simp
  unfold outAt
  rw [hd,List.set_append_right _ _ (by rw [pd_len]; exact Nat.le_refl _),pd_len,Nat.sub_self,List.set_cons_zero,pd_snoc (Nat.mod_lt _ hp) (by omega),Nat.add_comm (sumAt a b a.length%(2^64)^a.length),hdm,hs]
 ·rw [← hs]
  have h1:=nv_take_lt ha a.length
  have h2:=nv_take_lt hb a.length
  unfold sumAt
  rw [Nat.pow_succ (2^64) a.length]
  omega
theorem add_len {a:List Nat}:List.take (List.replicate (a.length+1) (0:Int)).length (Wd a)++List.drop a.length (List.replicate (a.length+1) (0:Int))=Wd (outAt a ([]:List Nat) 0):=by
 rw [List.length_replicate,List.drop_replicate,Nat.add_sub_cancel_left,List.take_of_length_le (by rw [Wd_len]; omega)]
 unfold outAt
 simp [Wd,pd]
theorem out_zero (a b c:List Nat):outAt a b 0=outAt a c 0:=by unfold outAt; simp [pd]
theorem add_main (a b:List Nat) (ha:∀ x∈a,x<2^64) (hb:∀ x∈b,x<2^64) (hlen:a.length+1≤1000000) (hab:b.length≤a.length) :
  (bif decide (0≤IntKind.wrap .i64 ((a.length:Int)+1))&&decide (IntKind.wrap .i64 ((a.length:Int)+1)*8≤140737488355328) then
   obind (W143_8 (((a.length:Int),(Wd b,((0:Int),(Wd a,((0:Int),((),())))))),(List.take (List.replicate (Int.toNat (IntKind.wrap .i64 ((a.length:Int)+1))) (0:Int)).length (Wd a)++List.drop a.length (List.replicate (Int.toNat (IntKind.wrap .i64 ((a.length:Int)+1))) (0:Int)),()))) fun y4 =>
    obind2 y4 (fun y5=>bif decide (0≤((y5.1.1.length:Nat):Int))&&decide (((y5.1.1.length:Nat):Int)<((y5.2.1.length:Nat):Int)) then
     (bif S173.pre ((y5.2.1.set (Int.toNat ((y5.1.1.length:Nat):Int)) y5.1.2.1),()) then some (S173.F ((y5.2.1.set (Int.toNat ((y5.1.1.length:Nat):Int)) y5.1.2.1),())) else none) else none) fun _=>none
  else none:Option (DenS O143))=some (Dw (nv (2^64) a+nv (2^64) b),()):=by
 have hw:=W143_eq a b ha hb (by omega) 0 (Nat.zero_le _)
 have h0:sumAt a b 0/(2^64)^0=0:=by unfold sumAt; simp [nv]
 rw [h0,show ((0:Nat):Int)=0 from rfl,out_zero a b [],← add_len] at hw
 have e3:decide (((a.length+1:Nat):Int)*8≤140737488355328)=true:=decide_eq_true (by omega)
 rw [wadd1 _ (by omega),e3,nnn,Int.toNat_natCast,hw]
 obtain ⟨g1,g2⟩:=sum_end a b ha hb hab
 have hol:=out_len a b a.length (Nat.le_refl _)
 have p1:=T173_eq (pd (2^64) (a.length+1) (nv (2^64) a+nv (2^64) b)) (by rw [pd_len]; exact hlen)
 rw [trim_dg (by decide) _ (pd_lt (by decide) _ _),pd_nv (by decide) _ _ g2,← g1,← Wd_set] at p1
 generalize sumAt a b a.length/(2^64)^a.length=c at *
 generalize outAt a b a.length=out at *
 show (bif decide (0≤(((Wd a).length:Nat):Int))&&decide ((((Wd a).length:Nat):Int)<(((Wd out).length:Nat):Int)) then
     (bif S173.pre ((Wd out).set (Wd a).length (c:Int),()) then some (S173.F ((Wd out).set (Wd a).length (c:Int),())) else none) else none)=_
 simp (disch:=omega) only [wadd,wadd1,wadd64,wsubn,wsub1,wmul64,ilt_t,ilt_f,ile_t,ile_f,igt_t,igt_f,ige_t,ige_f,ipos_t,ipos_f,igt0_t,igt0_f,nnn,beq0_t,beq0_f,bne0_t,bne0_f,Int.toNat_natCast,Int.toNat_zero,cond_true,cond_false,Bool.and_self,Bool.true_and,Bool.and_true,Bool.false_and,Bool.and_false,Bool.not_true,Bool.not_false,Bool.or_self,Bool.true_or,Bool.or_true,Bool.false_or,Bool.or_false,Wd_len,pre173 p1,fun173 p1]
 rfl
theorem T143_eq (l m:List Nat) (hl:Ws l) (hm:Ws m) (hl2:(trimL l).length<1000000) (hm2:(trimL m).length<1000000):T143 (Wd l,Wd m,())=some (Dw (nv (2^64) l+nv (2^64) m),()):=by
 show t143 S155.pre S155.F S173.pre S173.F W143_8 (Wd l) (Wd m)=_
 unfold t143
 have p0:=T173_eq l hl.2
 have p1:=T173_eq m hm.2
 have h1:∀ x∈trimL l,x<2^64:=fun x hx=>hl.1 x (trim_mem hx)
 have h2:∀ x∈trimL m,x<2^64:=fun x hx=>hm.1 x (trim_mem hx)
 simp only [pre173 p0,fun173 p0,pre173 p1,fun173 p1,cond_true]
 rcases Nat.lt_or_ge (trimL l).length (trimL m).length with h | h
 ·rw [Wd_len,Wd_len,ilt_t _ _ h,cond_true]
  have:=add_main (trimL m) (trimL l) h2 h1 hm2 (by omega)
  rw [nv_trim (by decide) hl.1,nv_trim (by decide) hm.1,Nat.add_comm] at this
  exact this
 ·rw [Wd_len,Wd_len,ilt_f _ _ h,cond_false]
  have:=add_main (trimL l) (trimL m) h1 h2 hl2 (by omega)
  rw [nv_trim (by decide) hl.1,nv_trim (by decide) hm.1] at this
  exact this
theorem T146_eq (l:List Nat) (hl:Ws l):T146 (Wd l,())=some (Dw (nv (2^64) l),()):=by
 show t146 S173.pre S173.F (Wd l)=_
 unfold t146
 have p0:=T173_eq l hl.2
 have hle:=(trim_len l).1
 have h2:=hl.2
 have e3:decide ((((trimL l).length:Nat):Int)*8≤140737488355328)=true:=decide_eq_true (by omega)
 simp (disch:=omega) only [wadd,wadd1,wadd64,wsubn,wsub1,wmul64,ilt_t,ilt_f,ile_t,ile_f,igt_t,igt_f,ige_t,ige_f,ipos_t,ipos_f,igt0_t,igt0_f,nnn,beq0_t,beq0_f,bne0_t,bne0_f,Int.toNat_natCast,Int.toNat_zero,cond_true,cond_false,Bool.and_self,Bool.true_and,Bool.and_true,Bool.false_and,Bool.and_false,Bool.not_true,Bool.not_false,Bool.or_self,Bool.true_or,Bool.or_true,Bool.false_or,Bool.or_false,pre173 p0,fun173 p0,Wd_len,e3,List.length_replicate,List.drop_replicate,Nat.sub_self]
 rw [List.take_of_length_le (by rw [Wd_len]; exact Nat.le_refl _),List.replicate_zero,List.append_nil,trim_dg (by decide) l hl.1]
 rfl
theorem T102_eq (l:List Nat) (hl:Ws l):T102 (Wd l,())=some (Dw (nv (2^64) l),()):=by
 show t102 S146.pre S146.F (Wd l)=_
 unfold t102
 have p0:=T146_eq l hl
 simp only [pre146 p0,fun146 p0,cond_true]
end VL
namespace VL
open Go Vx
def Wi (n:Nat):Den (.pair (.int .u64) (.pair (.int .u64) .unit)):=(((n/2^64:Nat):Int),(((n%2^64:Nat):Int),()))
theorem W_le0 (k:Nat) (h:0<k):decide ((k:Int)≤0)=false:=decide_eq_false (by omega)
theorem aux1 {A q R P:Nat} (g1:A%2^64=R) (g2:q<P) (g4:R+P≤2^64):(A+q)%2^64=q+R:=by omega
theorem aux2 {X Y r:Nat} (h:X%2^64=Y) (hr:r<2^64):(2^64*X+r)%2^128=2^64*Y+r:=by omega
theorem aux3 {X h q R P:Nat} (e:X=2^64*h+R+q) (g2:q<P) (g4:R+P≤2^64):X/2^64=h∧X%2^64=q+R:=by omega
theorem T119_eq (n k:Nat) (hn:n<2^128):T119 (Wi n,(k:Int),())=some (Wi (n*2^k%2^128),()):=by
 show t119 (Wi n) k=_
 unfold t119
 rcases Nat.eq_zero_or_pos k with rfl | hk
 ·have e:n*2^0%2^128=n:=by rw [Nat.pow_zero,Nat.mul_one,Nat.mod_eq_of_lt hn]
  rw [e]; rfl
 rw [W_le0 k hk,cond_false]
 rcases Nat.lt_or_ge k 128 with h128 | h128
 ·rw [show decide ((k:Int)≥128)=false from decide_eq_false (by omega),cond_false]
  have hlo:(n%2^64)<2^64:=Nat.mod_lt _ (by decide)
  have hhi:n/2^64<2^64:=by omega
  have hsplit:n=2^64*(n/2^64)+n%2^64:=(Nat.div_add_mod n (2^64)).symm
  rcases Nat.lt_or_ge k 64 with h64 | h64
  ·have e8:IntKind.wrap .i64 (64-(k:Int))=((64-k:Nat):Int):=wsub 64 k (by omega) (by omega)
   rw [show decide ((k:Int)≥64)=false from decide_eq_false (by omega),cond_false,nnn,cond_true,e8,nnn,cond_true,cond_true]
   show some ((orI .u64 (shlI .u64 ((n/2^64:Nat):Int) k) (shrI .u64 ((n%2^64:Nat):Int) ((64-k:Nat):Int)),(shlI .u64 ((n%2^64:Nat):Int) k,())),())=_
   rw [shlN _ k (by omega),shlN _ k (by omega),shrN _ (64-k) (by omega)]
   have hp:=Nat.two_pow_pos k
   have hp2:=Nat.two_pow_pos (64-k)
   have h2:2^64=2^(64-k)*2^k:=by rw [← Nat.pow_add]; congr 1; omega
   generalize n/2^64=hi at *
   generalize n%2^64=lo at *
   have g1:hi*2^k%2^64=(hi%2^(64-k))*2^k:=by rw [h2,Nat.mul_mod_mul_right]
   have g2:lo/2^(64-k)<2^k:=by rw [Nat.div_lt_iff_lt_mul hp2,Nat.mul_comm,← h2]; exact hlo
   have g3:hi%2^(64-k)+1≤2^(64-k):=Nat.mod_lt _ hp2
   have g4:=Nat.mul_le_mul_right (2^k) g3
   rw [← h2,Nat.add_mul,Nat.one_mul] at g4
   have hor:orI .u64 ((hi*2^k%2^64:Nat):Int) ((lo/2^(64-k):Nat):Int)=((lo/2^(64-k)+(hi%2^(64-k))*2^k:Nat):Int):=by
    have:=orN g2 (b:=hi%2^(64-k)) (by omega)
    rw [g1]
    have hc:∀ a b:Nat,a<2^64→b<2^64→orI .u64 (a:Int) (b:Int)=orI .u64 (b:Int) (a:Int):=fun a b ha hb=>by
     rw [orN2 ha hb,orN2 hb ha,Nat.or_comm]
    rw [hc _ _ (by omega) (by omega)]
    exact this
   rw [hor]
   have hdm:=Nat.div_add_mod lo (2^(64-k))
   have v1:n*2^k=2^64*(hi*2^k+lo/2^(64-k))+lo*2^k%2^64:=by
    have g5:lo*2^k%2^64=(lo%2^(64-k))*2^k:=by rw [h2,Nat.mul_mod_mul_right]
    have g6:2^64*(lo/2^(64-k))=2^(64-k)*(lo/2^(64-k))*2^k:=by
     rw [Nat.mul_right_comm,← h2]
    rw [hsplit,Nat.add_mul,Nat.mul_add,Nat.mul_assoc,Nat.add_assoc,g6,g5,← Nat.add_mul,hdm]
   have v2:n*2^k%2^128=2^64*(lo/2^(64-k)+(hi%2^(64-k))*2^k)+lo*2^k%2^64:=by
    rw [v1]
    have hlo2:lo*2^k%2^64<2^64:=Nat.mod_lt _ (by decide)
    exact aux2 (aux1 g1 g2 g4) hlo2
   have hlo2:lo*2^k%2^64<2^64:=Nat.mod_lt _ (by decide)
   have e1:n*2^k%2^128/2^64=lo/2^(64-k)+(hi%2^(64-k))*2^k:=by rw [v2]; omega
   have e2:n*2^k%2^128%2^64=lo*2^k%2^64:=by rw [v2]; omega
   unfold Wi
   rw [e1,e2]
  ·have e8:IntKind.wrap .i64 ((k:Int)-64)=((k-64:Nat):Int):=wsub k 64 (by omega) (by omega)
   rw [show decide ((k:Int)≥64)=true from decide_eq_true (by omega),cond_true,e8,nnn,cond_true]
   show some ((shlI .u64 ((n%2^64:Nat):Int) ((k-64:Nat):Int),((0:Int),())),())=_
   rw [shlN _ (k-64) (by omega)]
   have v1:n*2^k%2^128=2^64*(n%2^64*2^(k-64)%2^64):=by
    have h2:2^k=2^(k-64)*2^64:=by rw [← Nat.pow_add]; congr 1; omega
    rw [h2,← Nat.mul_assoc,show 2^128=2^64*2^64 by decide,Nat.mul_mod_mul_right,Nat.mul_comm _ (2^64),Nat.mul_mod n (2^(k-64)),Nat.mul_mod (n%2^64) (2^(k-64)),Nat.mod_mod]
   have e1:n*2^k%2^128/2^64=n%2^64*2^(k-64)%2^64:=by rw [v1]; omega
   have e2:n*2^k%2^128%2^64=0:=by rw [v1]; omega
   unfold Wi
   rw [e1,e2]
   rfl
 ·rw [show decide ((k:Int)≥128)=true from decide_eq_true (by omega),cond_true]
  have e:n*2^k%2^128=0:=by
   rw [show k=(k-128)+128 by omega,Nat.pow_add,← Nat.mul_assoc]
   exact Nat.mul_mod_left _ _
  rw [e]
  rfl
theorem T120_eq (n k:Nat) (hn:n<2^128):T120 (Wi n,(k:Int),())=some (Wi (n/2^k),()):=by
 show t120 (Wi n) k=_
 unfold t120
 rcases Nat.eq_zero_or_pos k with rfl | hk
 ·have e:n/2^0=n:=by rw [Nat.pow_zero,Nat.div_one]
  rw [e]; rfl
 rw [W_le0 k hk,cond_false]
 rcases Nat.lt_or_ge k 128 with h128 | h128
 ·rw [show decide ((k:Int)≥128)=false from decide_eq_false (by omega),cond_false]
  have hlo:(n%2^64)<2^64:=Nat.mod_lt _ (by decide)
  have hhi:n/2^64<2^64:=by omega
  rcases Nat.lt_or_ge k 64 with h64 | h64
  ·have e8:IntKind.wrap .i64 (64-(k:Int))=((64-k:Nat):Int):=wsub 64 k (by omega) (by omega)
   rw [show decide ((k:Int)≥64)=false from decide_eq_false (by omega),cond_false,nnn,cond_true,e8,nnn,cond_true,cond_true]
   show some ((shrI .u64 ((n/2^64:Nat):Int) k,(orI .u64 (shrI .u64 ((n%2^64:Nat):Int) k) (shlI .u64 ((n/2^64:Nat):Int) ((64-k:Nat):Int)),())),())=_
   rw [shlN _ (64-k) (by omega),shrN _ k (by omega),shrN _ k (by omega)]
   have hp:=Nat.two_pow_pos k
   have hp2:=Nat.two_pow_pos (64-k)
   have h2:2^64=2^k*2^(64-k):=by rw [← Nat.pow_add]; congr 1; omega
   have hsplit:n=2^64*(n/2^64)+n%2^64:=(Nat.div_add_mod n (2^64)).symm
   generalize n/2^64=hi at *
   generalize n%2^64=lo at *
   have g1:hi*2^(64-k)%2^64=(hi%2^k)*2^(64-k):=by rw [h2,Nat.mul_mod_mul_right]
   have g2:lo/2^k<2^(64-k):=by rw [Nat.div_lt_iff_lt_mul hp,Nat.mul_comm,← h2]; exact hlo
   have g3:hi%2^k+1≤2^k:=Nat.mod_lt _ hp
   have g4:=Nat.mul_le_mul_right (2^(64-k)) g3
   rw [← h2,Nat.add_mul,Nat.one_mul] at g4
   rw [g1,orN g2 (by omega)]
   have v1:n/2^k=hi*2^(64-k)+lo/2^k:=by
    have:n=lo+2^k*(hi*2^(64-k)):=by rw [hsplit,h2,Nat.mul_assoc,Nat.mul_comm hi]; omega
    rw [this,Nat.add_mul_div_left _ _ hp,Nat.add_comm]
   have hdm:=Nat.div_add_mod hi (2^k)
   have v2:hi*2^(64-k)=2^64*(hi/2^k)+(hi%2^k)*2^(64-k):=by
    rw [h2,Nat.mul_right_comm,← Nat.add_mul,hdm]
   rw [v2] at v1
   obtain ⟨e1,e2⟩:=aux3 v1 g2 g4
   unfold Wi
   rw [e1,e2]
  ·have e8:IntKind.wrap .i64 ((k:Int)-64)=((k-64:Nat):Int):=wsub k 64 (by omega) (by omega)
   rw [show decide ((k:Int)≥64)=true from decide_eq_true (by omega),cond_true,e8,nnn,cond_true]
   show some (((0:Int),(shrI .u64 ((n/2^64:Nat):Int) ((k-64:Nat):Int),())),())=_
   rw [shrN _ (k-64) (by omega)]
   have v1:n/2^k=n/2^64/2^(k-64):=by
    rw [Nat.div_div_eq_div_mul,← Nat.pow_add]; congr 2; omega
   have hs:n/2^k<2^64:=by
    rw [v1]; exact Nat.lt_of_le_of_lt (Nat.div_le_self _ _) hhi
   have e1:n/2^k/2^64=0:=Nat.div_eq_of_lt hs
   have e2:n/2^k%2^64=n/2^64/2^(k-64):=by rw [← v1]; exact Nat.mod_eq_of_lt hs
   unfold Wi
   rw [e1,e2]
   rfl
 ·rw [show decide ((k:Int)≥128)=true from decide_eq_true (by omega),cond_true]
  have e:n/2^k=0:=Nat.div_eq_of_lt (Nat.lt_of_lt_of_le hn (Nat.pow_le_pow_right (by decide) h128))
  rw [e]
  rfl
theorem addF (x y c:Nat):S155.F ((x:Int),((y:Int),((c:Int),())))=(((((x+y+c)%2^64:Nat):Int)),((((x+y+c)/2^64:Nat):Int)),()):=rfl
theorem addP (x y:Int) (c:Nat) (h:c≤1):S155.pre (x,(y,((c:Int),())))=true:=by
 show (decide ((0:Int)≤(c:Int))&&decide ((c:Int)≤1))=true
 rw [decide_eq_true (by omega),decide_eq_true (by omega)]; rfl
theorem subF (x y c:Nat) (h:c≤1) (hx:x<2^64) (hy:y<2^64):S157.F ((x:Int),((y:Int),((c:Int),())))=(((((x+2^64-y-c)%2^64:Nat):Int)),((if x<y+c then 1 else 0:Nat):Int),()):=by
 show ((((x:Int)-y-c)%18446744073709551616:Int),((if (x:Int)<y+c then 1 else 0:Int)),())=_
 have e1:((x:Int)-y-c)%18446744073709551616=((x+2^64-y-c)%2^64:Nat):=by omega
 rw [e1]
 by_cases h:x<y+c
 ·rw [if_pos h,if_pos (by omega)]; rfl
 ·rw [if_neg h,if_neg (by omega)]; rfl
theorem subP (x y:Int) (c:Nat) (h:c≤1):S157.pre (x,(y,((c:Int),())))=true:=by
 show (decide ((0:Int)≤(c:Int))&&decide ((c:Int)≤1))=true
 rw [decide_eq_true (by omega),decide_eq_true (by omega)]; rfl
theorem T121_eq (n m:Nat) (h:n+m<2^128):T121 (Wi n,Wi m,())=some (Wi (n+m),0,()):=by
 show t121 S155.pre S155.F (Wi n) (Wi m)=_
 unfold t121
 have c1:(n%2^64+m%2^64+0)/2^64≤1:=by omega
 have p1:S155.pre ((Wi n).2.1,((Wi m).2.1,((0:Int),())))=true:=addP _ _ 0 (by decide)
 have q1:S155.F ((Wi n).2.1,((Wi m).2.1,((0:Int),())))=_:=addF (n%2^64) (m%2^64) 0
 rw [p1,q1,cond_true]
 have p2:S155.pre ((Wi n).1,((Wi m).1,((((n%2^64+m%2^64+0)/2^64:Nat):Int),())))=true:=addP _ _ _ c1
 have q2:S155.F ((Wi n).1,((Wi m).1,((((n%2^64+m%2^64+0)/2^64:Nat):Int),())))=_:=addF (n/2^64) (m/2^64) ((n%2^64+m%2^64+0)/2^64)
 dsimp only
 rw [p2,q2,cond_true]
 have e1:(n/2^64+m/2^64+(n%2^64+m%2^64+0)/2^64)%2^64=(n+m)/2^64:=by omega
 have e2:(n%2^64+m%2^64+0)%2^64=(n+m)%2^64:=by omega
 have e3:(n/2^64+m/2^64+(n%2^64+m%2^64+0)/2^64)/2^64=0:=by omega
 rw [e1,e2,e3]
 rfl
theorem T124_eq (n m:Nat) (hn:n<2^128) (h:m≤n):T124 (Wi n,Wi m,())=some (Wi (n-m),0,()):=by
 show t124 S157.pre S157.F (Wi n) (Wi m)=_
 unfold t124
 have p1:S157.pre ((Wi n).2.1,((Wi m).2.1,((0:Int),())))=true:=subP _ _ 0 (by decide)
 have q1:S157.F ((Wi n).2.1,((Wi m).2.1,((0:Int),())))=_:=subF (n%2^64) (m%2^64) 0 (by decide) (by omega) (by omega)
 rw [p1,q1,cond_true]
 have c1:(if n%2^64<m%2^64+0 then 1 else 0)≤1:=by split <;> omega
 have p2:S157.pre ((Wi n).1,((Wi m).1,(((if n%2^64<m%2^64+0 then 1 else 0:Nat):Int),())))=true:=subP _ _ _ c1
 have q2:S157.F ((Wi n).1,((Wi m).1,(((if n%2^64<m%2^64+0 then 1 else 0:Nat):Int),())))=_:=subF (n/2^64) (m/2^64) _ c1 (by omega) (by omega)
 dsimp only
 rw [p2,q2,cond_true]
 have e2:(n%2^64+2^64-m%2^64-0)%2^64=(n-m)%2^64:=by omega
 rw [e2]
 by_cases hb:n%2^64<m%2^64+0
 ·rw [if_pos hb,if_neg (by omega)]
  have e1:(n/2^64+2^64-m/2^64-1)%2^64=(n-m)/2^64:=by omega
  rw [e1]
  rfl
 ·rw [if_neg hb,if_neg (by omega)]
  have e1:(n/2^64+2^64-m/2^64-0)%2^64=(n-m)/2^64:=by omega
  rw [e1]
  rfl
theorem T123_eq (n m:Nat):T123 (Wi n,Wi m,())=some (if n=m then 0 else if n<m then -1 else 1,()):=by
 show t123 (Wi n) (Wi m)=_
 unfold t123
 show (bif (((n/2^64:Nat):Int)==((m/2^64:Nat):Int)&&((n%2^64:Nat):Int)==((m%2^64:Nat):Int)) then some ((0:Int),())
  else bif (decide (((n/2^64:Nat):Int)<((m/2^64:Nat):Int))||(((n/2^64:Nat):Int)==((m/2^64:Nat):Int)&&decide (((n%2^64:Nat):Int)<((m%2^64:Nat):Int)))) then some ((-1:Int),()) else some ((1:Int),()):Option (Int×Unit))=_
 rw [nbeq,nbeq,nlt,nlt]
 rcases Nat.lt_trichotomy n m with h | h | h
 ·have e1:(n/2^64==m/2^64&&n%2^64==m%2^64)=false:=by
   rw [Bool.and_eq_false_iff,beq_eq_false_iff_ne,beq_eq_false_iff_ne]; omega
  have e2:(decide (n/2^64<m/2^64)||(n/2^64==m/2^64&&decide (n%2^64<m%2^64)))=true:=by
   rw [Bool.or_eq_true,Bool.and_eq_true,decide_eq_true_eq,decide_eq_true_eq,beq_iff_eq]; omega
  rw [e1,e2,if_neg (by omega),if_pos h]; rfl
 ·subst h
  rw [if_pos rfl]
  simp
 ·have e1:(n/2^64==m/2^64&&n%2^64==m%2^64)=false:=by
   rw [Bool.and_eq_false_iff,beq_eq_false_iff_ne,beq_eq_false_iff_ne]; omega
  have e2:(decide (n/2^64<m/2^64)||(n/2^64==m/2^64&&decide (n%2^64<m%2^64)))=false:=by
   rw [Bool.or_eq_false_iff,Bool.and_eq_false_iff,decide_eq_false_iff_not,decide_eq_false_iff_not,beq_eq_false_iff_ne]; omega
  rw [e1,e2,if_neg (by omega),if_neg (by omega)]; rfl
end VL
namespace VL
open Go Vx
def furM (m:Int) (neg odd:Bool) (rest:Nat):Bool :=
 if m=4 then neg else if m=3 then !neg else if m=0 then (if rest=2 then odd else decide (2≤rest)) else if m=1 then decide (2≤rest) else if m=5 then !odd else false
theorem ibeq_f (a b:Int) (h:a≠b):(a==b)=false:=by simp [h]
theorem T177_eq (m:Int) (neg odd:Bool) (rest:Nat):T177 (m,neg,odd,(rest:Int),())=some (furM m neg odd rest,()):=by
 show t177 m neg odd (rest:Int)=_
 have e2:decide ((rest:Int)≥2)=decide (2≤rest):=by rw [Bool.eq_iff_iff,decide_eq_true_eq,decide_eq_true_eq]; omega
 have e3:((rest:Int)==2)=decide (rest=2):=by rw [Bool.eq_iff_iff,decide_eq_true_eq,beq_iff_eq]; omega
 unfold t177 furM
 rw [e2,e3]
 by_cases h4:m=4
 ·subst h4; cases neg <;> rfl
 rw [ibeq_f m 4 h4,cond_false,if_neg h4]
 by_cases h3:m=3
 ·subst h3; rfl
 rw [ibeq_f m 3 h3,cond_false,if_neg h3]
 by_cases h0:m=0
 ·subst h0
  by_cases hr:rest=2
  ·subst hr; rfl
  ·rw [decide_eq_false hr,if_pos rfl,if_neg hr]; rfl
 rw [ibeq_f m 0 h0,cond_false,if_neg h0]
 by_cases h1:m=1
 ·subst h1; rfl
 rw [ibeq_f m 1 h1,cond_false,if_neg h1]
 by_cases h5:m=5
 ·subst h5; rfl
 rw [ibeq_f m 5 h5,cond_false,if_neg h5]
def quoE (n:Nat) (e q:Int):Nat:=if q≤e then n*2^(e-q).toNat else n/2^(q-e).toNat
def clsR (r s:Nat):Nat:=if r=0 then 0 else if r<2^(s-1) then 1 else if r=2^(s-1) then 2 else 3
def rstE (n:Nat) (e q:Int):Nat:=if q≤e then 0 else clsR (n%2^(q-e).toNat) (q-e).toNat
def j4 (n:Nat) (e q:Int):Nat:=if 2≤q-e then jamN n (q-e-2).toNat else n*2^(2-(q-e)).toNat
theorem j4_eq (n:Nat) (e q:Int):j4 n e q/4=quoE n e q∧j4 n e q%4=rstE n e q:=by
 unfold j4 quoE rstE
 by_cases h2:2≤q-e
 ·rw [if_pos h2,if_neg (by omega),if_neg (by omega)]
  have es:(q-e).toNat=(q-e-2).toNat+2:=by omega
  rw [es]
  generalize (q-e-2).toNat=s
  have hp:=Nat.two_pow_pos s
  have e1:2^(s+2)=2^s*4:=by rw [Nat.pow_add]
  have e2:2^(s+2-1)=2^s*2:=by rw [show s+2-1=s+1 by omega,Nat.pow_succ]
  unfold jamN clsR
  rw [e2,e1,← Nat.div_div_eq_div_mul,Nat.mod_mul]
  have hr:=Nat.mod_lt n hp
  generalize n%2^s=r at *
  generalize n/2^s=u at *
  have h4:u%4=0∨u%4=1∨u%4=2∨u%4=3:=by omega
  constructor
  ·split <;> omega
  ·rcases h4 with h | h | h | h <;> rw [h] <;> by_cases hz:r=0
   ·rw [if_pos hz,if_pos (by omega)]; exact h
   ·rw [if_neg hz,if_neg (by omega),if_pos (by omega)]; omega
   ·rw [if_pos hz,if_neg (by omega),if_pos (by omega)]; exact h
   ·rw [if_neg hz,if_neg (by omega),if_pos (by omega)]; omega
   ·rw [if_pos hz,if_neg (by omega),if_neg (by omega),if_pos (by omega)]; exact h
   ·rw [if_neg hz,if_neg (by omega),if_neg (by omega),if_neg (by omega)]; omega
   ·rw [if_pos hz,if_neg (by omega),if_neg (by omega),if_neg (by omega)]; exact h
   ·rw [if_neg hz,if_neg (by omega),if_neg (by omega),if_neg (by omega)]; omega
 ·rw [if_neg h2]
  by_cases h1:q≤e
  ·rw [if_pos h1,if_pos h1,show (2-(q-e)).toNat=(e-q).toNat+2 by omega,Nat.pow_add,← Nat.mul_assoc]
   generalize n*2^(e-q).toNat=x
   omega
  ·rw [if_neg h1,if_neg h1,show (2-(q-e)).toNat=1 by omega,show (q-e).toNat=1 by omega]
   unfold clsR
   rcases Nat.mod_two_eq_zero_or_one n with h | h
   ·rw [show n%2^1=0 from h,if_pos rfl]; omega
   ·rw [show n%2^1=1 from h,if_neg (by omega),if_neg (by decide),if_pos (by decide)]; omega
def cutR (n:Nat) (e q:Int) (more:Bool):Nat:=if more then rstE n e q/2*2+1 else rstE n e q
def cutN (m:Int) (neg:Bool) (n:Nat) (e q:Int) (more:Bool):Nat :=
 if cutR n e q more≠0∧furM m neg (decide (quoE n e q%2=1)) (cutR n e q more)=true then quoE n e q+1 else quoE n e q
theorem Dw_zero:Dw 0=[]:=by unfold Dw; rw [dg_zero]; rfl
theorem Dw_len {n:Nat} (h:n≠0):0<(Dw n).length:=by
 unfold Dw; rw [Wd_len,dg_pos (by decide) (by omega)]; simp
theorem Dw_len_gt {n:Nat} (h:n≠0):decide ((((Dw n).length:Nat):Int)>0)=true:=decide_eq_true (by have:=Dw_len h; omega)
theorem Dw_len_pos {n:Nat} (h:n≠0):decide ((0:Int)<(((Dw n).length:Nat):Int))=true:=decide_eq_true (by have:=Dw_len h; omega)
theorem Dw_get (n:Nat):(Dw n).getD 0 0=((n%2^64:Nat):Int):=by
 unfold Dw; rw [Wd_getD]
 rcases Nat.eq_zero_or_pos n with rfl | h
 ·rw [dg_zero]; rfl
 ·rw [dg_pos (by decide) h]; rfl
theorem Dw_guard (n:Nat):(decide ((0:Int)<(((Dw n).length:Nat):Int))||!decide ((((Dw n).length:Nat):Int)>0))=true:=by
 by_cases h:0<(Dw n).length
 ·rw [decide_eq_true (by omega)]; rfl
 ·rw [decide_eq_false (p:=(((Dw n).length:Nat):Int)>0) (by omega)]; simp
theorem and3 (n:Nat):andI .u64 ((n%2^64:Nat):Int) 3=((n%4:Nat):Int):=by
 have:=andI_mask (m:=n%2^64) (n:=2) (Nat.mod_lt _ (by decide)) (by decide)
 rw [show n%2^64%2^2=n%4 by omega] at this
 exact this
theorem and1 (n:Nat):andI .u64 ((n%2^64:Nat):Int) 1=((n%2:Nat):Int):=by
 have:=andI_mask (m:=n%2^64) (n:=1) (Nat.mod_lt _ (by decide)) (by decide)
 rw [show n%2^64%2^1=n%2 by omega] at this
 exact this
theorem or1 (n:Nat) (h:n<2^64):orI .u64 (n:Int) 1=((n/2*2+1:Nat):Int):=by
 have:=orN2 (a:=n) (b:=1) h (by decide)
 rw [or_one] at this
 exact this
theorem or01:orI .u64 0 1=1:=by decide
theorem odd_guard (u:Nat):(decide ((((Dw u).length:Nat):Int)>0)&&(andI .u64 ((Dw u).getD 0 0) 1==1))=decide (u%2=1):=by
 rw [Dw_get,and1]
 rcases Nat.eq_zero_or_pos u with rfl | h
 ·rw [Dw_zero]; rfl
 ·rw [Dw_len_gt (by omega),Bool.true_and,Bool.eq_iff_iff,decide_eq_true_eq,beq_iff_eq]; omega
theorem Dw_ws {n:Nat} (h:n<(2^64)^5000):Ws (dg (2^64) n):=by
 have:=dg_len_le (B:=2^64) (by decide) 5000 n h
 exact dg_ws n (by omega)
theorem nv_Dw (n:Nat):nv (2^64) (dg (2^64) n)=n:=nv_dg (by decide) n
theorem shr2 {j:Nat} (hj:Ws (dg (2^64) j)):T141 (Dw j,(2:Int),())=some (Dw (j/4),0,()):=by
 have:=T141_eq (dg (2^64) j) hj 2 (by decide)
 rw [nv_Dw] at this
 exact this
theorem add1 {u:Nat} (hu:Ws (dg (2^64) u)) (hl:(dg (2^64) u).length<1000000):T143 (Dw u,((1:Int)::[]),())=some (Dw (u+1),()):=by
 have:=T143_eq (dg (2^64) u) [1] hu ⟨by simp,by simp⟩ (by rw [dg_trim (by decide)]; exact hl) (by simp [trimL])
 rw [nv_Dw,show nv (2^64) [1]=1 by rfl] at this
 exact this
end VL
namespace VL
open Go Vx
theorem gt00:decide ((0:Int)>0)=false:=rfl
theorem T150_eq (m:Int) (neg:Bool) (n:Nat) (e q:Int) (more:Bool) (hn:n<(2^64)^2000) (hq:q-e≤10000000) (he:-1000000000≤e∧e≤1000000000) (hqb:-1000000000≤q∧q≤1000000000)
  (hs:q-e<2→2-(q-e)≤65536∧n*2^(2-(q-e)).toNat<(2^64)^1024) :
  T150 ((neg,Dw n,e,more,()),m,q,())=some (Dw (cutN m neg n e q more),decide (cutR n e q more≠0),()):=by
 show t150 _ _ _ _ _ _ _ _ _ _ (neg,Dw n,e,more,()) m q=_
 unfold t150
 have hnw:Ws (dg (2^64) n):=Dw_ws (Nat.lt_trans hn (Nat.pow_lt_pow_right (by decide) (by decide)))
 have e0:IntKind.wrap .i64 (q-e)=q-e:=wrapI (by omega)
 have hj4:=j4_eq n e q
 dsimp only
 rw [e0]
 by_cases h2:2≤q-e
 ·rw [show decide (q-e≥2)=true from decide_eq_true h2,cond_true]
  obtain ⟨s,hs⟩:=Int.eq_ofNat_of_zero_le (show 0≤q-e-2 by omega)
  have e1:IntKind.wrap .i64 (q-e-2)=(s:Int):=by rw [wrapI (by omega)]; exact hs
  have hj:j4 n e q=jamN n s:=by unfold j4; rw [if_pos h2]; congr 1; omega
  rw [hj] at hj4
  have hjn:jamN n s≤n+1:=by
   unfold jamN
   have:=Nat.div_le_self n (2^s)
   split <;> omega
  have p0:=T175_eq (dg (2^64) n) hnw s (by omega)
  rw [nv_Dw] at p0
  have hjl:jamN n s<(2^64)^5000:=by
   have h1:(2^64)^2000<(2^64)^5000:=Nat.pow_lt_pow_right (by decide) (by decide)
   generalize (2^64)^2000=A at *
   generalize (2^64)^5000=B at *
   omega
  clear hj
  generalize jamN n s=j at *
  have hj:Ws (dg (2^64) j):=Dw_ws hjl
  rw [e1]
  have p0:T175 (Dw n,(s:Int),())=some (Dw j,0,()):=p0
  have p1:=shr2 hj
  have hu:Ws (dg (2^64) (j/4)):=Dw_ws (Nat.lt_of_le_of_lt (Nat.div_le_self _ _) hjl)
  have hul:=dg_len_le (B:=2^64) (by decide) 5000 (j/4) (Nat.lt_of_le_of_lt (Nat.div_le_self _ _) hjl)
  have p3:=add1 hu (by omega)
  have h4:j%4<4:=Nat.mod_lt _ (by decide)
  unfold cutN cutR
  rw [← hj4.1,← hj4.2]
  rcases Nat.eq_zero_or_pos j with hj0 | hj0
  ·subst hj0
   have pz:T141 ([],(2:Int),())=some (Dw (0/4),0,()):=by rw [← Dw_zero]; exact p1
   cases more with
   | true =>
    have p2:T177 (m,neg,decide (0/4%2=1),(1:Int),())=some (furM m neg (decide (0/4%2=1)) 1,()):=T177_eq m neg _ 1
    simp only [pre175 p0,fun175 p0,cond_true,Dw_zero,List.length_nil,igt0_f,Int.natCast_zero,cond_false,Int.toNat_zero,gt00,or01,pre141 pz,fun141 pz,Dw_guard,odd_guard,pre177 p2,fun177 p2,Bool.true_or,Bool.or_true,Bool.true_and]
    cases hf:furM m neg (decide (0/4%2=1)) 1 with
    | true=>simp only [cond_true,pre143 p3,fun143 p3]; have hf:furM m neg false 1=true:=hf; simp [hf]
    | false=>simp only [cond_false]; have hf:furM m neg false 1=false:=hf; simp [hf]
   | false =>
    simp only [pre175 p0,fun175 p0,cond_true,Dw_zero,List.length_nil,Int.natCast_zero,cond_false,Int.toNat_zero,gt00,pre141 pz,fun141 pz,Dw_guard,Bool.or_true]
    simp
  ·have hjn:j≠0:=by omega
   cases more with
   | true =>
    have p2:=T177_eq m neg (decide (j/4%2=1)) (j%4/2*2+1)
    have hr:j%4/2*2+1≠0:=by omega
    simp only [pre175 p0,fun175 p0,cond_true,Dw_len_gt hjn,Dw_len_pos hjn,Int.toNat_zero,Dw_get j,and3,or1 (j%4) (by omega),pre141 p1,fun141 p1,Dw_guard,odd_guard,pre177 p2,fun177 p2,Bool.true_or,Bool.or_true,bne0_t _ hr,Bool.true_and]
    cases hf:furM m neg (decide (j/4%2=1)) (j%4/2*2+1) with
    | true=>simp only [cond_true,pre143 p3,fun143 p3]; simp [hf]
    | false=>simp only [cond_false]; simp [hf]
   | false =>
    have p2:=T177_eq m neg (decide (j/4%2=1)) (j%4)
    simp only [pre175 p0,fun175 p0,cond_true,cond_false,Dw_len_gt hjn,Dw_len_pos hjn,Int.toNat_zero,Dw_get j,and3,pre141 p1,fun141 p1,Dw_guard,odd_guard,pre177 p2,fun177 p2,Bool.true_or,Bool.or_true]
    rcases Nat.eq_zero_or_pos (j%4) with hz | hz
    ·rw [bne0_f _ hz,Bool.false_and,cond_false]
     simp [hz]
    ·have hr:j%4≠0:=by omega
     rw [bne0_t _ hr,Bool.true_and]
     cases hf:furM m neg (decide (j/4%2=1)) (j%4) with
     | true=>simp only [cond_true,pre143 p3,fun143 p3]; simp [hf,hr]
     | false=>simp only [cond_false]; simp [hf,hr]
 ·rw [show decide (q-e≥2)=false from decide_eq_false h2,cond_false]
  obtain ⟨s,hse⟩:=Int.eq_ofNat_of_zero_le (show 0≤2-(q-e) by omega)
  have e1:IntKind.wrap .i64 (2-(q-e))=(s:Int):=by rw [wrapI (by omega)]; exact hse
  have hj:j4 n e q=n*2^s:=by unfold j4; rw [if_neg h2]; congr 2; omega
  rw [hj] at hj4
  obtain ⟨hs1,hs2⟩:=hs (by omega)
  rw [show (2-(q-e)).toNat=s by omega] at hs2
  have p0:=T176_eq (dg (2^64) n) hnw s (by omega) (by rw [nv_Dw]; exact hs2)
  rw [nv_Dw] at p0
  have hjl:n*2^s<(2^64)^5000:=Nat.lt_trans hs2 (Nat.pow_lt_pow_right (by decide) (by decide))
  clear hj
  generalize n*2^s=j at *
  have hj:Ws (dg (2^64) j):=Dw_ws hjl
  rw [e1]
  have p0:T176 (Dw n,(s:Int),())=some (Dw j,0,()):=p0
  have p1:=shr2 hj
  have hu:Ws (dg (2^64) (j/4)):=Dw_ws (Nat.lt_of_le_of_lt (Nat.div_le_self _ _) hjl)
  have hul:=dg_len_le (B:=2^64) (by decide) 5000 (j/4) (Nat.lt_of_le_of_lt (Nat.div_le_self _ _) hjl)
  have p3:=add1 hu (by omega)
  have h4:j%4<4:=Nat.mod_lt _ (by decide)
  unfold cutN cutR
  rw [← hj4.1,← hj4.2]
  rcases Nat.eq_zero_or_pos j with hj0 | hj0
  ·subst hj0
   have pz:T141 ([],(2:Int),())=some (Dw (0/4),0,()):=by rw [← Dw_zero]; exact p1
   cases more with
   | true =>
    have p2:T177 (m,neg,decide (0/4%2=1),(1:Int),())=some (furM m neg (decide (0/4%2=1)) 1,()):=T177_eq m neg _ 1
    simp only [pre176 p0,fun176 p0,cond_true,Dw_zero,List.length_nil,igt0_f,Int.natCast_zero,cond_false,Int.toNat_zero,gt00,or01,pre141 pz,fun141 pz,Dw_guard,odd_guard,pre177 p2,fun177 p2,Bool.true_or,Bool.or_true,Bool.true_and]
    cases hf:furM m neg (decide (0/4%2=1)) 1 with
    | true=>simp only [cond_true,pre143 p3,fun143 p3]; have hf:furM m neg false 1=true:=hf; simp [hf]
    | false=>simp only [cond_false]; have hf:furM m neg false 1=false:=hf; simp [hf]
   | false =>
    simp only [pre176 p0,fun176 p0,cond_true,Dw_zero,List.length_nil,Int.natCast_zero,cond_false,Int.toNat_zero,gt00,pre141 pz,fun141 pz,Dw_guard,Bool.or_true]
    simp
  ·have hjn:j≠0:=by omega
   cases more with
   | true =>
    have p2:=T177_eq m neg (decide (j/4%2=1)) (j%4/2*2+1)
    have hr:j%4/2*2+1≠0:=by omega
    simp only [pre176 p0,fun176 p0,cond_true,Dw_len_gt hjn,Dw_len_pos hjn,Int.toNat_zero,Dw_get j,and3,or1 (j%4) (by omega),pre141 p1,fun141 p1,Dw_guard,odd_guard,pre177 p2,fun177 p2,Bool.true_or,Bool.or_true,bne0_t _ hr,Bool.true_and]
    cases hf:furM m neg (decide (j/4%2=1)) (j%4/2*2+1) with
    | true=>simp only [cond_true,pre143 p3,fun143 p3]; simp [hf]
    | false=>simp only [cond_false]; simp [hf]
   | false =>
    have p2:=T177_eq m neg (decide (j/4%2=1)) (j%4)
    simp only [pre176 p0,fun176 p0,cond_true,cond_false,Dw_len_gt hjn,Dw_len_pos hjn,Int.toNat_zero,Dw_get j,and3,pre141 p1,fun141 p1,Dw_guard,odd_guard,pre177 p2,fun177 p2,Bool.true_or,Bool.or_true]
    rcases Nat.eq_zero_or_pos (j%4) with hz | hz
    ·rw [bne0_f _ hz,Bool.false_and,cond_false]
     simp [hz]
    ·have hr:j%4≠0:=by omega
     rw [bne0_t _ hr,Bool.true_and]
     cases hf:furM m neg (decide (j/4%2=1)) (j%4) with
     | true=>simp only [cond_true,pre143 p3,fun143 p3]; simp [hf,hr]
     | false=>simp only [cond_false]; simp [hf,hr]
end VL
namespace VL
open Go Vx
def sgnF (f:Int) (neg:Bool):Nat:=if neg then 2^(fW f-1) else 0
def infB (f:Int) (neg:Bool):Nat:=(2^(fW f-fP f)-1)*2^(fP f-1)+sgnF f neg
def upw (m:Int) (neg:Bool):Bool:=((m==0||m==1)||(m==3&&!neg))||(m==4&&neg)
def beyB (f m:Int) (neg:Bool):Nat:=if upw m neg then infB f neg else infB f neg-1
theorem T97_ok {f:Int} (h:Fm f) (neg:Bool):T97 (f,neg,())=some ((infB f neg:Int),0,()):=by
 rcases Fm_cases h with rfl | rfl | rfl | rfl <;> cases neg <;> kernel_rfl
theorem T43_ok {f:Int} (h:Fm f) (neg:Bool):T43 (f,neg,())=some (((infB f neg-1:Nat):Int),0,()):=by
 rcases Fm_cases h with rfl | rfl | rfl | rfl <;> cases neg <;> kernel_rfl
theorem T118_ok {f:Int} (h:Fm f) (neg:Bool):T118 (f,neg,())=some ((sgnF f neg:Int),0,()):=by
 rcases Fm_cases h with rfl | rfl | rfl | rfl <;> cases neg <;> kernel_rfl
theorem T149_eq {f:Int} (h:Fm f) (m:Int) (neg:Bool):T149 (f,m,neg,())=some ((beyB f m neg:Int),()):=by
 show t149 S97.pre S97.F S43.pre S43.F f m neg=_
 have p0:=T97_ok h neg
 have p1:=T43_ok h neg
 unfold t149 beyB
 show (bif upw m neg then (bif S97.pre (f,neg,()) then some ((S97.F (f,neg,())).1,()) else none) else (bif S43.pre (f,neg,()) then some ((S43.F (f,neg,())).1,()) else none))=_
 rw [pre97 p0,fun97 p0,pre43 p1,fun43 p1]
 cases upw m neg <;> rfl
def topE (n:Nat) (e:Int):Int:=e+(blen n:Int)-1
theorem blen_bound {n k:Nat} (h:n<2^k):blen n≤k:=by
 rcases Nat.eq_zero_or_pos n with rfl | hn
 ·exact Nat.zero_le _
 ·have:=blen_le (n:=n) (by omega)
  have:blen n-1<k:=(Nat.pow_lt_pow_iff_right (a:=2) (by decide)).1 (Nat.lt_of_le_of_lt this h)
  omega
theorem blen_pos {n:Nat} (h:n≠0):1≤blen n:=by unfold blen; rw [if_neg h]; omega
theorem big_blen {n:Nat} (h:n<(2^64)^2000):blen n≤128000:=by
 apply blen_bound
 rw [pow64] at h
 exact h
theorem T151_Dw {n:Nat} (h:n<(2^64)^5000):T151 (Dw n,())=some ((blen n:Int),()):=by
 have:=T151_eq _ (Dw_ws h)
 rw [nv_Dw] at this
 exact this
theorem lt5000 {n:Nat} (h:n<(2^64)^2000):n<(2^64)^5000:=Nat.lt_trans h (Nat.pow_lt_pow_right (by decide) (by decide))
theorem T148_eq (neg:Bool) (n:Nat) (e:Int) (more:Bool) (hn:n<(2^64)^2000) (he:-1000000≤e∧e≤1000000):T148 ((neg,Dw n,e,more,()),())=some (topE n e,()):=by
 show t148 S151.pre S151.F (neg,Dw n,e,more,())=_
 unfold t148
 have p0:=T151_Dw (lt5000 hn)
 have hb:=big_blen hn
 simp only [pre151 p0,fun151 p0,cond_true]
 rw [wrapI (n:=e+(blen n:Int)) (by omega),wrapI (by omega)]
 rfl
theorem quo_lt {n:Nat} {e q:Int} {p:Nat} (h:topE n e-p+1≤q):quoE n e q<2^p:=by
 unfold topE at h
 unfold quoE
 have hb:=blen_lt n
 by_cases hq:q≤e
 ·rw [if_pos hq]
  have h1:n*2^(e-q).toNat<2^blen n*2^(e-q).toNat:=Nat.mul_lt_mul_of_pos_right hb (Nat.two_pow_pos _)
  rw [← Nat.pow_add] at h1
  exact Nat.lt_of_lt_of_le h1 (Nat.pow_le_pow_right (by decide) (by omega))
 ·rw [if_neg hq,Nat.div_lt_iff_lt_mul (Nat.two_pow_pos _),← Nat.pow_add]
  exact Nat.lt_of_lt_of_le hb (Nat.pow_le_pow_right (by decide) (by omega))
theorem cut_le {m:Int} {neg:Bool} {n:Nat} {e q:Int} {more:Bool} {p:Nat} (h:topE n e-p+1≤q):cutN m neg n e q more≤2^p:=by
 have:=quo_lt h
 unfold cutN
 split <;> omega
theorem T150_ok (m:Int) (neg:Bool) (n:Nat) (e q:Int) (more:Bool) (hn:n<(2^64)^2000) (he:-1000000≤e∧e≤1000000) {p:Nat} (hp:p≤60) (h1:topE n e-p+1≤q) (h2:q≤topE n e∨q≤1000) :
  T150 ((neg,Dw n,e,more,()),m,q,())=some (Dw (cutN m neg n e q more),decide (cutR n e q more≠0),()):=by
 have hb:=big_blen hn
 unfold topE at h1 h2
 refine T150_eq m neg n e q more hn (by omega) (by omega) (by omega) fun hs=>?_
 refine ⟨by omega,?_⟩
 have hl:=blen_lt n
 have h3:n*2^(2-(q-e)).toNat<2^blen n*2^(2-(q-e)).toNat:=Nat.mul_lt_mul_of_pos_right hl (Nat.two_pow_pos _)
 rw [← Nat.pow_add] at h3
 rw [pow64]
 exact Nat.lt_of_lt_of_le h3 (Nat.pow_le_pow_right (by decide) (by omega))
theorem T152_eq (neg:Bool) (n:Nat) (e:Int) (more:Bool) (f m:Int) (hf:Fm f) (hn:n<(2^64)^2000) (he:-1000000≤e∧e≤1000000) :
  T152 ((neg,Dw n,e,more,()),rowOf f,m,topE n e,())=some (decide (topE n e<1-(fX f:Int)∧topE n e-fP f+blen (cutN m neg n e (topE n e-fP f+1) more)<1-(fX f:Int)),()):=by
 show t152 S150.pre S150.F S151.pre S151.F (neg,Dw n,e,more,()) ((fW f:Int),((fP f:Int),((1-(fX f:Int)),((fX f:Int),())))) m (topE n e)=_
 unfold t152
 have hb:=big_blen hn
 have hp:=fP_lt hf
 have hw:=fW_le hf
 have hx:=fX_le hf
 have hp8:=fP_ge hf
 have ht:topE n e=e+(blen n:Int)-1:=rfl
 have p0:=T150_ok m neg n e (topE n e-fP f+1) more hn he (p:=fP f) (by omega) (by omega) (by omega)
 have hc:=cut_le (m:=m) (neg:=neg) (more:=more) (n:=n) (e:=e) (q:=topE n e-fP f+1) (p:=fP f) (by omega)
 generalize cutN m neg n e (topE n e-fP f+1) more=u at *
 have hu:u<(2^64)^5000:=by
  rw [pow64]
  exact Nat.lt_of_le_of_lt hc (Nat.pow_lt_pow_right (by decide) (by omega))
 have hub:blen u≤fP f+1:=blen_bound (Nat.lt_of_le_of_lt hc (Nat.pow_lt_pow_right (by decide) (by omega)))
 have p1:=T151_Dw hu
 have e1:IntKind.wrap .i64 (topE n e-(fP f:Int))=topE n e-(fP f:Int):=wrapI (by omega)
 have e2:IntKind.wrap .i64 (topE n e-(fP f:Int)+1)=topE n e-(fP f:Int)+1:=wrapI (by omega)
 have e3:IntKind.wrap .i64 (topE n e-(fP f:Int)+(blen u:Int))=topE n e-(fP f:Int)+(blen u:Int):=wrapI (by omega)
 dsimp only
 rw [e1,e2]
 by_cases h:topE n e≥1-(fX f:Int)
 ·rw [decide_eq_true h,cond_true,decide_eq_false (by omega)]
 ·rw [decide_eq_false h,cond_false]
  simp only [pre150 p0,fun150 p0,cond_true,pre151 p1,fun151 p1,e3]
  have:(topE n e<1-(fX f:Int)):=by omega
  simp only [this,true_and]
end VL
