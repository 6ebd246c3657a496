/- Part 5 of the proof. What is proved: symbolic execution of the functions, proved sound; what each function of the program computes, and that every run ends with it; what these functions compute, in plain numbers. Conditions: each theorem bears its own. -/
import Derived.Test.YtjaianlbnfomiaaGreatDoorVxG4
import Derived.IntWalk
set_option linter.all false
set_option exponentiation.threshold 1000000
namespace Vx
open Go Go.Proofs
abbrev I27:Sig:=[(false,.int .i64),(false,.int .i64),(false,.int .u64),(false,.int .u64)]
abbrev O27:Sig:=[(false,.int .u64),(false,.int .i64),(false,.int .i64)]
noncomputable def t27 (p69:DenS I69→Bool) (f69:DenS I69→DenS O69) (p65:DenS I65→Bool) (f65:DenS I65→DenS O65) (p70:DenS I70→Bool) (f70:DenS I70→DenS O70) (p72:DenS I72→Bool) (f72:DenS I72→DenS O72) (p71:DenS I71→Bool) (f71:DenS I71→DenS O71) (a0:Den (.int .i64)) (a1:Den (.int .i64)) (a2:Den (.int .u64)) (a3:Den (.int .u64)):Option (DenS O27) :=
 bif (p69 (a0,())) then
 (bif ((f69 (a0,())).2.1 != (0:Int)) then
 (some ((0:Int),((0:Int),(f69 (a0,())).2)))
 else bif ((decide (a1<(0:Int)))||(decide (a1>(5:Int)))) then
 (some ((0:Int),((0:Int),((3:Int),()))))
 else bif (p65 (a0,(a2,()))) then
 (bif ((f65 (a0,(a2,()))).2.1 != (0:Int)) then
 (some ((0:Int),((0:Int),(f65 (a0,(a2,()))).2)))
 else bif (p65 (a0,(a3,()))) then
 (bif ((f65 (a0,(a3,()))).2.1 != (0:Int)) then
 (some ((0:Int),((0:Int),(f65 (a0,(a3,()))).2)))
 else bif (p70 (a0,())) then
 (bif (((f65 (a0,(a2,()))).1==(0:Int))||((f65 (a0,(a3,()))).1==(0:Int))) then
 (some ((f70 (a0,())).1,((1:Int),((0:Int),()))))
 else bif (((f65 (a0,(a2,()))).1==(1:Int))||((f65 (a0,(a3,()))).1==(1:Int))) then
 (some ((f70 (a0,())).1,((0:Int),((0:Int),()))))
 else bif (((((f65 (a0,(a2,()))).1==(2:Int))||((f65 (a0,(a2,()))).1==(9:Int)))&&(((f65 (a0,(a3,()))).1==(2:Int))||((f65 (a0,(a3,()))).1==(9:Int))))&&((f65 (a0,(a2,()))).1 != (f65 (a0,(a3,()))).1)) then
 (some ((f70 (a0,())).1,((1:Int),((0:Int),()))))
 else bif (((f65 (a0,(a2,()))).1==(2:Int))||((f65 (a0,(a2,()))).1==(9:Int))) then
 (some (a2,((0:Int),((0:Int),()))))
 else bif (((f65 (a0,(a3,()))).1==(2:Int))||((f65 (a0,(a3,()))).1==(9:Int))) then
 (some (a3,((0:Int),((0:Int),()))))
 else bif (p72 (a0,((f69 (a0,())).1,(a2,())))) then
 (bif (p72 (a0,((f69 (a0,())).1,(a3,())))) then
 (bif (p71 (a0,(a1,((f72 (a0,((f69 (a0,())).1,(a2,())))).1,(f72 (a0,((f69 (a0,())).1,(a3,())))))))) then
 (some (f71 (a0,(a1,((f72 (a0,((f69 (a0,())).1,(a2,())))).1,(f72 (a0,((f69 (a0,())).1,(a3,())))))))))
 else none)
 else none)
 else none)
 else none)
 else none)
 else none)
 else none
theorem r27 (p69:DenS I69→Bool) (f69:DenS I69→DenS O69) (p65:DenS I65→Bool) (f65:DenS I65→DenS O65) (p70:DenS I70→Bool) (f70:DenS I70→DenS O70) (p72:DenS I72→Bool) (f72:DenS I72→DenS O72) (p71:DenS I71→Bool) (f71:DenS I71→DenS O71) (a0:Den (.int .i64)) (a1:Den (.int .i64)) (a2:Den (.int .u64)) (a3:Den (.int .u64)) :
  run { P:=Tryz.prog,sums:=[(19,⟨I69,O69,p69,f69⟩),(20,⟨I65,O65,p65,f65⟩),(21,⟨I70,O70,p70,f70⟩),(23,⟨I72,O72,p72,f72⟩),(22,⟨I71,O71,p71,f71⟩)],loops:=[],globs:=G1 } 9 9 Tryz.f9 I27 O27 (a0,a1,a2,a3,())=t27 p69 f69 p65 f65 p70 f70 p72 f72 p71 f71 a0 a1 a2 a3:=by kernel_rfl
noncomputable def T27 (x:DenS I27):Option (DenS O27):=t27 S69.pre S69.F S65.pre S65.F S70.pre S70.F S72.pre S72.F S71.pre S71.F x.1 x.2.1 x.2.2.1 x.2.2.2.1
noncomputable def C27:Cfg:={ P:=Tryz.prog,sums:=[(19,S69),(20,S65),(21,S70),(23,S72),(22,S71)],loops:=[],globs:=G1 }
noncomputable def S27:Sum:=sumOf I27 O27 T27 (DenS.dflt O27)
theorem S27_sound:Sound Tryz.prog G1 9 S27 :=
 fn_sound C27 9 9 Tryz.f9 mixedOk (by kernel_rfl) (by kernel_rfl) (by kernel_rfl) ⟨S69_sound,⟨S65_sound,⟨S70_sound,⟨S72_sound,⟨S71_sound,trivial⟩⟩⟩⟩⟩ trivial I27 O27 T27 _ (fun x=>r27 S69.pre S69.F S65.pre S65.F S70.pre S70.F S72.pre S72.F S71.pre S71.F x.1 x.2.1 x.2.2.1 x.2.2.2.1)
abbrev I382:Sig:=[]
abbrev O382:Sig:=[(false,.bool)]
noncomputable def t382 (p27:DenS I27→Bool) (f27:DenS I27→DenS O27):Option (DenS O382) :=
 let e3_:=((0:Int),((0:Int),((15360:Int),((4096:Int),()))))
 let e1_:=(f27 e3_)
 let e4_:=((0:Int),((3:Int),((15360:Int),((4096:Int),()))))
 let e2_:=(f27 e4_)
 bif (p27 e3_) then
 (bif (p27 e4_) then
 (some (((((((e1_.2.2.1==(0:Int))&&(e2_.2.2.1==(0:Int)))&&(e1_.1==(15360:Int)))&&(e1_.2.1==(16:Int)))&&(e2_.1==(15361:Int)))&&(e2_.2.1==(16:Int))),()))
 else none)
 else none
theorem r382 (p27:DenS I27→Bool) (f27:DenS I27→DenS O27) :
  run { P:=Tryz.prog,sums:=[(9,⟨I27,O27,p27,f27⟩)],loops:=[],globs:=G1 } 9 8 Tryz.f8 I382 O382 (())=t382 p27 f27:=by kernel_rfl
noncomputable def T382 (x:DenS I382):Option (DenS O382):=t382 S27.pre S27.F
noncomputable def C382:Cfg:={ P:=Tryz.prog,sums:=[(9,S27)],loops:=[],globs:=G1 }
noncomputable def S382:Sum:=sumOf I382 O382 T382 (DenS.dflt O382)
theorem S382_sound:Sound Tryz.prog G1 8 S382 :=
 fn_sound C382 9 8 Tryz.f8 mixedOk (by kernel_rfl) (by kernel_rfl) (by kernel_rfl) ⟨S27_sound,trivial⟩ trivial I382 O382 T382 _ (fun x=>r382 S27.pre S27.F)
abbrev I115:Sig:=[(false,.int .i64)]
abbrev O115:Sig:=[(false,.int .u64)]
noncomputable def t115 (a0:Den (.int .i64)):Option (DenS O115) :=
 bif ((decide ((0:Int)≤a0))&&(decide (a0<((4:Nat):Int)))) then
 (bif (decide ((0:Int)≤(IntKind.wrap .i64 ((Vx.k_rows.getD (Int.toNat a0) ((0:Int),((0:Int),((0:Int),((0:Int),()))))).1-(1:Int))))) then
 (some ((shlI .u64 (1:Int) (IntKind.wrap .i64 ((Vx.k_rows.getD (Int.toNat a0) ((0:Int),((0:Int),((0:Int),((0:Int),()))))).1-(1:Int)))),()))
 else none)
 else none
theorem r115 (a0:Den (.int .i64)) :
  run { P:=Tryz.prog,sums:=[],loops:=[],globs:=G1 } 9 56 Tryz.f56 I115 O115 (a0,())=t115 a0:=by kernel_rfl
noncomputable def T115 (x:DenS I115):Option (DenS O115):=t115 x.1
noncomputable def C115:Cfg:={ P:=Tryz.prog,sums:=[],loops:=[],globs:=G1 }
noncomputable def S115:Sum:=sumOf I115 O115 T115 (DenS.dflt O115)
theorem S115_sound:Sound Tryz.prog G1 56 S115 :=
 fn_sound C115 9 56 Tryz.f56 mixedOk (by kernel_rfl) (by kernel_rfl) (by kernel_rfl) trivial trivial I115 O115 T115 _ (fun x=>r115 x.1)
abbrev I64:Sig:=[(false,.int .i64),(false,.int .u64)]
abbrev O64:Sig:=[(false,.int .u64),(false,.int .i64)]
noncomputable def t64 (p66:DenS I66→Bool) (f66:DenS I66→DenS O66) (p115:DenS I115→Bool) (f115:DenS I115→DenS O115) (a0:Den (.int .i64)) (a1:Den (.int .u64)):Option (DenS O64) :=
 bif (p66 (a0,(a1,()))) then
 (bif ((f66 (a0,(a1,()))).1 != (0:Int)) then
 (some ((0:Int),(f66 (a0,(a1,())))))
 else bif (p115 (a0,())) then
 (some ((xorI .u64 a1 (f115 (a0,())).1),((0:Int),())))
 else none)
 else none
theorem r64 (p66:DenS I66→Bool) (f66:DenS I66→DenS O66) (p115:DenS I115→Bool) (f115:DenS I115→DenS O115) (a0:Den (.int .i64)) (a1:Den (.int .u64)) :
  run { P:=Tryz.prog,sums:=[(24,⟨I66,O66,p66,f66⟩),(56,⟨I115,O115,p115,f115⟩)],loops:=[],globs:=G1 } 9 25 Tryz.f25 I64 O64 (a0,a1,())=t64 p66 f66 p115 f115 a0 a1:=by kernel_rfl
noncomputable def T64 (x:DenS I64):Option (DenS O64):=t64 S66.pre S66.F S115.pre S115.F x.1 x.2.1
noncomputable def C64:Cfg:={ P:=Tryz.prog,sums:=[(24,S66),(56,S115)],loops:=[],globs:=G1 }
noncomputable def S64:Sum:=sumOf I64 O64 T64 (DenS.dflt O64)
theorem S64_sound:Sound Tryz.prog G1 25 S64 :=
 fn_sound C64 9 25 Tryz.f25 mixedOk (by kernel_rfl) (by kernel_rfl) (by kernel_rfl) ⟨S66_sound,⟨S115_sound,trivial⟩⟩ trivial I64 O64 T64 _ (fun x=>r64 S66.pre S66.F S115.pre S115.F x.1 x.2.1)
abbrev I25:Sig:=[(false,.int .i64),(false,.int .i64),(false,.int .u64),(false,.int .u64)]
abbrev O25:Sig:=[(false,.int .u64),(false,.int .i64),(false,.int .i64)]
noncomputable def t25 (p66:DenS I66→Bool) (f66:DenS I66→DenS O66) (p64:DenS I64→Bool) (f64:DenS I64→DenS O64) (p27:DenS I27→Bool) (f27:DenS I27→DenS O27) (a0:Den (.int .i64)) (a1:Den (.int .i64)) (a2:Den (.int .u64)) (a3:Den (.int .u64)):Option (DenS O25) :=
 bif (p66 (a0,(a3,()))) then
 (bif ((f66 (a0,(a3,()))).1==(0:Int)) then
 (bif (p64 (a0,(a3,()))) then
 (bif (p27 (a0,(a1,(a2,((f64 (a0,(a3,()))).1,()))))) then
 (some (f27 (a0,(a1,(a2,((f64 (a0,(a3,()))).1,()))))))
 else none)
 else none)
 else bif (p27 (a0,(a1,(a2,(a3,()))))) then
 (some (f27 (a0,(a1,(a2,(a3,()))))))
 else none)
 else none
theorem r25 (p66:DenS I66→Bool) (f66:DenS I66→DenS O66) (p64:DenS I64→Bool) (f64:DenS I64→DenS O64) (p27:DenS I27→Bool) (f27:DenS I27→DenS O27) (a0:Den (.int .i64)) (a1:Den (.int .i64)) (a2:Den (.int .u64)) (a3:Den (.int .u64)) :
  run { P:=Tryz.prog,sums:=[(24,⟨I66,O66,p66,f66⟩),(25,⟨I64,O64,p64,f64⟩),(9,⟨I27,O27,p27,f27⟩)],loops:=[],globs:=G1 } 9 10 Tryz.f10 I25 O25 (a0,a1,a2,a3,())=t25 p66 f66 p64 f64 p27 f27 a0 a1 a2 a3:=by kernel_rfl
noncomputable def T25 (x:DenS I25):Option (DenS O25):=t25 S66.pre S66.F S64.pre S64.F S27.pre S27.F x.1 x.2.1 x.2.2.1 x.2.2.2.1
noncomputable def C25:Cfg:={ P:=Tryz.prog,sums:=[(24,S66),(25,S64),(9,S27)],loops:=[],globs:=G1 }
noncomputable def S25:Sum:=sumOf I25 O25 T25 (DenS.dflt O25)
theorem S25_sound:Sound Tryz.prog G1 10 S25 :=
 fn_sound C25 9 10 Tryz.f10 mixedOk (by kernel_rfl) (by kernel_rfl) (by kernel_rfl) ⟨S66_sound,⟨S64_sound,⟨S27_sound,trivial⟩⟩⟩ trivial I25 O25 T25 _ (fun x=>r25 S66.pre S66.F S64.pre S64.F S27.pre S27.F x.1 x.2.1 x.2.2.1 x.2.2.2.1)
abbrev I350:Sig:=[(false,.int .i64),(true,.pair (.int .i64) (.pair (.int .i64) (.pair (.int .i64) (.pair (.int .i64) (.unit))))),(false,.int .u64)]
abbrev O350:Sig:=[(true,.pair (.int .i64) (.pair (.bool) (.pair (.int .u64) (.pair (.int .i64) (.unit))))),(false,.int .i64)]
noncomputable def t350 (p65:DenS I65→Bool) (f65:DenS I65→DenS O65) (p98:DenS I98→Bool) (f98:DenS I98→DenS O98) (a0:Den (.int .i64)) (a1:Den (.pair (.int .i64) (.pair (.int .i64) (.pair (.int .i64) (.pair (.int .i64) (.unit)))))) (a2:Den (.int .u64)):Option (DenS O350) :=
 let e1_:=(IntKind.wrap .i64 (a1.2.1-(1:Int)))
 bif (p65 (a0,(a2,()))) then
 (bif ((f65 (a0,(a2,()))).2.1 != (0:Int)) then
 (some (((0:Int),(false,((0:Int),((0:Int),())))),(f65 (a0,(a2,()))).2))
 else bif (p98 (a0,(a2,()))) then
 (bif ((f98 (a0,(a2,()))).2.1==(0:Int)) then
 (some (((f65 (a0,(a2,()))).1,((f98 (a0,(a2,()))).1,((f98 (a0,(a2,()))).2.2.1,((IntKind.wrap .i64 ((IntKind.wrap .i64 ((IntKind.wrap .i64 ((IntKind.wrap .i64 ((IntKind.wrap .i64 (1:Int))-(1:Int)))+a1.2.2.1))-a1.2.1))+(1:Int))),())))),((0:Int),())))
 else bif (decide ((0:Int)≤e1_)) then
 (some (((f65 (a0,(a2,()))).1,((f98 (a0,(a2,()))).1,((orI .u64 (f98 (a0,(a2,()))).2.2.1 (shlI .u64 (1:Int) e1_)),((IntKind.wrap .i64 ((IntKind.wrap .i64 ((IntKind.wrap .i64 ((IntKind.wrap .i64 ((IntKind.wrap .i64 (f98 (a0,(a2,()))).2.1)-(1:Int)))+a1.2.2.1))-a1.2.1))+(1:Int))),())))),((0:Int),())))
 else none)
 else none)
 else none
theorem r350 (p65:DenS I65→Bool) (f65:DenS I65→DenS O65) (p98:DenS I98→Bool) (f98:DenS I98→DenS O98) (a0:Den (.int .i64)) (a1:Den (.pair (.int .i64) (.pair (.int .i64) (.pair (.int .i64) (.pair (.int .i64) (.unit)))))) (a2:Den (.int .u64)) :
  run { P:=Tryz.prog,sums:=[(20,⟨I65,O65,p65,f65⟩),(45,⟨I98,O98,p98,f98⟩)],loops:=[],globs:=G1 } 9 26 Tryz.f26 I350 O350 (a0,a1,a2,())=t350 p65 f65 p98 f98 a0 a1 a2:=by kernel_rfl
noncomputable def T350 (x:DenS I350):Option (DenS O350):=t350 S65.pre S65.F S98.pre S98.F x.1 x.2.1 x.2.2.1
noncomputable def C350:Cfg:={ P:=Tryz.prog,sums:=[(20,S65),(45,S98)],loops:=[],globs:=G1 }
noncomputable def S350:Sum:=sumOf I350 O350 T350 (DenS.dflt O350)
theorem S350_sound:Sound Tryz.prog G1 26 S350 :=
 fn_sound C350 9 26 Tryz.f26 mixedOk (by kernel_rfl) (by kernel_rfl) (by kernel_rfl) ⟨S65_sound,⟨S98_sound,trivial⟩⟩ trivial I350 O350 T350 _ (fun x=>r350 S65.pre S65.F S98.pre S98.F x.1 x.2.1 x.2.2.1)
abbrev I351:Sig:=[(true,.pair (.int .i64) (.pair (.bool) (.pair (.int .u64) (.pair (.int .i64) (.unit)))))]
abbrev O351:Sig:=[(false,.bool)]
noncomputable def t351 (a0:Den (.pair (.int .i64) (.pair (.bool) (.pair (.int .u64) (.pair (.int .i64) (.unit)))))):Option (DenS O351) :=
 some (((a0.1==(1:Int))||(a0.1==(0:Int))),())
theorem r351 (a0:Den (.pair (.int .i64) (.pair (.bool) (.pair (.int .u64) (.pair (.int .i64) (.unit)))))) :
  run { P:=Tryz.prog,sums:=[],loops:=[],globs:=G1 } 9 27 Tryz.f27 I351 O351 (a0,())=t351 a0:=by kernel_rfl
noncomputable def T351 (x:DenS I351):Option (DenS O351):=t351 x.1
noncomputable def C351:Cfg:={ P:=Tryz.prog,sums:=[],loops:=[],globs:=G1 }
noncomputable def S351:Sum:=sumOf I351 O351 T351 (DenS.dflt O351)
theorem S351_sound:Sound Tryz.prog G1 27 S351 :=
 fn_sound C351 9 27 Tryz.f27 mixedOk (by kernel_rfl) (by kernel_rfl) (by kernel_rfl) trivial trivial I351 O351 T351 _ (fun x=>r351 x.1)
abbrev I352:Sig:=[(true,.pair (.int .i64) (.pair (.bool) (.pair (.int .u64) (.pair (.int .i64) (.unit)))))]
abbrev O352:Sig:=[(false,.bool)]
noncomputable def t352 (a0:Den (.pair (.int .i64) (.pair (.bool) (.pair (.int .u64) (.pair (.int .i64) (.unit)))))):Option (DenS O352) :=
 some (((a0.1==(2:Int))||(a0.1==(9:Int))),())
theorem r352 (a0:Den (.pair (.int .i64) (.pair (.bool) (.pair (.int .u64) (.pair (.int .i64) (.unit)))))) :
  run { P:=Tryz.prog,sums:=[],loops:=[],globs:=G1 } 9 28 Tryz.f28 I352 O352 (a0,())=t352 a0:=by kernel_rfl
noncomputable def T352 (x:DenS I352):Option (DenS O352):=t352 x.1
noncomputable def C352:Cfg:={ P:=Tryz.prog,sums:=[],loops:=[],globs:=G1 }
noncomputable def S352:Sum:=sumOf I352 O352 T352 (DenS.dflt O352)
theorem S352_sound:Sound Tryz.prog G1 28 S352 :=
 fn_sound C352 9 28 Tryz.f28 mixedOk (by kernel_rfl) (by kernel_rfl) (by kernel_rfl) trivial trivial I352 O352 T352 _ (fun x=>r352 x.1)
abbrev I353:Sig:=[(true,.pair (.int .i64) (.pair (.bool) (.pair (.int .u64) (.pair (.int .i64) (.unit)))))]
abbrev O353:Sig:=[(false,.bool)]
noncomputable def t353 (a0:Den (.pair (.int .i64) (.pair (.bool) (.pair (.int .u64) (.pair (.int .i64) (.unit)))))):Option (DenS O353) :=
 some (((a0.1==(5:Int))||(a0.1==(6:Int))),())
theorem r353 (a0:Den (.pair (.int .i64) (.pair (.bool) (.pair (.int .u64) (.pair (.int .i64) (.unit)))))) :
  run { P:=Tryz.prog,sums:=[],loops:=[],globs:=G1 } 9 29 Tryz.f29 I353 O353 (a0,())=t353 a0:=by kernel_rfl
noncomputable def T353 (x:DenS I353):Option (DenS O353):=t353 x.1
noncomputable def C353:Cfg:={ P:=Tryz.prog,sums:=[],loops:=[],globs:=G1 }
noncomputable def S353:Sum:=sumOf I353 O353 T353 (DenS.dflt O353)
theorem S353_sound:Sound Tryz.prog G1 29 S353 :=
 fn_sound C353 9 29 Tryz.f29 mixedOk (by kernel_rfl) (by kernel_rfl) (by kernel_rfl) trivial trivial I353 O353 T353 _ (fun x=>r353 x.1)
abbrev I315:Sig:=[(false,.int .u64),(false,.int .u64)]
abbrev O315:Sig:=[(false,.int .u64),(false,.int .u64)]
noncomputable def t315 (a0:Den (.int .u64)) (a1:Den (.int .u64)):Option (DenS O315) :=
 let e2_:=(andI .u64 a1 (4294967295:Int))
 let e3_:=(andI .u64 a0 (4294967295:Int))
 let e1_:=(IntKind.wrap .u64 ((IntKind.wrap .u64 ((shrI .u64 a0 (32:Int))*e2_))+(shrI .u64 (IntKind.wrap .u64 (e3_*e2_)) (32:Int))))
 some ((IntKind.wrap .u64 ((IntKind.wrap .u64 ((IntKind.wrap .u64 ((shrI .u64 a0 (32:Int))*(shrI .u64 a1 (32:Int))))+(shrI .u64 e1_ (32:Int))))+(shrI .u64 (IntKind.wrap .u64 ((andI .u64 e1_ (4294967295:Int))+(IntKind.wrap .u64 (e3_*(shrI .u64 a1 (32:Int)))))) (32:Int)))),((IntKind.wrap .u64 (a0*a1)),()))
theorem r315 (a0:Den (.int .u64)) (a1:Den (.int .u64)) :
  run { P:=Tryz.prog,sums:=[],loops:=[],globs:=G1 } 9 63 Tryz.f63 I315 O315 (a0,a1,())=t315 a0 a1:=by kernel_rfl
noncomputable def T315 (x:DenS I315):Option (DenS O315):=t315 x.1 x.2.1
noncomputable def C315:Cfg:={ P:=Tryz.prog,sums:=[],loops:=[],globs:=G1 }
noncomputable def S315:Sum:=sumOf I315 O315 T315 (DenS.dflt O315)
theorem S315_sound:Sound Tryz.prog G1 63 S315 :=
 fn_sound C315 9 63 Tryz.f63 mixedOk (by kernel_rfl) (by kernel_rfl) (by kernel_rfl) trivial trivial I315 O315 T315 _ (fun x=>r315 x.1 x.2.1)
abbrev I316:Sig:=[(false,.int .u64),(false,.int .u64)]
abbrev O316:Sig:=[(true,.pair (.int .u64) (.pair (.int .u64) (.unit)))]
noncomputable def t316 (p315:DenS I315→Bool) (f315:DenS I315→DenS O315) (a0:Den (.int .u64)) (a1:Den (.int .u64)):Option (DenS O316) :=
 bif (p315 (a0,(a1,()))) then
 (some ((f315 (a0,(a1,()))),()))
 else none
theorem r316 (p315:DenS I315→Bool) (f315:DenS I315→DenS O315) (a0:Den (.int .u64)) (a1:Den (.int .u64)) :
  run { P:=Tryz.prog,sums:=[(63,⟨I315,O315,p315,f315⟩)],loops:=[],globs:=G1 } 9 33 Tryz.f33 I316 O316 (a0,a1,())=t316 p315 f315 a0 a1:=by kernel_rfl
noncomputable def T316 (x:DenS I316):Option (DenS O316):=t316 S315.pre S315.F x.1 x.2.1
noncomputable def C316:Cfg:={ P:=Tryz.prog,sums:=[(63,S315)],loops:=[],globs:=G1 }
noncomputable def S316:Sum:=sumOf I316 O316 T316 (DenS.dflt O316)
theorem S316_sound:Sound Tryz.prog G1 33 S316 :=
 fn_sound C316 9 33 Tryz.f33 mixedOk (by kernel_rfl) (by kernel_rfl) (by kernel_rfl) ⟨S315_sound,trivial⟩ trivial I316 O316 T316 _ (fun x=>r316 S315.pre S315.F x.1 x.2.1)
abbrev I354:Sig:=[(false,.int .i64),(false,.int .i64),(false,.int .u64),(false,.int .u64)]
abbrev O354:Sig:=[(false,.int .u64),(false,.int .i64),(false,.int .i64)]
noncomputable def t354 (p69:DenS I69→Bool) (f69:DenS I69→DenS O69) (p350:DenS I350→Bool) (f350:DenS I350→DenS O350) (p351:DenS I351→Bool) (f351:DenS I351→DenS O351) (p70:DenS I70→Bool) (f70:DenS I70→DenS O70) (p352:DenS I352→Bool) (f352:DenS I352→DenS O352) (p97:DenS I97→Bool) (f97:DenS I97→DenS O97) (p353:DenS I353→Bool) (f353:DenS I353→DenS O353) (p118:DenS I118→Bool) (f118:DenS I118→DenS O118) (p316:DenS I316→Bool) (f316:DenS I316→DenS O316) (p122:DenS I122→Bool) (f122:DenS I122→DenS O122) (a0:Den (.int .i64)) (a1:Den (.int .i64)) (a2:Den (.int .u64)) (a3:Den (.int .u64)):Option (DenS O354) :=
 let e18_:=(!((f350 (a0,((f69 (a0,())).1,(a2,())))).1.2.1==(f350 (a0,((f69 (a0,())).1,(a3,())))).1.2.1))
 let e17_:=((f350 (a0,((f69 (a0,())).1,(a2,())))).1.2.2.1,((f350 (a0,((f69 (a0,())).1,(a3,())))).1.2.2.1,()))
 let e1_:=(a0,(a1,(e18_,((f316 e17_).1,((IntKind.wrap .i64 ((f350 (a0,((f69 (a0,())).1,(a2,())))).1.2.2.2.1+(f350 (a0,((f69 (a0,())).1,(a3,())))).1.2.2.2.1)),(false,()))))))
 let e20_:=((f350 (a0,((f69 (a0,())).1,(a2,())))).1,())
 let e19_:=(f352 e20_)
 let e21_:=((f350 (a0,((f69 (a0,())).1,(a3,())))).1,())
 let e2_:=(e19_.1&&(f353 e21_).1)
 let e16_:=(a0,(e18_,()))
 let e3_:=(f118 e16_)
 let e4_:=(f97 e16_)
 let e5_:=e16_
 let e6_:=(f353 e20_)
 let e7_:=e19_
 let e8_:=(f351 e20_)
 let e9_:=(p352 e20_)
 let e10_:=(p353 e21_)
 let e11_:=(p353 e20_)
 let e12_:=(p352 e21_)
 let e13_:=(f352 e21_)
 let e14_:=e21_
 let e15_:=((f70 (a0,())).1,((1:Int),(f70 (a0,())).2))
 bif (p69 (a0,())) then
 (bif ((f69 (a0,())).2.1 != (0:Int)) then
 (some ((0:Int),((0:Int),(f69 (a0,())).2)))
 else bif ((decide (a1<(0:Int)))||(decide (a1>(5:Int)))) then
 (some ((0:Int),((0:Int),((3:Int),()))))
 else bif (p350 (a0,((f69 (a0,())).1,(a2,())))) then
 (bif ((f350 (a0,((f69 (a0,())).1,(a2,())))).2.1 != (0:Int)) then
 (some ((0:Int),((0:Int),(f350 (a0,((f69 (a0,())).1,(a2,())))).2)))
 else bif (p350 (a0,((f69 (a0,())).1,(a3,())))) then
 (bif ((f350 (a0,((f69 (a0,())).1,(a3,())))).2.1 != (0:Int)) then
 (some ((0:Int),((0:Int),(f350 (a0,((f69 (a0,())).1,(a3,())))).2)))
 else bif (p351 e20_) then
 (bif ((p351 e14_)||(!(bif e8_.1 then false else true))) then
 (bif (e8_.1||(f351 e14_).1) then
 (bif (((f350 (a0,((f69 (a0,())).1,(a2,())))).1.1==(0:Int))||((f350 (a0,((f69 (a0,())).1,(a3,())))).1.1==(0:Int))) then
 (bif (p70 (a0,())) then
 (some e15_)
 else none)
 else bif (p70 (a0,())) then
 (some ((f70 (a0,())).1,((0:Int),(f70 (a0,())).2)))
 else none)
 else bif e9_ then
 (bif (e10_||(!e7_.1)) then
 (bif (e11_||(!(bif e2_ then false else true))) then
 (bif (e12_||(!((bif e2_ then false else true)&&e6_.1))) then
 (bif (e2_||(e6_.1&&e13_.1)) then
 (bif (p70 (a0,())) then
 (some e15_)
 else none)
 else bif e9_ then
 (bif (e12_||(!(bif e7_.1 then false else true))) then
 (bif (e7_.1||e13_.1) then
 (bif (p97 e5_) then
 (some (e4_.1,((0:Int),e4_.2)))
 else none)
 else bif e11_ then
 (bif (e10_||(!(bif e6_.1 then false else true))) then
 (bif (e6_.1||(f353 e14_).1) then
 (bif (p118 e5_) then
 (some (e3_.1,((0:Int),e3_.2)))
 else none)
 else bif (p316 e17_) then
 (bif (p122 e1_) then
 (some (f122 e1_))
 else none)
 else none)
 else none)
 else none)
 else none)
 else none)
 else none)
 else none)
 else none)
 else none)
 else none)
 else none)
 else none)
 else none)
 else none
theorem r354 (p69:DenS I69→Bool) (f69:DenS I69→DenS O69) (p350:DenS I350→Bool) (f350:DenS I350→DenS O350) (p351:DenS I351→Bool) (f351:DenS I351→DenS O351) (p70:DenS I70→Bool) (f70:DenS I70→DenS O70) (p352:DenS I352→Bool) (f352:DenS I352→DenS O352) (p97:DenS I97→Bool) (f97:DenS I97→DenS O97) (p353:DenS I353→Bool) (f353:DenS I353→DenS O353) (p118:DenS I118→Bool) (f118:DenS I118→DenS O118) (p316:DenS I316→Bool) (f316:DenS I316→DenS O316) (p122:DenS I122→Bool) (f122:DenS I122→DenS O122) (a0:Den (.int .i64)) (a1:Den (.int .i64)) (a2:Den (.int .u64)) (a3:Den (.int .u64)) :
  run { P:=Tryz.prog,sums:=[(19,⟨I69,O69,p69,f69⟩),(26,⟨I350,O350,p350,f350⟩),(27,⟨I351,O351,p351,f351⟩),(21,⟨I70,O70,p70,f70⟩),(28,⟨I352,O352,p352,f352⟩),(30,⟨I97,O97,p97,f97⟩),(29,⟨I353,O353,p353,f353⟩),(31,⟨I118,O118,p118,f118⟩),(33,⟨I316,O316,p316,f316⟩),(32,⟨I122,O122,p122,f122⟩)],loops:=[],globs:=G1 } 9 11 Tryz.f11 I354 O354 (a0,a1,a2,a3,())=t354 p69 f69 p350 f350 p351 f351 p70 f70 p352 f352 p97 f97 p353 f353 p118 f118 p316 f316 p122 f122 a0 a1 a2 a3:=by kernel_rfl
noncomputable def T354 (x:DenS I354):Option (DenS O354):=t354 S69.pre S69.F S350.pre S350.F S351.pre S351.F S70.pre S70.F S352.pre S352.F S97.pre S97.F S353.pre S353.F S118.pre S118.F S316.pre S316.F S122.pre S122.F x.1 x.2.1 x.2.2.1 x.2.2.2.1
noncomputable def C354:Cfg:={ P:=Tryz.prog,sums:=[(19,S69),(26,S350),(27,S351),(21,S70),(28,S352),(30,S97),(29,S353),(31,S118),(33,S316),(32,S122)],loops:=[],globs:=G1 }
noncomputable def S354:Sum:=sumOf I354 O354 T354 (DenS.dflt O354)
theorem S354_sound:Sound Tryz.prog G1 11 S354 :=
 fn_sound C354 9 11 Tryz.f11 mixedOk (by kernel_rfl) (by kernel_rfl) (by kernel_rfl) ⟨S69_sound,⟨S350_sound,⟨S351_sound,⟨S70_sound,⟨S352_sound,⟨S97_sound,⟨S353_sound,⟨S118_sound,⟨S316_sound,⟨S122_sound,trivial⟩⟩⟩⟩⟩⟩⟩⟩⟩⟩ trivial I354 O354 T354 _ (fun x=>r354 S69.pre S69.F S350.pre S350.F S351.pre S351.F S70.pre S70.F S352.pre S352.F S97.pre S97.F S353.pre S353.F S118.pre S118.F S316.pre S316.F S122.pre S122.F x.1 x.2.1 x.2.2.1 x.2.2.2.1)
abbrev I376:Sig:=[(false,.int .i64),(false,.int .i64),(false,.slice (.int .u64))]
abbrev O376:Sig:=[(false,.int .i64)]
abbrev P376_7:Pat:=⟨39,[(27,.one (.v .i64)),(26,.one (.sl (.int .u64))),(0,.one (.v .i64)),(28,.one (.v .i64))],[]⟩
abbrev A376_7:List (Nat×Shape):=[]
abbrev X376_7:List (Nat×Pat):=[(0,⟨39,[],[]⟩)]
abbrev Q376_7:Option Pat:=(some ⟨39,[(6,.one (.v .i64))],[]⟩)
noncomputable def h376_7 (p69:DenS I69→Bool) (f69:DenS I69→DenS O69) (p66:DenS I66→Bool) (f66:DenS I66→DenS O66) {R:Type} (L:Pat.D P376_7→Option R) (e:OutT X376_7 Q376_7→Option R) (x:Pat.D P376_7):Option R :=
 let e2_:=(x.1.2.2.1,((x.1.2.1.getD (Int.toNat x.1.2.2.2.1) (0:Int)),()))
 let e1_:=(f66 e2_)
 bif (decide (x.1.2.2.2.1<x.1.1)) then
 (bif ((decide ((0:Int)≤x.1.2.2.2.1))&&(decide (x.1.2.2.2.1<(x.1.2.1.length:Int)))) then
 (bif (p66 e2_) then
 (bif (e1_.1 != (0:Int)) then
 ((e (.inr (e1_,()))))
 else (L ((x.1.1,(x.1.2.1,(x.1.2.2.1,((IntKind.wrap .i64 (x.1.2.2.2.1+(1:Int))),())))),())))
 else none)
 else none)
 else (e (.inl ((),())))
theorem s376_7 (p69:DenS I69→Bool) (f69:DenS I69→DenS O69) (p66:DenS I66→Bool) (f66:DenS I66→DenS O66) (w376_7:Pat.D P376_7→Option (OutT X376_7 Q376_7)) (d:Nat) (R:Type) (L:Pat.D P376_7→Option R) (e:OutT X376_7 Q376_7→Option R) (x:Pat.D P376_7) :
  lStep { P:=Tryz.prog,sums:=[(19,⟨I69,O69,p69,f69⟩),(24,⟨I66,O66,p66,f66⟩)],loops:=[(34,7,LoopSpec.of P376_7 A376_7 X376_7 Q376_7 w376_7)],globs:=G1 } (d+2) 34 (bodyOf Tryz.f34 7) P376_7 A376_7 X376_7 Q376_7 (R:=R) L e x=h376_7 p69 f69 p66 f66 L e x:=by kernel_rfl
theorem m376_7 (p69:DenS I69→Bool) (f69:DenS I69→DenS O69) (p66:DenS I66→Bool) (f66:DenS I66→DenS O66):Par fun L e x=>h376_7 p69 f69 p66 f66 L e x:=by
 intro A B rel L L' e e' h0 hL he x
 unfold h376_7
 repeat' (first | exact h0 | exact hL _ | exact he _ | apply rel_cond | (apply rel_obind h0; intro _) | (apply rel_obind2 <;> intro _))
noncomputable def t376 (p69:DenS I69→Bool) (f69:DenS I69→DenS O69) (p66:DenS I66→Bool) (f66:DenS I66→DenS O66) (w376_7:Pat.D P376_7→Option (OutT X376_7 Q376_7)) (a0:Den (.int .i64)) (a1:Den (.int .i64)) (a2:Den (.slice (.int .u64))):Option (DenS O376) :=
 bif (p69 (a0,())) then
 (bif ((f69 (a0,())).2.1 != (0:Int)) then
 (some (f69 (a0,())).2)
 else bif ((decide (a1<(0:Int)))||(decide (a1>(5:Int)))) then
 (some ((3:Int),()))
 else Vx.obind (w376_7 (((a2.length:Int),(a2,(a0,((0:Int),())))),())) fun y3 =>
 Vx.obind2 y3 (fun y4 =>
 some ((0:Int),())) (fun z4 =>
 some z4.1))
 else none
theorem r376 (p69:DenS I69→Bool) (f69:DenS I69→DenS O69) (p66:DenS I66→Bool) (f66:DenS I66→DenS O66) (w376_7:Pat.D P376_7→Option (OutT X376_7 Q376_7)) (a0:Den (.int .i64)) (a1:Den (.int .i64)) (a2:Den (.slice (.int .u64))) :
  run { P:=Tryz.prog,sums:=[(19,⟨I69,O69,p69,f69⟩),(24,⟨I66,O66,p66,f66⟩)],loops:=[(34,7,LoopSpec.of P376_7 A376_7 X376_7 Q376_7 w376_7)],globs:=G1 } 9 34 Tryz.f34 I376 O376 (a0,a1,a2,())=t376 p69 f69 p66 f66 w376_7 a0 a1 a2:=by kernel_rfl
noncomputable def W376_7:P376_7.D→Option (OutT X376_7 Q376_7):=lfix fun L=>h376_7 S69.pre S69.F S66.pre S66.F L some
noncomputable def T376 (x:DenS I376):Option (DenS O376):=t376 S69.pre S69.F S66.pre S66.F W376_7 x.1 x.2.1 x.2.2.1
noncomputable def C376:Cfg:={ P:=Tryz.prog,sums:=[(19,S69),(24,S66)],loops:=[(34,7,LoopSpec.of P376_7 A376_7 X376_7 Q376_7 W376_7)],globs:=G1 }
noncomputable def S376:Sum:=sumOf I376 O376 T376 (DenS.dflt O376)
theorem S376_sound:Sound Tryz.prog G1 34 S376 :=
 fn_sound C376 9 34 Tryz.f34 mixedOk (by kernel_rfl) (by kernel_rfl) (by kernel_rfl) ⟨S69_sound,⟨S66_sound,trivial⟩⟩ ⟨rfl,fun d=>loopOk_of (fun L e x=>h376_7 S69.pre S69.F S66.pre S66.F L e x) (m376_7 S69.pre S69.F S66.pre S66.F) (fun R L e x=>s376_7 S69.pre S69.F S66.pre S66.F W376_7 d R L e x),trivial⟩ I376 O376 T376 _ (fun x=>r376 S69.pre S69.F S66.pre S66.F W376_7 x.1 x.2.1 x.2.2.1)
abbrev I377:Sig:=[(false,.int .i64),(false,.int .u64)]
abbrev O377:Sig:=[(true,.pair (.bool) (.pair (.bool) (.pair (.bool) (.pair (.bool) (.pair (.bool) (.unit))))))]
noncomputable def t377 (p65:DenS I65→Bool) (f65:DenS I65→DenS O65) (p98:DenS I98→Bool) (f98:DenS I98→DenS O98) (a0:Den (.int .i64)) (a1:Den (.int .u64)):Option (DenS O377) :=
 bif (p65 (a0,(a1,()))) then
 (bif (p98 (a0,(a1,()))) then
 (some (((((f65 (a0,(a1,()))).1==(1:Int))||((f65 (a0,(a1,()))).1==(0:Int))),(((f65 (a0,(a1,()))).1==(0:Int)),((((f65 (a0,(a1,()))).1==(9:Int))||((f65 (a0,(a1,()))).1==(2:Int))),((((f65 (a0,(a1,()))).1==(6:Int))||((f65 (a0,(a1,()))).1==(5:Int))),((f98 (a0,(a1,()))).1,()))))),()))
 else none)
 else none
theorem r377 (p65:DenS I65→Bool) (f65:DenS I65→DenS O65) (p98:DenS I98→Bool) (f98:DenS I98→DenS O98) (a0:Den (.int .i64)) (a1:Den (.int .u64)) :
  run { P:=Tryz.prog,sums:=[(20,⟨I65,O65,p65,f65⟩),(45,⟨I98,O98,p98,f98⟩)],loops:=[],globs:=G1 } 9 35 Tryz.f35 I377 O377 (a0,a1,())=t377 p65 f65 p98 f98 a0 a1:=by kernel_rfl
noncomputable def T377 (x:DenS I377):Option (DenS O377):=t377 S65.pre S65.F S98.pre S98.F x.1 x.2.1
noncomputable def C377:Cfg:={ P:=Tryz.prog,sums:=[(20,S65),(45,S98)],loops:=[],globs:=G1 }
noncomputable def S377:Sum:=sumOf I377 O377 T377 (DenS.dflt O377)
theorem S377_sound:Sound Tryz.prog G1 35 S377 :=
 fn_sound C377 9 35 Tryz.f35 mixedOk (by kernel_rfl) (by kernel_rfl) (by kernel_rfl) ⟨S65_sound,⟨S98_sound,trivial⟩⟩ trivial I377 O377 T377 _ (fun x=>r377 S65.pre S65.F S98.pre S98.F x.1 x.2.1)
abbrev I378:Sig:=[(false,.int .i64),(false,.int .i64)]
abbrev O378:Sig:=[(false,.int .u64),(false,.int .i64),(false,.int .i64)]
noncomputable def t378 (p70:DenS I70→Bool) (f70:DenS I70→DenS O70) (a0:Den (.int .i64)) (a1:Den (.int .i64)):Option (DenS O378) :=
 bif (p70 (a0,())) then
 (some ((f70 (a0,())).1,(a1,(f70 (a0,())).2)))
 else none
theorem r378 (p70:DenS I70→Bool) (f70:DenS I70→DenS O70) (a0:Den (.int .i64)) (a1:Den (.int .i64)) :
  run { P:=Tryz.prog,sums:=[(21,⟨I70,O70,p70,f70⟩)],loops:=[],globs:=G1 } 9 36 Tryz.f36 I378 O378 (a0,a1,())=t378 p70 f70 a0 a1:=by kernel_rfl
noncomputable def T378 (x:DenS I378):Option (DenS O378):=t378 S70.pre S70.F x.1 x.2.1
noncomputable def C378:Cfg:={ P:=Tryz.prog,sums:=[(21,S70)],loops:=[],globs:=G1 }
noncomputable def S378:Sum:=sumOf I378 O378 T378 (DenS.dflt O378)
theorem S378_sound:Sound Tryz.prog G1 36 S378 :=
 fn_sound C378 9 36 Tryz.f36 mixedOk (by kernel_rfl) (by kernel_rfl) (by kernel_rfl) ⟨S70_sound,trivial⟩ trivial I378 O378 T378 _ (fun x=>r378 S70.pre S70.F x.1 x.2.1)
abbrev I40:Sig:=[(false,.int .i64),(false,.int .u64)]
abbrev O40:Sig:=[(true,.pair (.bool) (.pair (.slice (.int .u64)) (.pair (.int .i64) (.unit)))),(false,.int .i64)]
noncomputable def t40 (p66:DenS I66→Bool) (f66:DenS I66→DenS O66) (p90:DenS I90→Bool) (f90:DenS I90→DenS O90) (p91:DenS I91→Bool) (f91:DenS I91→DenS O91) (p92:DenS I92→Bool) (f92:DenS I92→DenS O92) (a0:Den (.int .i64)) (a1:Den (.int .u64)):Option (DenS O40) :=
 bif (p66 (a0,(a1,()))) then
 (bif ((f66 (a0,(a1,()))).1 != (0:Int)) then
 (some ((false,([],((0:Int),()))),(f66 (a0,(a1,())))))
 else bif (bif (decide ((0:Int)≤a0)) then (decide (a0<((4:Nat):Int))) else false) then
 (bif (p90 ((Vx.k_rows.getD (Int.toNat a0) ((0:Int),((0:Int),((0:Int),((0:Int),()))))),(a1,()))) then
 (bif (p91 ((IntKind.wrap .i64 ((Vx.k_rows.getD (Int.toNat a0) ((0:Int),((0:Int),((0:Int),((0:Int),()))))).1-(Vx.k_rows.getD (Int.toNat a0) ((0:Int),((0:Int),((0:Int),((0:Int),()))))).2.1)),())) then
 (bif ((f90 ((Vx.k_rows.getD (Int.toNat a0) ((0:Int),((0:Int),((0:Int),((0:Int),()))))),(a1,()))).2.1==(f91 ((IntKind.wrap .i64 ((Vx.k_rows.getD (Int.toNat a0) ((0:Int),((0:Int),((0:Int),((0:Int),()))))).1-(Vx.k_rows.getD (Int.toNat a0) ((0:Int),((0:Int),((0:Int),((0:Int),()))))).2.1)),())).1) then
 (some ((false,([],((0:Int),()))),((40:Int),())))
 else bif ((f90 ((Vx.k_rows.getD (Int.toNat a0) ((0:Int),((0:Int),((0:Int),((0:Int),()))))),(a1,()))).2.1==(0:Int)) then
 (bif ((f90 ((Vx.k_rows.getD (Int.toNat a0) ((0:Int),((0:Int),((0:Int),((0:Int),()))))),(a1,()))).2.2.1==(0:Int)) then
 (some ((false,([],((0:Int),()))),((0:Int),())))
 else bif (p92 (f90 ((Vx.k_rows.getD (Int.toNat a0) ((0:Int),((0:Int),((0:Int),((0:Int),()))))),(a1,()))).2.2) then
 (bif (decide ((0:Int)≤(f92 (f90 ((Vx.k_rows.getD (Int.toNat a0) ((0:Int),((0:Int),((0:Int),((0:Int),()))))),(a1,()))).2.2).1)) then
 (some (((f90 ((Vx.k_rows.getD (Int.toNat a0) ((0:Int),((0:Int),((0:Int),((0:Int),()))))),(a1,()))).1,(((shrI .u64 (f90 ((Vx.k_rows.getD (Int.toNat a0) ((0:Int),((0:Int),((0:Int),((0:Int),()))))),(a1,()))).2.2.1 (f92 (f90 ((Vx.k_rows.getD (Int.toNat a0) ((0:Int),((0:Int),((0:Int),((0:Int),()))))),(a1,()))).2.2).1)::[]),((IntKind.wrap .i64 ((IntKind.wrap .i64 ((IntKind.wrap .i64 ((IntKind.wrap .i64 ((IntKind.wrap .i64 ((IntKind.wrap .i64 (1:Int))-(1:Int)))+(Vx.k_rows.getD (Int.toNat a0) ((0:Int),((0:Int),((0:Int),((0:Int),()))))).2.2.1))-(Vx.k_rows.getD (Int.toNat a0) ((0:Int),((0:Int),((0:Int),((0:Int),()))))).2.1))+(1:Int)))+(f92 (f90 ((Vx.k_rows.getD (Int.toNat a0) ((0:Int),((0:Int),((0:Int),((0:Int),()))))),(a1,()))).2.2).1)),()))),((0:Int),())))
 else none)
 else none)
 else bif (decide ((0:Int)≤(IntKind.wrap .i64 ((Vx.k_rows.getD (Int.toNat a0) ((0:Int),((0:Int),((0:Int),((0:Int),()))))).2.1-(1:Int))))) then
 (bif ((orI .u64 (f90 ((Vx.k_rows.getD (Int.toNat a0) ((0:Int),((0:Int),((0:Int),((0:Int),()))))),(a1,()))).2.2.1 (shlI .u64 (1:Int) (IntKind.wrap .i64 ((Vx.k_rows.getD (Int.toNat a0) ((0:Int),((0:Int),((0:Int),((0:Int),()))))).2.1-(1:Int)))))==(0:Int)) then
 (some ((false,([],((0:Int),()))),((0:Int),())))
 else bif (p92 ((orI .u64 (f90 ((Vx.k_rows.getD (Int.toNat a0) ((0:Int),((0:Int),((0:Int),((0:Int),()))))),(a1,()))).2.2.1 (shlI .u64 (1:Int) (IntKind.wrap .i64 ((Vx.k_rows.getD (Int.toNat a0) ((0:Int),((0:Int),((0:Int),((0:Int),()))))).2.1-(1:Int))))),())) then
 (bif (decide ((0:Int)≤(f92 ((orI .u64 (f90 ((Vx.k_rows.getD (Int.toNat a0) ((0:Int),((0:Int),((0:Int),((0:Int),()))))),(a1,()))).2.2.1 (shlI .u64 (1:Int) (IntKind.wrap .i64 ((Vx.k_rows.getD (Int.toNat a0) ((0:Int),((0:Int),((0:Int),((0:Int),()))))).2.1-(1:Int))))),())).1)) then
 (some (((f90 ((Vx.k_rows.getD (Int.toNat a0) ((0:Int),((0:Int),((0:Int),((0:Int),()))))),(a1,()))).1,(((shrI .u64 (orI .u64 (f90 ((Vx.k_rows.getD (Int.toNat a0) ((0:Int),((0:Int),((0:Int),((0:Int),()))))),(a1,()))).2.2.1 (shlI .u64 (1:Int) (IntKind.wrap .i64 ((Vx.k_rows.getD (Int.toNat a0) ((0:Int),((0:Int),((0:Int),((0:Int),()))))).2.1-(1:Int))))) (f92 ((orI .u64 (f90 ((Vx.k_rows.getD (Int.toNat a0) ((0:Int),((0:Int),((0:Int),((0:Int),()))))),(a1,()))).2.2.1 (shlI .u64 (1:Int) (IntKind.wrap .i64 ((Vx.k_rows.getD (Int.toNat a0) ((0:Int),((0:Int),((0:Int),((0:Int),()))))).2.1-(1:Int))))),())).1)::[]),((IntKind.wrap .i64 ((IntKind.wrap .i64 ((IntKind.wrap .i64 ((IntKind.wrap .i64 ((IntKind.wrap .i64 ((IntKind.wrap .i64 (f90 ((Vx.k_rows.getD (Int.toNat a0) ((0:Int),((0:Int),((0:Int),((0:Int),()))))),(a1,()))).2.1)-(1:Int)))+(Vx.k_rows.getD (Int.toNat a0) ((0:Int),((0:Int),((0:Int),((0:Int),()))))).2.2.1))-(Vx.k_rows.getD (Int.toNat a0) ((0:Int),((0:Int),((0:Int),((0:Int),()))))).2.1))+(1:Int)))+(f92 ((orI .u64 (f90 ((Vx.k_rows.getD (Int.toNat a0) ((0:Int),((0:Int),((0:Int),((0:Int),()))))),(a1,()))).2.2.1 (shlI .u64 (1:Int) (IntKind.wrap .i64 ((Vx.k_rows.getD (Int.toNat a0) ((0:Int),((0:Int),((0:Int),((0:Int),()))))).2.1-(1:Int))))),())).1)),()))),((0:Int),())))
 else none)
 else none)
 else none)
 else none)
 else none)
 else none)
 else none
theorem r40 (p66:DenS I66→Bool) (f66:DenS I66→DenS O66) (p90:DenS I90→Bool) (f90:DenS I90→DenS O90) (p91:DenS I91→Bool) (f91:DenS I91→DenS O91) (p92:DenS I92→Bool) (f92:DenS I92→DenS O92) (a0:Den (.int .i64)) (a1:Den (.int .u64)) :
  run { P:=Tryz.prog,sums:=[(24,⟨I66,O66,p66,f66⟩),(47,⟨I90,O90,p90,f90⟩),(48,⟨I91,O91,p91,f91⟩),(64,⟨I92,O92,p92,f92⟩)],loops:=[],globs:=G1 } 9 37 Tryz.f37 I40 O40 (a0,a1,())=t40 p66 f66 p90 f90 p91 f91 p92 f92 a0 a1:=by kernel_rfl
noncomputable def T40 (x:DenS I40):Option (DenS O40):=t40 S66.pre S66.F S90.pre S90.F S91.pre S91.F S92.pre S92.F x.1 x.2.1
noncomputable def C40:Cfg:={ P:=Tryz.prog,sums:=[(24,S66),(47,S90),(48,S91),(64,S92)],loops:=[],globs:=G1 }
noncomputable def S40:Sum:=sumOf I40 O40 T40 (DenS.dflt O40)
theorem S40_sound:Sound Tryz.prog G1 37 S40 :=
 fn_sound C40 9 37 Tryz.f37 mixedOk (by kernel_rfl) (by kernel_rfl) (by kernel_rfl) ⟨S66_sound,⟨S90_sound,⟨S91_sound,⟨S92_sound,trivial⟩⟩⟩⟩ trivial I40 O40 T40 _ (fun x=>r40 S66.pre S66.F S90.pre S90.F S91.pre S91.F S92.pre S92.F x.1 x.2.1)
abbrev I1146:Sig:=[(false,.slice (.int .u64))]
abbrev O1146:Sig:=[(true,.slice (.int .u64))]
noncomputable def t1146 (p173:DenS I173→Bool) (f173:DenS I173→DenS O173) (a0:Den (.slice (.int .u64))):Option (DenS O1146) :=
 bif (p173 (a0,())) then
 (bif ((decide ((0:Int)≤((f173 (a0,())).1.length:Int)))&&(decide ((((f173 (a0,())).1.length:Int)*(8:Int))≤(140737488355328:Int)))) then
 (some ((((f173 (a0,())).1.take (List.replicate (Int.toNat ((f173 (a0,())).1.length:Int)) (0:Int)).length)++((List.replicate (Int.toNat ((f173 (a0,())).1.length:Int)) (0:Int)).drop (f173 (a0,())).1.length)),()))
 else none)
 else none
theorem r1146 (p173:DenS I173→Bool) (f173:DenS I173→DenS O173) (a0:Den (.slice (.int .u64))) :
  run { P:=Tryz.prog,sums:=[(73,⟨I173,O173,p173,f173⟩)],loops:=[],globs:=G1,keep:=true } 9 72 Tryz.f72 I1146 O1146 (a0,())=t1146 p173 f173 a0:=by kernel_rfl
noncomputable def T1146 (x:DenS I1146):Option (DenS O1146):=t1146 S173.pre S173.F x.1
noncomputable def C1146:Cfg:={ P:=Tryz.prog,sums:=[(73,S173)],loops:=[],globs:=G1,keep:=true }
noncomputable def S1146:Sum:=sumOf I1146 O1146 T1146 (DenS.dflt O1146)
theorem S1146_sound:Sound Tryz.prog G1 72 S1146 :=
 fn_sound C1146 9 72 Tryz.f72 mixedOk (by kernel_rfl) (by kernel_rfl) (by kernel_rfl) ⟨S173_sound,trivial⟩ trivial I1146 O1146 T1146 _ (fun x=>r1146 S173.pre S173.F x.1)
abbrev I327:Sig:=[(false,.int .u64)]
abbrev O327:Sig:=[(false,.int .i64)]
noncomputable def t327 (p178:DenS I178→Bool) (f178:DenS I178→DenS O178) (a0:Den (.int .u64)):Option (DenS O327) :=
 bif (p178 (a0,())) then
 (some ((IntKind.wrap .i64 ((64:Int)-(f178 (a0,())).1)),()))
 else none
theorem r327 (p178:DenS I178→Bool) (f178:DenS I178→DenS O178) (a0:Den (.int .u64)) :
  run { P:=Tryz.prog,sums:=[(66,⟨I178,O178,p178,f178⟩)],loops:=[],globs:=G1 } 9 99 Tryz.f99 I327 O327 (a0,())=t327 p178 f178 a0:=by kernel_rfl
noncomputable def T327 (x:DenS I327):Option (DenS O327):=t327 S178.pre S178.F x.1
noncomputable def C327:Cfg:={ P:=Tryz.prog,sums:=[(66,S178)],loops:=[],globs:=G1 }
noncomputable def S327:Sum:=sumOf I327 O327 T327 (DenS.dflt O327)
theorem S327_sound:Sound Tryz.prog G1 99 S327 :=
 fn_sound C327 9 99 Tryz.f99 mixedOk (by kernel_rfl) (by kernel_rfl) (by kernel_rfl) ⟨S178_sound,trivial⟩ trivial I327 O327 T327 _ (fun x=>r327 S178.pre S178.F x.1)
abbrev I328:Sig:=[(false,.int .u64),(false,.int .u64),(false,.int .u64)]
abbrev O328:Sig:=[(false,.int .u64),(false,.int .u64)]
abbrev P328_17:Pat:=⟨135,[(16,.one (.v .u64)),(11,.one (.v .u64)),(13,.one (.v .u64)),(10,.one (.v .u64)),(9,.one (.v .u64)),(15,.one (.v .u64)),(14,.one (.v .u64)),(2,.one (.v .u64)),(8,.one (.v .u64))],[]⟩
abbrev A328_17:List (Nat×Shape):=[]
abbrev X328_17:List (Nat×Pat):=[(0,⟨135,[(11,.one (.v .u64)),(13,.one (.v .u64)),(10,.one (.v .u64)),(9,.one (.v .u64)),(15,.one (.v .u64)),(14,.one (.v .u64)),(2,.one (.v .u64)),(8,.one (.v .u64))],[]⟩)]
abbrev Q328_17:Option Pat:=none
abbrev P328_24:Pat:=⟨135,[(10,.one (.v .u64)),(16,.one (.v .u64)),(9,.one (.v .u64)),(15,.one (.v .u64)),(17,.one (.v .u64)),(14,.one (.v .u64)),(18,.one (.v .u64)),(2,.one (.v .u64)),(8,.one (.v .u64))],[]⟩
abbrev A328_24:List (Nat×Shape):=[]
abbrev X328_24:List (Nat×Pat):=[(2,⟨135,[(15,.one (.v .u64)),(17,.one (.v .u64)),(14,.one (.v .u64)),(18,.one (.v .u64)),(2,.one (.v .u64)),(8,.one (.v .u64))],[]⟩)]
abbrev Q328_24:Option Pat:=none
noncomputable def h328_24 (p327:DenS I327→Bool) (f327:DenS I327→DenS O327) {R:Type} (L:Pat.D P328_24→Option R) (e:OutT X328_24 Q328_24→Option R) (x:Pat.D P328_24):Option R :=
 let e1_:=(x.1.2.2.2.1,(x.1.2.2.2.2.1,(x.1.2.2.2.2.2.1,((IntKind.wrap .u64 (x.1.2.2.2.2.2.2.1-(1:Int))),x.1.2.2.2.2.2.2.2))))
 let e2_:=(IntKind.wrap .u64 (x.1.2.1+x.1.2.2.1))
 bif ((decide (x.1.2.2.2.2.2.2.1≥(4294967296:Int)))||(decide ((IntKind.wrap .u64 (x.1.2.2.2.2.2.2.1*x.1.1))>(IntKind.wrap .u64 ((IntKind.wrap .u64 ((4294967296:Int)*x.1.2.1))+x.1.2.2.2.2.2.1))))) then
 (bif (decide (e2_≥(4294967296:Int))) then
 ((e (.inl (e1_,()))))
 else (L ((x.1.1,(e2_,(x.1.2.2.1,e1_))),())))
 else (e (.inl (x.1.2.2.2,())))
theorem s328_24 (p327:DenS I327→Bool) (f327:DenS I327→DenS O327) (w328_17:Pat.D P328_17→Option (OutT X328_17 Q328_17)) (w328_24:Pat.D P328_24→Option (OutT X328_24 Q328_24)) (d:Nat) (R:Type) (L:Pat.D P328_24→Option R) (e:OutT X328_24 Q328_24→Option R) (x:Pat.D P328_24) :
  lStep { P:=Tryz.prog,sums:=[(99,⟨I327,O327,p327,f327⟩)],loops:=[(101,17,LoopSpec.of P328_17 A328_17 X328_17 Q328_17 w328_17),(101,24,LoopSpec.of P328_24 A328_24 X328_24 Q328_24 w328_24)],globs:=G1 } (d+2) 101 (bodyOf Tryz.f101 24) P328_24 A328_24 X328_24 Q328_24 (R:=R) L e x=h328_24 p327 f327 L e x:=by kernel_rfl
theorem m328_24 (p327:DenS I327→Bool) (f327:DenS I327→DenS O327):Par fun L e x=>h328_24 p327 f327 L e x:=by
 intro A B rel L L' e e' h0 hL he x
 unfold h328_24
 repeat' (first | exact h0 | exact hL _ | exact he _ | apply rel_cond | (apply rel_obind h0; intro _) | (apply rel_obind2 <;> intro _))
noncomputable def h328_17 (p327:DenS I327→Bool) (f327:DenS I327→DenS O327) {R:Type} (L:Pat.D P328_17→Option R) (e:OutT X328_17 Q328_17→Option R) (x:Pat.D P328_17):Option R :=
 let e1_:=(x.1.2.1,(x.1.2.2.1,(x.1.2.2.2.1,(x.1.2.2.2.2.1,((IntKind.wrap .u64 (x.1.2.2.2.2.2.1-(1:Int))),x.1.2.2.2.2.2.2)))))
 let e2_:=(IntKind.wrap .u64 (x.1.1+x.1.2.2.2.2.1))
 bif ((decide (x.1.2.2.2.2.2.1≥(4294967296:Int)))||(decide ((IntKind.wrap .u64 (x.1.2.2.2.2.2.1*x.1.2.2.2.1))>(IntKind.wrap .u64 ((IntKind.wrap .u64 ((4294967296:Int)*x.1.1))+x.1.2.2.1))))) then
 (bif (decide (e2_≥(4294967296:Int))) then
 ((e (.inl (e1_,()))))
 else (L ((e2_,e1_),())))
 else (e (.inl (x.1.2,())))
theorem s328_17 (p327:DenS I327→Bool) (f327:DenS I327→DenS O327) (w328_17:Pat.D P328_17→Option (OutT X328_17 Q328_17)) (w328_24:Pat.D P328_24→Option (OutT X328_24 Q328_24)) (d:Nat) (R:Type) (L:Pat.D P328_17→Option R) (e:OutT X328_17 Q328_17→Option R) (x:Pat.D P328_17) :
  lStep { P:=Tryz.prog,sums:=[(99,⟨I327,O327,p327,f327⟩)],loops:=[(101,17,LoopSpec.of P328_17 A328_17 X328_17 Q328_17 w328_17),(101,24,LoopSpec.of P328_24 A328_24 X328_24 Q328_24 w328_24)],globs:=G1 } (d+2) 101 (bodyOf Tryz.f101 17) P328_17 A328_17 X328_17 Q328_17 (R:=R) L e x=h328_17 p327 f327 L e x:=by kernel_rfl
theorem m328_17 (p327:DenS I327→Bool) (f327:DenS I327→DenS O327):Par fun L e x=>h328_17 p327 f327 L e x:=by
 intro A B rel L L' e e' h0 hL he x
 unfold h328_17
 repeat' (first | exact h0 | exact hL _ | exact he _ | apply rel_cond | (apply rel_obind h0; intro _) | (apply rel_obind2 <;> intro _))
noncomputable def t328 (p327:DenS I327→Bool) (f327:DenS I327→DenS O327) (w328_17:Pat.D P328_17→Option (OutT X328_17 Q328_17)) (w328_24:Pat.D P328_24→Option (OutT X328_24 Q328_24)) (a0:Den (.int .u64)) (a1:Den (.int .u64)) (a2:Den (.int .u64)):Option (DenS O328) :=
 let e9_:=(IntKind.wrap .u64 (f327 (a2,())).1)
 let e6_:=(orI .u64 (shlI .u64 a0 e9_) (shrI .u64 a1 (IntKind.wrap .u64 ((64:Int)-e9_))))
 let e8_:=(shlI .u64 a2 e9_)
 let e7_:=(shrI .u64 e8_ (32:Int))
 let e1_:=(quoI .u64 e6_ e7_)
 let e2_:=e6_
 let e3_:=e7_
 let e4_:=(shlI .u64 a1 e9_)
 let e5_:=e8_
 bif (a2==(0:Int)) then
  (none)
 else bif (decide (a2≤a0)) then
  (none)
 else bif (a0==(0:Int)) then
 (bif (a2 != (0:Int)) then
 (bif (a2 != (0:Int)) then
 (some ((quoI .u64 a1 a2),((Int.tmod a1 a2),())))
 else none)
 else none)
 else bif (p327 (a2,())) then
 (bif (e3_ != (0:Int)) then
 (Vx.obind (w328_17 (((IntKind.wrap .u64 (e2_-(IntKind.wrap .u64 (e1_*e3_)))),(e2_,((shrI .u64 e4_ (32:Int)),((andI .u64 e5_ (4294967295:Int)),(e3_,(e1_,((andI .u64 e4_ (4294967295:Int)),(e5_,(e9_,()))))))))),())) fun y5 =>
 Vx.obind2 y5 (fun y6 =>
 bif (y6.1.2.2.2.1 != (0:Int)) then
 (Vx.obind (w328_24 ((y6.1.2.2.1,((IntKind.wrap .u64 ((IntKind.wrap .u64 ((IntKind.wrap .u64 ((IntKind.wrap .u64 (y6.1.1*(4294967296:Int)))+y6.1.2.1))-(IntKind.wrap .u64 (y6.1.2.2.2.2.1*y6.1.2.2.2.2.2.2.1))))-(IntKind.wrap .u64 ((quoI .u64 (IntKind.wrap .u64 ((IntKind.wrap .u64 ((IntKind.wrap .u64 (y6.1.1*(4294967296:Int)))+y6.1.2.1))-(IntKind.wrap .u64 (y6.1.2.2.2.2.1*y6.1.2.2.2.2.2.2.1)))) y6.1.2.2.2.1)*y6.1.2.2.2.1)))),(y6.1.2.2.2.1,(y6.1.2.2.2.2.1,((IntKind.wrap .u64 ((IntKind.wrap .u64 ((IntKind.wrap .u64 (y6.1.1*(4294967296:Int)))+y6.1.2.1))-(IntKind.wrap .u64 (y6.1.2.2.2.2.1*y6.1.2.2.2.2.2.2.1)))),(y6.1.2.2.2.2.2.1,((quoI .u64 (IntKind.wrap .u64 ((IntKind.wrap .u64 ((IntKind.wrap .u64 (y6.1.1*(4294967296:Int)))+y6.1.2.1))-(IntKind.wrap .u64 (y6.1.2.2.2.2.1*y6.1.2.2.2.2.2.2.1)))) y6.1.2.2.2.1),y6.1.2.2.2.2.2.2))))))),())) fun y8 =>
 Vx.obind2 y8 (fun y9 =>
 some ((IntKind.wrap .u64 ((IntKind.wrap .u64 (y9.1.1*(4294967296:Int)))+y9.1.2.2.2.1)),((shrI .u64 (IntKind.wrap .u64 ((IntKind.wrap .u64 ((IntKind.wrap .u64 (y9.1.2.1*(4294967296:Int)))+y9.1.2.2.1))-(IntKind.wrap .u64 (y9.1.2.2.2.1*y9.1.2.2.2.2.1)))) y9.1.2.2.2.2.2.1),()))) (fun z9 =>
 none))
 else none) (fun z6 =>
 none))
 else none)
 else none
theorem r328 (p327:DenS I327→Bool) (f327:DenS I327→DenS O327) (w328_17:Pat.D P328_17→Option (OutT X328_17 Q328_17)) (w328_24:Pat.D P328_24→Option (OutT X328_24 Q328_24)) (a0:Den (.int .u64)) (a1:Den (.int .u64)) (a2:Den (.int .u64)) :
  run { P:=Tryz.prog,sums:=[(99,⟨I327,O327,p327,f327⟩)],loops:=[(101,17,LoopSpec.of P328_17 A328_17 X328_17 Q328_17 w328_17),(101,24,LoopSpec.of P328_24 A328_24 X328_24 Q328_24 w328_24)],globs:=G1 } 9 101 Tryz.f101 I328 O328 (a0,a1,a2,())=t328 p327 f327 w328_17 w328_24 a0 a1 a2:=by kernel_rfl
noncomputable def W328_24:P328_24.D→Option (OutT X328_24 Q328_24):=lfix fun L=>h328_24 S327.pre S327.F L some
noncomputable def W328_17:P328_17.D→Option (OutT X328_17 Q328_17):=lfix fun L=>h328_17 S327.pre S327.F L some
noncomputable def T328 (x:DenS I328):Option (DenS O328):=t328 S327.pre S327.F W328_17 W328_24 x.1 x.2.1 x.2.2.1
noncomputable def C328:Cfg:={ P:=Tryz.prog,sums:=[(99,S327)],loops:=[(101,17,LoopSpec.of P328_17 A328_17 X328_17 Q328_17 W328_17),(101,24,LoopSpec.of P328_24 A328_24 X328_24 Q328_24 W328_24)],globs:=G1 }
noncomputable def S328:Sum:=sumOf I328 O328 T328 (DenS.dflt O328)
theorem S328_sound:Sound Tryz.prog G1 101 S328 :=
 fn_sound C328 9 101 Tryz.f101 mixedOk (by kernel_rfl) (by kernel_rfl) (by kernel_rfl) ⟨S327_sound,trivial⟩ ⟨rfl,fun d=>loopOk_of (fun L e x=>h328_17 S327.pre S327.F L e x) (m328_17 S327.pre S327.F) (fun R L e x=>s328_17 S327.pre S327.F W328_17 W328_24 d R L e x),⟨rfl,fun d=>loopOk_of (fun L e x=>h328_24 S327.pre S327.F L e x) (m328_24 S327.pre S327.F) (fun R L e x=>s328_24 S327.pre S327.F W328_17 W328_24 d R L e x),trivial⟩⟩ I328 O328 T328 _ (fun x=>r328 S327.pre S327.F W328_17 W328_24 x.1 x.2.1 x.2.2.1)
abbrev I1329:Sig:=[(true,.slice (.int .u64)),(false,.int .u64)]
abbrev O1329:Sig:=[(false,.slice (.int .u64)),(false,.int .u64)]
abbrev P1329_3:Pat:=⟨31,[(1,.one (.v .u64)),(7,.one (.v .i64)),(0,.one (.own 0)),(6,.one (.v .u64))],[.arr (.int .u64)]⟩
abbrev A1329_3:List (Nat×Shape):=[]
abbrev X1329_3:List (Nat×Pat):=[(0,⟨31,[(0,.one (.own 0)),(6,.one (.v .u64))],[.arr (.int .u64)]⟩)]
abbrev Q1329_3:Option Pat:=none
noncomputable def h1329_3 (p328:DenS I328→Bool) (f328:DenS I328→DenS O328) (p173:DenS I173→Bool) (f173:DenS I173→DenS O173) {R:Type} (L:Pat.D P1329_3→Option R) (e:OutT X1329_3 Q1329_3→Option R) (x:Pat.D P1329_3):Option R :=
 let e3_:=(x.1.2.2.2.1,((x.2.1.getD (Int.toNat x.1.2.1) (0:Int)),(x.1.1,())))
 let e1_:=(f328 e3_)
 let e2_:=((decide ((0:Int)≤x.1.2.1))&&(decide (x.1.2.1<(x.2.1.length:Int))))
 bif (decide (x.1.2.1≥(0:Int))) then
 (bif e2_ then
 (bif (p328 e3_) then
 (bif e2_ then
 ((L ((x.1.1,((IntKind.wrap .i64 (x.1.2.1-(1:Int))),((),e1_.2))),((x.2.1.set (Int.toNat x.1.2.1) e1_.1),()))))
 else none)
 else none)
 else none)
 else (e (.inl (((),x.1.2.2.2),x.2)))
theorem s1329_3 (p328:DenS I328→Bool) (f328:DenS I328→DenS O328) (p173:DenS I173→Bool) (f173:DenS I173→DenS O173) (w1329_3:Pat.D P1329_3→Option (OutT X1329_3 Q1329_3)) (d:Nat) (R:Type) (L:Pat.D P1329_3→Option R) (e:OutT X1329_3 Q1329_3→Option R) (x:Pat.D P1329_3) :
  lStep { P:=Tryz.prog,sums:=[(101,⟨I328,O328,p328,f328⟩),(73,⟨I173,O173,p173,f173⟩)],loops:=[(98,3,LoopSpec.of P1329_3 A1329_3 X1329_3 Q1329_3 w1329_3)],globs:=G1,keep:=true } (d+2) 98 (bodyOf Tryz.f98 3) P1329_3 A1329_3 X1329_3 Q1329_3 (R:=R) L e x=h1329_3 p328 f328 p173 f173 L e x:=by kernel_rfl
theorem m1329_3 (p328:DenS I328→Bool) (f328:DenS I328→DenS O328) (p173:DenS I173→Bool) (f173:DenS I173→DenS O173):Par fun L e x=>h1329_3 p328 f328 p173 f173 L e x:=by
 intro A B rel L L' e e' h0 hL he x
 unfold h1329_3
 repeat' (first | exact h0 | exact hL _ | exact he _ | apply rel_cond | (apply rel_obind h0; intro _) | (apply rel_obind2 <;> intro _))
noncomputable def t1329 (p328:DenS I328→Bool) (f328:DenS I328→DenS O328) (p173:DenS I173→Bool) (f173:DenS I173→DenS O173) (w1329_3:Pat.D P1329_3→Option (OutT X1329_3 Q1329_3)) (a0:Den (.slice (.int .u64))) (a1:Den (.int .u64)):Option (DenS O1329) :=
 Vx.obind (w1329_3 ((a1,((IntKind.wrap .i64 ((a0.length:Int)-(1:Int))),((),((0:Int),())))),(a0,()))) fun y0 =>
 Vx.obind2 y0 (fun y1 =>
 bif (p173 y1.2) then
 (some ((f173 y1.2).1,y1.1.2))
 else none) (fun z1 =>
 none)
theorem r1329 (p328:DenS I328→Bool) (f328:DenS I328→DenS O328) (p173:DenS I173→Bool) (f173:DenS I173→DenS O173) (w1329_3:Pat.D P1329_3→Option (OutT X1329_3 Q1329_3)) (a0:Den (.slice (.int .u64))) (a1:Den (.int .u64)) :
  run { P:=Tryz.prog,sums:=[(101,⟨I328,O328,p328,f328⟩),(73,⟨I173,O173,p173,f173⟩)],loops:=[(98,3,LoopSpec.of P1329_3 A1329_3 X1329_3 Q1329_3 w1329_3)],globs:=G1,keep:=true } 9 98 Tryz.f98 I1329 O1329 (a0,a1,())=t1329 p328 f328 p173 f173 w1329_3 a0 a1:=by kernel_rfl
noncomputable def W1329_3:P1329_3.D→Option (OutT X1329_3 Q1329_3):=lfix fun L=>h1329_3 S328.pre S328.F S173.pre S173.F L some
noncomputable def T1329 (x:DenS I1329):Option (DenS O1329):=t1329 S328.pre S328.F S173.pre S173.F W1329_3 x.1 x.2.1
noncomputable def C1329:Cfg:={ P:=Tryz.prog,sums:=[(101,S328),(73,S173)],loops:=[(98,3,LoopSpec.of P1329_3 A1329_3 X1329_3 Q1329_3 W1329_3)],globs:=G1,keep:=true }
noncomputable def S1329:Sum:=sumOf I1329 O1329 T1329 (DenS.dflt O1329)
theorem S1329_sound:Sound Tryz.prog G1 98 S1329 :=
 fn_sound C1329 9 98 Tryz.f98 mixedOk (by kernel_rfl) (by kernel_rfl) (by kernel_rfl) ⟨S328_sound,⟨S173_sound,trivial⟩⟩ ⟨rfl,fun d=>loopOk_of (fun L e x=>h1329_3 S328.pre S328.F S173.pre S173.F L e x) (m1329_3 S328.pre S328.F S173.pre S173.F) (fun R L e x=>s1329_3 S328.pre S328.F S173.pre S173.F W1329_3 d R L e x),trivial⟩ I1329 O1329 T1329 _ (fun x=>r1329 S328.pre S328.F S173.pre S173.F W1329_3 x.1 x.2.1)
abbrev I144:Sig:=[(false,.slice (.int .u64)),(false,.slice (.int .u64))]
abbrev O144:Sig:=[(false,.int .i64)]
abbrev P144_7:Pat:=⟨49,[(0,.one (.sl (.int .u64))),(1,.one (.sl (.int .u64))),(5,.one (.v .i64))],[]⟩
abbrev A144_7:List (Nat×Shape):=[]
abbrev X144_7:List (Nat×Pat):=[(1,⟨49,[],[]⟩)]
abbrev Q144_7:Option Pat:=(some ⟨49,[(4,.one (.v .i64))],[]⟩)
noncomputable def h144_7 (p173:DenS I173→Bool) (f173:DenS I173→DenS O173) {R:Type} (L:Pat.D P144_7→Option R) (e:OutT X144_7 Q144_7→Option R) (x:Pat.D P144_7):Option R :=
 bif (decide (x.1.2.2.1≥(0:Int))) then
 (bif ((decide ((0:Int)≤x.1.2.2.1))&&(decide (x.1.2.2.1<(x.1.1.length:Int)))) then
 (bif ((decide ((0:Int)≤x.1.2.2.1))&&(decide (x.1.2.2.1<(x.1.2.1.length:Int)))) then
 (bif (decide ((x.1.1.getD (Int.toNat x.1.2.2.1) (0:Int))<(x.1.2.1.getD (Int.toNat x.1.2.2.1) (0:Int)))) then
 ((e (.inr (((-(1:Int)),()),()))))
 else bif ((decide ((0:Int)≤x.1.2.2.1))&&(decide (x.1.2.2.1<(x.1.1.length:Int)))) then
 (bif ((decide ((0:Int)≤x.1.2.2.1))&&(decide (x.1.2.2.1<(x.1.2.1.length:Int)))) then
 (bif (decide ((x.1.1.getD (Int.toNat x.1.2.2.1) (0:Int))>(x.1.2.1.getD (Int.toNat x.1.2.2.1) (0:Int)))) then
 ((e (.inr (((1:Int),()),()))))
 else (L ((x.1.1,(x.1.2.1,((IntKind.wrap .i64 (x.1.2.2.1-(1:Int))),()))),())))
 else none)
 else none)
 else none)
 else none)
 else (e (.inl ((),())))
theorem s144_7 (p173:DenS I173→Bool) (f173:DenS I173→DenS O173) (w144_7:Pat.D P144_7→Option (OutT X144_7 Q144_7)) (d:Nat) (R:Type) (L:Pat.D P144_7→Option R) (e:OutT X144_7 Q144_7→Option R) (x:Pat.D P144_7) :
  lStep { P:=Tryz.prog,sums:=[(73,⟨I173,O173,p173,f173⟩)],loops:=[(81,7,LoopSpec.of P144_7 A144_7 X144_7 Q144_7 w144_7)],globs:=G1 } (d+2) 81 (bodyOf Tryz.f81 7) P144_7 A144_7 X144_7 Q144_7 (R:=R) L e x=h144_7 p173 f173 L e x:=by kernel_rfl
theorem m144_7 (p173:DenS I173→Bool) (f173:DenS I173→DenS O173):Par fun L e x=>h144_7 p173 f173 L e x:=by
 intro A B rel L L' e e' h0 hL he x
 unfold h144_7
 repeat' (first | exact h0 | exact hL _ | exact he _ | apply rel_cond | (apply rel_obind h0; intro _) | (apply rel_obind2 <;> intro _))
noncomputable def t144 (p173:DenS I173→Bool) (f173:DenS I173→DenS O173) (w144_7:Pat.D P144_7→Option (OutT X144_7 Q144_7)) (a0:Den (.slice (.int .u64))) (a1:Den (.slice (.int .u64))):Option (DenS O144) :=
 bif (p173 (a0,())) then
 (bif (p173 (a1,())) then
 (bif (decide (((f173 (a0,())).1.length:Int)<((f173 (a1,())).1.length:Int))) then
 (some ((-(1:Int)),()))
 else bif (decide (((f173 (a0,())).1.length:Int)>((f173 (a1,())).1.length:Int))) then
 (some ((1:Int),()))
 else Vx.obind (w144_7 (((f173 (a0,())).1,((f173 (a1,())).1,((IntKind.wrap .i64 (((f173 (a0,())).1.length:Int)-(1:Int))),()))),())) fun y4 =>
 Vx.obind2 y4 (fun y5 =>
 some ((0:Int),())) (fun z5 =>
 some z5.1))
 else none)
 else none
theorem r144 (p173:DenS I173→Bool) (f173:DenS I173→DenS O173) (w144_7:Pat.D P144_7→Option (OutT X144_7 Q144_7)) (a0:Den (.slice (.int .u64))) (a1:Den (.slice (.int .u64))) :
  run { P:=Tryz.prog,sums:=[(73,⟨I173,O173,p173,f173⟩)],loops:=[(81,7,LoopSpec.of P144_7 A144_7 X144_7 Q144_7 w144_7)],globs:=G1 } 9 81 Tryz.f81 I144 O144 (a0,a1,())=t144 p173 f173 w144_7 a0 a1:=by kernel_rfl
noncomputable def W144_7:P144_7.D→Option (OutT X144_7 Q144_7):=lfix fun L=>h144_7 S173.pre S173.F L some
noncomputable def T144 (x:DenS I144):Option (DenS O144):=t144 S173.pre S173.F W144_7 x.1 x.2.1
noncomputable def C144:Cfg:={ P:=Tryz.prog,sums:=[(73,S173)],loops:=[(81,7,LoopSpec.of P144_7 A144_7 X144_7 Q144_7 W144_7)],globs:=G1 }
noncomputable def S144:Sum:=sumOf I144 O144 T144 (DenS.dflt O144)
theorem S144_sound:Sound Tryz.prog G1 81 S144 :=
 fn_sound C144 9 81 Tryz.f81 mixedOk (by kernel_rfl) (by kernel_rfl) (by kernel_rfl) ⟨S173_sound,trivial⟩ ⟨rfl,fun d=>loopOk_of (fun L e x=>h144_7 S173.pre S173.F L e x) (m144_7 S173.pre S173.F) (fun R L e x=>s144_7 S173.pre S173.F W144_7 d R L e x),trivial⟩ I144 O144 T144 _ (fun x=>r144 S173.pre S173.F W144_7 x.1 x.2.1)
abbrev I329:Sig:=[(false,.slice (.int .u64)),(false,.int .u64)]
abbrev O329:Sig:=[(false,.slice (.int .u64)),(false,.int .u64)]
abbrev P329_3:Pat:=⟨31,[(1,.one (.v .u64)),(7,.one (.v .i64)),(0,.one (.sl (.int .u64))),(6,.one (.v .u64))],[]⟩
abbrev A329_3:List (Nat×Shape):=[]
abbrev X329_3:List (Nat×Pat):=[(0,⟨31,[(0,.one (.sl (.int .u64))),(6,.one (.v .u64))],[]⟩)]
abbrev Q329_3:Option Pat:=none
noncomputable def h329_3 (p328:DenS I328→Bool) (f328:DenS I328→DenS O328) (p173:DenS I173→Bool) (f173:DenS I173→DenS O173) {R:Type} (L:Pat.D P329_3→Option R) (e:OutT X329_3 Q329_3→Option R) (x:Pat.D P329_3):Option R :=
 let e1_:=((decide ((0:Int)≤x.1.2.1))&&(decide (x.1.2.1<(x.1.2.2.1.length:Int))))
 bif (decide (x.1.2.1≥(0:Int))) then
 (bif e1_ then
 (bif (p328 (x.1.2.2.2.1,((x.1.2.2.1.getD (Int.toNat x.1.2.1) (0:Int)),(x.1.1,())))) then
 (bif e1_ then
     (none)
 else none)
 else none)
 else none)
 else (e (.inl (x.1.2.2,())))
theorem s329_3 (p328:DenS I328→Bool) (f328:DenS I328→DenS O328) (p173:DenS I173→Bool) (f173:DenS I173→DenS O173) (w329_3:Pat.D P329_3→Option (OutT X329_3 Q329_3)) (d:Nat) (R:Type) (L:Pat.D P329_3→Option R) (e:OutT X329_3 Q329_3→Option R) (x:Pat.D P329_3) :
  lStep { P:=Tryz.prog,sums:=[(101,⟨I328,O328,p328,f328⟩),(73,⟨I173,O173,p173,f173⟩)],loops:=[(98,3,LoopSpec.of P329_3 A329_3 X329_3 Q329_3 w329_3)],globs:=G1 } (d+2) 98 (bodyOf Tryz.f98 3) P329_3 A329_3 X329_3 Q329_3 (R:=R) L e x=h329_3 p328 f328 p173 f173 L e x:=by kernel_rfl
theorem m329_3 (p328:DenS I328→Bool) (f328:DenS I328→DenS O328) (p173:DenS I173→Bool) (f173:DenS I173→DenS O173):Par fun L e x=>h329_3 p328 f328 p173 f173 L e x:=by
 intro A B rel L L' e e' h0 hL he x
 unfold h329_3
 repeat' (first | exact h0 | exact hL _ | exact he _ | apply rel_cond | (apply rel_obind h0; intro _) | (apply rel_obind2 <;> intro _))
noncomputable def t329 (p328:DenS I328→Bool) (f328:DenS I328→DenS O328) (p173:DenS I173→Bool) (f173:DenS I173→DenS O173) (w329_3:Pat.D P329_3→Option (OutT X329_3 Q329_3)) (a0:Den (.slice (.int .u64))) (a1:Den (.int .u64)):Option (DenS O329) :=
 Vx.obind (w329_3 ((a1,((IntKind.wrap .i64 ((a0.length:Int)-(1:Int))),(a0,((0:Int),())))),())) fun y0 =>
 Vx.obind2 y0 (fun y1 =>
 bif (p173 (y1.1.1,())) then
 (some ((f173 (y1.1.1,())).1,y1.1.2))
 else none) (fun z1 =>
 none)
theorem r329 (p328:DenS I328→Bool) (f328:DenS I328→DenS O328) (p173:DenS I173→Bool) (f173:DenS I173→DenS O173) (w329_3:Pat.D P329_3→Option (OutT X329_3 Q329_3)) (a0:Den (.slice (.int .u64))) (a1:Den (.int .u64)) :
  run { P:=Tryz.prog,sums:=[(101,⟨I328,O328,p328,f328⟩),(73,⟨I173,O173,p173,f173⟩)],loops:=[(98,3,LoopSpec.of P329_3 A329_3 X329_3 Q329_3 w329_3)],globs:=G1 } 9 98 Tryz.f98 I329 O329 (a0,a1,())=t329 p328 f328 p173 f173 w329_3 a0 a1:=by kernel_rfl
noncomputable def W329_3:P329_3.D→Option (OutT X329_3 Q329_3):=lfix fun L=>h329_3 S328.pre S328.F S173.pre S173.F L some
noncomputable def T329 (x:DenS I329):Option (DenS O329):=t329 S328.pre S328.F S173.pre S173.F W329_3 x.1 x.2.1
noncomputable def C329:Cfg:={ P:=Tryz.prog,sums:=[(101,S328),(73,S173)],loops:=[(98,3,LoopSpec.of P329_3 A329_3 X329_3 Q329_3 W329_3)],globs:=G1 }
noncomputable def S329:Sum:=sumOf I329 O329 T329 (DenS.dflt O329)
theorem S329_sound:Sound Tryz.prog G1 98 S329 :=
 fn_sound C329 9 98 Tryz.f98 mixedOk (by kernel_rfl) (by kernel_rfl) (by kernel_rfl) ⟨S328_sound,⟨S173_sound,trivial⟩⟩ ⟨rfl,fun d=>loopOk_of (fun L e x=>h329_3 S328.pre S328.F S173.pre S173.F L e x) (m329_3 S328.pre S328.F S173.pre S173.F) (fun R L e x=>s329_3 S328.pre S328.F S173.pre S173.F W329_3 d R L e x),trivial⟩ I329 O329 T329 _ (fun x=>r329 S328.pre S328.F S173.pre S173.F W329_3 x.1 x.2.1)
abbrev I330:Sig:=[(false,.slice (.int .u64)),(false,.int .u64)]
abbrev O330:Sig:=[(false,.bool)]
abbrev K330:LK:=.win (.int .u64)
abbrev P330_3:Pat:=⟨68,[(16,.one (.v .i64)),(15,.one (.sl (.int .u64))),(2,.one (.v .u64)),(17,.one (.v .i64)),(1,.one (.sl (.int .u64))),(0,.one (.sub 0)),(7,.one (.v .u64)),(8,.one (.v .u64))],[.arr (.int .u64)]⟩
abbrev A330_3:List (Nat×Shape):=[]
abbrev X330_3:List (Nat×Pat):=[(0,⟨68,[(1,.one (.sl (.int .u64))),(0,.one (.sub 0)),(7,.one (.v .u64)),(8,.one (.v .u64))],[.arr (.int .u64)]⟩)]
abbrev Q330_3:Option Pat:=none
noncomputable def h330_3 (p315:DenS I315→Bool) (f315:DenS I315→DenS O315) (p155:DenS I155→Bool) (f155:DenS I155→DenS O155) (p157:DenS I157→Bool) (f157:DenS I157→DenS O157) {R:Type} (L:Pat.D P330_3→Option R) (e:OutT X330_3 Q330_3→Option R) (x:Pat.D P330_3):Option R :=
 let e7_:=(x.2.1.getD (x.1.2.2.2.2.2.1.1+(Int.toNat x.1.2.2.2.1)) (0:Int))
 let e8_:=(x.1.2.2.1,((x.1.2.1.getD (Int.toNat x.1.2.2.2.1) (0:Int)),()))
 let e6_:=(f315 e8_)
 let e5_:=(f155 (e6_.2.1,(x.1.2.2.2.2.2.2.1,((0:Int),()))))
 let e1_:=(f157 (e7_,(e5_.1,x.1.2.2.2.2.2.2.2)))
 let e2_:=e5_
 let e3_:=((decide ((0:Int)≤x.1.2.2.2.1))&&(decide (x.1.2.2.2.1<(x.1.2.2.2.2.2.1.2:Int))))
 let e4_:=e6_
 bif (decide (x.1.2.2.2.1<x.1.1)) then
 (bif ((decide ((0:Int)≤x.1.2.2.2.1))&&(decide (x.1.2.2.2.1<(x.1.2.1.length:Int)))) then
 (bif (p315 e8_) then
 (bif (p155 (e4_.2.1,(x.1.2.2.2.2.2.2.1,((0:Int),())))) then
 (bif e3_ then
 (bif (p157 (e7_,(e2_.1,x.1.2.2.2.2.2.2.2))) then
 (bif e3_ then
 ((L ((x.1.1,(x.1.2.1,(x.1.2.2.1,((IntKind.wrap .i64 (x.1.2.2.2.1+(1:Int))),(x.1.2.2.2.2.1,(x.1.2.2.2.2.2.1,((IntKind.wrap .u64 (e4_.1+e2_.2.1)),e1_.2))))))),((x.2.1.set (x.1.2.2.2.2.2.1.1+(Int.toNat x.1.2.2.2.1)) e1_.1),()))))
 else none)
 else none)
 else none)
 else none)
 else none)
 else none)
 else (e (.inl (x.1.2.2.2.2,x.2)))
theorem s330_3 (p315:DenS I315→Bool) (f315:DenS I315→DenS O315) (p155:DenS I155→Bool) (f155:DenS I155→DenS O155) (p157:DenS I157→Bool) (f157:DenS I157→DenS O157) (w330_3:Pat.D P330_3→Option (OutT X330_3 Q330_3)) (d:Nat) (R:Type) (L:Pat.D P330_3→Option R) (e:OutT X330_3 Q330_3→Option R) (x:Pat.D P330_3) :
  lStep { P:=Tryz.prog,sums:=[(63,⟨I315,O315,p315,f315⟩),(69,⟨I155,O155,p155,f155⟩),(70,⟨I157,O157,p157,f157⟩)],loops:=[(102,3,LoopSpec.of P330_3 A330_3 X330_3 Q330_3 w330_3 1)],globs:=G1 } (d+2) 102 (bodyOf Tryz.f102 3) P330_3 A330_3 X330_3 Q330_3 (R:=R) L e x 1=h330_3 p315 f315 p155 f155 p157 f157 L e x:=by kernel_rfl
theorem m330_3 (p315:DenS I315→Bool) (f315:DenS I315→DenS O315) (p155:DenS I155→Bool) (f155:DenS I155→DenS O155) (p157:DenS I157→Bool) (f157:DenS I157→DenS O157):Par fun L e x=>h330_3 p315 f315 p155 f155 p157 f157 L e x:=by
 intro A B rel L L' e e' h0 hL he x
 unfold h330_3
 repeat' (first | exact h0 | exact hL _ | exact he _ | apply rel_cond | (apply rel_obind h0; intro _) | (apply rel_obind2 <;> intro _))
noncomputable def t330 (p315:DenS I315→Bool) (f315:DenS I315→DenS O315) (p155:DenS I155→Bool) (f155:DenS I155→DenS O155) (p157:DenS I157→Bool) (f157:DenS I157→DenS O157) (w330_3:Pat.D P330_3→Option (OutT X330_3 Q330_3)) (l0:LK.D (.win (.int .u64))) (a0:Den (.slice (.int .u64))) (a1:Den (.int .u64)):Option (LK.B K330×DenS O330) :=
 Vx.obind (w330_3 (((a0.length:Int),(a0,(a1,((0:Int),(a0,(l0.2,((0:Int),((0:Int),())))))))),(l0.1,()))) fun y0 =>
 Vx.obind2 y0 (fun y1 =>
 bif ((decide ((0:Int)≤(y1.1.1.length:Int)))&&(decide ((y1.1.1.length:Int)<(y1.1.2.1.2:Int)))) then
 (bif (p157 ((y1.2.1.getD (y1.1.2.1.1+(Int.toNat (y1.1.1.length:Int))) (0:Int)),y1.1.2.2)) then
 (bif ((decide ((0:Int)≤(y1.1.1.length:Int)))&&(decide ((y1.1.1.length:Int)<(y1.1.2.1.2:Int)))) then
 (some ((y1.2.1.set (y1.1.2.1.1+(Int.toNat (y1.1.1.length:Int))) (f157 ((y1.2.1.getD (y1.1.2.1.1+(Int.toNat (y1.1.1.length:Int))) (0:Int)),y1.1.2.2)).1),(((f157 ((y1.2.1.getD (y1.1.2.1.1+(Int.toNat (y1.1.1.length:Int))) (0:Int)),y1.1.2.2)).2.1 != (0:Int)),())))
 else none)
 else none)
 else none) (fun z1 =>
 none)
theorem r330 (p315:DenS I315→Bool) (f315:DenS I315→DenS O315) (p155:DenS I155→Bool) (f155:DenS I155→DenS O155) (p157:DenS I157→Bool) (f157:DenS I157→DenS O157) (w330_3:Pat.D P330_3→Option (OutT X330_3 Q330_3)) (l0:LK.D (.win (.int .u64))) (a0:Den (.slice (.int .u64))) (a1:Den (.int .u64)) :
  runL { P:=Tryz.prog,sums:=[(63,⟨I315,O315,p315,f315⟩),(69,⟨I155,O155,p155,f155⟩),(70,⟨I157,O157,p157,f157⟩)],loops:=[(102,3,LoopSpec.of P330_3 A330_3 X330_3 Q330_3 w330_3 1)],globs:=G1 } 9 102 Tryz.f102 (K330) I330 O330 (l0,(a0,a1,()))=t330 p315 f315 p155 f155 p157 f157 w330_3 l0 a0 a1:=by kernel_rfl
noncomputable def W330_3:P330_3.D→Option (OutT X330_3 Q330_3):=lfix fun L=>h330_3 S315.pre S315.F S155.pre S155.F S157.pre S157.F L some
noncomputable def T330 (x:LK.D K330×DenS I330):Option (LK.B K330×DenS O330):=t330 S315.pre S315.F S155.pre S155.F S157.pre S157.F W330_3 x.1 x.2.1 x.2.2.1
noncomputable def C330:Cfg:={ P:=Tryz.prog,sums:=[(63,S315),(69,S155),(70,S157)],loops:=[(102,3,LoopSpec.of P330_3 A330_3 X330_3 Q330_3 W330_3 1)],globs:=G1 }
noncomputable def S330:SumL:=sumOfL K330 I330 O330 T330 (LK.dflt K330,DenS.dflt O330)
theorem S330_sound:SoundL Tryz.prog G1 102 S330 :=
 fn_soundL C330 9 102 Tryz.f102 mixedOk (by kernel_rfl) (by kernel_rfl) (by kernel_rfl) ⟨S315_sound,⟨S155_sound,⟨S157_sound,trivial⟩⟩⟩ ⟨rfl,fun d=>loopOk_of (fun L e x=>h330_3 S315.pre S315.F S155.pre S155.F S157.pre S157.F L e x) (m330_3 S315.pre S315.F S155.pre S155.F S157.pre S157.F) (fun R L e x=>s330_3 S315.pre S315.F S155.pre S155.F S157.pre S157.F W330_3 d R L e x),trivial⟩ K330 I330 O330 T330 _ (fun x=>r330 S315.pre S315.F S155.pre S155.F S157.pre S157.F W330_3 x.1 x.2.1 x.2.2.1)
abbrev I331:Sig:=[(false,.slice (.int .u64))]
abbrev O331:Sig:=[(false,.bool)]
abbrev K331:LK:=.win (.int .u64)
abbrev P331_3:Pat:=⟨46,[(10,.one (.v .i64)),(9,.one (.sl (.int .u64))),(11,.one (.v .i64)),(1,.one (.sl (.int .u64))),(0,.one (.sub 0)),(5,.one (.v .u64))],[.arr (.int .u64)]⟩
abbrev A331_3:List (Nat×Shape):=[]
abbrev X331_3:List (Nat×Pat):=[(0,⟨46,[(1,.one (.sl (.int .u64))),(0,.one (.sub 0)),(5,.one (.v .u64))],[.arr (.int .u64)]⟩)]
abbrev Q331_3:Option Pat:=none
noncomputable def h331_3 (p155:DenS I155→Bool) (f155:DenS I155→DenS O155) {R:Type} (L:Pat.D P331_3→Option R) (e:OutT X331_3 Q331_3→Option R) (x:Pat.D P331_3):Option R :=
 let e3_:=((x.2.1.getD (x.1.2.2.2.2.1.1+(Int.toNat x.1.2.2.1)) (0:Int)),((x.1.2.1.getD (Int.toNat x.1.2.2.1) (0:Int)),x.1.2.2.2.2.2))
 let e1_:=(f155 e3_)
 let e2_:=((decide ((0:Int)≤x.1.2.2.1))&&(decide (x.1.2.2.1<(x.1.2.2.2.2.1.2:Int))))
 bif (decide (x.1.2.2.1<x.1.1)) then
 (bif ((decide ((0:Int)≤x.1.2.2.1))&&(decide (x.1.2.2.1<(x.1.2.1.length:Int)))) then
 (bif e2_ then
 (bif (p155 e3_) then
 (bif e2_ then
 ((L ((x.1.1,(x.1.2.1,((IntKind.wrap .i64 (x.1.2.2.1+(1:Int))),(x.1.2.2.2.1,(x.1.2.2.2.2.1,e1_.2))))),((x.2.1.set (x.1.2.2.2.2.1.1+(Int.toNat x.1.2.2.1)) e1_.1),()))))
 else none)
 else none)
 else none)
 else none)
 else (e (.inl (x.1.2.2.2,x.2)))
theorem s331_3 (p155:DenS I155→Bool) (f155:DenS I155→DenS O155) (w331_3:Pat.D P331_3→Option (OutT X331_3 Q331_3)) (d:Nat) (R:Type) (L:Pat.D P331_3→Option R) (e:OutT X331_3 Q331_3→Option R) (x:Pat.D P331_3) :
  lStep { P:=Tryz.prog,sums:=[(69,⟨I155,O155,p155,f155⟩)],loops:=[(103,3,LoopSpec.of P331_3 A331_3 X331_3 Q331_3 w331_3 1)],globs:=G1 } (d+2) 103 (bodyOf Tryz.f103 3) P331_3 A331_3 X331_3 Q331_3 (R:=R) L e x 1=h331_3 p155 f155 L e x:=by kernel_rfl
theorem m331_3 (p155:DenS I155→Bool) (f155:DenS I155→DenS O155):Par fun L e x=>h331_3 p155 f155 L e x:=by
 intro A B rel L L' e e' h0 hL he x
 unfold h331_3
 repeat' (first | exact h0 | exact hL _ | exact he _ | apply rel_cond | (apply rel_obind h0; intro _) | (apply rel_obind2 <;> intro _))
noncomputable def t331 (p155:DenS I155→Bool) (f155:DenS I155→DenS O155) (w331_3:Pat.D P331_3→Option (OutT X331_3 Q331_3)) (l0:LK.D (.win (.int .u64))) (a0:Den (.slice (.int .u64))):Option (LK.B K331×DenS O331) :=
 Vx.obind (w331_3 (((a0.length:Int),(a0,((0:Int),(a0,(l0.2,((0:Int),())))))),(l0.1,()))) fun y0 =>
 Vx.obind2 y0 (fun y1 =>
 bif ((decide ((0:Int)≤(y1.1.1.length:Int)))&&(decide ((y1.1.1.length:Int)<(y1.1.2.1.2:Int)))) then
 (bif (p155 ((y1.2.1.getD (y1.1.2.1.1+(Int.toNat (y1.1.1.length:Int))) (0:Int)),((0:Int),y1.1.2.2))) then
 (bif ((decide ((0:Int)≤(y1.1.1.length:Int)))&&(decide ((y1.1.1.length:Int)<(y1.1.2.1.2:Int)))) then
 (some ((y1.2.1.set (y1.1.2.1.1+(Int.toNat (y1.1.1.length:Int))) (f155 ((y1.2.1.getD (y1.1.2.1.1+(Int.toNat (y1.1.1.length:Int))) (0:Int)),((0:Int),y1.1.2.2))).1),(((f155 ((y1.2.1.getD (y1.1.2.1.1+(Int.toNat (y1.1.1.length:Int))) (0:Int)),((0:Int),y1.1.2.2))).2.1 != (0:Int)),())))
 else none)
 else none)
 else none) (fun z1 =>
 none)
theorem r331 (p155:DenS I155→Bool) (f155:DenS I155→DenS O155) (w331_3:Pat.D P331_3→Option (OutT X331_3 Q331_3)) (l0:LK.D (.win (.int .u64))) (a0:Den (.slice (.int .u64))) :
  runL { P:=Tryz.prog,sums:=[(69,⟨I155,O155,p155,f155⟩)],loops:=[(103,3,LoopSpec.of P331_3 A331_3 X331_3 Q331_3 w331_3 1)],globs:=G1 } 9 103 Tryz.f103 (K331) I331 O331 (l0,(a0,()))=t331 p155 f155 w331_3 l0 a0:=by kernel_rfl
noncomputable def W331_3:P331_3.D→Option (OutT X331_3 Q331_3):=lfix fun L=>h331_3 S155.pre S155.F L some
noncomputable def T331 (x:LK.D K331×DenS I331):Option (LK.B K331×DenS O331):=t331 S155.pre S155.F W331_3 x.1 x.2.1
noncomputable def C331:Cfg:={ P:=Tryz.prog,sums:=[(69,S155)],loops:=[(103,3,LoopSpec.of P331_3 A331_3 X331_3 Q331_3 W331_3 1)],globs:=G1 }
noncomputable def S331:SumL:=sumOfL K331 I331 O331 T331 (LK.dflt K331,DenS.dflt O331)
theorem S331_sound:SoundL Tryz.prog G1 103 S331 :=
 fn_soundL C331 9 103 Tryz.f103 mixedOk (by kernel_rfl) (by kernel_rfl) (by kernel_rfl) ⟨S155_sound,trivial⟩ ⟨rfl,fun d=>loopOk_of (fun L e x=>h331_3 S155.pre S155.F L e x) (m331_3 S155.pre S155.F) (fun R L e x=>s331_3 S155.pre S155.F W331_3 d R L e x),trivial⟩ K331 I331 O331 T331 _ (fun x=>r331 S155.pre S155.F W331_3 x.1 x.2.1)
abbrev I332:Sig:=[(false,.slice (.int .u64))]
abbrev O332:Sig:=[(false,.int .u64)]
abbrev K332:LK:=.win (.int .u64)
abbrev P332_6:Pat:=⟨92,[(6,.one (.v .u64)),(7,.one (.v .u64)),(5,.one (.v .i64)),(0,.one (.sub 0)),(1,.one (.sl (.int .u64)))],[.arr (.int .u64)]⟩
abbrev A332_6:List (Nat×Shape):=[]
abbrev X332_6:List (Nat×Pat):=[(0,⟨92,[(0,.one (.sub 0)),(1,.one (.sl (.int .u64))),(6,.one (.v .u64))],[.arr (.int .u64)]⟩)]
abbrev Q332_6:Option Pat:=none
abbrev P332_13:Pat:=⟨92,[(6,.one (.v .u64)),(0,.one (.sub 0)),(1,.one (.sl (.int .u64)))],[.arr (.int .u64)]⟩
abbrev A332_13:List (Nat×Shape):=[]
abbrev X332_13:List (Nat×Pat):=[(2,⟨92,[(6,.one (.v .u64))],[.arr (.int .u64)]⟩)]
abbrev Q332_13:Option Pat:=none
noncomputable def h332_13 (p328:DenS I328→Bool) (f328:DenS I328→DenS O328) (p315:DenS I315→Bool) (f315:DenS I315→DenS O315) (p155:DenS I155→Bool) (f155:DenS I155→DenS O155) (p330:LK.D K330×DenS I330→Bool) (f330:LK.D K330×DenS I330→LK.B K330×DenS O330) (p331:LK.D K331×DenS I331→Bool) (f331:LK.D K331×DenS I331→LK.B K331×DenS O331) {R:Type} (L:Pat.D P332_13→Option R) (e:OutT X332_13 Q332_13→Option R) (x:Pat.D P332_13):Option R :=
 let e1_:=(IntKind.wrap .u64 (x.1.1-(1:Int)))
 bif (p331 ((x.2.1,x.1.2.1),x.1.2.2)) then
 (bif (f331 ((x.2.1,x.1.2.1),x.1.2.2)).2.1 then
 ((e (.inl ((e1_,()),((f331 ((x.2.1,x.1.2.1),x.1.2.2)).1,())))))
 else (L ((e1_,x.1.2),((f331 ((x.2.1,x.1.2.1),x.1.2.2)).1,()))))
 else none
theorem s332_13 (p328:DenS I328→Bool) (f328:DenS I328→DenS O328) (p315:DenS I315→Bool) (f315:DenS I315→DenS O315) (p155:DenS I155→Bool) (f155:DenS I155→DenS O155) (p330:LK.D K330×DenS I330→Bool) (f330:LK.D K330×DenS I330→LK.B K330×DenS O330) (p331:LK.D K331×DenS I331→Bool) (f331:LK.D K331×DenS I331→LK.B K331×DenS O331) (w332_6:Pat.D P332_6→Option (OutT X332_6 Q332_6)) (w332_13:Pat.D P332_13→Option (OutT X332_13 Q332_13)) (d:Nat) (R:Type) (L:Pat.D P332_13→Option R) (e:OutT X332_13 Q332_13→Option R) (x:Pat.D P332_13) :
  lStep { P:=Tryz.prog,sums:=[(101,⟨I328,O328,p328,f328⟩),(63,⟨I315,O315,p315,f315⟩),(69,⟨I155,O155,p155,f155⟩)],loops:=[(100,6,LoopSpec.of P332_6 A332_6 X332_6 Q332_6 w332_6 1),(100,13,LoopSpec.of P332_13 A332_13 X332_13 Q332_13 w332_13 1)],globs:=G1,lsums:=[(102,⟨K330,I330,O330,p330,f330⟩),(103,⟨K331,I331,O331,p331,f331⟩)] } (d+2) 100 (bodyOf Tryz.f100 13) P332_13 A332_13 X332_13 Q332_13 (R:=R) L e x 1=h332_13 p328 f328 p315 f315 p155 f155 p330 f330 p331 f331 L e x:=by kernel_rfl
theorem m332_13 (p328:DenS I328→Bool) (f328:DenS I328→DenS O328) (p315:DenS I315→Bool) (f315:DenS I315→DenS O315) (p155:DenS I155→Bool) (f155:DenS I155→DenS O155) (p330:LK.D K330×DenS I330→Bool) (f330:LK.D K330×DenS I330→LK.B K330×DenS O330) (p331:LK.D K331×DenS I331→Bool) (f331:LK.D K331×DenS I331→LK.B K331×DenS O331):Par fun L e x=>h332_13 p328 f328 p315 f315 p155 f155 p330 f330 p331 f331 L e x:=by
 intro A B rel L L' e e' h0 hL he x
 unfold h332_13
 repeat' (first | exact h0 | exact hL _ | exact he _ | apply rel_cond | (apply rel_obind h0; intro _) | (apply rel_obind2 <;> intro _))
noncomputable def h332_6 (p328:DenS I328→Bool) (f328:DenS I328→DenS O328) (p315:DenS I315→Bool) (f315:DenS I315→DenS O315) (p155:DenS I155→Bool) (f155:DenS I155→DenS O155) (p330:LK.D K330×DenS I330→Bool) (f330:LK.D K330×DenS I330→LK.B K330×DenS O330) (p331:LK.D K331×DenS I331→Bool) (f331:LK.D K331×DenS I331→LK.B K331×DenS O331) {R:Type} (L:Pat.D P332_6→Option R) (e:OutT X332_6 Q332_6→Option R) (x:Pat.D P332_6):Option R :=
 let e11_:=(IntKind.wrap .i64 (x.1.2.2.1-(2:Int)))
 let e10_:=(Int.toNat e11_)
 let e9_:=(f315 (x.1.1,((x.1.2.2.2.2.1.getD e10_ (0:Int)),())))
 let e1_:=(decide (e9_.1<x.1.2.1))
 let e12_:=(IntKind.wrap .i64 (x.1.2.2.1-(1:Int)))
 let e2_:=(f155 (x.1.2.1,((x.1.2.2.2.2.1.getD (Int.toNat e12_) (0:Int)),((0:Int),()))))
 let e3_:=e9_
 let e4_:=(decide ((0:Int)≤e11_))
 let e5_:=e10_
 let e6_:=e12_
 let e7_:=e11_
 let e8_:=(IntKind.wrap .u64 (x.1.1-(1:Int)))
 bif (e4_&&(decide (e7_<(x.1.2.2.2.2.1.length:Int)))) then
 (bif (p315 (x.1.1,((x.1.2.2.2.2.1.getD e5_ (0:Int)),()))) then
 (bif ((e4_&&(decide (e7_<(x.1.2.2.2.1.2:Int))))||(!((bif e1_ then false else true)&&(decide (e3_.1=x.1.2.1))))) then
 (bif (e1_||((e3_.1==x.1.2.1)&&(decide (e3_.2.1≤(x.2.1.getD (x.1.2.2.2.1.1+e5_) (0:Int)))))) then
 ((e (.inl ((x.1.2.2.2.1,(x.1.2.2.2.2.1,(x.1.1,()))),x.2))))
 else bif ((decide ((0:Int)≤e6_))&&(decide (e6_<(x.1.2.2.2.2.1.length:Int)))) then
 (bif (p155 (x.1.2.1,((x.1.2.2.2.2.1.getD (Int.toNat e6_) (0:Int)),((0:Int),())))) then
 (bif (e2_.2.1 != (0:Int)) then
 ((e (.inl ((x.1.2.2.2.1,(x.1.2.2.2.2.1,(e8_,()))),x.2))))
 else (L ((e8_,(e2_.1,x.1.2.2)),x.2)))
 else none)
 else none)
 else none)
 else none)
 else none
theorem s332_6 (p328:DenS I328→Bool) (f328:DenS I328→DenS O328) (p315:DenS I315→Bool) (f315:DenS I315→DenS O315) (p155:DenS I155→Bool) (f155:DenS I155→DenS O155) (p330:LK.D K330×DenS I330→Bool) (f330:LK.D K330×DenS I330→LK.B K330×DenS O330) (p331:LK.D K331×DenS I331→Bool) (f331:LK.D K331×DenS I331→LK.B K331×DenS O331) (w332_6:Pat.D P332_6→Option (OutT X332_6 Q332_6)) (w332_13:Pat.D P332_13→Option (OutT X332_13 Q332_13)) (d:Nat) (R:Type) (L:Pat.D P332_6→Option R) (e:OutT X332_6 Q332_6→Option R) (x:Pat.D P332_6) :
  lStep { P:=Tryz.prog,sums:=[(101,⟨I328,O328,p328,f328⟩),(63,⟨I315,O315,p315,f315⟩),(69,⟨I155,O155,p155,f155⟩)],loops:=[(100,6,LoopSpec.of P332_6 A332_6 X332_6 Q332_6 w332_6 1),(100,13,LoopSpec.of P332_13 A332_13 X332_13 Q332_13 w332_13 1)],globs:=G1,lsums:=[(102,⟨K330,I330,O330,p330,f330⟩),(103,⟨K331,I331,O331,p331,f331⟩)] } (d+2) 100 (bodyOf Tryz.f100 6) P332_6 A332_6 X332_6 Q332_6 (R:=R) L e x 1=h332_6 p328 f328 p315 f315 p155 f155 p330 f330 p331 f331 L e x:=by kernel_rfl
theorem m332_6 (p328:DenS I328→Bool) (f328:DenS I328→DenS O328) (p315:DenS I315→Bool) (f315:DenS I315→DenS O315) (p155:DenS I155→Bool) (f155:DenS I155→DenS O155) (p330:LK.D K330×DenS I330→Bool) (f330:LK.D K330×DenS I330→LK.B K330×DenS O330) (p331:LK.D K331×DenS I331→Bool) (f331:LK.D K331×DenS I331→LK.B K331×DenS O331):Par fun L e x=>h332_6 p328 f328 p315 f315 p155 f155 p330 f330 p331 f331 L e x:=by
 intro A B rel L L' e e' h0 hL he x
 unfold h332_6
 repeat' (first | exact h0 | exact hL _ | exact he _ | apply rel_cond | (apply rel_obind h0; intro _) | (apply rel_obind2 <;> intro _))
noncomputable def t332 (p328:DenS I328→Bool) (f328:DenS I328→DenS O328) (p315:DenS I315→Bool) (f315:DenS I315→DenS O315) (p155:DenS I155→Bool) (f155:DenS I155→DenS O155) (p330:LK.D K330×DenS I330→Bool) (f330:LK.D K330×DenS I330→LK.B K330×DenS O330) (p331:LK.D K331×DenS I331→Bool) (f331:LK.D K331×DenS I331→LK.B K331×DenS O331) (w332_6:Pat.D P332_6→Option (OutT X332_6 Q332_6)) (w332_13:Pat.D P332_13→Option (OutT X332_13 Q332_13)) (l0:LK.D (.win (.int .u64))) (a0:Den (.slice (.int .u64))):Option (LK.B K332×DenS O332) :=
 let e11_:=(l0.1.getD (l0.2.1+(Int.toNat (a0.length:Int))) (0:Int))
 let e10_:=(IntKind.wrap .i64 ((a0.length:Int)-(1:Int)))
 let e9_:=(Int.toNat e10_)
 let e8_:=(a0.getD e9_ (0:Int))
 let e1_:=(f328 (e11_,((l0.1.getD (l0.2.1+e9_) (0:Int)),(e8_,()))))
 let e2_:=((decide ((0:Int)≤e10_))&&(decide (e10_<(a0.length:Int))))
 let e3_:=e8_
 let e4_:=((decide ((0:Int)≤(a0.length:Int)))&&(decide ((a0.length:Int)<(l0.2.2:Int))))
 let e5_:=e10_
 let e12_:=((l0.1,l0.2),(a0,((18446744073709551615:Int),())))
 let e6_:=(f330 e12_)
 let e7_:=e11_
 bif e4_ then
 (bif e2_ then
 (bif (decide (e7_<e3_)) then
 (bif e4_ then
 (bif ((decide ((0:Int)≤e5_))&&(decide (e5_<(l0.2.2:Int)))) then
 (bif e2_ then
 (bif (p328 (e7_,((l0.1.getD (l0.2.1+(Int.toNat e5_)) (0:Int)),(e3_,())))) then
 (Vx.obind (w332_6 ((e1_.1,(e1_.2.1,((a0.length:Int),(l0.2,(a0,()))))),(l0.1,()))) fun y7 =>
 Vx.obind2 y7 (fun y8 =>
 bif (p330 ((y8.2.1,y8.1.1),y8.1.2)) then
 (bif (f330 ((y8.2.1,y8.1.1),y8.1.2)).2.1 then
 (Vx.obind (w332_13 ((y8.1.2.2.1,(y8.1.1,(y8.1.2.1,()))),((f330 ((y8.2.1,y8.1.1),y8.1.2)).1,()))) fun y11 =>
 Vx.obind2 y11 (fun y12 =>
 some (y12.2.1,y12.1)) (fun z12 =>
 none))
 else some ((f330 ((y8.2.1,y8.1.1),y8.1.2)).1,y8.1.2.2))
 else none) (fun z8 =>
 none))
 else none)
 else none)
 else none)
 else none)
 else bif (p330 e12_) then
 (bif e6_.2.1 then
 (Vx.obind (w332_13 (((18446744073709551615:Int),(l0.2,(a0,()))),(e6_.1,()))) fun y5 =>
 Vx.obind2 y5 (fun y6 =>
 some (y6.2.1,y6.1)) (fun z6 =>
 none))
 else some (e6_.1,((18446744073709551615:Int),())))
 else none)
 else none)
 else none
theorem r332 (p328:DenS I328→Bool) (f328:DenS I328→DenS O328) (p315:DenS I315→Bool) (f315:DenS I315→DenS O315) (p155:DenS I155→Bool) (f155:DenS I155→DenS O155) (p330:LK.D K330×DenS I330→Bool) (f330:LK.D K330×DenS I330→LK.B K330×DenS O330) (p331:LK.D K331×DenS I331→Bool) (f331:LK.D K331×DenS I331→LK.B K331×DenS O331) (w332_6:Pat.D P332_6→Option (OutT X332_6 Q332_6)) (w332_13:Pat.D P332_13→Option (OutT X332_13 Q332_13)) (l0:LK.D (.win (.int .u64))) (a0:Den (.slice (.int .u64))) :
  runL { P:=Tryz.prog,sums:=[(101,⟨I328,O328,p328,f328⟩),(63,⟨I315,O315,p315,f315⟩),(69,⟨I155,O155,p155,f155⟩)],loops:=[(100,6,LoopSpec.of P332_6 A332_6 X332_6 Q332_6 w332_6 1),(100,13,LoopSpec.of P332_13 A332_13 X332_13 Q332_13 w332_13 1)],globs:=G1,lsums:=[(102,⟨K330,I330,O330,p330,f330⟩),(103,⟨K331,I331,O331,p331,f331⟩)] } 9 100 Tryz.f100 (K332) I332 O332 (l0,(a0,()))=t332 p328 f328 p315 f315 p155 f155 p330 f330 p331 f331 w332_6 w332_13 l0 a0:=by kernel_rfl
noncomputable def W332_13:P332_13.D→Option (OutT X332_13 Q332_13):=lfix fun L=>h332_13 S328.pre S328.F S315.pre S315.F S155.pre S155.F S330.pre S330.F S331.pre S331.F L some
noncomputable def W332_6:P332_6.D→Option (OutT X332_6 Q332_6):=lfix fun L=>h332_6 S328.pre S328.F S315.pre S315.F S155.pre S155.F S330.pre S330.F S331.pre S331.F L some
noncomputable def T332 (x:LK.D K332×DenS I332):Option (LK.B K332×DenS O332):=t332 S328.pre S328.F S315.pre S315.F S155.pre S155.F S330.pre S330.F S331.pre S331.F W332_6 W332_13 x.1 x.2.1
noncomputable def C332:Cfg:={ P:=Tryz.prog,sums:=[(101,S328),(63,S315),(69,S155)],loops:=[(100,6,LoopSpec.of P332_6 A332_6 X332_6 Q332_6 W332_6 1),(100,13,LoopSpec.of P332_13 A332_13 X332_13 Q332_13 W332_13 1)],globs:=G1,lsums:=[(102,S330),(103,S331)] }
noncomputable def S332:SumL:=sumOfL K332 I332 O332 T332 (LK.dflt K332,DenS.dflt O332)
theorem S332_sound:SoundL Tryz.prog G1 100 S332 :=
 fn_soundL C332 9 100 Tryz.f100 mixedOk (by kernel_rfl) (by kernel_rfl) (by kernel_rfl) ⟨S328_sound,⟨S315_sound,⟨S155_sound,trivial⟩⟩⟩ ⟨rfl,fun d=>loopOk_of (fun L e x=>h332_6 S328.pre S328.F S315.pre S315.F S155.pre S155.F S330.pre S330.F S331.pre S331.F L e x) (m332_6 S328.pre S328.F S315.pre S315.F S155.pre S155.F S330.pre S330.F S331.pre S331.F) (fun R L e x=>s332_6 S328.pre S328.F S315.pre S315.F S155.pre S155.F S330.pre S330.F S331.pre S331.F W332_6 W332_13 d R L e x),⟨rfl,fun d=>loopOk_of (fun L e x=>h332_13 S328.pre S328.F S315.pre S315.F S155.pre S155.F S330.pre S330.F S331.pre S331.F L e x) (m332_13 S328.pre S328.F S315.pre S315.F S155.pre S155.F S330.pre S330.F S331.pre S331.F) (fun R L e x=>s332_13 S328.pre S328.F S315.pre S315.F S155.pre S155.F S330.pre S330.F S331.pre S331.F W332_6 W332_13 d R L e x),trivial⟩⟩ K332 I332 O332 T332 _ (fun x=>r332 S328.pre S328.F S315.pre S315.F S155.pre S155.F S330.pre S330.F S331.pre S331.F W332_6 W332_13 x.1 x.2.1) (hls:=⟨S330_sound,⟨S331_sound,trivial⟩⟩)
abbrev I333:Sig:=[(false,.slice (.int .u64)),(false,.slice (.int .u64))]
abbrev O333:Sig:=[(false,.slice (.int .u64)),(false,.slice (.int .u64))]
abbrev P333_14:Pat:=⟨91,[(9,.one (.sl (.int .u64))),(12,.one (.v .i64)),(4,.one (.own 1)),(10,.one (.own 0)),(11,.one (.v .i64)),(8,.one (.v .i64))],[.arr (.int .u64),.arr (.int .u64)]⟩
abbrev A333_14:List (Nat×Shape):=[]
abbrev X333_14:List (Nat×Pat):=[(0,⟨91,[(4,.one (.own 1)),(10,.one (.own 0)),(11,.one (.v .i64)),(8,.one (.v .i64))],[.arr (.int .u64),.arr (.int .u64)]⟩)]
abbrev Q333_14:Option Pat:=none
noncomputable def h333_14 (p1146:DenS I1146→Bool) (f1146:DenS I1146→DenS O1146) (p1329:DenS I1329→Bool) (f1329:DenS I1329→DenS O1329) (p144:DenS I144→Bool) (f144:DenS I144→DenS O144) (p146:DenS I146→Bool) (f146:DenS I146→DenS O146) (p329:DenS I329→Bool) (f329:DenS I329→DenS O329) (p327:DenS I327→Bool) (f327:DenS I327→DenS O327) (p186:DenS I186→Bool) (f186:DenS I186→DenS O186) (p332:LK.D K332×DenS I332→Bool) (f332:LK.D K332×DenS I332→LK.B K332×DenS O332) (p173:DenS I173→Bool) (f173:DenS I173→DenS O173) (p171:DenS I171→Bool) (f171:DenS I171→DenS O171) {R:Type} (L:Pat.D P333_14→Option R) (e:OutT X333_14 Q333_14→Option R) (x:Pat.D P333_14):Option R :=
 let e3_:=(IntKind.wrap .i64 ((IntKind.wrap .i64 (x.1.2.1+x.1.2.2.2.2.1))+(1:Int)))
 let e1_:=(f332 ((x.2.1,((Int.toNat x.1.2.1),((Int.toNat e3_)-(Int.toNat x.1.2.1)))),(x.1.1,())))
 let e2_:=e3_
 bif (decide (x.1.2.1≥(0:Int))) then
 (bif (((decide ((0:Int)≤x.1.2.1))&&(decide (x.1.2.1≤e2_)))&&(decide (e2_≤(x.2.1.length:Int)))) then
 (bif (p332 ((x.2.1,((Int.toNat x.1.2.1),((Int.toNat e2_)-(Int.toNat x.1.2.1)))),(x.1.1,()))) then
 (bif ((decide ((0:Int)≤x.1.2.1))&&(decide (x.1.2.1<(x.2.2.1.length:Int)))) then
 ((L ((x.1.1,((IntKind.wrap .i64 (x.1.2.1-(1:Int))),((),((),x.1.2.2.2.2)))),(e1_.1,((x.2.2.1.set (Int.toNat x.1.2.1) e1_.2.1),())))))
 else none)
 else none)
 else none)
 else (e (.inl (((),((),x.1.2.2.2.2)),x.2)))
theorem s333_14 (p1146:DenS I1146→Bool) (f1146:DenS I1146→DenS O1146) (p1329:DenS I1329→Bool) (f1329:DenS I1329→DenS O1329) (p144:DenS I144→Bool) (f144:DenS I144→DenS O144) (p146:DenS I146→Bool) (f146:DenS I146→DenS O146) (p329:DenS I329→Bool) (f329:DenS I329→DenS O329) (p327:DenS I327→Bool) (f327:DenS I327→DenS O327) (p186:DenS I186→Bool) (f186:DenS I186→DenS O186) (p332:LK.D K332×DenS I332→Bool) (f332:LK.D K332×DenS I332→LK.B K332×DenS O332) (p173:DenS I173→Bool) (f173:DenS I173→DenS O173) (p171:DenS I171→Bool) (f171:DenS I171→DenS O171) (w333_14:Pat.D P333_14→Option (OutT X333_14 Q333_14)) (d:Nat) (R:Type) (L:Pat.D P333_14→Option R) (e:OutT X333_14 Q333_14→Option R) (x:Pat.D P333_14) :
  lStep { P:=Tryz.prog,sums:=[(72,⟨I1146,O1146,p1146,f1146⟩),(98,⟨I1329,O1329,p1329,f1329⟩),(81,⟨I144,O144,p144,f144⟩),(72,⟨I146,O146,p146,f146⟩),(98,⟨I329,O329,p329,f329⟩),(99,⟨I327,O327,p327,f327⟩),(90,⟨I186,O186,p186,f186⟩),(73,⟨I173,O173,p173,f173⟩),(96,⟨I171,O171,p171,f171⟩)],loops:=[(91,14,LoopSpec.of P333_14 A333_14 X333_14 Q333_14 w333_14)],globs:=G1,cut:=true,lsums:=[(100,⟨K332,I332,O332,p332,f332⟩)] } (d+2) 91 (bodyOf Tryz.f91 14) P333_14 A333_14 X333_14 Q333_14 (R:=R) L e x=h333_14 p1146 f1146 p1329 f1329 p144 f144 p146 f146 p329 f329 p327 f327 p186 f186 p332 f332 p173 f173 p171 f171 L e x:=by kernel_rfl
theorem m333_14 (p1146:DenS I1146→Bool) (f1146:DenS I1146→DenS O1146) (p1329:DenS I1329→Bool) (f1329:DenS I1329→DenS O1329) (p144:DenS I144→Bool) (f144:DenS I144→DenS O144) (p146:DenS I146→Bool) (f146:DenS I146→DenS O146) (p329:DenS I329→Bool) (f329:DenS I329→DenS O329) (p327:DenS I327→Bool) (f327:DenS I327→DenS O327) (p186:DenS I186→Bool) (f186:DenS I186→DenS O186) (p332:LK.D K332×DenS I332→Bool) (f332:LK.D K332×DenS I332→LK.B K332×DenS O332) (p173:DenS I173→Bool) (f173:DenS I173→DenS O173) (p171:DenS I171→Bool) (f171:DenS I171→DenS O171):Par fun L e x=>h333_14 p1146 f1146 p1329 f1329 p144 f144 p146 f146 p329 f329 p327 f327 p186 f186 p332 f332 p173 f173 p171 f171 L e x:=by
 intro A B rel L L' e e' h0 hL he x
 unfold h333_14
 repeat' (first | exact h0 | exact hL _ | exact he _ | apply rel_cond | (apply rel_obind h0; intro _) | (apply rel_obind2 <;> intro _))
noncomputable def t333 (p1146:DenS I1146→Bool) (f1146:DenS I1146→DenS O1146) (p1329:DenS I1329→Bool) (f1329:DenS I1329→DenS O1329) (p144:DenS I144→Bool) (f144:DenS I144→DenS O144) (p146:DenS I146→Bool) (f146:DenS I146→DenS O146) (p329:DenS I329→Bool) (f329:DenS I329→DenS O329) (p327:DenS I327→Bool) (f327:DenS I327→DenS O327) (p186:DenS I186→Bool) (f186:DenS I186→DenS O186) (p332:LK.D K332×DenS I332→Bool) (f332:LK.D K332×DenS I332→LK.B K332×DenS O332) (p173:DenS I173→Bool) (f173:DenS I173→DenS O173) (p171:DenS I171→Bool) (f171:DenS I171→DenS O171) (w333_14:Pat.D P333_14→Option (OutT X333_14 Q333_14)) (a0:Den (.slice (.int .u64))) (a1:Den (.slice (.int .u64))):Option (DenS O333) :=
 let e17_:=(IntKind.wrap .i64 (((f173 (a1,())).1.length:Int)-(1:Int)))
 let e14_:=(f327 (((f173 (a1,())).1.getD (Int.toNat e17_) (0:Int)),()))
 let e12_:=(f186 ((f173 (a0,())).1,e14_))
 let e18_:=(IntKind.wrap .i64 (((f173 (a0,())).1.length:Int)+(1:Int)))
 let e15_:=(List.replicate (Int.toNat e18_) (0:Int))
 let e13_:=(f186 ((f173 (a1,())).1,e14_))
 let e11_:=(IntKind.wrap .i64 ((((e12_.1.take e15_.length)++(e15_.drop e12_.1.length)).length:Int)-(e13_.1.length:Int)))
 let e1_:=(List.replicate (Int.toNat e11_) (0:Int))
 let e2_:=e11_
 let e3_:=e13_
 let e4_:=e12_
 let e5_:=e14_
 let e6_:=e15_
 let e16_:=((f1146 (f173 (a0,()))).1,(((f173 (a1,())).1.getD (Int.toNat (0:Int)) (0:Int)),()))
 let e7_:=(((f1329 e16_).2.1::[]),())
 let e8_:=e16_
 let e9_:=e17_
 let e10_:=e18_
 bif (p173 (a0,())) then
 (bif (p173 (a1,())) then
 (bif (p144 ((f173 (a0,())).1,(f173 (a1,())))) then
 (bif (decide ((f144 ((f173 (a0,())).1,(f173 (a1,())))).1<(0:Int))) then
 (bif (p1146 (f173 (a0,()))) then
 (some ([],(f1146 (f173 (a0,())))))
 else none)
 else bif (((f173 (a1,())).1.length:Int)==(1:Int)) then
 (bif (p1146 (f173 (a0,()))) then
 (bif (decide ((0:Int)<((f173 (a1,())).1.length:Int))) then
 (bif (p1329 e8_) then
 (bif (p173 e7_) then
 (some ((f1329 e8_).1,(f173 e7_)))
 else none)
 else none)
 else none)
 else none)
 else bif ((decide ((0:Int)≤e9_))&&(decide (e9_<((f173 (a1,())).1.length:Int)))) then
 (bif (p327 (((f173 (a1,())).1.getD (Int.toNat e9_) (0:Int)),())) then
 (bif (p186 ((f173 (a1,())).1,e5_)) then
 (bif ((decide ((0:Int)≤e10_))&&(decide ((e10_*(8:Int))≤(140737488355328:Int)))) then
 (bif (p186 ((f173 (a0,())).1,e5_)) then
 (bif ((decide ((0:Int)≤e2_))&&(decide ((e2_*(8:Int))≤(140737488355328:Int)))) then
 (Vx.obind (w333_14 ((e3_.1,((IntKind.wrap .i64 ((e1_.length:Int)-(1:Int))),((),((),((e3_.1.length:Int),e5_))))),(((e4_.1.take e6_.length)++(e6_.drop e4_.1.length)),(e1_,())))) fun y11 =>
 Vx.obind2 y11 (fun y12 =>
 bif (p173 y12.2.2) then
 (bif ((decide ((0:Int)≤y12.1.2.2.1))&&(decide (y12.1.2.2.1≤(y12.2.1.length:Int)))) then
 (bif (p171 (((y12.2.1.take (Int.toNat y12.1.2.2.1)).drop (Int.toNat (0:Int))),y12.1.2.2.2)) then
 (some ((f173 y12.2.2).1,(f171 (((y12.2.1.take (Int.toNat y12.1.2.2.1)).drop (Int.toNat (0:Int))),y12.1.2.2.2))))
 else none)
 else none)
 else none) (fun z12 =>
 none))
 else none)
 else none)
 else none)
 else none)
 else none)
 else none)
 else none)
 else none)
 else none
theorem r333 (p1146:DenS I1146→Bool) (f1146:DenS I1146→DenS O1146) (p1329:DenS I1329→Bool) (f1329:DenS I1329→DenS O1329) (p144:DenS I144→Bool) (f144:DenS I144→DenS O144) (p146:DenS I146→Bool) (f146:DenS I146→DenS O146) (p329:DenS I329→Bool) (f329:DenS I329→DenS O329) (p327:DenS I327→Bool) (f327:DenS I327→DenS O327) (p186:DenS I186→Bool) (f186:DenS I186→DenS O186) (p332:LK.D K332×DenS I332→Bool) (f332:LK.D K332×DenS I332→LK.B K332×DenS O332) (p173:DenS I173→Bool) (f173:DenS I173→DenS O173) (p171:DenS I171→Bool) (f171:DenS I171→DenS O171) (w333_14:Pat.D P333_14→Option (OutT X333_14 Q333_14)) (a0:Den (.slice (.int .u64))) (a1:Den (.slice (.int .u64))) :
  run { P:=Tryz.prog,sums:=[(72,⟨I1146,O1146,p1146,f1146⟩),(98,⟨I1329,O1329,p1329,f1329⟩),(81,⟨I144,O144,p144,f144⟩),(72,⟨I146,O146,p146,f146⟩),(98,⟨I329,O329,p329,f329⟩),(99,⟨I327,O327,p327,f327⟩),(90,⟨I186,O186,p186,f186⟩),(73,⟨I173,O173,p173,f173⟩),(96,⟨I171,O171,p171,f171⟩)],loops:=[(91,14,LoopSpec.of P333_14 A333_14 X333_14 Q333_14 w333_14)],globs:=G1,cut:=true,lsums:=[(100,⟨K332,I332,O332,p332,f332⟩)] } 9 91 Tryz.f91 I333 O333 (a0,a1,())=t333 p1146 f1146 p1329 f1329 p144 f144 p146 f146 p329 f329 p327 f327 p186 f186 p332 f332 p173 f173 p171 f171 w333_14 a0 a1:=by kernel_rfl
noncomputable def W333_14:P333_14.D→Option (OutT X333_14 Q333_14):=lfix fun L=>h333_14 S1146.pre S1146.F S1329.pre S1329.F S144.pre S144.F S146.pre S146.F S329.pre S329.F S327.pre S327.F S186.pre S186.F S332.pre S332.F S173.pre S173.F S171.pre S171.F L some
noncomputable def T333 (x:DenS I333):Option (DenS O333):=t333 S1146.pre S1146.F S1329.pre S1329.F S144.pre S144.F S146.pre S146.F S329.pre S329.F S327.pre S327.F S186.pre S186.F S332.pre S332.F S173.pre S173.F S171.pre S171.F W333_14 x.1 x.2.1
noncomputable def C333:Cfg:={ P:=Tryz.prog,sums:=[(72,S1146),(98,S1329),(81,S144),(72,S146),(98,S329),(99,S327),(90,S186),(73,S173),(96,S171)],loops:=[(91,14,LoopSpec.of P333_14 A333_14 X333_14 Q333_14 W333_14)],globs:=G1,cut:=true,lsums:=[(100,S332)] }
noncomputable def S333:Sum:=sumOf I333 O333 T333 (DenS.dflt O333)
theorem S333_sound:Sound Tryz.prog G1 91 S333 :=
 fn_sound C333 9 91 Tryz.f91 mixedOk (by kernel_rfl) (by kernel_rfl) (by kernel_rfl) ⟨S1146_sound,⟨S1329_sound,⟨S144_sound,⟨S146_sound,⟨S329_sound,⟨S327_sound,⟨S186_sound,⟨S173_sound,⟨S171_sound,trivial⟩⟩⟩⟩⟩⟩⟩⟩⟩ ⟨rfl,fun d=>loopOk_of (fun L e x=>h333_14 S1146.pre S1146.F S1329.pre S1329.F S144.pre S144.F S146.pre S146.F S329.pre S329.F S327.pre S327.F S186.pre S186.F S332.pre S332.F S173.pre S173.F S171.pre S171.F L e x) (m333_14 S1146.pre S1146.F S1329.pre S1329.F S144.pre S144.F S146.pre S146.F S329.pre S329.F S327.pre S327.F S186.pre S186.F S332.pre S332.F S173.pre S173.F S171.pre S171.F) (fun R L e x=>s333_14 S1146.pre S1146.F S1329.pre S1329.F S144.pre S144.F S146.pre S146.F S329.pre S329.F S327.pre S327.F S186.pre S186.F S332.pre S332.F S173.pre S173.F S171.pre S171.F W333_14 d R L e x),trivial⟩ I333 O333 T333 _ (fun x=>r333 S1146.pre S1146.F S1329.pre S1329.F S144.pre S144.F S146.pre S146.F S329.pre S329.F S327.pre S327.F S186.pre S186.F S332.pre S332.F S173.pre S173.F S171.pre S171.F W333_14 x.1 x.2.1) (hls:=⟨S332_sound,trivial⟩)
abbrev I345:Sig:=[(false,.slice (.int .u64)),(false,.slice (.int .u64))]
abbrev O345:Sig:=[(false,.slice (.int .u64)),(false,.slice (.int .u64)),(false,.int .i64)]
noncomputable def t345 (p185:DenS I185→Bool) (f185:DenS I185→DenS O185) (p173:DenS I173→Bool) (f173:DenS I173→DenS O173) (p333:DenS I333→Bool) (f333:DenS I333→DenS O333) (a0:Den (.slice (.int .u64))) (a1:Den (.slice (.int .u64))):Option (DenS O345) :=
 bif (p185 ((a0::(a1::[])),())) then
 (bif (f185 ((a0::(a1::[])),())).1 then
 (some ([],([],((5:Int),()))))
 else bif (p173 (a1,())) then
 (bif (((f173 (a1,())).1.length:Int)==(0:Int)) then
 (some ([],([],((10:Int),()))))
 else bif (p333 (a0,(a1,()))) then
 (some ((f333 (a0,(a1,()))).1,((f333 (a0,(a1,()))).2.1,((0:Int),()))))
 else none)
 else none)
 else none
theorem r345 (p185:DenS I185→Bool) (f185:DenS I185→DenS O185) (p173:DenS I173→Bool) (f173:DenS I173→DenS O173) (p333:DenS I333→Bool) (f333:DenS I333→DenS O333) (a0:Den (.slice (.int .u64))) (a1:Den (.slice (.int .u64))) :
  run { P:=Tryz.prog,sums:=[(89,⟨I185,O185,p185,f185⟩),(73,⟨I173,O173,p173,f173⟩),(91,⟨I333,O333,p333,f333⟩)],loops:=[],globs:=G1 } 9 79 Tryz.f79 I345 O345 (a0,a1,())=t345 p185 f185 p173 f173 p333 f333 a0 a1:=by kernel_rfl
noncomputable def T345 (x:DenS I345):Option (DenS O345):=t345 S185.pre S185.F S173.pre S173.F S333.pre S333.F x.1 x.2.1
noncomputable def C345:Cfg:={ P:=Tryz.prog,sums:=[(89,S185),(73,S173),(91,S333)],loops:=[],globs:=G1 }
noncomputable def S345:Sum:=sumOf I345 O345 T345 (DenS.dflt O345)
theorem S345_sound:Sound Tryz.prog G1 79 S345 :=
 fn_sound C345 9 79 Tryz.f79 mixedOk (by kernel_rfl) (by kernel_rfl) (by kernel_rfl) ⟨S185_sound,⟨S173_sound,⟨S333_sound,trivial⟩⟩⟩ trivial I345 O345 T345 _ (fun x=>r345 S185.pre S185.F S173.pre S173.F S333.pre S333.F x.1 x.2.1)
abbrev I1174:Sig:=[(true,.slice (.int .u64)),(false,.slice (.int .u64))]
abbrev O1174:Sig:=[(true,.slice (.int .u64))]
abbrev P1174_3:Pat:=⟨37,[(9,.one (.v .i64)),(1,.one (.sl (.int .u64))),(5,.one (.v .u64)),(10,.one (.v .i64)),(0,.one (.own 0))],[.arr (.int .u64)]⟩
abbrev A1174_3:List (Nat×Shape):=[]
abbrev X1174_3:List (Nat×Pat):=[(0,⟨37,[(0,.one (.own 0))],[.arr (.int .u64)]⟩)]
abbrev Q1174_3:Option Pat:=none
noncomputable def h1174_3 (p1173:DenS I1173→Bool) (f1173:DenS I1173→DenS O1173) (p157:DenS I157→Bool) (f157:DenS I157→DenS O157) (p173:DenS I173→Bool) (f173:DenS I173→DenS O173) {R:Type} (L:Pat.D P1174_3→Option R) (e:OutT X1174_3 Q1174_3→Option R) (x:Pat.D P1174_3):Option R :=
 bif (decide (x.1.2.2.2.1<x.1.1)) then
 (bif (decide (x.1.2.2.2.1<(x.1.2.1.length:Int))) then
 (bif ((decide ((0:Int)≤x.1.2.2.2.1))&&(decide (x.1.2.2.2.1<(x.1.2.1.length:Int)))) then
 (bif ((decide ((0:Int)≤x.1.2.2.2.1))&&(decide (x.1.2.2.2.1<(x.2.1.length:Int)))) then
 (bif (p157 ((x.2.1.getD (Int.toNat x.1.2.2.2.1) (0:Int)),((x.1.2.1.getD (Int.toNat x.1.2.2.2.1) (0:Int)),(x.1.2.2.1,())))) then
 (bif ((decide ((0:Int)≤x.1.2.2.2.1))&&(decide (x.1.2.2.2.1<(x.2.1.length:Int)))) then
 ((L ((x.1.1,(x.1.2.1,((f157 ((x.2.1.getD (Int.toNat x.1.2.2.2.1) (0:Int)),((x.1.2.1.getD (Int.toNat x.1.2.2.2.1) (0:Int)),(x.1.2.2.1,())))).2.1,((IntKind.wrap .i64 (x.1.2.2.2.1+(1:Int))),((),()))))),((x.2.1.set (Int.toNat x.1.2.2.2.1) (f157 ((x.2.1.getD (Int.toNat x.1.2.2.2.1) (0:Int)),((x.1.2.1.getD (Int.toNat x.1.2.2.2.1) (0:Int)),(x.1.2.2.1,())))).1),()))))
 else none)
 else none)
 else none)
 else none)
 else bif ((decide ((0:Int)≤x.1.2.2.2.1))&&(decide (x.1.2.2.2.1<(x.2.1.length:Int)))) then
 (bif (p157 ((x.2.1.getD (Int.toNat x.1.2.2.2.1) (0:Int)),((0:Int),(x.1.2.2.1,())))) then
 (bif ((decide ((0:Int)≤x.1.2.2.2.1))&&(decide (x.1.2.2.2.1<(x.2.1.length:Int)))) then
 ((L ((x.1.1,(x.1.2.1,((f157 ((x.2.1.getD (Int.toNat x.1.2.2.2.1) (0:Int)),((0:Int),(x.1.2.2.1,())))).2.1,((IntKind.wrap .i64 (x.1.2.2.2.1+(1:Int))),((),()))))),((x.2.1.set (Int.toNat x.1.2.2.2.1) (f157 ((x.2.1.getD (Int.toNat x.1.2.2.2.1) (0:Int)),((0:Int),(x.1.2.2.1,())))).1),()))))
 else none)
 else none)
 else none)
 else (e (.inl (((),()),x.2)))
theorem s1174_3 (p1173:DenS I1173→Bool) (f1173:DenS I1173→DenS O1173) (p157:DenS I157→Bool) (f157:DenS I157→DenS O157) (p173:DenS I173→Bool) (f173:DenS I173→DenS O173) (w1174_3:Pat.D P1174_3→Option (OutT X1174_3 Q1174_3)) (d:Nat) (R:Type) (L:Pat.D P1174_3→Option R) (e:OutT X1174_3 Q1174_3→Option R) (x:Pat.D P1174_3) :
  lStep { P:=Tryz.prog,sums:=[(73,⟨I1173,O1173,p1173,f1173⟩),(70,⟨I157,O157,p157,f157⟩),(73,⟨I173,O173,p173,f173⟩)],loops:=[(92,3,LoopSpec.of P1174_3 A1174_3 X1174_3 Q1174_3 w1174_3)],globs:=G1,keep:=true } (d+2) 92 (bodyOf Tryz.f92 3) P1174_3 A1174_3 X1174_3 Q1174_3 (R:=R) L e x=h1174_3 p1173 f1173 p157 f157 p173 f173 L e x:=by kernel_rfl
theorem m1174_3 (p1173:DenS I1173→Bool) (f1173:DenS I1173→DenS O1173) (p157:DenS I157→Bool) (f157:DenS I157→DenS O157) (p173:DenS I173→Bool) (f173:DenS I173→DenS O173):Par fun L e x=>h1174_3 p1173 f1173 p157 f157 p173 f173 L e x:=by
 intro A B rel L L' e e' h0 hL he x
 unfold h1174_3
 repeat' (first | exact h0 | exact hL _ | exact he _ | apply rel_cond | (apply rel_obind h0; intro _) | (apply rel_obind2 <;> intro _))
noncomputable def t1174 (p1173:DenS I1173→Bool) (f1173:DenS I1173→DenS O1173) (p157:DenS I157→Bool) (f157:DenS I157→DenS O157) (p173:DenS I173→Bool) (f173:DenS I173→DenS O173) (w1174_3:Pat.D P1174_3→Option (OutT X1174_3 Q1174_3)) (a0:Den (.slice (.int .u64))) (a1:Den (.slice (.int .u64))):Option (DenS O1174) :=
 Vx.obind (w1174_3 (((a0.length:Int),(a1,((0:Int),((0:Int),((),()))))),(a0,()))) fun y0 =>
 Vx.obind2 y0 (fun y1 =>
 bif (p1173 y1.2) then
 (some (f1173 y1.2))
 else none) (fun z1 =>
 none)
theorem r1174 (p1173:DenS I1173→Bool) (f1173:DenS I1173→DenS O1173) (p157:DenS I157→Bool) (f157:DenS I157→DenS O157) (p173:DenS I173→Bool) (f173:DenS I173→DenS O173) (w1174_3:Pat.D P1174_3→Option (OutT X1174_3 Q1174_3)) (a0:Den (.slice (.int .u64))) (a1:Den (.slice (.int .u64))) :
  run { P:=Tryz.prog,sums:=[(73,⟨I1173,O1173,p1173,f1173⟩),(70,⟨I157,O157,p157,f157⟩),(73,⟨I173,O173,p173,f173⟩)],loops:=[(92,3,LoopSpec.of P1174_3 A1174_3 X1174_3 Q1174_3 w1174_3)],globs:=G1,keep:=true } 9 92 Tryz.f92 I1174 O1174 (a0,a1,())=t1174 p1173 f1173 p157 f157 p173 f173 w1174_3 a0 a1:=by kernel_rfl
noncomputable def W1174_3:P1174_3.D→Option (OutT X1174_3 Q1174_3):=lfix fun L=>h1174_3 S1173.pre S1173.F S157.pre S157.F S173.pre S173.F L some
noncomputable def T1174 (x:DenS I1174):Option (DenS O1174):=t1174 S1173.pre S1173.F S157.pre S157.F S173.pre S173.F W1174_3 x.1 x.2.1
noncomputable def C1174:Cfg:={ P:=Tryz.prog,sums:=[(73,S1173),(70,S157),(73,S173)],loops:=[(92,3,LoopSpec.of P1174_3 A1174_3 X1174_3 Q1174_3 W1174_3)],globs:=G1,keep:=true }
noncomputable def S1174:Sum:=sumOf I1174 O1174 T1174 (DenS.dflt O1174)
theorem S1174_sound:Sound Tryz.prog G1 92 S1174 :=
 fn_sound C1174 9 92 Tryz.f92 mixedOk (by kernel_rfl) (by kernel_rfl) (by kernel_rfl) ⟨S1173_sound,⟨S157_sound,⟨S173_sound,trivial⟩⟩⟩ ⟨rfl,fun d=>loopOk_of (fun L e x=>h1174_3 S1173.pre S1173.F S157.pre S157.F S173.pre S173.F L e x) (m1174_3 S1173.pre S1173.F S157.pre S157.F S173.pre S173.F) (fun R L e x=>s1174_3 S1173.pre S1173.F S157.pre S157.F S173.pre S173.F W1174_3 d R L e x),trivial⟩ I1174 O1174 T1174 _ (fun x=>r1174 S1173.pre S1173.F S157.pre S157.F S173.pre S173.F W1174_3 x.1 x.2.1)
abbrev I174:Sig:=[(false,.slice (.int .u64)),(false,.slice (.int .u64))]
abbrev O174:Sig:=[(false,.slice (.int .u64))]
abbrev P174_3:Pat:=⟨37,[(9,.one (.v .i64)),(1,.one (.sl (.int .u64))),(5,.one (.v .u64)),(10,.one (.v .i64)),(0,.one (.sl (.int .u64)))],[]⟩
abbrev A174_3:List (Nat×Shape):=[]
abbrev X174_3:List (Nat×Pat):=[(0,⟨37,[(0,.one (.sl (.int .u64)))],[]⟩)]
abbrev Q174_3:Option Pat:=none
noncomputable def h174_3 (p157:DenS I157→Bool) (f157:DenS I157→DenS O157) (p173:DenS I173→Bool) (f173:DenS I173→DenS O173) {R:Type} (L:Pat.D P174_3→Option R) (e:OutT X174_3 Q174_3→Option R) (x:Pat.D P174_3):Option R :=
 bif (decide (x.1.2.2.2.1<x.1.1)) then
 (bif (decide (x.1.2.2.2.1<(x.1.2.1.length:Int))) then
 (bif ((decide ((0:Int)≤x.1.2.2.2.1))&&(decide (x.1.2.2.2.1<(x.1.2.1.length:Int)))) then
 (bif ((decide ((0:Int)≤x.1.2.2.2.1))&&(decide (x.1.2.2.2.1<(x.1.2.2.2.2.1.length:Int)))) then
 (bif (p157 ((x.1.2.2.2.2.1.getD (Int.toNat x.1.2.2.2.1) (0:Int)),((x.1.2.1.getD (Int.toNat x.1.2.2.2.1) (0:Int)),(x.1.2.2.1,())))) then
 (bif ((decide ((0:Int)≤x.1.2.2.2.1))&&(decide (x.1.2.2.2.1<(x.1.2.2.2.2.1.length:Int)))) then
       (none)
 else none)
 else none)
 else none)
 else none)
 else bif ((decide ((0:Int)≤x.1.2.2.2.1))&&(decide (x.1.2.2.2.1<(x.1.2.2.2.2.1.length:Int)))) then
 (bif (p157 ((x.1.2.2.2.2.1.getD (Int.toNat x.1.2.2.2.1) (0:Int)),((0:Int),(x.1.2.2.1,())))) then
 (bif ((decide ((0:Int)≤x.1.2.2.2.1))&&(decide (x.1.2.2.2.1<(x.1.2.2.2.2.1.length:Int)))) then
     (none)
 else none)
 else none)
 else none)
 else (e (.inl (x.1.2.2.2.2,())))
theorem s174_3 (p157:DenS I157→Bool) (f157:DenS I157→DenS O157) (p173:DenS I173→Bool) (f173:DenS I173→DenS O173) (w174_3:Pat.D P174_3→Option (OutT X174_3 Q174_3)) (d:Nat) (R:Type) (L:Pat.D P174_3→Option R) (e:OutT X174_3 Q174_3→Option R) (x:Pat.D P174_3) :
  lStep { P:=Tryz.prog,sums:=[(70,⟨I157,O157,p157,f157⟩),(73,⟨I173,O173,p173,f173⟩)],loops:=[(92,3,LoopSpec.of P174_3 A174_3 X174_3 Q174_3 w174_3)],globs:=G1 } (d+2) 92 (bodyOf Tryz.f92 3) P174_3 A174_3 X174_3 Q174_3 (R:=R) L e x=h174_3 p157 f157 p173 f173 L e x:=by kernel_rfl
theorem m174_3 (p157:DenS I157→Bool) (f157:DenS I157→DenS O157) (p173:DenS I173→Bool) (f173:DenS I173→DenS O173):Par fun L e x=>h174_3 p157 f157 p173 f173 L e x:=by
 intro A B rel L L' e e' h0 hL he x
 unfold h174_3
 repeat' (first | exact h0 | exact hL _ | exact he _ | apply rel_cond | (apply rel_obind h0; intro _) | (apply rel_obind2 <;> intro _))
noncomputable def t174 (p157:DenS I157→Bool) (f157:DenS I157→DenS O157) (p173:DenS I173→Bool) (f173:DenS I173→DenS O173) (w174_3:Pat.D P174_3→Option (OutT X174_3 Q174_3)) (a0:Den (.slice (.int .u64))) (a1:Den (.slice (.int .u64))):Option (DenS O174) :=
 Vx.obind (w174_3 (((a0.length:Int),(a1,((0:Int),((0:Int),(a0,()))))),())) fun y0 =>
 Vx.obind2 y0 (fun y1 =>
 bif (p173 y1.1) then
 (some (f173 y1.1))
 else none) (fun z1 =>
 none)
theorem r174 (p157:DenS I157→Bool) (f157:DenS I157→DenS O157) (p173:DenS I173→Bool) (f173:DenS I173→DenS O173) (w174_3:Pat.D P174_3→Option (OutT X174_3 Q174_3)) (a0:Den (.slice (.int .u64))) (a1:Den (.slice (.int .u64))) :
  run { P:=Tryz.prog,sums:=[(70,⟨I157,O157,p157,f157⟩),(73,⟨I173,O173,p173,f173⟩)],loops:=[(92,3,LoopSpec.of P174_3 A174_3 X174_3 Q174_3 w174_3)],globs:=G1 } 9 92 Tryz.f92 I174 O174 (a0,a1,())=t174 p157 f157 p173 f173 w174_3 a0 a1:=by kernel_rfl
noncomputable def W174_3:P174_3.D→Option (OutT X174_3 Q174_3):=lfix fun L=>h174_3 S157.pre S157.F S173.pre S173.F L some
noncomputable def T174 (x:DenS I174):Option (DenS O174):=t174 S157.pre S157.F S173.pre S173.F W174_3 x.1 x.2.1
noncomputable def C174:Cfg:={ P:=Tryz.prog,sums:=[(70,S157),(73,S173)],loops:=[(92,3,LoopSpec.of P174_3 A174_3 X174_3 Q174_3 W174_3)],globs:=G1 }
noncomputable def S174:Sum:=sumOf I174 O174 T174 (DenS.dflt O174)
theorem S174_sound:Sound Tryz.prog G1 92 S174 :=
 fn_sound C174 9 92 Tryz.f92 mixedOk (by kernel_rfl) (by kernel_rfl) (by kernel_rfl) ⟨S157_sound,⟨S173_sound,trivial⟩⟩ ⟨rfl,fun d=>loopOk_of (fun L e x=>h174_3 S157.pre S157.F S173.pre S173.F L e x) (m174_3 S157.pre S157.F S173.pre S173.F) (fun R L e x=>s174_3 S157.pre S157.F S173.pre S173.F W174_3 d R L e x),trivial⟩ I174 O174 T174 _ (fun x=>r174 S157.pre S157.F S173.pre S173.F W174_3 x.1 x.2.1)
abbrev I145:Sig:=[(false,.slice (.int .u64)),(false,.slice (.int .u64))]
abbrev O145:Sig:=[(false,.slice (.int .u64)),(false,.int .i64)]
noncomputable def t145 (p1174:DenS I1174→Bool) (f1174:DenS I1174→DenS O1174) (p1146:DenS I1146→Bool) (f1146:DenS I1146→DenS O1146) (p144:DenS I144→Bool) (f144:DenS I144→DenS O144) (p146:DenS I146→Bool) (f146:DenS I146→DenS O146) (p173:DenS I173→Bool) (f173:DenS I173→DenS O173) (p174:DenS I174→Bool) (f174:DenS I174→DenS O174) (a0:Den (.slice (.int .u64))) (a1:Den (.slice (.int .u64))):Option (DenS O145) :=
 bif (p144 (a0,(a1,()))) then
 (bif (decide ((f144 (a0,(a1,()))).1<(0:Int))) then
 (some ([],((20:Int),())))
 else bif (p1146 (a0,())) then
 (bif (p173 (a1,())) then
 (bif (p1174 ((f1146 (a0,())).1,(f173 (a1,())))) then
 (some ((f1174 ((f1146 (a0,())).1,(f173 (a1,())))).1,((0:Int),())))
 else none)
 else none)
 else none)
 else none
theorem r145 (p1174:DenS I1174→Bool) (f1174:DenS I1174→DenS O1174) (p1146:DenS I1146→Bool) (f1146:DenS I1146→DenS O1146) (p144:DenS I144→Bool) (f144:DenS I144→DenS O144) (p146:DenS I146→Bool) (f146:DenS I146→DenS O146) (p173:DenS I173→Bool) (f173:DenS I173→DenS O173) (p174:DenS I174→Bool) (f174:DenS I174→DenS O174) (a0:Den (.slice (.int .u64))) (a1:Den (.slice (.int .u64))) :
  run { P:=Tryz.prog,sums:=[(92,⟨I1174,O1174,p1174,f1174⟩),(72,⟨I1146,O1146,p1146,f1146⟩),(81,⟨I144,O144,p144,f144⟩),(72,⟨I146,O146,p146,f146⟩),(73,⟨I173,O173,p173,f173⟩),(92,⟨I174,O174,p174,f174⟩)],loops:=[],globs:=G1 } 9 82 Tryz.f82 I145 O145 (a0,a1,())=t145 p1174 f1174 p1146 f1146 p144 f144 p146 f146 p173 f173 p174 f174 a0 a1:=by kernel_rfl
noncomputable def T145 (x:DenS I145):Option (DenS O145):=t145 S1174.pre S1174.F S1146.pre S1146.F S144.pre S144.F S146.pre S146.F S173.pre S173.F S174.pre S174.F x.1 x.2.1
noncomputable def C145:Cfg:={ P:=Tryz.prog,sums:=[(92,S1174),(72,S1146),(81,S144),(72,S146),(73,S173),(92,S174)],loops:=[],globs:=G1 }
noncomputable def S145:Sum:=sumOf I145 O145 T145 (DenS.dflt O145)
theorem S145_sound:Sound Tryz.prog G1 82 S145 :=
 fn_sound C145 9 82 Tryz.f82 mixedOk (by kernel_rfl) (by kernel_rfl) (by kernel_rfl) ⟨S1174_sound,⟨S1146_sound,⟨S144_sound,⟨S146_sound,⟨S173_sound,⟨S174_sound,trivial⟩⟩⟩⟩⟩⟩ trivial I145 O145 T145 _ (fun x=>r145 S1174.pre S1174.F S1146.pre S1146.F S144.pre S144.F S146.pre S146.F S173.pre S173.F S174.pre S174.F x.1 x.2.1)
abbrev I379:Sig:=[(false,.slice (.int .u64)),(false,.slice (.int .u64)),(false,.int .i64)]
abbrev O379:Sig:=[(true,.pair (.bool) (.pair (.slice (.int .u64)) (.pair (.int .i64) (.pair (.bool) (.unit)))))]
abbrev P379_5:Pat:=⟨81,[(2,.one (.v .i64)),(1,.one (.sl (.int .u64))),(11,.one (.sl (.int .u64))),(13,.one (.ptr 1 0)),(6,.one (.ptr 0 0))],[.raw [.bool,.sl (.int .u64),.v .i64,.bool],.raw [.bool,.sl (.int .u64),.v .i64,.bool]]⟩
abbrev A379_5:List (Nat×Shape):=[]
abbrev X379_5:List (Nat×Pat):=[(0,⟨81,[(11,.one (.sl (.int .u64))),(13,.one (.ptr 1 0)),(6,.one (.ptr 0 0))],[.raw [.bool,.sl (.int .u64),.v .i64,.bool],.raw [.bool,.sl (.int .u64),.v .i64,.bool]]⟩)]
abbrev Q379_5:Option Pat:=none
noncomputable def h379_5 (p176:DenS I176→Bool) (f176:DenS I176→DenS O176) (p345:DenS I345→Bool) (f345:DenS I345→DenS O345) (p151:DenS I151→Bool) (f151:DenS I151→DenS O151) (p144:DenS I144→Bool) (f144:DenS I144→DenS O144) (p145:DenS I145→Bool) (f145:DenS I145→DenS O145) (p143:DenS I143→Bool) (f143:DenS I143→DenS O143) {R:Type} (L:Pat.D P379_5→Option R) (e:OutT X379_5 Q379_5→Option R) (x:Pat.D P379_5):Option R :=
 let e1_:=((IntKind.wrap .i64 (x.2.2.1.2.2.1-(1:Int))),x.2.2.1.2.2.2)
 let e2_:=((f143 (x.2.2.1.2.1,(x.2.2.1.2.1,()))).1,(((1:Int)::[]),()))
 let e3_:=((f143 (x.1.2.2.1,(x.1.2.2.1,()))).1,(x.1.2.1,()))
 bif (p151 (x.2.2.1.2.1,())) then
 (bif ((decide ((f151 (x.2.2.1.2.1,())).1<x.1.1))&&(decide ((x.1.2.2.1.length:Int)>(0:Int)))) then
 (bif (p143 (x.2.2.1.2.1,(x.2.2.1.2.1,()))) then
 (bif (p143 (x.1.2.2.1,(x.1.2.2.1,()))) then
 (bif (p144 e3_) then
 (bif (decide ((f144 e3_).1≥(0:Int))) then
 (bif (p145 e3_) then
 (bif (p143 e2_) then
 ((L ((x.1.1,(x.1.2.1,((f145 e3_).1,((),((),()))))),(x.2.1,((x.2.2.1.1,((f143 e2_).1,e1_)),())))))
 else none)
 else none)
 else (L ((x.1.1,(x.1.2.1,((f143 (x.1.2.2.1,(x.1.2.2.1,()))).1,((),((),()))))),(x.2.1,((x.2.2.1.1,((f143 (x.2.2.1.2.1,(x.2.2.1.2.1,()))).1,e1_)),())))))
 else none)
 else none)
 else none)
 else (e (.inl ((x.1.2.2.1,((),((),()))),x.2))))
 else none
theorem s379_5 (p176:DenS I176→Bool) (f176:DenS I176→DenS O176) (p345:DenS I345→Bool) (f345:DenS I345→DenS O345) (p151:DenS I151→Bool) (f151:DenS I151→DenS O151) (p144:DenS I144→Bool) (f144:DenS I144→DenS O144) (p145:DenS I145→Bool) (f145:DenS I145→DenS O145) (p143:DenS I143→Bool) (f143:DenS I143→DenS O143) (w379_5:Pat.D P379_5→Option (OutT X379_5 Q379_5)) (d:Nat) (R:Type) (L:Pat.D P379_5→Option R) (e:OutT X379_5 Q379_5→Option R) (x:Pat.D P379_5) :
  lStep { P:=Tryz.prog,sums:=[(78,⟨I176,O176,p176,f176⟩),(79,⟨I345,O345,p345,f345⟩),(60,⟨I151,O151,p151,f151⟩),(81,⟨I144,O144,p144,f144⟩),(82,⟨I145,O145,p145,f145⟩),(80,⟨I143,O143,p143,f143⟩)],loops:=[(65,5,LoopSpec.of P379_5 A379_5 X379_5 Q379_5 w379_5)],globs:=G1 } (d+2) 65 (bodyOf Tryz.f65 5) P379_5 A379_5 X379_5 Q379_5 (R:=R) L e x=h379_5 p176 f176 p345 f345 p151 f151 p144 f144 p145 f145 p143 f143 L e x:=by kernel_rfl
theorem m379_5 (p176:DenS I176→Bool) (f176:DenS I176→DenS O176) (p345:DenS I345→Bool) (f345:DenS I345→DenS O345) (p151:DenS I151→Bool) (f151:DenS I151→DenS O151) (p144:DenS I144→Bool) (f144:DenS I144→DenS O144) (p145:DenS I145→Bool) (f145:DenS I145→DenS O145) (p143:DenS I143→Bool) (f143:DenS I143→DenS O143):Par fun L e x=>h379_5 p176 f176 p345 f345 p151 f151 p144 f144 p145 f145 p143 f143 L e x:=by
 intro A B rel L L' e e' h0 hL he x
 unfold h379_5
 repeat' (first | exact h0 | exact hL _ | exact he _ | apply rel_cond | (apply rel_obind h0; intro _) | (apply rel_obind2 <;> intro _))
noncomputable def t379 (p176:DenS I176→Bool) (f176:DenS I176→DenS O176) (p345:DenS I345→Bool) (f345:DenS I345→DenS O345) (p151:DenS I151→Bool) (f151:DenS I151→DenS O151) (p144:DenS I144→Bool) (f144:DenS I144→DenS O144) (p145:DenS I145→Bool) (f145:DenS I145→DenS O145) (p143:DenS I143→Bool) (f143:DenS I143→DenS O143) (w379_5:Pat.D P379_5→Option (OutT X379_5 Q379_5)) (a0:Den (.slice (.int .u64))) (a1:Den (.slice (.int .u64))) (a2:Den (.int .i64)):Option (DenS O379) :=
 let e5_:=(IntKind.wrap .i64 ((IntKind.wrap .i64 ((f151 (a1,())).1-(f151 (a0,())).1))-(1:Int)))
 let e4_:=(a0,((if (e5_>(0:Int)) then e5_ else (0:Int)),()))
 let e1_:=(f345 ((f176 e4_).1,(a1,())))
 let e2_:=e4_
 let e3_:=e5_
 bif (p151 (a1,())) then
 (bif (p151 (a0,())) then
 (bif (p176 e2_) then
 (bif (p345 ((f176 e2_).1,(a1,()))) then
 (Vx.obind (w379_5 ((a2,(a1,(e1_.2.1,((),((),()))))),((false,([],((0:Int),(false,())))),((false,(e1_.1,((IntKind.wrap .i64 ((0:Int)-(if (e3_>(0:Int)) then e3_ else (0:Int)))),(false,())))),())))) fun y4 =>
 Vx.obind2 y4 (fun y5 =>
 some ((y5.2.2.1.1,(y5.2.2.1.2.1,(y5.2.2.1.2.2.1,((decide ((y5.1.1.length:Int)>(0:Int))),())))),())) (fun z5 =>
 none))
 else none)
 else none)
 else none)
 else none
theorem r379 (p176:DenS I176→Bool) (f176:DenS I176→DenS O176) (p345:DenS I345→Bool) (f345:DenS I345→DenS O345) (p151:DenS I151→Bool) (f151:DenS I151→DenS O151) (p144:DenS I144→Bool) (f144:DenS I144→DenS O144) (p145:DenS I145→Bool) (f145:DenS I145→DenS O145) (p143:DenS I143→Bool) (f143:DenS I143→DenS O143) (w379_5:Pat.D P379_5→Option (OutT X379_5 Q379_5)) (a0:Den (.slice (.int .u64))) (a1:Den (.slice (.int .u64))) (a2:Den (.int .i64)) :
  run { P:=Tryz.prog,sums:=[(78,⟨I176,O176,p176,f176⟩),(79,⟨I345,O345,p345,f345⟩),(60,⟨I151,O151,p151,f151⟩),(81,⟨I144,O144,p144,f144⟩),(82,⟨I145,O145,p145,f145⟩),(80,⟨I143,O143,p143,f143⟩)],loops:=[(65,5,LoopSpec.of P379_5 A379_5 X379_5 Q379_5 w379_5)],globs:=G1 } 9 65 Tryz.f65 I379 O379 (a0,a1,a2,())=t379 p176 f176 p345 f345 p151 f151 p144 f144 p145 f145 p143 f143 w379_5 a0 a1 a2:=by kernel_rfl
noncomputable def W379_5:P379_5.D→Option (OutT X379_5 Q379_5):=lfix fun L=>h379_5 S176.pre S176.F S345.pre S345.F S151.pre S151.F S144.pre S144.F S145.pre S145.F S143.pre S143.F L some
noncomputable def T379 (x:DenS I379):Option (DenS O379):=t379 S176.pre S176.F S345.pre S345.F S151.pre S151.F S144.pre S144.F S145.pre S145.F S143.pre S143.F W379_5 x.1 x.2.1 x.2.2.1
noncomputable def C379:Cfg:={ P:=Tryz.prog,sums:=[(78,S176),(79,S345),(60,S151),(81,S144),(82,S145),(80,S143)],loops:=[(65,5,LoopSpec.of P379_5 A379_5 X379_5 Q379_5 W379_5)],globs:=G1 }
noncomputable def S379:Sum:=sumOf I379 O379 T379 (DenS.dflt O379)
theorem S379_sound:Sound Tryz.prog G1 65 S379 :=
 fn_sound C379 9 65 Tryz.f65 mixedOk (by kernel_rfl) (by kernel_rfl) (by kernel_rfl) ⟨S176_sound,⟨S345_sound,⟨S151_sound,⟨S144_sound,⟨S145_sound,⟨S143_sound,trivial⟩⟩⟩⟩⟩⟩ ⟨rfl,fun d=>loopOk_of (fun L e x=>h379_5 S176.pre S176.F S345.pre S345.F S151.pre S151.F S144.pre S144.F S145.pre S145.F S143.pre S143.F L e x) (m379_5 S176.pre S176.F S345.pre S345.F S151.pre S151.F S144.pre S144.F S145.pre S145.F S143.pre S143.F) (fun R L e x=>s379_5 S176.pre S176.F S345.pre S345.F S151.pre S151.F S144.pre S144.F S145.pre S145.F S143.pre S143.F W379_5 d R L e x),trivial⟩ I379 O379 T379 _ (fun x=>r379 S176.pre S176.F S345.pre S345.F S151.pre S151.F S144.pre S144.F S145.pre S145.F S143.pre S143.F W379_5 x.1 x.2.1 x.2.2.1)
abbrev I380:Sig:=[(false,.int .i64),(false,.int .i64),(false,.bool),(false,.slice (.int .u64)),(false,.slice (.int .u64)),(false,.int .i64)]
abbrev O380:Sig:=[(false,.int .u64),(false,.int .i64),(false,.int .i64)]
noncomputable def t380 (p105:DenS I105→Bool) (f105:DenS I105→DenS O105) (p102:DenS I102→Bool) (f102:DenS I102→DenS O102) (p156:DenS I156→Bool) (f156:DenS I156→DenS O156) (p379:DenS I379→Bool) (f379:DenS I379→DenS O379) (p107:DenS I107→Bool) (f107:DenS I107→DenS O107) (a0:Den (.int .i64)) (a1:Den (.int .i64)) (a2:Den (.bool)) (a3:Den (.slice (.int .u64))) (a4:Den (.slice (.int .u64))) (a5:Den (.int .i64)):Option (DenS O380) :=
 let e4_:=((f102 (a3,())).1,((f102 (a4,())).1,((IntKind.wrap .i64 ((f105 (a0,(a1,()))).1.2.1+(3:Int))),())))
 let e3_:=(f379 e4_)
 let e1_:=(f107 ((a2,(e3_.1.2.1,((IntKind.wrap .i64 (e3_.1.2.2.1+a5)),e3_.1.2.2.2))),(a0,((f105 (a0,(a1,()))).1,(a1,())))))
 let e2_:=e3_
 bif (p105 (a0,(a1,()))) then
 (bif ((f105 (a0,(a1,()))).2.1 != (0:Int)) then
 (some ((0:Int),((0:Int),(f105 (a0,(a1,()))).2)))
 else bif (p102 (a3,())) then
 (bif (p102 (a4,())) then
 (bif (decide ((IntKind.wrap .i64 (((f102 (a3,())).1.length:Int)+((f102 (a4,())).1.length:Int)))>(1024:Int))) then
 (some ((0:Int),((0:Int),((5:Int),()))))
 else bif ((decide (a5<(-(40000:Int))))||(decide (a5>(40000:Int)))) then
 (some ((0:Int),((0:Int),((30:Int),()))))
 else bif (((f102 (a4,())).1.length:Int)==(0:Int)) then
 (some ((0:Int),((0:Int),((10:Int),()))))
 else bif (((f102 (a3,())).1.length:Int)==(0:Int)) then
 (bif (p156 (a0,(a2,()))) then
 (some (f156 (a0,(a2,()))))
 else none)
 else bif (p379 e4_) then
 (bif (p107 ((a2,(e2_.1.2.1,((IntKind.wrap .i64 (e2_.1.2.2.1+a5)),e2_.1.2.2.2))),(a0,((f105 (a0,(a1,()))).1,(a1,()))))) then
 (some (e1_.1,(e1_.2.1,((0:Int),()))))
 else none)
 else none)
 else none)
 else none)
 else none
theorem r380 (p105:DenS I105→Bool) (f105:DenS I105→DenS O105) (p102:DenS I102→Bool) (f102:DenS I102→DenS O102) (p156:DenS I156→Bool) (f156:DenS I156→DenS O156) (p379:DenS I379→Bool) (f379:DenS I379→DenS O379) (p107:DenS I107→Bool) (f107:DenS I107→DenS O107) (a0:Den (.int .i64)) (a1:Den (.int .i64)) (a2:Den (.bool)) (a3:Den (.slice (.int .u64))) (a4:Den (.slice (.int .u64))) (a5:Den (.int .i64)) :
  run { P:=Tryz.prog,sums:=[(58,⟨I105,O105,p105,f105⟩),(59,⟨I102,O102,p102,f102⟩),(61,⟨I156,O156,p156,f156⟩),(65,⟨I379,O379,p379,f379⟩),(62,⟨I107,O107,p107,f107⟩)],loops:=[],globs:=G1 } 9 38 Tryz.f38 I380 O380 (a0,a1,a2,a3,a4,a5,())=t380 p105 f105 p102 f102 p156 f156 p379 f379 p107 f107 a0 a1 a2 a3 a4 a5:=by kernel_rfl
noncomputable def T380 (x:DenS I380):Option (DenS O380):=t380 S105.pre S105.F S102.pre S102.F S156.pre S156.F S379.pre S379.F S107.pre S107.F x.1 x.2.1 x.2.2.1 x.2.2.2.1 x.2.2.2.2.1 x.2.2.2.2.2.1
noncomputable def C380:Cfg:={ P:=Tryz.prog,sums:=[(58,S105),(59,S102),(61,S156),(65,S379),(62,S107)],loops:=[],globs:=G1 }
noncomputable def S380:Sum:=sumOf I380 O380 T380 (DenS.dflt O380)
theorem S380_sound:Sound Tryz.prog G1 38 S380 :=
 fn_sound C380 9 38 Tryz.f38 mixedOk (by kernel_rfl) (by kernel_rfl) (by kernel_rfl) ⟨S105_sound,⟨S102_sound,⟨S156_sound,⟨S379_sound,⟨S107_sound,trivial⟩⟩⟩⟩⟩ trivial I380 O380 T380 _ (fun x=>r380 S105.pre S105.F S102.pre S102.F S156.pre S156.F S379.pre S379.F S107.pre S107.F x.1 x.2.1 x.2.2.1 x.2.2.2.1 x.2.2.2.2.1 x.2.2.2.2.2.1)
abbrev I381:Sig:=[(false,.int .i64),(false,.int .i64),(false,.int .u64),(false,.int .u64)]
abbrev O381:Sig:=[(false,.int .u64),(false,.int .i64),(false,.int .i64)]
noncomputable def t381 (p376:DenS I376→Bool) (f376:DenS I376→DenS O376) (p377:DenS I377→Bool) (f377:DenS I377→DenS O377) (p378:DenS I378→Bool) (f378:DenS I378→DenS O378) (p97:DenS I97→Bool) (f97:DenS I97→DenS O97) (p118:DenS I118→Bool) (f118:DenS I118→DenS O118) (p40:DenS I40→Bool) (f40:DenS I40→DenS O40) (p380:DenS I380→Bool) (f380:DenS I380→DenS O380) (a0:Den (.int .i64)) (a1:Den (.int .i64)) (a2:Den (.int .u64)) (a3:Den (.int .u64)):Option (DenS O381) :=
 let e6_:=(!((f377 (a0,(a2,()))).1.2.2.2.2.1==(f377 (a0,(a3,()))).1.2.2.2.2.1))
 let e1_:=(a0,(a1,(e6_,((f40 (a0,(a2,()))).1.2.1,((f40 (a0,(a3,()))).1.2.1,((IntKind.wrap .i64 ((f40 (a0,(a2,()))).1.2.2.1-(f40 (a0,(a3,()))).1.2.2.1)),()))))))
 let e5_:=(a0,(e6_,()))
 let e2_:=(f118 e5_)
 let e3_:=(f97 e5_)
 let e4_:=(p97 e5_)
 bif (p376 (a0,(a1,((a2::(a3::[])),())))) then
 (bif ((f376 (a0,(a1,((a2::(a3::[])),())))).1 != (0:Int)) then
 (some ((0:Int),((0:Int),(f376 (a0,(a1,((a2::(a3::[])),())))))))
 else bif (p377 (a0,(a2,()))) then
 (bif (p377 (a0,(a3,()))) then
 (bif ((f377 (a0,(a2,()))).1.2.1||(f377 (a0,(a3,()))).1.2.1) then
 (bif (p378 (a0,((1:Int),()))) then
 (some (f378 (a0,((1:Int),()))))
 else none)
 else bif ((f377 (a0,(a2,()))).1.1||(f377 (a0,(a3,()))).1.1) then
 (bif (p378 (a0,((0:Int),()))) then
 (some (f378 (a0,((0:Int),()))))
 else none)
 else bif (((f377 (a0,(a2,()))).1.2.2.1&&(f377 (a0,(a3,()))).1.2.2.1)||((f377 (a0,(a2,()))).1.2.2.2.1&&(f377 (a0,(a3,()))).1.2.2.2.1)) then
 (bif (p378 (a0,((1:Int),()))) then
 (some (f378 (a0,((1:Int),()))))
 else none)
 else bif (f377 (a0,(a2,()))).1.2.2.1 then
 (bif e4_ then
 (some (e3_.1,((0:Int),e3_.2)))
 else none)
 else bif (f377 (a0,(a3,()))).1.2.2.2.1 then
 (bif e4_ then
 (some (e3_.1,((2:Int),e3_.2)))
 else none)
 else bif ((f377 (a0,(a3,()))).1.2.2.1||(f377 (a0,(a2,()))).1.2.2.2.1) then
 (bif (p118 e5_) then
 (some (e2_.1,((0:Int),e2_.2)))
 else none)
 else bif (p40 (a0,(a2,()))) then
 (bif (p40 (a0,(a3,()))) then
 (bif (p380 e1_) then
 (some (f380 e1_))
 else none)
 else none)
 else none)
 else none)
 else none)
 else none
theorem r381 (p376:DenS I376→Bool) (f376:DenS I376→DenS O376) (p377:DenS I377→Bool) (f377:DenS I377→DenS O377) (p378:DenS I378→Bool) (f378:DenS I378→DenS O378) (p97:DenS I97→Bool) (f97:DenS I97→DenS O97) (p118:DenS I118→Bool) (f118:DenS I118→DenS O118) (p40:DenS I40→Bool) (f40:DenS I40→DenS O40) (p380:DenS I380→Bool) (f380:DenS I380→DenS O380) (a0:Den (.int .i64)) (a1:Den (.int .i64)) (a2:Den (.int .u64)) (a3:Den (.int .u64)) :
  run { P:=Tryz.prog,sums:=[(34,⟨I376,O376,p376,f376⟩),(35,⟨I377,O377,p377,f377⟩),(36,⟨I378,O378,p378,f378⟩),(30,⟨I97,O97,p97,f97⟩),(31,⟨I118,O118,p118,f118⟩),(37,⟨I40,O40,p40,f40⟩),(38,⟨I380,O380,p380,f380⟩)],loops:=[],globs:=G1 } 9 12 Tryz.f12 I381 O381 (a0,a1,a2,a3,())=t381 p376 f376 p377 f377 p378 f378 p97 f97 p118 f118 p40 f40 p380 f380 a0 a1 a2 a3:=by kernel_rfl
noncomputable def T381 (x:DenS I381):Option (DenS O381):=t381 S376.pre S376.F S377.pre S377.F S378.pre S378.F S97.pre S97.F S118.pre S118.F S40.pre S40.F S380.pre S380.F x.1 x.2.1 x.2.2.1 x.2.2.2.1
noncomputable def C381:Cfg:={ P:=Tryz.prog,sums:=[(34,S376),(35,S377),(36,S378),(30,S97),(31,S118),(37,S40),(38,S380)],loops:=[],globs:=G1 }
noncomputable def S381:Sum:=sumOf I381 O381 T381 (DenS.dflt O381)
theorem S381_sound:Sound Tryz.prog G1 12 S381 :=
 fn_sound C381 9 12 Tryz.f12 mixedOk (by kernel_rfl) (by kernel_rfl) (by kernel_rfl) ⟨S376_sound,⟨S377_sound,⟨S378_sound,⟨S97_sound,⟨S118_sound,⟨S40_sound,⟨S380_sound,trivial⟩⟩⟩⟩⟩⟩⟩ trivial I381 O381 T381 _ (fun x=>r381 S376.pre S376.F S377.pre S377.F S378.pre S378.F S97.pre S97.F S118.pre S118.F S40.pre S40.F S380.pre S380.F x.1 x.2.1 x.2.2.1 x.2.2.2.1)
abbrev I311:Sig:=[(false,.int .i64),(false,.int .i64),(false,.slice (.int .u64))]
abbrev O311:Sig:=[(true,.pair (.int .i64) (.pair (.int .i64) (.pair (.int .i64) (.pair (.int .i64) (.unit))))),(false,.int .i64)]
abbrev P311_7:Pat:=⟨44,[(30,.one (.v .i64)),(29,.one (.sl (.int .u64))),(0,.one (.v .i64)),(31,.one (.v .i64)),(8,.one (.ptr 1 0)),(6,.one (.ptr 0 0))],[.raw [.v .i64,.v .i64,.v .i64,.v .i64],.raw [.v .i64,.v .i64,.v .i64,.v .i64]]⟩
abbrev A311_7:List (Nat×Shape):=[]
abbrev X311_7:List (Nat×Pat):=[(0,⟨44,[(8,.one (.ptr 1 0)),(6,.one (.ptr 0 0))],[.raw [.v .i64,.v .i64,.v .i64,.v .i64],.raw [.v .i64,.v .i64,.v .i64,.v .i64]]⟩)]
abbrev Q311_7:Option Pat:=(some ⟨44,[(6,.one (.ptr 0 0)),(7,.one (.v .i64))],[.raw [.v .i64,.v .i64,.v .i64,.v .i64]]⟩)
noncomputable def h311_7 (p69:DenS I69→Bool) (f69:DenS I69→DenS O69) (p66:DenS I66→Bool) (f66:DenS I66→DenS O66) {R:Type} (L:Pat.D P311_7→Option R) (e:OutT X311_7 Q311_7→Option R) (x:Pat.D P311_7):Option R :=
 let e2_:=(x.1.2.2.1,((x.1.2.1.getD (Int.toNat x.1.2.2.2.1) (0:Int)),()))
 let e1_:=(f66 e2_)
 bif (decide (x.1.2.2.2.1<x.1.1)) then
 (bif ((decide ((0:Int)≤x.1.2.2.2.1))&&(decide (x.1.2.2.2.1<(x.1.2.1.length:Int)))) then
 (bif (p66 e2_) then
 (bif (e1_.1 != (0:Int)) then
 ((e (.inr (((),e1_),x.2.2))))
 else (L ((x.1.1,(x.1.2.1,(x.1.2.2.1,((IntKind.wrap .i64 (x.1.2.2.2.1+(1:Int))),((),((),())))))),x.2)))
 else none)
 else none)
 else (e (.inl (((),((),())),x.2)))
theorem s311_7 (p69:DenS I69→Bool) (f69:DenS I69→DenS O69) (p66:DenS I66→Bool) (f66:DenS I66→DenS O66) (w311_7:Pat.D P311_7→Option (OutT X311_7 Q311_7)) (d:Nat) (R:Type) (L:Pat.D P311_7→Option R) (e:OutT X311_7 Q311_7→Option R) (x:Pat.D P311_7) :
  lStep { P:=Tryz.prog,sums:=[(19,⟨I69,O69,p69,f69⟩),(24,⟨I66,O66,p66,f66⟩)],loops:=[(39,7,LoopSpec.of P311_7 A311_7 X311_7 Q311_7 w311_7)],globs:=G1 } (d+2) 39 (bodyOf Tryz.f39 7) P311_7 A311_7 X311_7 Q311_7 (R:=R) L e x=h311_7 p69 f69 p66 f66 L e x:=by kernel_rfl
theorem m311_7 (p69:DenS I69→Bool) (f69:DenS I69→DenS O69) (p66:DenS I66→Bool) (f66:DenS I66→DenS O66):Par fun L e x=>h311_7 p69 f69 p66 f66 L e x:=by
 intro A B rel L L' e e' h0 hL he x
 unfold h311_7
 repeat' (first | exact h0 | exact hL _ | exact he _ | apply rel_cond | (apply rel_obind h0; intro _) | (apply rel_obind2 <;> intro _))
noncomputable def t311 (p69:DenS I69→Bool) (f69:DenS I69→DenS O69) (p66:DenS I66→Bool) (f66:DenS I66→DenS O66) (w311_7:Pat.D P311_7→Option (OutT X311_7 Q311_7)) (a0:Den (.int .i64)) (a1:Den (.int .i64)) (a2:Den (.slice (.int .u64))):Option (DenS O311) :=
 bif (p69 (a0,())) then
 (bif ((f69 (a0,())).2.1 != (0:Int)) then
 (some (f69 (a0,())))
 else bif ((decide (a1<(0:Int)))||(decide (a1>(5:Int)))) then
 (some ((f69 (a0,())).1,((3:Int),())))
 else Vx.obind (w311_7 (((a2.length:Int),(a2,(a0,((0:Int),((),((),())))))),(((0:Int),((0:Int),((0:Int),((0:Int),())))),((f69 (a0,())).1,())))) fun y3 =>
 Vx.obind2 y3 (fun y4 =>
 some (y4.2.2.1,((0:Int),()))) (fun z4 =>
 some (z4.2.1,z4.1.2)))
 else none
theorem r311 (p69:DenS I69→Bool) (f69:DenS I69→DenS O69) (p66:DenS I66→Bool) (f66:DenS I66→DenS O66) (w311_7:Pat.D P311_7→Option (OutT X311_7 Q311_7)) (a0:Den (.int .i64)) (a1:Den (.int .i64)) (a2:Den (.slice (.int .u64))) :
  run { P:=Tryz.prog,sums:=[(19,⟨I69,O69,p69,f69⟩),(24,⟨I66,O66,p66,f66⟩)],loops:=[(39,7,LoopSpec.of P311_7 A311_7 X311_7 Q311_7 w311_7)],globs:=G1 } 9 39 Tryz.f39 I311 O311 (a0,a1,a2,())=t311 p69 f69 p66 f66 w311_7 a0 a1 a2:=by kernel_rfl
noncomputable def W311_7:P311_7.D→Option (OutT X311_7 Q311_7):=lfix fun L=>h311_7 S69.pre S69.F S66.pre S66.F L some
noncomputable def T311 (x:DenS I311):Option (DenS O311):=t311 S69.pre S69.F S66.pre S66.F W311_7 x.1 x.2.1 x.2.2.1
noncomputable def C311:Cfg:={ P:=Tryz.prog,sums:=[(19,S69),(24,S66)],loops:=[(39,7,LoopSpec.of P311_7 A311_7 X311_7 Q311_7 W311_7)],globs:=G1 }
noncomputable def S311:Sum:=sumOf I311 O311 T311 (DenS.dflt O311)
theorem S311_sound:Sound Tryz.prog G1 39 S311 :=
 fn_sound C311 9 39 Tryz.f39 mixedOk (by kernel_rfl) (by kernel_rfl) (by kernel_rfl) ⟨S69_sound,⟨S66_sound,trivial⟩⟩ ⟨rfl,fun d=>loopOk_of (fun L e x=>h311_7 S69.pre S69.F S66.pre S66.F L e x) (m311_7 S69.pre S69.F S66.pre S66.F) (fun R L e x=>s311_7 S69.pre S69.F S66.pre S66.F W311_7 d R L e x),trivial⟩ I311 O311 T311 _ (fun x=>r311 S69.pre S69.F S66.pre S66.F W311_7 x.1 x.2.1 x.2.2.1)
abbrev I312:Sig:=[(false,.int .i64),(false,.int .i64)]
abbrev O312:Sig:=[(false,.int .u64),(false,.int .i64),(false,.bool)]
noncomputable def t312 (p70:DenS I70→Bool) (f70:DenS I70→DenS O70) (a0:Den (.int .i64)) (a1:Den (.int .i64)):Option (DenS O312) :=
 bif (p70 (a0,())) then
 (bif (a1==(1:Int)) then
 (some ((f70 (a0,())).1,((0:Int),(true,()))))
 else bif (a1==(0:Int)) then
 (bif (a1==(0:Int)) then
 (some ((f70 (a0,())).1,((1:Int),(true,()))))
 else some ((0:Int),((0:Int),(false,()))))
 else bif (a1==(2:Int)) then
 (bif (a1==(2:Int)) then
 (some ((f70 (a0,())).1,((1:Int),(true,()))))
 else some ((0:Int),((0:Int),(false,()))))
 else bif (a1==(3:Int)) then
 (bif (a1==(3:Int)) then
 (some ((f70 (a0,())).1,((1:Int),(true,()))))
 else some ((0:Int),((0:Int),(false,()))))
 else bif (a1==(4:Int)) then
 (some ((f70 (a0,())).1,((1:Int),(true,()))))
 else some ((0:Int),((0:Int),(false,()))))
 else none
theorem r312 (p70:DenS I70→Bool) (f70:DenS I70→DenS O70) (a0:Den (.int .i64)) (a1:Den (.int .i64)) :
  run { P:=Tryz.prog,sums:=[(21,⟨I70,O70,p70,f70⟩)],loops:=[],globs:=G1 } 9 40 Tryz.f40 I312 O312 (a0,a1,())=t312 p70 f70 a0 a1:=by kernel_rfl
noncomputable def T312 (x:DenS I312):Option (DenS O312):=t312 S70.pre S70.F x.1 x.2.1
noncomputable def C312:Cfg:={ P:=Tryz.prog,sums:=[(21,S70)],loops:=[],globs:=G1 }
noncomputable def S312:Sum:=sumOf I312 O312 T312 (DenS.dflt O312)
theorem S312_sound:Sound Tryz.prog G1 40 S312 :=
 fn_sound C312 9 40 Tryz.f40 mixedOk (by kernel_rfl) (by kernel_rfl) (by kernel_rfl) ⟨S70_sound,trivial⟩ trivial I312 O312 T312 _ (fun x=>r312 S70.pre S70.F x.1 x.2.1)
abbrev I313:Sig:=[(false,.int .i64),(true,.pair (.int .i64) (.pair (.int .i64) (.pair (.int .i64) (.pair (.int .i64) (.unit))))),(false,.int .u64)]
abbrev O313:Sig:=[(false,.int .u64),(false,.int .i64)]
noncomputable def t313 (p98:DenS I98→Bool) (f98:DenS I98→DenS O98) (a0:Den (.int .i64)) (a1:Den (.pair (.int .i64) (.pair (.int .i64) (.pair (.int .i64) (.pair (.int .i64) (.unit)))))) (a2:Den (.int .u64)):Option (DenS O313) :=
 let e1_:=(IntKind.wrap .i64 (a1.2.1-(1:Int)))
 bif (p98 (a0,(a2,()))) then
 (bif ((f98 (a0,(a2,()))).2.1==(0:Int)) then
 (some ((f98 (a0,(a2,()))).2.2.1,((IntKind.wrap .i64 ((IntKind.wrap .i64 ((IntKind.wrap .i64 ((IntKind.wrap .i64 ((IntKind.wrap .i64 (1:Int))-(1:Int)))+a1.2.2.1))-a1.2.1))+(1:Int))),())))
 else bif (decide ((0:Int)≤e1_)) then
 (some ((orI .u64 (f98 (a0,(a2,()))).2.2.1 (shlI .u64 (1:Int) e1_)),((IntKind.wrap .i64 ((IntKind.wrap .i64 ((IntKind.wrap .i64 ((IntKind.wrap .i64 ((IntKind.wrap .i64 (f98 (a0,(a2,()))).2.1)-(1:Int)))+a1.2.2.1))-a1.2.1))+(1:Int))),())))
 else none)
 else none
theorem r313 (p98:DenS I98→Bool) (f98:DenS I98→DenS O98) (a0:Den (.int .i64)) (a1:Den (.pair (.int .i64) (.pair (.int .i64) (.pair (.int .i64) (.pair (.int .i64) (.unit)))))) (a2:Den (.int .u64)) :
  run { P:=Tryz.prog,sums:=[(45,⟨I98,O98,p98,f98⟩)],loops:=[],globs:=G1 } 9 41 Tryz.f41 I313 O313 (a0,a1,a2,())=t313 p98 f98 a0 a1 a2:=by kernel_rfl
noncomputable def T313 (x:DenS I313):Option (DenS O313):=t313 S98.pre S98.F x.1 x.2.1 x.2.2.1
noncomputable def C313:Cfg:={ P:=Tryz.prog,sums:=[(45,S98)],loops:=[],globs:=G1 }
noncomputable def S313:Sum:=sumOf I313 O313 T313 (DenS.dflt O313)
theorem S313_sound:Sound Tryz.prog G1 41 S313 :=
 fn_sound C313 9 41 Tryz.f41 mixedOk (by kernel_rfl) (by kernel_rfl) (by kernel_rfl) ⟨S98_sound,trivial⟩ trivial I313 O313 T313 _ (fun x=>r313 S98.pre S98.F x.1 x.2.1 x.2.2.1)
abbrev I314:Sig:=[(true,.pair (.int .u64) (.pair (.int .u64) (.unit)))]
abbrev O314:Sig:=[(false,.int .i64)]
noncomputable def t314 (p178:DenS I178→Bool) (f178:DenS I178→DenS O178) (a0:Den (.pair (.int .u64) (.pair (.int .u64) (.unit)))):Option (DenS O314) :=
 bif (a0.1 != (0:Int)) then
 (bif (p178 (a0.1,())) then
 (some ((IntKind.wrap .i64 ((64:Int)+(f178 (a0.1,())).1)),()))
 else none)
 else bif (p178 a0.2) then
 (some (f178 a0.2))
 else none
theorem r314 (p178:DenS I178→Bool) (f178:DenS I178→DenS O178) (a0:Den (.pair (.int .u64) (.pair (.int .u64) (.unit)))) :
  run { P:=Tryz.prog,sums:=[(66,⟨I178,O178,p178,f178⟩)],loops:=[],globs:=G1 } 9 42 Tryz.f42 I314 O314 (a0,())=t314 p178 f178 a0:=by kernel_rfl
noncomputable def T314 (x:DenS I314):Option (DenS O314):=t314 S178.pre S178.F x.1
noncomputable def C314:Cfg:={ P:=Tryz.prog,sums:=[(66,S178)],loops:=[],globs:=G1 }
noncomputable def S314:Sum:=sumOf I314 O314 T314 (DenS.dflt O314)
theorem S314_sound:Sound Tryz.prog G1 42 S314 :=
 fn_sound C314 9 42 Tryz.f42 mixedOk (by kernel_rfl) (by kernel_rfl) (by kernel_rfl) ⟨S178_sound,trivial⟩ trivial I314 O314 T314 _ (fun x=>r314 S178.pre S178.F x.1)
end Vx
namespace Vx
open Go Go.Proofs
abbrev I317:Sig:=[(true,.pair (.int .u64) (.pair (.int .u64) (.unit)))]
abbrev O317:Sig:=[(false,.int .u64),(false,.bool)]
abbrev P317_2:Pat:=⟨28,[(6,.one (.v .i64)),(2,.one (.v .u64)),(1,.one (.ptr 0 0))],[.raw [.v .u64,.v .u64]]⟩
abbrev A317_2:List (Nat×Shape):=[]
abbrev X317_2:List (Nat×Pat):=[(0,⟨28,[(2,.one (.v .u64)),(1,.one (.ptr 0 0))],[.raw [.v .u64,.v .u64]]⟩)]
abbrev Q317_2:Option Pat:=none
noncomputable def h317_2 (p123:DenS I123→Bool) (f123:DenS I123→DenS O123) (p316:DenS I316→Bool) (f316:DenS I316→DenS O316) {R:Type} (L:Pat.D P317_2→Option R) (e:OutT X317_2 Q317_2→Option R) (x:Pat.D P317_2):Option R :=
 let e5_:=(IntKind.wrap .i64 ((63:Int)-x.1.1))
 let e4_:=(orI .u64 x.1.2.1 (shlI .u64 (1:Int) e5_))
 let e1_:=((f316 (e4_,(e4_,()))).1,x.2)
 let e2_:=e4_
 let e3_:=(IntKind.wrap .i64 (x.1.1+(1:Int)))
 bif (decide (x.1.1<(64:Int))) then
 (bif (decide ((0:Int)≤e5_)) then
 (bif (p316 (e2_,(e2_,()))) then
 (bif (p123 e1_) then
 (bif (decide ((f123 e1_).1≤(0:Int))) then
 ((L ((e3_,(e2_,((),()))),x.2)))
 else (L ((e3_,(x.1.2.1,((),()))),x.2)))
 else none)
 else none)
 else none)
 else (e (.inl ((x.1.2.1,((),())),x.2)))
theorem s317_2 (p123:DenS I123→Bool) (f123:DenS I123→DenS O123) (p316:DenS I316→Bool) (f316:DenS I316→DenS O316) (w317_2:Pat.D P317_2→Option (OutT X317_2 Q317_2)) (d:Nat) (R:Type) (L:Pat.D P317_2→Option R) (e:OutT X317_2 Q317_2→Option R) (x:Pat.D P317_2) :
  lStep { P:=Tryz.prog,sums:=[(54,⟨I123,O123,p123,f123⟩),(33,⟨I316,O316,p316,f316⟩)],loops:=[(43,2,LoopSpec.of P317_2 A317_2 X317_2 Q317_2 w317_2)],globs:=G1 } (d+2) 43 (bodyOf Tryz.f43 2) P317_2 A317_2 X317_2 Q317_2 (R:=R) L e x=h317_2 p123 f123 p316 f316 L e x:=by kernel_rfl
theorem m317_2 (p123:DenS I123→Bool) (f123:DenS I123→DenS O123) (p316:DenS I316→Bool) (f316:DenS I316→DenS O316):Par fun L e x=>h317_2 p123 f123 p316 f316 L e x:=by
 intro A B rel L L' e e' h0 hL he x
 unfold h317_2
 repeat' (first | exact h0 | exact hL _ | exact he _ | apply rel_cond | (apply rel_obind h0; intro _) | (apply rel_obind2 <;> intro _))
noncomputable def t317 (p123:DenS I123→Bool) (f123:DenS I123→DenS O123) (p316:DenS I316→Bool) (f316:DenS I316→DenS O316) (w317_2:Pat.D P317_2→Option (OutT X317_2 Q317_2)) (a0:Den (.pair (.int .u64) (.pair (.int .u64) (.unit)))):Option (DenS O317) :=
 Vx.obind (w317_2 (((0:Int),((0:Int),((),()))),((a0.1,a0.2),()))) fun y0 =>
 Vx.obind2 y0 (fun y1 =>
 bif (p316 (y1.1.1,(y1.1.1,()))) then
 (some (y1.1.1,((((f316 (y1.1.1,(y1.1.1,()))).1.1==y1.2.1.1)&&((f316 (y1.1.1,(y1.1.1,()))).1.2.1==y1.2.1.2.1)),())))
 else none) (fun z1 =>
 none)
theorem r317 (p123:DenS I123→Bool) (f123:DenS I123→DenS O123) (p316:DenS I316→Bool) (f316:DenS I316→DenS O316) (w317_2:Pat.D P317_2→Option (OutT X317_2 Q317_2)) (a0:Den (.pair (.int .u64) (.pair (.int .u64) (.unit)))) :
  run { P:=Tryz.prog,sums:=[(54,⟨I123,O123,p123,f123⟩),(33,⟨I316,O316,p316,f316⟩)],loops:=[(43,2,LoopSpec.of P317_2 A317_2 X317_2 Q317_2 w317_2)],globs:=G1 } 9 43 Tryz.f43 I317 O317 (a0,())=t317 p123 f123 p316 f316 w317_2 a0:=by kernel_rfl
noncomputable def W317_2:P317_2.D→Option (OutT X317_2 Q317_2):=lfix fun L=>h317_2 S123.pre S123.F S316.pre S316.F L some
noncomputable def T317 (x:DenS I317):Option (DenS O317):=t317 S123.pre S123.F S316.pre S316.F W317_2 x.1
noncomputable def C317:Cfg:={ P:=Tryz.prog,sums:=[(54,S123),(33,S316)],loops:=[(43,2,LoopSpec.of P317_2 A317_2 X317_2 Q317_2 W317_2)],globs:=G1 }
noncomputable def S317:Sum:=sumOf I317 O317 T317 (DenS.dflt O317)
theorem S317_sound:Sound Tryz.prog G1 43 S317 :=
 fn_sound C317 9 43 Tryz.f43 mixedOk (by kernel_rfl) (by kernel_rfl) (by kernel_rfl) ⟨S123_sound,⟨S316_sound,trivial⟩⟩ ⟨rfl,fun d=>loopOk_of (fun L e x=>h317_2 S123.pre S123.F S316.pre S316.F L e x) (m317_2 S123.pre S123.F S316.pre S316.F) (fun R L e x=>s317_2 S123.pre S123.F S316.pre S316.F W317_2 d R L e x),trivial⟩ I317 O317 T317 _ (fun x=>r317 S123.pre S123.F S316.pre S316.F W317_2 x.1)
abbrev I318:Sig:=[(false,.int .i64),(false,.int .i64),(false,.int .u64)]
abbrev O318:Sig:=[(false,.int .u64),(false,.int .i64),(false,.int .i64)]
noncomputable def t318 (p311:DenS I311→Bool) (f311:DenS I311→DenS O311) (p65:DenS I65→Bool) (f65:DenS I65→DenS O65) (p312:DenS I312→Bool) (f312:DenS I312→DenS O312) (p313:DenS I313→Bool) (f313:DenS I313→DenS O313) (p314:DenS I314→Bool) (f314:DenS I314→DenS O314) (p119:DenS I119→Bool) (f119:DenS I119→DenS O119) (p317:DenS I317→Bool) (f317:DenS I317→DenS O317) (p122:DenS I122→Bool) (f122:DenS I122→DenS O122) (a0:Den (.int .i64)) (a1:Den (.int .i64)) (a2:Den (.int .u64)):Option (DenS O318) :=
 let e16_:=(a0,((f311 (a0,(a1,((a2::[]),())))).1,(a2,())))
 let e15_:=(f313 e16_)
 let e14_:=((0:Int),(e15_.1,()))
 let e13_:=(e14_,())
 let e12_:=(IntKind.wrap .i64 ((126:Int)-(f314 e13_).1))
 let e11_:=(IntKind.wrap .i64 (e12_+(1:Int)))
 let e8_:=(e14_,(e11_,()))
 let e7_:=(f317 (f119 e8_))
 let e1_:=(a0,(a1,(false,(((0:Int),(e7_.1,())),((quoI .i64 (IntKind.wrap .i64 (e15_.2.1-e11_)) (2:Int)),((!e7_.2.1),()))))))
 let e10_:=(e14_,(e12_,()))
 let e9_:=(f317 (f119 e10_))
 let e2_:=(a0,(a1,(false,(((0:Int),(e9_.1,())),((quoI .i64 (IntKind.wrap .i64 (e15_.2.1-e12_)) (2:Int)),((!e9_.2.1),()))))))
 let e3_:=e8_
 let e4_:=e10_
 let e5_:=e13_
 let e6_:=e16_
 bif (p311 (a0,(a1,((a2::[]),())))) then
 (bif ((f311 (a0,(a1,((a2::[]),())))).2.1 != (0:Int)) then
 (some ((0:Int),((0:Int),(f311 (a0,(a1,((a2::[]),())))).2)))
 else bif (p65 (a0,(a2,()))) then
 (bif (p312 (a0,((f65 (a0,(a2,()))).1,()))) then
 (bif (f312 (a0,((f65 (a0,(a2,()))).1,()))).2.2.1 then
 (some ((f312 (a0,((f65 (a0,(a2,()))).1,()))).1,((f312 (a0,((f65 (a0,(a2,()))).1,()))).2.1,((0:Int),()))))
 else bif ((((f65 (a0,(a2,()))).1==(9:Int))||((f65 (a0,(a2,()))).1==(6:Int)))||((f65 (a0,(a2,()))).1==(5:Int))) then
 (some (a2,((0:Int),((0:Int),()))))
 else bif (p313 e6_) then
 (bif (p314 e5_) then
 (bif ((Int.tmod (IntKind.wrap .i64 ((f313 e6_).2.1-(IntKind.wrap .i64 ((126:Int)-(f314 e5_).1)))) (2:Int)) != (0:Int)) then
 (bif (p119 e3_) then
 (bif (p317 (f119 e3_)) then
 (bif (p122 e1_) then
 (some (f122 e1_))
 else none)
 else none)
 else none)
 else bif (p119 e4_) then
 (bif (p317 (f119 e4_)) then
 (bif (p122 e2_) then
 (some (f122 e2_))
 else none)
 else none)
 else none)
 else none)
 else none)
 else none)
 else none)
 else none
theorem r318 (p311:DenS I311→Bool) (f311:DenS I311→DenS O311) (p65:DenS I65→Bool) (f65:DenS I65→DenS O65) (p312:DenS I312→Bool) (f312:DenS I312→DenS O312) (p313:DenS I313→Bool) (f313:DenS I313→DenS O313) (p314:DenS I314→Bool) (f314:DenS I314→DenS O314) (p119:DenS I119→Bool) (f119:DenS I119→DenS O119) (p317:DenS I317→Bool) (f317:DenS I317→DenS O317) (p122:DenS I122→Bool) (f122:DenS I122→DenS O122) (a0:Den (.int .i64)) (a1:Den (.int .i64)) (a2:Den (.int .u64)) :
  run { P:=Tryz.prog,sums:=[(39,⟨I311,O311,p311,f311⟩),(20,⟨I65,O65,p65,f65⟩),(40,⟨I312,O312,p312,f312⟩),(41,⟨I313,O313,p313,f313⟩),(42,⟨I314,O314,p314,f314⟩),(44,⟨I119,O119,p119,f119⟩),(43,⟨I317,O317,p317,f317⟩),(32,⟨I122,O122,p122,f122⟩)],loops:=[],globs:=G1 } 9 13 Tryz.f13 I318 O318 (a0,a1,a2,())=t318 p311 f311 p65 f65 p312 f312 p313 f313 p314 f314 p119 f119 p317 f317 p122 f122 a0 a1 a2:=by kernel_rfl
noncomputable def T318 (x:DenS I318):Option (DenS O318):=t318 S311.pre S311.F S65.pre S65.F S312.pre S312.F S313.pre S313.F S314.pre S314.F S119.pre S119.F S317.pre S317.F S122.pre S122.F x.1 x.2.1 x.2.2.1
noncomputable def C318:Cfg:={ P:=Tryz.prog,sums:=[(39,S311),(20,S65),(40,S312),(41,S313),(42,S314),(44,S119),(43,S317),(32,S122)],loops:=[],globs:=G1 }
noncomputable def S318:Sum:=sumOf I318 O318 T318 (DenS.dflt O318)
theorem S318_sound:Sound Tryz.prog G1 13 S318 :=
 fn_sound C318 9 13 Tryz.f13 mixedOk (by kernel_rfl) (by kernel_rfl) (by kernel_rfl) ⟨S311_sound,⟨S65_sound,⟨S312_sound,⟨S313_sound,⟨S314_sound,⟨S119_sound,⟨S317_sound,⟨S122_sound,trivial⟩⟩⟩⟩⟩⟩⟩⟩ trivial I318 O318 T318 _ (fun x=>r318 S311.pre S311.F S65.pre S65.F S312.pre S312.F S313.pre S313.F S314.pre S314.F S119.pre S119.F S317.pre S317.F S122.pre S122.F x.1 x.2.1 x.2.2.1)
abbrev I391:Sig:=[(false,.slice (.int .i64)),(false,.slice (.int .i64)),(false,.int .u64)]
abbrev O391:Sig:=[(false,.int .i64)]
abbrev P391_2:Pat:=⟨46,[(14,.one (.v .i64)),(13,.one (.sl (.int .i64))),(15,.one (.v .i64)),(1,.one (.sl (.int .i64))),(0,.one (.sl (.int .i64))),(2,.one (.v .u64))],[]⟩
abbrev A391_2:List (Nat×Shape):=[]
abbrev X391_2:List (Nat×Pat):=[(0,⟨46,[(1,.one (.sl (.int .i64))),(0,.one (.sl (.int .i64))),(2,.one (.v .u64))],[]⟩)]
abbrev Q391_2:Option Pat:=(some ⟨46,[(6,.one (.v .i64))],[]⟩)
abbrev P391_9:Pat:=⟨46,[(29,.one (.v .i64)),(28,.one (.sl (.int .i64))),(30,.one (.v .i64)),(0,.one (.sl (.int .i64))),(2,.one (.v .u64))],[]⟩
abbrev A391_9:List (Nat×Shape):=[]
abbrev X391_9:List (Nat×Pat):=[(2,⟨46,[(0,.one (.sl (.int .i64))),(2,.one (.v .u64))],[]⟩)]
abbrev Q391_9:Option Pat:=(some ⟨46,[(6,.one (.v .i64))],[]⟩)
noncomputable def h391_9 (p69:DenS I69→Bool) (f69:DenS I69→DenS O69) (p66:DenS I66→Bool) (f66:DenS I66→DenS O66) {R:Type} (L:Pat.D P391_9→Option R) (e:OutT X391_9 Q391_9→Option R) (x:Pat.D P391_9):Option R :=
 let e1_:=(x.1.2.1.getD (Int.toNat x.1.2.2.1) (0:Int))
 bif (decide (x.1.2.2.1<x.1.1)) then
 (bif ((decide ((0:Int)≤x.1.2.2.1))&&(decide (x.1.2.2.1<(x.1.2.1.length:Int)))) then
 (bif ((decide (e1_<(0:Int)))||(decide (e1_>(5:Int)))) then
 ((e (.inr (((3:Int),()),()))))
 else (L ((x.1.1,(x.1.2.1,((IntKind.wrap .i64 (x.1.2.2.1+(1:Int))),x.1.2.2.2))),())))
 else none)
 else (e (.inl (x.1.2.2.2,())))
theorem s391_9 (p69:DenS I69→Bool) (f69:DenS I69→DenS O69) (p66:DenS I66→Bool) (f66:DenS I66→DenS O66) (w391_2:Pat.D P391_2→Option (OutT X391_2 Q391_2)) (w391_9:Pat.D P391_9→Option (OutT X391_9 Q391_9)) (d:Nat) (R:Type) (L:Pat.D P391_9→Option R) (e:OutT X391_9 Q391_9→Option R) (x:Pat.D P391_9) :
  lStep { P:=Tryz.prog,sums:=[(19,⟨I69,O69,p69,f69⟩),(24,⟨I66,O66,p66,f66⟩)],loops:=[(17,2,LoopSpec.of P391_2 A391_2 X391_2 Q391_2 w391_2),(17,9,LoopSpec.of P391_9 A391_9 X391_9 Q391_9 w391_9)],globs:=G1 } (d+2) 17 (bodyOf Tryz.f17 9) P391_9 A391_9 X391_9 Q391_9 (R:=R) L e x=h391_9 p69 f69 p66 f66 L e x:=by kernel_rfl
theorem m391_9 (p69:DenS I69→Bool) (f69:DenS I69→DenS O69) (p66:DenS I66→Bool) (f66:DenS I66→DenS O66):Par fun L e x=>h391_9 p69 f69 p66 f66 L e x:=by
 intro A B rel L L' e e' h0 hL he x
 unfold h391_9
 repeat' (first | exact h0 | exact hL _ | exact he _ | apply rel_cond | (apply rel_obind h0; intro _) | (apply rel_obind2 <;> intro _))
noncomputable def h391_2 (p69:DenS I69→Bool) (f69:DenS I69→DenS O69) (p66:DenS I66→Bool) (f66:DenS I66→DenS O66) {R:Type} (L:Pat.D P391_2→Option R) (e:OutT X391_2 Q391_2→Option R) (x:Pat.D P391_2):Option R :=
 let e2_:=((x.1.2.1.getD (Int.toNat x.1.2.2.1) (0:Int)),())
 let e1_:=(f69 e2_)
 bif (decide (x.1.2.2.1<x.1.1)) then
 (bif ((decide ((0:Int)≤x.1.2.2.1))&&(decide (x.1.2.2.1<(x.1.2.1.length:Int)))) then
 (bif (p69 e2_) then
 (bif (e1_.2.1 != (0:Int)) then
 ((e (.inr (e1_.2,()))))
 else (L ((x.1.1,(x.1.2.1,((IntKind.wrap .i64 (x.1.2.2.1+(1:Int))),x.1.2.2.2))),())))
 else none)
 else none)
 else (e (.inl (x.1.2.2.2,())))
theorem s391_2 (p69:DenS I69→Bool) (f69:DenS I69→DenS O69) (p66:DenS I66→Bool) (f66:DenS I66→DenS O66) (w391_2:Pat.D P391_2→Option (OutT X391_2 Q391_2)) (w391_9:Pat.D P391_9→Option (OutT X391_9 Q391_9)) (d:Nat) (R:Type) (L:Pat.D P391_2→Option R) (e:OutT X391_2 Q391_2→Option R) (x:Pat.D P391_2) :
  lStep { P:=Tryz.prog,sums:=[(19,⟨I69,O69,p69,f69⟩),(24,⟨I66,O66,p66,f66⟩)],loops:=[(17,2,LoopSpec.of P391_2 A391_2 X391_2 Q391_2 w391_2),(17,9,LoopSpec.of P391_9 A391_9 X391_9 Q391_9 w391_9)],globs:=G1 } (d+2) 17 (bodyOf Tryz.f17 2) P391_2 A391_2 X391_2 Q391_2 (R:=R) L e x=h391_2 p69 f69 p66 f66 L e x:=by kernel_rfl
theorem m391_2 (p69:DenS I69→Bool) (f69:DenS I69→DenS O69) (p66:DenS I66→Bool) (f66:DenS I66→DenS O66):Par fun L e x=>h391_2 p69 f69 p66 f66 L e x:=by
 intro A B rel L L' e e' h0 hL he x
 unfold h391_2
 repeat' (first | exact h0 | exact hL _ | exact he _ | apply rel_cond | (apply rel_obind h0; intro _) | (apply rel_obind2 <;> intro _))
noncomputable def t391 (p69:DenS I69→Bool) (f69:DenS I69→DenS O69) (p66:DenS I66→Bool) (f66:DenS I66→DenS O66) (w391_2:Pat.D P391_2→Option (OutT X391_2 Q391_2)) (w391_9:Pat.D P391_9→Option (OutT X391_9 Q391_9)) (a0:Den (.slice (.int .i64))) (a1:Den (.slice (.int .i64))) (a2:Den (.int .u64)):Option (DenS O391) :=
 Vx.obind (w391_2 (((a0.length:Int),(a0,((0:Int),(a1,(a0,(a2,())))))),())) fun y0 =>
 Vx.obind2 y0 (fun y1 =>
 Vx.obind (w391_9 (((y1.1.1.length:Int),(y1.1.1,((0:Int),y1.1.2))),())) fun y2 =>
 Vx.obind2 y2 (fun y3 =>
 bif (decide ((0:Int)<(y3.1.1.length:Int))) then
 (bif (p66 ((y3.1.1.getD (Int.toNat (0:Int)) (0:Int)),y3.1.2)) then
 (some (f66 ((y3.1.1.getD (Int.toNat (0:Int)) (0:Int)),y3.1.2)))
 else none)
 else none) (fun z3 =>
 some z3.1)) (fun z1 =>
 some z1.1)
theorem r391 (p69:DenS I69→Bool) (f69:DenS I69→DenS O69) (p66:DenS I66→Bool) (f66:DenS I66→DenS O66) (w391_2:Pat.D P391_2→Option (OutT X391_2 Q391_2)) (w391_9:Pat.D P391_9→Option (OutT X391_9 Q391_9)) (a0:Den (.slice (.int .i64))) (a1:Den (.slice (.int .i64))) (a2:Den (.int .u64)) :
  run { P:=Tryz.prog,sums:=[(19,⟨I69,O69,p69,f69⟩),(24,⟨I66,O66,p66,f66⟩)],loops:=[(17,2,LoopSpec.of P391_2 A391_2 X391_2 Q391_2 w391_2),(17,9,LoopSpec.of P391_9 A391_9 X391_9 Q391_9 w391_9)],globs:=G1 } 9 17 Tryz.f17 I391 O391 (a0,a1,a2,())=t391 p69 f69 p66 f66 w391_2 w391_9 a0 a1 a2:=by kernel_rfl
noncomputable def W391_9:P391_9.D→Option (OutT X391_9 Q391_9):=lfix fun L=>h391_9 S69.pre S69.F S66.pre S66.F L some
noncomputable def W391_2:P391_2.D→Option (OutT X391_2 Q391_2):=lfix fun L=>h391_2 S69.pre S69.F S66.pre S66.F L some
noncomputable def T391 (x:DenS I391):Option (DenS O391):=t391 S69.pre S69.F S66.pre S66.F W391_2 W391_9 x.1 x.2.1 x.2.2.1
noncomputable def C391:Cfg:={ P:=Tryz.prog,sums:=[(19,S69),(24,S66)],loops:=[(17,2,LoopSpec.of P391_2 A391_2 X391_2 Q391_2 W391_2),(17,9,LoopSpec.of P391_9 A391_9 X391_9 Q391_9 W391_9)],globs:=G1 }
noncomputable def S391:Sum:=sumOf I391 O391 T391 (DenS.dflt O391)
theorem S391_sound:Sound Tryz.prog G1 17 S391 :=
 fn_sound C391 9 17 Tryz.f17 mixedOk (by kernel_rfl) (by kernel_rfl) (by kernel_rfl) ⟨S69_sound,⟨S66_sound,trivial⟩⟩ ⟨rfl,fun d=>loopOk_of (fun L e x=>h391_2 S69.pre S69.F S66.pre S66.F L e x) (m391_2 S69.pre S69.F S66.pre S66.F) (fun R L e x=>s391_2 S69.pre S69.F S66.pre S66.F W391_2 W391_9 d R L e x),⟨rfl,fun d=>loopOk_of (fun L e x=>h391_9 S69.pre S69.F S66.pre S66.F L e x) (m391_9 S69.pre S69.F S66.pre S66.F) (fun R L e x=>s391_9 S69.pre S69.F S66.pre S66.F W391_2 W391_9 d R L e x),trivial⟩⟩ I391 O391 T391 _ (fun x=>r391 S69.pre S69.F S66.pre S66.F W391_2 W391_9 x.1 x.2.1 x.2.2.1)
abbrev I103:Sig:=[(true,.pair (.bool) (.pair (.slice (.int .u64)) (.pair (.int .i64) (.unit))))]
abbrev O103:Sig:=[(false,.int .i64)]
noncomputable def t103 (a0:Den (.pair (.bool) (.pair (.slice (.int .u64)) (.pair (.int .i64) (.unit))))):Option (DenS O103) :=
 bif (decide ((a0.2.1.length:Int)>(1024:Int))) then
 (some ((5:Int),()))
 else bif ((decide (a0.2.2.1<(-(40000:Int))))||(decide (a0.2.2.1>(40000:Int)))) then
 (some ((30:Int),()))
 else some ((0:Int),())
theorem r103 (a0:Den (.pair (.bool) (.pair (.slice (.int .u64)) (.pair (.int .i64) (.unit))))) :
  run { P:=Tryz.prog,sums:=[],loops:=[],globs:=G1 } 9 83 Tryz.f83 I103 O103 (a0,())=t103 a0:=by kernel_rfl
noncomputable def T103 (x:DenS I103):Option (DenS O103):=t103 x.1
noncomputable def C103:Cfg:={ P:=Tryz.prog,sums:=[],loops:=[],globs:=G1 }
noncomputable def S103:Sum:=sumOf I103 O103 T103 (DenS.dflt O103)
theorem S103_sound:Sound Tryz.prog G1 83 S103 :=
 fn_sound C103 9 83 Tryz.f83 mixedOk (by kernel_rfl) (by kernel_rfl) (by kernel_rfl) trivial trivial I103 O103 T103 _ (fun x=>r103 x.1)
abbrev I100:Sig:=[(true,.pair (.bool) (.pair (.slice (.int .u64)) (.pair (.int .i64) (.unit))))]
abbrev O100:Sig:=[(true,.pair (.bool) (.pair (.slice (.int .u64)) (.pair (.int .i64) (.unit))))]
abbrev P100_5:Pat:=⟨42,[(4,.one (.v .i64)),(3,.one (.sl (.int .u64))),(1,.one (.ptr 0 0)),(2,.one (.ptr 1 0))],[.raw [.bool,.sl (.int .u64),.v .i64],.raw [.bool,.sl (.int .u64),.v .i64]]⟩
abbrev A100_5:List (Nat×Shape):=[]
abbrev X100_5:List (Nat×Pat):=[(0,⟨42,[(4,.one (.v .i64)),(3,.one (.sl (.int .u64))),(1,.one (.ptr 0 0)),(2,.one (.ptr 1 0))],[.raw [.bool,.sl (.int .u64),.v .i64],.raw [.bool,.sl (.int .u64),.v .i64]]⟩)]
abbrev Q100_5:Option Pat:=none
noncomputable def h100_5 (p102:DenS I102→Bool) (f102:DenS I102→DenS O102) (p92:DenS I92→Bool) (f92:DenS I92→DenS O92) (p141:DenS I141→Bool) (f141:DenS I141→DenS O141) {R:Type} (L:Pat.D P100_5→Option R) (e:OutT X100_5 Q100_5→Option R) (x:Pat.D P100_5):Option R :=
 bif ((decide ((0:Int)≤(quoI .i64 x.1.1 (64:Int))))&&(decide ((quoI .i64 x.1.1 (64:Int))<(x.1.2.1.length:Int)))) then
 (bif ((x.1.2.1.getD (Int.toNat (quoI .i64 x.1.1 (64:Int))) (0:Int))==(0:Int)) then
 ((L (((IntKind.wrap .i64 (x.1.1+(64:Int))),(x.1.2.1,((),((),())))),x.2)))
 else (e (.inl ((x.1.1,(x.1.2.1,((),((),())))),x.2))))
 else none
theorem s100_5 (p102:DenS I102→Bool) (f102:DenS I102→DenS O102) (p92:DenS I92→Bool) (f92:DenS I92→DenS O92) (p141:DenS I141→Bool) (f141:DenS I141→DenS O141) (w100_5:Pat.D P100_5→Option (OutT X100_5 Q100_5)) (d:Nat) (R:Type) (L:Pat.D P100_5→Option R) (e:OutT X100_5 Q100_5→Option R) (x:Pat.D P100_5) :
  lStep { P:=Tryz.prog,sums:=[(59,⟨I102,O102,p102,f102⟩),(64,⟨I92,O92,p92,f92⟩),(87,⟨I141,O141,p141,f141⟩)],loops:=[(93,5,LoopSpec.of P100_5 A100_5 X100_5 Q100_5 w100_5)],globs:=G1 } (d+2) 93 (bodyOf Tryz.f93 5) P100_5 A100_5 X100_5 Q100_5 (R:=R) L e x=h100_5 p102 f102 p92 f92 p141 f141 L e x:=by kernel_rfl
theorem m100_5 (p102:DenS I102→Bool) (f102:DenS I102→DenS O102) (p92:DenS I92→Bool) (f92:DenS I92→DenS O92) (p141:DenS I141→Bool) (f141:DenS I141→DenS O141):Par fun L e x=>h100_5 p102 f102 p92 f92 p141 f141 L e x:=by
 intro A B rel L L' e e' h0 hL he x
 unfold h100_5
 repeat' (first | exact h0 | exact hL _ | exact he _ | apply rel_cond | (apply rel_obind h0; intro _) | (apply rel_obind2 <;> intro _))
noncomputable def t100 (p102:DenS I102→Bool) (f102:DenS I102→DenS O102) (p92:DenS I92→Bool) (f92:DenS I92→DenS O92) (p141:DenS I141→Bool) (f141:DenS I141→DenS O141) (w100_5:Pat.D P100_5→Option (OutT X100_5 Q100_5)) (a0:Den (.pair (.bool) (.pair (.slice (.int .u64)) (.pair (.int .i64) (.unit))))):Option (DenS O100) :=
 bif (p102 (a0.2.1,())) then
 (bif (((f102 (a0.2.1,())).1.length:Int)==(0:Int)) then
 (some ((false,([],((0:Int),()))),()))
 else Vx.obind (w100_5 (((0:Int),((f102 (a0.2.1,())).1,((),((),())))),((a0.1,a0.2),((false,([],((0:Int),()))),())))) fun y2 =>
 Vx.obind2 y2 (fun y3 =>
 bif ((decide ((0:Int)≤(quoI .i64 y3.1.1 (64:Int))))&&(decide ((quoI .i64 y3.1.1 (64:Int))<(y3.1.2.1.length:Int)))) then
 (bif (p92 ((y3.1.2.1.getD (Int.toNat (quoI .i64 y3.1.1 (64:Int))) (0:Int)),())) then
 (bif (p141 (y3.1.2.1,((IntKind.wrap .i64 (y3.1.1+(f92 ((y3.1.2.1.getD (Int.toNat (quoI .i64 y3.1.1 (64:Int))) (0:Int)),())).1)),()))) then
 (some ((y3.2.1.1,((f141 (y3.1.2.1,((IntKind.wrap .i64 (y3.1.1+(f92 ((y3.1.2.1.getD (Int.toNat (quoI .i64 y3.1.1 (64:Int))) (0:Int)),())).1)),()))).1,((IntKind.wrap .i64 (y3.2.1.2.2.1+(IntKind.wrap .i64 (y3.1.1+(f92 ((y3.1.2.1.getD (Int.toNat (quoI .i64 y3.1.1 (64:Int))) (0:Int)),())).1)))),()))),()))
 else none)
 else none)
 else none) (fun z3 =>
 none))
 else none
theorem r100 (p102:DenS I102→Bool) (f102:DenS I102→DenS O102) (p92:DenS I92→Bool) (f92:DenS I92→DenS O92) (p141:DenS I141→Bool) (f141:DenS I141→DenS O141) (w100_5:Pat.D P100_5→Option (OutT X100_5 Q100_5)) (a0:Den (.pair (.bool) (.pair (.slice (.int .u64)) (.pair (.int .i64) (.unit))))) :
  run { P:=Tryz.prog,sums:=[(59,⟨I102,O102,p102,f102⟩),(64,⟨I92,O92,p92,f92⟩),(87,⟨I141,O141,p141,f141⟩)],loops:=[(93,5,LoopSpec.of P100_5 A100_5 X100_5 Q100_5 w100_5)],globs:=G1 } 9 93 Tryz.f93 I100 O100 (a0,())=t100 p102 f102 p92 f92 p141 f141 w100_5 a0:=by kernel_rfl
noncomputable def W100_5:P100_5.D→Option (OutT X100_5 Q100_5):=lfix fun L=>h100_5 S102.pre S102.F S92.pre S92.F S141.pre S141.F L some
noncomputable def T100 (x:DenS I100):Option (DenS O100):=t100 S102.pre S102.F S92.pre S92.F S141.pre S141.F W100_5 x.1
noncomputable def C100:Cfg:={ P:=Tryz.prog,sums:=[(59,S102),(64,S92),(87,S141)],loops:=[(93,5,LoopSpec.of P100_5 A100_5 X100_5 Q100_5 W100_5)],globs:=G1 }
noncomputable def S100:Sum:=sumOf I100 O100 T100 (DenS.dflt O100)
theorem S100_sound:Sound Tryz.prog G1 93 S100 :=
 fn_sound C100 9 93 Tryz.f93 mixedOk (by kernel_rfl) (by kernel_rfl) (by kernel_rfl) ⟨S102_sound,⟨S92_sound,⟨S141_sound,trivial⟩⟩⟩ ⟨rfl,fun d=>loopOk_of (fun L e x=>h100_5 S102.pre S102.F S92.pre S92.F S141.pre S141.F L e x) (m100_5 S102.pre S102.F S92.pre S92.F S141.pre S141.F) (fun R L e x=>s100_5 S102.pre S102.F S92.pre S92.F S141.pre S141.F W100_5 d R L e x),trivial⟩ I100 O100 T100 _ (fun x=>r100 S102.pre S102.F S92.pre S92.F S141.pre S141.F W100_5 x.1)
abbrev I104:Sig:=[(true,.pair (.bool) (.pair (.slice (.int .u64)) (.pair (.int .i64) (.unit))))]
abbrev O104:Sig:=[(true,.pair (.bool) (.pair (.slice (.int .u64)) (.pair (.int .i64) (.unit)))),(false,.int .i64)]
noncomputable def t104 (p100:DenS I100→Bool) (f100:DenS I100→DenS O100) (a0:Den (.pair (.bool) (.pair (.slice (.int .u64)) (.pair (.int .i64) (.unit))))):Option (DenS O104) :=
 bif (p100 ((a0.1,a0.2),())) then
 (bif (decide (((f100 ((a0.1,a0.2),())).1.2.1.length:Int)>(1024:Int))) then
 (some ((false,([],((0:Int),()))),((5:Int),())))
 else bif ((decide ((f100 ((a0.1,a0.2),())).1.2.2.1<(-(40000:Int))))||(decide ((f100 ((a0.1,a0.2),())).1.2.2.1>(40000:Int)))) then
 (some ((false,([],((0:Int),()))),((30:Int),())))
 else some ((f100 ((a0.1,a0.2),())).1,((0:Int),())))
 else none
theorem r104 (p100:DenS I100→Bool) (f100:DenS I100→DenS O100) (a0:Den (.pair (.bool) (.pair (.slice (.int .u64)) (.pair (.int .i64) (.unit))))) :
  run { P:=Tryz.prog,sums:=[(93,⟨I100,O100,p100,f100⟩)],loops:=[],globs:=G1 } 9 84 Tryz.f84 I104 O104 (a0,())=t104 p100 f100 a0:=by kernel_rfl
noncomputable def T104 (x:DenS I104):Option (DenS O104):=t104 S100.pre S100.F x.1
noncomputable def C104:Cfg:={ P:=Tryz.prog,sums:=[(93,S100)],loops:=[],globs:=G1 }
noncomputable def S104:Sum:=sumOf I104 O104 T104 (DenS.dflt O104)
theorem S104_sound:Sound Tryz.prog G1 84 S104 :=
 fn_sound C104 9 84 Tryz.f84 mixedOk (by kernel_rfl) (by kernel_rfl) (by kernel_rfl) ⟨S100_sound,trivial⟩ trivial I104 O104 T104 _ (fun x=>r104 S100.pre S100.F x.1)
abbrev I106:Sig:=[(true,.pair (.bool) (.pair (.slice (.int .u64)) (.pair (.int .i64) (.unit))))]
abbrev O106:Sig:=[(true,.pair (.bool) (.pair (.slice (.int .u64)) (.pair (.int .i64) (.unit)))),(false,.int .i64)]
noncomputable def t106 (p103:DenS I103→Bool) (f103:DenS I103→DenS O103) (p104:DenS I104→Bool) (f104:DenS I104→DenS O104) (a0:Den (.pair (.bool) (.pair (.slice (.int .u64)) (.pair (.int .i64) (.unit))))):Option (DenS O106) :=
 bif (p103 ((a0.1,a0.2),())) then
 (bif ((f103 ((a0.1,a0.2),())).1 != (0:Int)) then
 (some ((false,([],((0:Int),()))),(f103 ((a0.1,a0.2),()))))
 else bif (p104 ((a0.1,a0.2),())) then
 (some (f104 ((a0.1,a0.2),())))
 else none)
 else none
theorem r106 (p103:DenS I103→Bool) (f103:DenS I103→DenS O103) (p104:DenS I104→Bool) (f104:DenS I104→DenS O104) (a0:Den (.pair (.bool) (.pair (.slice (.int .u64)) (.pair (.int .i64) (.unit))))) :
  run { P:=Tryz.prog,sums:=[(83,⟨I103,O103,p103,f103⟩),(84,⟨I104,O104,p104,f104⟩)],loops:=[],globs:=G1 } 9 67 Tryz.f67 I106 O106 (a0,())=t106 p103 f103 p104 f104 a0:=by kernel_rfl
noncomputable def T106 (x:DenS I106):Option (DenS O106):=t106 S103.pre S103.F S104.pre S104.F x.1
noncomputable def C106:Cfg:={ P:=Tryz.prog,sums:=[(83,S103),(84,S104)],loops:=[],globs:=G1 }
noncomputable def S106:Sum:=sumOf I106 O106 T106 (DenS.dflt O106)
theorem S106_sound:Sound Tryz.prog G1 67 S106 :=
 fn_sound C106 9 67 Tryz.f67 mixedOk (by kernel_rfl) (by kernel_rfl) (by kernel_rfl) ⟨S103_sound,⟨S104_sound,trivial⟩⟩ trivial I106 O106 T106 _ (fun x=>r106 S103.pre S103.F S104.pre S104.F x.1)
abbrev I51:Sig:=[(false,.int .i64),(false,.int .i64),(true,.pair (.bool) (.pair (.slice (.int .u64)) (.pair (.int .i64) (.unit))))]
abbrev O51:Sig:=[(false,.int .u64),(false,.int .i64),(false,.int .i64)]
noncomputable def t51 (p105:DenS I105→Bool) (f105:DenS I105→DenS O105) (p106:DenS I106→Bool) (f106:DenS I106→DenS O106) (p107:DenS I107→Bool) (f107:DenS I107→DenS O107) (a0:Den (.int .i64)) (a1:Den (.int .i64)) (a2:Den (.pair (.bool) (.pair (.slice (.int .u64)) (.pair (.int .i64) (.unit))))):Option (DenS O51) :=
 bif (p105 (a0,(a1,()))) then
 (bif ((f105 (a0,(a1,()))).2.1 != (0:Int)) then
 (some ((0:Int),((0:Int),(f105 (a0,(a1,()))).2)))
 else bif (p106 ((a2.1,a2.2),())) then
 (bif ((f106 ((a2.1,a2.2),())).2.1 != (0:Int)) then
 (some ((0:Int),((0:Int),(f106 ((a2.1,a2.2),())).2)))
 else bif (((f106 ((a2.1,a2.2),())).1.2.1.length:Int)==(0:Int)) then
 (some ((0:Int),((0:Int),((0:Int),()))))
 else bif (p107 (((f106 ((a2.1,a2.2),())).1.1,((f106 ((a2.1,a2.2),())).1.2.1,((f106 ((a2.1,a2.2),())).1.2.2.1,(false,())))),(a0,((f105 (a0,(a1,()))).1,(a1,()))))) then
 (some ((f107 (((f106 ((a2.1,a2.2),())).1.1,((f106 ((a2.1,a2.2),())).1.2.1,((f106 ((a2.1,a2.2),())).1.2.2.1,(false,())))),(a0,((f105 (a0,(a1,()))).1,(a1,()))))).1,((f107 (((f106 ((a2.1,a2.2),())).1.1,((f106 ((a2.1,a2.2),())).1.2.1,((f106 ((a2.1,a2.2),())).1.2.2.1,(false,())))),(a0,((f105 (a0,(a1,()))).1,(a1,()))))).2.1,((0:Int),()))))
 else none)
 else none)
 else none
theorem r51 (p105:DenS I105→Bool) (f105:DenS I105→DenS O105) (p106:DenS I106→Bool) (f106:DenS I106→DenS O106) (p107:DenS I107→Bool) (f107:DenS I107→DenS O107) (a0:Den (.int .i64)) (a1:Den (.int .i64)) (a2:Den (.pair (.bool) (.pair (.slice (.int .u64)) (.pair (.int .i64) (.unit))))) :
  run { P:=Tryz.prog,sums:=[(58,⟨I105,O105,p105,f105⟩),(67,⟨I106,O106,p106,f106⟩),(62,⟨I107,O107,p107,f107⟩)],loops:=[],globs:=G1 } 9 46 Tryz.f46 I51 O51 (a0,a1,a2,())=t51 p105 f105 p106 f106 p107 f107 a0 a1 a2:=by kernel_rfl
noncomputable def T51 (x:DenS I51):Option (DenS O51):=t51 S105.pre S105.F S106.pre S106.F S107.pre S107.F x.1 x.2.1 x.2.2.1
noncomputable def C51:Cfg:={ P:=Tryz.prog,sums:=[(58,S105),(67,S106),(62,S107)],loops:=[],globs:=G1 }
noncomputable def S51:Sum:=sumOf I51 O51 T51 (DenS.dflt O51)
theorem S51_sound:Sound Tryz.prog G1 46 S51 :=
 fn_sound C51 9 46 Tryz.f46 mixedOk (by kernel_rfl) (by kernel_rfl) (by kernel_rfl) ⟨S105_sound,⟨S106_sound,⟨S107_sound,trivial⟩⟩⟩ trivial I51 O51 T51 _ (fun x=>r51 S105.pre S105.F S106.pre S106.F S107.pre S107.F x.1 x.2.1 x.2.2.1)
abbrev I392:Sig:=[(false,.int .i64),(false,.int .i64),(false,.int .i64),(false,.int .u64)]
abbrev O392:Sig:=[(false,.int .u64),(false,.int .i64)]
noncomputable def t392 (p65:DenS I65→Bool) (f65:DenS I65→DenS O65) (p98:DenS I98→Bool) (f98:DenS I98→DenS O98) (p70:DenS I70→Bool) (f70:DenS I70→DenS O70) (p97:DenS I97→Bool) (f97:DenS I97→DenS O97) (p118:DenS I118→Bool) (f118:DenS I118→DenS O118) (p40:DenS I40→Bool) (f40:DenS I40→DenS O40) (p51:DenS I51→Bool) (f51:DenS I51→DenS O51) (a0:Den (.int .i64)) (a1:Den (.int .i64)) (a2:Den (.int .i64)) (a3:Den (.int .u64)):Option (DenS O392) :=
 let e5_:=(f51 (a1,(a2,((f40 (a0,(a3,()))).1,()))))
 let e1_:=(e5_.1,(e5_.2.1,()))
 let e2_:=((f118 (a1,((f98 (a0,(a3,()))).1,()))).1,((0:Int),()))
 let e3_:=((f97 (a1,((f98 (a0,(a3,()))).1,()))).1,((0:Int),()))
 let e4_:=(p51 (a1,(a2,((f40 (a0,(a3,()))).1,()))))
 bif (p65 (a0,(a3,()))) then
 (bif (p98 (a0,(a3,()))) then
 (bif ((f65 (a0,(a3,()))).1==(0:Int)) then
 (bif ((f65 (a0,(a3,()))).1==(0:Int)) then
 (bif (p70 (a1,())) then
 (bif ((f65 (a0,(a3,()))).1==(0:Int)) then
 (some ((f70 (a1,())).1,((1:Int),())))
 else some ((f70 (a1,())).1,((0:Int),())))
 else none)
 else bif ((f65 (a0,(a3,()))).1==(9:Int)) then
 (bif ((f65 (a0,(a3,()))).1==(9:Int)) then
 (bif (p97 (a1,((f98 (a0,(a3,()))).1,()))) then
 (some e3_)
 else none)
 else bif ((f65 (a0,(a3,()))).1==(6:Int)) then
 (bif ((f65 (a0,(a3,()))).1==(6:Int)) then
 (bif (p118 (a1,((f98 (a0,(a3,()))).1,()))) then
 (some e2_)
 else none)
 else bif (p40 (a0,(a3,()))) then
 (bif e4_ then
 (some e1_)
 else none)
 else none)
 else bif ((f65 (a0,(a3,()))).1==(5:Int)) then
 (bif (p118 (a1,((f98 (a0,(a3,()))).1,()))) then
 (some e2_)
 else none)
 else bif (p40 (a0,(a3,()))) then
 (bif e4_ then
 (some e1_)
 else none)
 else none)
 else bif ((f65 (a0,(a3,()))).1==(2:Int)) then
 (bif (p97 (a1,((f98 (a0,(a3,()))).1,()))) then
 (some e3_)
 else none)
 else bif ((f65 (a0,(a3,()))).1==(6:Int)) then
 (bif ((f65 (a0,(a3,()))).1==(6:Int)) then
 (bif (p118 (a1,((f98 (a0,(a3,()))).1,()))) then
 (some e2_)
 else none)
 else bif (p40 (a0,(a3,()))) then
 (bif e4_ then
 (some e1_)
 else none)
 else none)
 else bif ((f65 (a0,(a3,()))).1==(5:Int)) then
 (bif (p118 (a1,((f98 (a0,(a3,()))).1,()))) then
 (some e2_)
 else none)
 else bif (p40 (a0,(a3,()))) then
 (bif e4_ then
 (some e1_)
 else none)
 else none)
 else bif ((f65 (a0,(a3,()))).1==(1:Int)) then
 (bif (p70 (a1,())) then
 (bif ((f65 (a0,(a3,()))).1==(0:Int)) then
 (some ((f70 (a1,())).1,((1:Int),())))
 else some ((f70 (a1,())).1,((0:Int),())))
 else none)
 else bif ((f65 (a0,(a3,()))).1==(9:Int)) then
 (bif ((f65 (a0,(a3,()))).1==(9:Int)) then
 (bif (p97 (a1,((f98 (a0,(a3,()))).1,()))) then
 (some e3_)
 else none)
 else bif ((f65 (a0,(a3,()))).1==(6:Int)) then
 (bif ((f65 (a0,(a3,()))).1==(6:Int)) then
 (bif (p118 (a1,((f98 (a0,(a3,()))).1,()))) then
 (some e2_)
 else none)
 else bif (p40 (a0,(a3,()))) then
 (bif e4_ then
 (some e1_)
 else none)
 else none)
 else bif ((f65 (a0,(a3,()))).1==(5:Int)) then
 (bif (p118 (a1,((f98 (a0,(a3,()))).1,()))) then
 (some e2_)
 else none)
 else bif (p40 (a0,(a3,()))) then
 (bif e4_ then
 (some e1_)
 else none)
 else none)
 else bif ((f65 (a0,(a3,()))).1==(2:Int)) then
 (bif (p97 (a1,((f98 (a0,(a3,()))).1,()))) then
 (some e3_)
 else none)
 else bif ((f65 (a0,(a3,()))).1==(6:Int)) then
 (bif ((f65 (a0,(a3,()))).1==(6:Int)) then
 (bif (p118 (a1,((f98 (a0,(a3,()))).1,()))) then
 (some e2_)
 else none)
 else bif (p40 (a0,(a3,()))) then
 (bif e4_ then
 (some e1_)
 else none)
 else none)
 else bif ((f65 (a0,(a3,()))).1==(5:Int)) then
 (bif (p118 (a1,((f98 (a0,(a3,()))).1,()))) then
 (some e2_)
 else none)
 else bif (p40 (a0,(a3,()))) then
 (bif e4_ then
 (some e1_)
 else none)
 else none)
 else none)
 else none
theorem r392 (p65:DenS I65→Bool) (f65:DenS I65→DenS O65) (p98:DenS I98→Bool) (f98:DenS I98→DenS O98) (p70:DenS I70→Bool) (f70:DenS I70→DenS O70) (p97:DenS I97→Bool) (f97:DenS I97→DenS O97) (p118:DenS I118→Bool) (f118:DenS I118→DenS O118) (p40:DenS I40→Bool) (f40:DenS I40→DenS O40) (p51:DenS I51→Bool) (f51:DenS I51→DenS O51) (a0:Den (.int .i64)) (a1:Den (.int .i64)) (a2:Den (.int .i64)) (a3:Den (.int .u64)) :
  run { P:=Tryz.prog,sums:=[(20,⟨I65,O65,p65,f65⟩),(45,⟨I98,O98,p98,f98⟩),(21,⟨I70,O70,p70,f70⟩),(30,⟨I97,O97,p97,f97⟩),(31,⟨I118,O118,p118,f118⟩),(37,⟨I40,O40,p40,f40⟩),(46,⟨I51,O51,p51,f51⟩)],loops:=[],globs:=G1 } 9 18 Tryz.f18 I392 O392 (a0,a1,a2,a3,())=t392 p65 f65 p98 f98 p70 f70 p97 f97 p118 f118 p40 f40 p51 f51 a0 a1 a2 a3:=by kernel_rfl
noncomputable def T392 (x:DenS I392):Option (DenS O392):=t392 S65.pre S65.F S98.pre S98.F S70.pre S70.F S97.pre S97.F S118.pre S118.F S40.pre S40.F S51.pre S51.F x.1 x.2.1 x.2.2.1 x.2.2.2.1
noncomputable def C392:Cfg:={ P:=Tryz.prog,sums:=[(20,S65),(45,S98),(21,S70),(30,S97),(31,S118),(37,S40),(46,S51)],loops:=[],globs:=G1 }
noncomputable def S392:Sum:=sumOf I392 O392 T392 (DenS.dflt O392)
theorem S392_sound:Sound Tryz.prog G1 18 S392 :=
 fn_sound C392 9 18 Tryz.f18 mixedOk (by kernel_rfl) (by kernel_rfl) (by kernel_rfl) ⟨S65_sound,⟨S98_sound,⟨S70_sound,⟨S97_sound,⟨S118_sound,⟨S40_sound,⟨S51_sound,trivial⟩⟩⟩⟩⟩⟩⟩ trivial I392 O392 T392 _ (fun x=>r392 S65.pre S65.F S98.pre S98.F S70.pre S70.F S97.pre S97.F S118.pre S118.F S40.pre S40.F S51.pre S51.F x.1 x.2.1 x.2.2.1 x.2.2.2.1)
abbrev I393:Sig:=[(false,.int .i64),(false,.int .i64),(false,.int .i64),(false,.int .u64)]
abbrev O393:Sig:=[(false,.int .u64),(false,.int .i64),(false,.int .i64)]
noncomputable def t393 (p391:DenS I391→Bool) (f391:DenS I391→DenS O391) (p392:DenS I392→Bool) (f392:DenS I392→DenS O392) (a0:Den (.int .i64)) (a1:Den (.int .i64)) (a2:Den (.int .i64)) (a3:Den (.int .u64)):Option (DenS O393) :=
 let e1_:=(f391 ((a0::(a1::[])),((a2::[]),(a3,()))))
 bif (p391 ((a0::(a1::[])),((a2::[]),(a3,())))) then
 (bif (e1_.1 != (0:Int)) then
 (some ((0:Int),((0:Int),e1_)))
 else bif (p392 (a0,(a1,(a2,(a3,()))))) then
 (some ((f392 (a0,(a1,(a2,(a3,()))))).1,((f392 (a0,(a1,(a2,(a3,()))))).2.1,((0:Int),()))))
 else none)
 else none
theorem r393 (p391:DenS I391→Bool) (f391:DenS I391→DenS O391) (p392:DenS I392→Bool) (f392:DenS I392→DenS O392) (a0:Den (.int .i64)) (a1:Den (.int .i64)) (a2:Den (.int .i64)) (a3:Den (.int .u64)) :
  run { P:=Tryz.prog,sums:=[(17,⟨I391,O391,p391,f391⟩),(18,⟨I392,O392,p392,f392⟩)],loops:=[],globs:=G1 } 9 7 Tryz.f7 I393 O393 (a0,a1,a2,a3,())=t393 p391 f391 p392 f392 a0 a1 a2 a3:=by kernel_rfl
noncomputable def T393 (x:DenS I393):Option (DenS O393):=t393 S391.pre S391.F S392.pre S392.F x.1 x.2.1 x.2.2.1 x.2.2.2.1
noncomputable def C393:Cfg:={ P:=Tryz.prog,sums:=[(17,S391),(18,S392)],loops:=[],globs:=G1 }
noncomputable def S393:Sum:=sumOf I393 O393 T393 (DenS.dflt O393)
theorem S393_sound:Sound Tryz.prog G1 7 S393 :=
 fn_sound C393 9 7 Tryz.f7 mixedOk (by kernel_rfl) (by kernel_rfl) (by kernel_rfl) ⟨S391_sound,⟨S392_sound,trivial⟩⟩ trivial I393 O393 T393 _ (fun x=>r393 S391.pre S391.F S392.pre S392.F x.1 x.2.1 x.2.2.1 x.2.2.2.1)
abbrev I394:Sig:=[(true,.pair (.int .i64) (.pair (.int .i64) (.pair (.int .u64) (.pair (.int .u64) (.pair (.int .u64) (.unit))))))]
abbrev O394:Sig:=[(false,.bool)]
abbrev P394_22:Pat:=⟨204,[(4,.one (.v .i64)),(3,.one (.v .i64)),(5,.one (.v .i64)),(13,.one (.ptr 2 0)),(12,.one (.ptr 1 0)),(180,.one (.v .i64))],[.gone,.arr (.int .u64),.arr (.int .u64)]⟩
abbrev A394_22:List (Nat×Shape):=[]
abbrev X394_22:List (Nat×Pat):=[(0,⟨204,[],[]⟩)]
abbrev Q394_22:Option Pat:=(some ⟨204,[(2,.one (.bool))],[]⟩)
noncomputable def h394_22 (p389:DenS I389→Bool) (f389:DenS I389→DenS O389) (p388:DenS I388→Bool) (f388:DenS I388→DenS O388) (p390:DenS I390→Bool) (f390:DenS I390→DenS O390) (p382:DenS I382→Bool) (f382:DenS I382→DenS O382) (p27:DenS I27→Bool) (f27:DenS I27→DenS O27) (p25:DenS I25→Bool) (f25:DenS I25→DenS O25) (p354:DenS I354→Bool) (f354:DenS I354→DenS O354) (p381:DenS I381→Bool) (f381:DenS I381→DenS O381) (p318:DenS I318→Bool) (f318:DenS I318→DenS O318) (p393:DenS I393→Bool) (f393:DenS I393→DenS O393) {R:Type} (L:Pat.D P394_22→Option R) (e:OutT X394_22 Q394_22→Option R) (x:Pat.D P394_22):Option R :=
 let e4_:=(x.1.1,(x.1.2.1,(x.1.2.2.1,((x.2.2.2.1.getD (Int.toNat x.1.2.2.2.2.2.1) (0:Int)),()))))
 let e1_:=((f393 e4_).2.2.1 != (0:Int))
 let e2_:=e4_
 let e3_:=((decide ((0:Int)≤x.1.2.2.2.2.2.1))&&(decide (x.1.2.2.2.2.2.1<((5:Nat):Int))))
 bif (decide (x.1.2.2.2.2.2.1<(5:Int))) then
 (bif (e3_&&(decide (x.1.2.2.2.2.2.1<(x.2.2.2.1.length:Int)))) then
 (bif (p393 e2_) then
 (bif ((e3_&&(decide (x.1.2.2.2.2.2.1<(x.2.2.1.length:Int))))||(!(bif e1_ then false else true))) then
 (bif (e1_||((f393 e2_).1 != (x.2.2.1.getD (Int.toNat x.1.2.2.2.2.2.1) (0:Int)))) then
 ((e (.inr ((false,()),()))))
 else (L ((x.1.1,(x.1.2.1,(x.1.2.2.1,((),((),((IntKind.wrap .i64 (x.1.2.2.2.2.2.1+(1:Int))),())))))),((),x.2.2))))
 else none)
 else none)
 else none)
 else (e (.inl ((),())))
theorem s394_22 (p389:DenS I389→Bool) (f389:DenS I389→DenS O389) (p388:DenS I388→Bool) (f388:DenS I388→DenS O388) (p390:DenS I390→Bool) (f390:DenS I390→DenS O390) (p382:DenS I382→Bool) (f382:DenS I382→DenS O382) (p27:DenS I27→Bool) (f27:DenS I27→DenS O27) (p25:DenS I25→Bool) (f25:DenS I25→DenS O25) (p354:DenS I354→Bool) (f354:DenS I354→DenS O354) (p381:DenS I381→Bool) (f381:DenS I381→DenS O381) (p318:DenS I318→Bool) (f318:DenS I318→DenS O318) (p393:DenS I393→Bool) (f393:DenS I393→DenS O393) (w394_22:Pat.D P394_22→Option (OutT X394_22 Q394_22)) (d:Nat) (R:Type) (L:Pat.D P394_22→Option R) (e:OutT X394_22 Q394_22→Option R) (x:Pat.D P394_22) :
  lStep { P:=Tryz.prog,sums:=[(4,⟨I389,O389,p389,f389⟩),(5,⟨I388,O388,p388,f388⟩),(6,⟨I390,O390,p390,f390⟩),(8,⟨I382,O382,p382,f382⟩),(9,⟨I27,O27,p27,f27⟩),(10,⟨I25,O25,p25,f25⟩),(11,⟨I354,O354,p354,f354⟩),(12,⟨I381,O381,p381,f381⟩),(13,⟨I318,O318,p318,f318⟩),(7,⟨I393,O393,p393,f393⟩)],loops:=[(3,22,LoopSpec.of P394_22 A394_22 X394_22 Q394_22 w394_22)],globs:=G1 } (d+2) 3 (bodyOf Tryz.f3 22) P394_22 A394_22 X394_22 Q394_22 (R:=R) L e x=h394_22 p389 f389 p388 f388 p390 f390 p382 f382 p27 f27 p25 f25 p354 f354 p381 f381 p318 f318 p393 f393 L e x:=by kernel_rfl
theorem m394_22 (p389:DenS I389→Bool) (f389:DenS I389→DenS O389) (p388:DenS I388→Bool) (f388:DenS I388→DenS O388) (p390:DenS I390→Bool) (f390:DenS I390→DenS O390) (p382:DenS I382→Bool) (f382:DenS I382→DenS O382) (p27:DenS I27→Bool) (f27:DenS I27→DenS O27) (p25:DenS I25→Bool) (f25:DenS I25→DenS O25) (p354:DenS I354→Bool) (f354:DenS I354→DenS O354) (p381:DenS I381→Bool) (f381:DenS I381→DenS O381) (p318:DenS I318→Bool) (f318:DenS I318→DenS O318) (p393:DenS I393→Bool) (f393:DenS I393→DenS O393):Par fun L e x=>h394_22 p389 f389 p388 f388 p390 f390 p382 f382 p27 f27 p25 f25 p354 f354 p381 f381 p318 f318 p393 f393 L e x:=by
 intro A B rel L L' e e' h0 hL he x
 unfold h394_22
 repeat' (first | exact h0 | exact hL _ | exact he _ | apply rel_cond | (apply rel_obind h0; intro _) | (apply rel_obind2 <;> intro _))
noncomputable def t394 (p389:DenS I389→Bool) (f389:DenS I389→DenS O389) (p388:DenS I388→Bool) (f388:DenS I388→DenS O388) (p390:DenS I390→Bool) (f390:DenS I390→DenS O390) (p382:DenS I382→Bool) (f382:DenS I382→DenS O382) (p27:DenS I27→Bool) (f27:DenS I27→DenS O27) (p25:DenS I25→Bool) (f25:DenS I25→DenS O25) (p354:DenS I354→Bool) (f354:DenS I354→DenS O354) (p381:DenS I381→Bool) (f381:DenS I381→DenS O381) (p318:DenS I318→Bool) (f318:DenS I318→DenS O318) (p393:DenS I393→Bool) (f393:DenS I393→DenS O393) (w394_22:Pat.D P394_22→Option (OutT X394_22 Q394_22)) (a0:Den (.pair (.int .i64) (.pair (.int .i64) (.pair (.int .u64) (.pair (.int .u64) (.pair (.int .u64) (.unit))))))):Option (DenS O394) :=
 let e29_:=((f389 ((a0.1,a0.2),())).1.1,(f389 ((a0.1,a0.2),())).1.2.2.2.2)
 let e25_:=(f390 e29_)
 let e28_:=((f389 ((a0.1,a0.2),())).1.1,((f389 ((a0.1,a0.2),())).1.2.2.1,()))
 let e24_:=(f388 e28_)
 let e22_:=((0:Int),e24_)
 let e19_:=(f393 ((f389 ((a0.1,a0.2),())).1.1,(e25_.1,e22_)))
 let e26_:=((f389 ((a0.1,a0.2),())).1.1,((f389 ((a0.1,a0.2),())).1.2.2.2.1,()))
 let e23_:=(f388 e26_)
 let e18_:=(f393 ((f389 ((a0.1,a0.2),())).1.1,(e25_.1,((0:Int),e23_))))
 let e1_:=(e25_.1,((0:Int),(e19_.1,(e18_.1,()))))
 let e2_:=((e19_.2.2.1 != (0:Int))||(e18_.2.2.1 != (0:Int)))
 let e35_:=((2:Int),(f389 ((a0.1,a0.2),())).1.2.2.2.2)
 let e32_:=(f390 e35_)
 let e34_:=((2:Int),((f389 ((a0.1,a0.2),())).1.2.2.1,()))
 let e31_:=(f388 e34_)
 let e27_:=((0:Int),e31_)
 let e21_:=(f393 ((2:Int),(e32_.1,e27_)))
 let e33_:=((2:Int),((f389 ((a0.1,a0.2),())).1.2.2.2.1,()))
 let e30_:=(f388 e33_)
 let e20_:=(f393 ((2:Int),(e32_.1,((0:Int),e30_))))
 let e3_:=(e32_.1,((0:Int),(e21_.1,(e20_.1,()))))
 let e4_:=((e21_.2.2.1 != (0:Int))||(e20_.2.2.1 != (0:Int)))
 let e5_:=(e25_.1,((0:Int),(e19_.1,())))
 let e6_:=(e32_.1,((0:Int),(e21_.1,())))
 let e7_:=((f389 ((a0.1,a0.2),())).1.1,((0:Int),(e24_.1,e23_)))
 let e8_:=((2:Int),((0:Int),(e31_.1,e30_)))
 let e9_:=((f389 ((a0.1,a0.2),())).1.1,e22_)
 let e10_:=((2:Int),e27_)
 let e11_:=((0:Int)::((0:Int)::((0:Int)::((0:Int)::((0:Int)::[])))))
 let e12_:=e25_
 let e13_:=e26_
 let e14_:=e28_
 let e15_:=e32_
 let e16_:=e33_
 let e17_:=e34_
 bif (p389 ((a0.1,a0.2),())) then
 (bif ((f389 ((a0.1,a0.2),())).1.1==(3:Int)) then
 (bif (p388 e17_) then
 (bif (p388 e16_) then
 (bif (p390 e35_) then
 (bif (p393 ((2:Int),(e15_.1,((0:Int),(f388 e17_))))) then
 (bif (p393 ((2:Int),(e15_.1,((0:Int),(f388 e16_))))) then
 (bif ((p382 ())||(!(bif e4_ then false else true))) then
 (bif (e4_||(!(f382 ()).1)) then
 (some (false,()))
 else bif (p27 e8_) then
 (bif (p27 e3_) then
 (bif (p25 e8_) then
 (bif (p25 e3_) then
 (bif (p354 e8_) then
 (bif (p354 e3_) then
 (bif (p381 e8_) then
 (bif (p381 e3_) then
 (bif (p318 e10_) then
 (bif (p318 e6_) then
 (Vx.obind (w394_22 ((e15_.1,((2:Int),((0:Int),((),((),((0:Int),())))))),((),((((((e11_.set (Int.toNat (0:Int)) (f27 e8_).1).set (Int.toNat (1:Int)) (f25 e8_).1).set (Int.toNat (2:Int)) (f354 e8_).1).set (Int.toNat (3:Int)) (f381 e8_).1).set (Int.toNat (4:Int)) (f318 e10_).1),((((((e11_.set (Int.toNat (0:Int)) (f27 e3_).1).set (Int.toNat (1:Int)) (f25 e3_).1).set (Int.toNat (2:Int)) (f354 e3_).1).set (Int.toNat (3:Int)) (f381 e3_).1).set (Int.toNat (4:Int)) (f318 e6_).1),()))))) fun y19 =>
 Vx.obind2 y19 (fun y20 =>
 some (true,())) (fun z20 =>
 some z20.1))
 else none)
 else none)
 else none)
 else none)
 else none)
 else none)
 else none)
 else none)
 else none)
 else none)
 else none)
 else none)
 else none)
 else none)
 else none)
 else none)
 else bif (p388 e14_) then
 (bif (p388 e13_) then
 (bif (p390 e29_) then
 (bif (p393 ((f389 ((a0.1,a0.2),())).1.1,(e12_.1,((0:Int),(f388 e14_))))) then
 (bif (p393 ((f389 ((a0.1,a0.2),())).1.1,(e12_.1,((0:Int),(f388 e13_))))) then
 (bif ((p382 ())||(!(bif e2_ then false else true))) then
 (bif (e2_||(!(f382 ()).1)) then
 (some (false,()))
 else bif (p27 e7_) then
 (bif (p27 e1_) then
 (bif (p25 e7_) then
 (bif (p25 e1_) then
 (bif (p354 e7_) then
 (bif (p354 e1_) then
 (bif (p381 e7_) then
 (bif (p381 e1_) then
 (bif (p318 e9_) then
 (bif (p318 e5_) then
 (Vx.obind (w394_22 ((e12_.1,((f389 ((a0.1,a0.2),())).1.1,((0:Int),((),((),((0:Int),())))))),((),((((((e11_.set (Int.toNat (0:Int)) (f27 e7_).1).set (Int.toNat (1:Int)) (f25 e7_).1).set (Int.toNat (2:Int)) (f354 e7_).1).set (Int.toNat (3:Int)) (f381 e7_).1).set (Int.toNat (4:Int)) (f318 e9_).1),((((((e11_.set (Int.toNat (0:Int)) (f27 e1_).1).set (Int.toNat (1:Int)) (f25 e1_).1).set (Int.toNat (2:Int)) (f354 e1_).1).set (Int.toNat (3:Int)) (f381 e1_).1).set (Int.toNat (4:Int)) (f318 e5_).1),()))))) fun y19 =>
 Vx.obind2 y19 (fun y20 =>
 some (true,())) (fun z20 =>
 some z20.1))
 else none)
 else none)
 else none)
 else none)
 else none)
 else none)
 else none)
 else none)
 else none)
 else none)
 else none)
 else none)
 else none)
 else none)
 else none)
 else none)
 else none
theorem r394 (p389:DenS I389→Bool) (f389:DenS I389→DenS O389) (p388:DenS I388→Bool) (f388:DenS I388→DenS O388) (p390:DenS I390→Bool) (f390:DenS I390→DenS O390) (p382:DenS I382→Bool) (f382:DenS I382→DenS O382) (p27:DenS I27→Bool) (f27:DenS I27→DenS O27) (p25:DenS I25→Bool) (f25:DenS I25→DenS O25) (p354:DenS I354→Bool) (f354:DenS I354→DenS O354) (p381:DenS I381→Bool) (f381:DenS I381→DenS O381) (p318:DenS I318→Bool) (f318:DenS I318→DenS O318) (p393:DenS I393→Bool) (f393:DenS I393→DenS O393) (w394_22:Pat.D P394_22→Option (OutT X394_22 Q394_22)) (a0:Den (.pair (.int .i64) (.pair (.int .i64) (.pair (.int .u64) (.pair (.int .u64) (.pair (.int .u64) (.unit))))))) :
  run { P:=Tryz.prog,sums:=[(4,⟨I389,O389,p389,f389⟩),(5,⟨I388,O388,p388,f388⟩),(6,⟨I390,O390,p390,f390⟩),(8,⟨I382,O382,p382,f382⟩),(9,⟨I27,O27,p27,f27⟩),(10,⟨I25,O25,p25,f25⟩),(11,⟨I354,O354,p354,f354⟩),(12,⟨I381,O381,p381,f381⟩),(13,⟨I318,O318,p318,f318⟩),(7,⟨I393,O393,p393,f393⟩)],loops:=[(3,22,LoopSpec.of P394_22 A394_22 X394_22 Q394_22 w394_22)],globs:=G1 } 9 3 Tryz.f3 I394 O394 (a0,())=t394 p389 f389 p388 f388 p390 f390 p382 f382 p27 f27 p25 f25 p354 f354 p381 f381 p318 f318 p393 f393 w394_22 a0:=by kernel_rfl
noncomputable def W394_22:P394_22.D→Option (OutT X394_22 Q394_22):=lfix fun L=>h394_22 S389.pre S389.F S388.pre S388.F S390.pre S390.F S382.pre S382.F S27.pre S27.F S25.pre S25.F S354.pre S354.F S381.pre S381.F S318.pre S318.F S393.pre S393.F L some
noncomputable def T394 (x:DenS I394):Option (DenS O394):=t394 S389.pre S389.F S388.pre S388.F S390.pre S390.F S382.pre S382.F S27.pre S27.F S25.pre S25.F S354.pre S354.F S381.pre S381.F S318.pre S318.F S393.pre S393.F W394_22 x.1
noncomputable def C394:Cfg:={ P:=Tryz.prog,sums:=[(4,S389),(5,S388),(6,S390),(8,S382),(9,S27),(10,S25),(11,S354),(12,S381),(13,S318),(7,S393)],loops:=[(3,22,LoopSpec.of P394_22 A394_22 X394_22 Q394_22 W394_22)],globs:=G1 }
noncomputable def S394:Sum:=sumOf I394 O394 T394 (DenS.dflt O394)
theorem S394_sound:Sound Tryz.prog G1 3 S394 :=
 fn_sound C394 9 3 Tryz.f3 mixedOk (by kernel_rfl) (by kernel_rfl) (by kernel_rfl) ⟨S389_sound,⟨S388_sound,⟨S390_sound,⟨S382_sound,⟨S27_sound,⟨S25_sound,⟨S354_sound,⟨S381_sound,⟨S318_sound,⟨S393_sound,trivial⟩⟩⟩⟩⟩⟩⟩⟩⟩⟩ ⟨rfl,fun d=>loopOk_of (fun L e x=>h394_22 S389.pre S389.F S388.pre S388.F S390.pre S390.F S382.pre S382.F S27.pre S27.F S25.pre S25.F S354.pre S354.F S381.pre S381.F S318.pre S318.F S393.pre S393.F L e x) (m394_22 S389.pre S389.F S388.pre S388.F S390.pre S390.F S382.pre S382.F S27.pre S27.F S25.pre S25.F S354.pre S354.F S381.pre S381.F S318.pre S318.F S393.pre S393.F) (fun R L e x=>s394_22 S389.pre S389.F S388.pre S388.F S390.pre S390.F S382.pre S382.F S27.pre S27.F S25.pre S25.F S354.pre S354.F S381.pre S381.F S318.pre S318.F S393.pre S393.F W394_22 d R L e x),trivial⟩ I394 O394 T394 _ (fun x=>r394 S389.pre S389.F S388.pre S388.F S390.pre S390.F S382.pre S382.F S27.pre S27.F S25.pre S25.F S354.pre S354.F S381.pre S381.F S318.pre S318.F S393.pre S393.F W394_22 x.1)
end Vx
namespace Vx
open Go
theorem sum_pre {I O:Sig} {T:DenS I→Option (DenS O)} {d:DenS O} {x:DenS I} {y:DenS O} (h:T x=some y):(sumOf I O T d).pre x=true:=by
 show (T x).isSome=true
 rw [h]; rfl
theorem sum_F {I O:Sig} {T:DenS I→Option (DenS O)} {d:DenS O} {x:DenS I} {y:DenS O} (h:T x=some y):(sumOf I O T d).F x=y:=by
 show (T x).getD d=y
 rw [h]; rfl
theorem sumL_pre {k:LK} {I O:Sig} {T:k.D×DenS I→Option (k.B×DenS O)} {d:k.B×DenS O} {x:k.D×DenS I} {y:k.B×DenS O} (h:T x=some y):(sumOfL k I O T d).pre x=true:=by
 show (T x).isSome=true
 rw [h]; rfl
theorem sumL_F {k:LK} {I O:Sig} {T:k.D×DenS I→Option (k.B×DenS O)} {d:k.B×DenS O} {x:k.D×DenS I} {y:k.B×DenS O} (h:T x=some y):(sumOfL k I O T d).F x=y:=by
 show (T x).getD d=y
 rw [h]; rfl
theorem pre385 {x:DenS I385} {y:DenS O385} (h:T385 x=some y):S385.pre x=true:=sum_pre (T:=T385) h
theorem fun385 {x:DenS I385} {y:DenS O385} (h:T385 x=some y):S385.F x=y:=sum_F (T:=T385) h
theorem pre386 {x:DenS I386} {y:DenS O386} (h:T386 x=some y):S386.pre x=true:=sum_pre (T:=T386) h
theorem fun386 {x:DenS I386} {y:DenS O386} (h:T386 x=some y):S386.F x=y:=sum_F (T:=T386) h
theorem pre387 {x:DenS I387} {y:DenS O387} (h:T387 x=some y):S387.pre x=true:=sum_pre (T:=T387) h
theorem fun387 {x:DenS I387} {y:DenS O387} (h:T387 x=some y):S387.F x=y:=sum_F (T:=T387) h
theorem pre388 {x:DenS I388} {y:DenS O388} (h:T388 x=some y):S388.pre x=true:=sum_pre (T:=T388) h
theorem fun388 {x:DenS I388} {y:DenS O388} (h:T388 x=some y):S388.F x=y:=sum_F (T:=T388) h
theorem pre389 {x:DenS I389} {y:DenS O389} (h:T389 x=some y):S389.pre x=true:=sum_pre (T:=T389) h
theorem fun389 {x:DenS I389} {y:DenS O389} (h:T389 x=some y):S389.F x=y:=sum_F (T:=T389) h
theorem pre390 {x:DenS I390} {y:DenS O390} (h:T390 x=some y):S390.pre x=true:=sum_pre (T:=T390) h
theorem fun390 {x:DenS I390} {y:DenS O390} (h:T390 x=some y):S390.F x=y:=sum_F (T:=T390) h
theorem pre69 {x:DenS I69} {y:DenS O69} (h:T69 x=some y):S69.pre x=true:=sum_pre (T:=T69) h
theorem fun69 {x:DenS I69} {y:DenS O69} (h:T69 x=some y):S69.F x=y:=sum_F (T:=T69) h
theorem pre66 {x:DenS I66} {y:DenS O66} (h:T66 x=some y):S66.pre x=true:=sum_pre (T:=T66) h
theorem fun66 {x:DenS I66} {y:DenS O66} (h:T66 x=some y):S66.F x=y:=sum_F (T:=T66) h
theorem pre91 {x:DenS I91} {y:DenS O91} (h:T91 x=some y):S91.pre x=true:=sum_pre (T:=T91) h
theorem fun91 {x:DenS I91} {y:DenS O91} (h:T91 x=some y):S91.F x=y:=sum_F (T:=T91) h
theorem pre90 {x:DenS I90} {y:DenS O90} (h:T90 x=some y):S90.pre x=true:=sum_pre (T:=T90) h
theorem fun90 {x:DenS I90} {y:DenS O90} (h:T90 x=some y):S90.F x=y:=sum_F (T:=T90) h
theorem pre65 {x:DenS I65} {y:DenS O65} (h:T65 x=some y):S65.pre x=true:=sum_pre (T:=T65) h
theorem fun65 {x:DenS I65} {y:DenS O65} (h:T65 x=some y):S65.F x=y:=sum_F (T:=T65) h
theorem pre70 {x:DenS I70} {y:DenS O70} (h:T70 x=some y):S70.pre x=true:=sum_pre (T:=T70) h
theorem fun70 {x:DenS I70} {y:DenS O70} (h:T70 x=some y):S70.F x=y:=sum_F (T:=T70) h
theorem pre98 {x:DenS I98} {y:DenS O98} (h:T98 x=some y):S98.pre x=true:=sum_pre (T:=T98) h
theorem fun98 {x:DenS I98} {y:DenS O98} (h:T98 x=some y):S98.F x=y:=sum_F (T:=T98) h
theorem pre72 {x:DenS I72} {y:DenS O72} (h:T72 x=some y):S72.pre x=true:=sum_pre (T:=T72) h
theorem fun72 {x:DenS I72} {y:DenS O72} (h:T72 x=some y):S72.F x=y:=sum_F (T:=T72) h
theorem pre119 {x:DenS I119} {y:DenS O119} (h:T119 x=some y):S119.pre x=true:=sum_pre (T:=T119) h
theorem fun119 {x:DenS I119} {y:DenS O119} (h:T119 x=some y):S119.F x=y:=sum_F (T:=T119) h
theorem pre120 {x:DenS I120} {y:DenS O120} (h:T120 x=some y):S120.pre x=true:=sum_pre (T:=T120) h
theorem fun120 {x:DenS I120} {y:DenS O120} (h:T120 x=some y):S120.F x=y:=sum_F (T:=T120) h
theorem pre121 {x:DenS I121} {y:DenS O121} (h:T121 x=some y):S121.pre x=true:=sum_pre (T:=T121) h
theorem fun121 {x:DenS I121} {y:DenS O121} (h:T121 x=some y):S121.F x=y:=sum_F (T:=T121) h
theorem pre123 {x:DenS I123} {y:DenS O123} (h:T123 x=some y):S123.pre x=true:=sum_pre (T:=T123) h
theorem fun123 {x:DenS I123} {y:DenS O123} (h:T123 x=some y):S123.F x=y:=sum_F (T:=T123) h
theorem pre124 {x:DenS I124} {y:DenS O124} (h:T124 x=some y):S124.pre x=true:=sum_pre (T:=T124) h
theorem fun124 {x:DenS I124} {y:DenS O124} (h:T124 x=some y):S124.F x=y:=sum_F (T:=T124) h
theorem pre118 {x:DenS I118} {y:DenS O118} (h:T118 x=some y):S118.pre x=true:=sum_pre (T:=T118) h
theorem fun118 {x:DenS I118} {y:DenS O118} (h:T118 x=some y):S118.F x=y:=sum_F (T:=T118) h
theorem pre147 {x:DenS I147} {y:DenS O147} (h:T147 x=some y):S147.pre x=true:=sum_pre (T:=T147) h
theorem fun147 {x:DenS I147} {y:DenS O147} (h:T147 x=some y):S147.F x=y:=sum_F (T:=T147) h
theorem pre105 {x:DenS I105} {y:DenS O105} (h:T105 x=some y):S105.pre x=true:=sum_pre (T:=T105) h
theorem fun105 {x:DenS I105} {y:DenS O105} (h:T105 x=some y):S105.F x=y:=sum_F (T:=T105) h
theorem pre173 {x:DenS I173} {y:DenS O173} (h:T173 x=some y):S173.pre x=true:=sum_pre (T:=T173) h
theorem fun173 {x:DenS I173} {y:DenS O173} (h:T173 x=some y):S173.F x=y:=sum_F (T:=T173) h
theorem pre146 {x:DenS I146} {y:DenS O146} (h:T146 x=some y):S146.pre x=true:=sum_pre (T:=T146) h
theorem fun146 {x:DenS I146} {y:DenS O146} (h:T146 x=some y):S146.F x=y:=sum_F (T:=T146) h
theorem pre102 {x:DenS I102} {y:DenS O102} (h:T102 x=some y):S102.pre x=true:=sum_pre (T:=T102) h
theorem fun102 {x:DenS I102} {y:DenS O102} (h:T102 x=some y):S102.F x=y:=sum_F (T:=T102) h
theorem pre178 {x:DenS I178} {y:DenS O178} (h:T178 x=some y):S178.pre x=true:=sum_pre (T:=T178) h
theorem fun178 {x:DenS I178} {y:DenS O178} (h:T178 x=some y):S178.F x=y:=sum_F (T:=T178) h
theorem pre151 {x:DenS I151} {y:DenS O151} (h:T151 x=some y):S151.pre x=true:=sum_pre (T:=T151) h
theorem fun151 {x:DenS I151} {y:DenS O151} (h:T151 x=some y):S151.F x=y:=sum_F (T:=T151) h
theorem pre156 {x:DenS I156} {y:DenS O156} (h:T156 x=some y):S156.pre x=true:=sum_pre (T:=T156) h
theorem fun156 {x:DenS I156} {y:DenS O156} (h:T156 x=some y):S156.F x=y:=sum_F (T:=T156) h
theorem pre148 {x:DenS I148} {y:DenS O148} (h:T148 x=some y):S148.pre x=true:=sum_pre (T:=T148) h
theorem fun148 {x:DenS I148} {y:DenS O148} (h:T148 x=some y):S148.F x=y:=sum_F (T:=T148) h
theorem pre1173 {x:DenS I1173} {y:DenS O1173} (h:T1173 x=some y):S1173.pre x=true:=sum_pre (T:=T1173) h
theorem fun1173 {x:DenS I1173} {y:DenS O1173} (h:T1173 x=some y):S1173.F x=y:=sum_F (T:=T1173) h
theorem pre1171 {x:DenS I1171} {y:DenS O1171} (h:T1171 x=some y):S1171.pre x=true:=sum_pre (T:=T1171) h
theorem fun1171 {x:DenS I1171} {y:DenS O1171} (h:T1171 x=some y):S1171.F x=y:=sum_F (T:=T1171) h
theorem pre171 {x:DenS I171} {y:DenS O171} (h:T171 x=some y):S171.pre x=true:=sum_pre (T:=T171) h
theorem fun171 {x:DenS I171} {y:DenS O171} (h:T171 x=some y):S171.F x=y:=sum_F (T:=T171) h
theorem pre92 {x:DenS I92} {y:DenS O92} (h:T92 x=some y):S92.pre x=true:=sum_pre (T:=T92) h
theorem fun92 {x:DenS I92} {y:DenS O92} (h:T92 x=some y):S92.F x=y:=sum_F (T:=T92) h
theorem pre184 {x:DenS I184} {y:DenS O184} (h:T184 x=some y):S184.pre x=true:=sum_pre (T:=T184) h
theorem fun184 {x:DenS I184} {y:DenS O184} (h:T184 x=some y):S184.F x=y:=sum_F (T:=T184) h
theorem pre175 {x:DenS I175} {y:DenS O175} (h:T175 x=some y):S175.pre x=true:=sum_pre (T:=T175) h
theorem fun175 {x:DenS I175} {y:DenS O175} (h:T175 x=some y):S175.F x=y:=sum_F (T:=T175) h
theorem pre186 {x:DenS I186} {y:DenS O186} (h:T186 x=some y):S186.pre x=true:=sum_pre (T:=T186) h
theorem fun186 {x:DenS I186} {y:DenS O186} (h:T186 x=some y):S186.F x=y:=sum_F (T:=T186) h
theorem pre185 {x:DenS I185} {y:DenS O185} (h:T185 x=some y):S185.pre x=true:=sum_pre (T:=T185) h
theorem fun185 {x:DenS I185} {y:DenS O185} (h:T185 x=some y):S185.F x=y:=sum_F (T:=T185) h
theorem pre176 {x:DenS I176} {y:DenS O176} (h:T176 x=some y):S176.pre x=true:=sum_pre (T:=T176) h
theorem fun176 {x:DenS I176} {y:DenS O176} (h:T176 x=some y):S176.F x=y:=sum_F (T:=T176) h
theorem pre141 {x:DenS I141} {y:DenS O141} (h:T141 x=some y):S141.pre x=true:=sum_pre (T:=T141) h
theorem fun141 {x:DenS I141} {y:DenS O141} (h:T141 x=some y):S141.F x=y:=sum_F (T:=T141) h
theorem pre177 {x:DenS I177} {y:DenS O177} (h:T177 x=some y):S177.pre x=true:=sum_pre (T:=T177) h
theorem fun177 {x:DenS I177} {y:DenS O177} (h:T177 x=some y):S177.F x=y:=sum_F (T:=T177) h
theorem pre143 {x:DenS I143} {y:DenS O143} (h:T143 x=some y):S143.pre x=true:=sum_pre (T:=T143) h
theorem fun143 {x:DenS I143} {y:DenS O143} (h:T143 x=some y):S143.F x=y:=sum_F (T:=T143) h
theorem pre150 {x:DenS I150} {y:DenS O150} (h:T150 x=some y):S150.pre x=true:=sum_pre (T:=T150) h
theorem fun150 {x:DenS I150} {y:DenS O150} (h:T150 x=some y):S150.F x=y:=sum_F (T:=T150) h
theorem pre97 {x:DenS I97} {y:DenS O97} (h:T97 x=some y):S97.pre x=true:=sum_pre (T:=T97) h
theorem fun97 {x:DenS I97} {y:DenS O97} (h:T97 x=some y):S97.F x=y:=sum_F (T:=T97) h
theorem pre43 {x:DenS I43} {y:DenS O43} (h:T43 x=some y):S43.pre x=true:=sum_pre (T:=T43) h
theorem fun43 {x:DenS I43} {y:DenS O43} (h:T43 x=some y):S43.F x=y:=sum_F (T:=T43) h
theorem pre149 {x:DenS I149} {y:DenS O149} (h:T149 x=some y):S149.pre x=true:=sum_pre (T:=T149) h
theorem fun149 {x:DenS I149} {y:DenS O149} (h:T149 x=some y):S149.F x=y:=sum_F (T:=T149) h
theorem pre152 {x:DenS I152} {y:DenS O152} (h:T152 x=some y):S152.pre x=true:=sum_pre (T:=T152) h
theorem fun152 {x:DenS I152} {y:DenS O152} (h:T152 x=some y):S152.F x=y:=sum_F (T:=T152) h
theorem pre107 {x:DenS I107} {y:DenS O107} (h:T107 x=some y):S107.pre x=true:=sum_pre (T:=T107) h
theorem fun107 {x:DenS I107} {y:DenS O107} (h:T107 x=some y):S107.F x=y:=sum_F (T:=T107) h
theorem pre122 {x:DenS I122} {y:DenS O122} (h:T122 x=some y):S122.pre x=true:=sum_pre (T:=T122) h
theorem fun122 {x:DenS I122} {y:DenS O122} (h:T122 x=some y):S122.F x=y:=sum_F (T:=T122) h
theorem pre71 {x:DenS I71} {y:DenS O71} (h:T71 x=some y):S71.pre x=true:=sum_pre (T:=T71) h
theorem fun71 {x:DenS I71} {y:DenS O71} (h:T71 x=some y):S71.F x=y:=sum_F (T:=T71) h
theorem pre27 {x:DenS I27} {y:DenS O27} (h:T27 x=some y):S27.pre x=true:=sum_pre (T:=T27) h
theorem fun27 {x:DenS I27} {y:DenS O27} (h:T27 x=some y):S27.F x=y:=sum_F (T:=T27) h
theorem pre382 {x:DenS I382} {y:DenS O382} (h:T382 x=some y):S382.pre x=true:=sum_pre (T:=T382) h
theorem fun382 {x:DenS I382} {y:DenS O382} (h:T382 x=some y):S382.F x=y:=sum_F (T:=T382) h
theorem pre115 {x:DenS I115} {y:DenS O115} (h:T115 x=some y):S115.pre x=true:=sum_pre (T:=T115) h
theorem fun115 {x:DenS I115} {y:DenS O115} (h:T115 x=some y):S115.F x=y:=sum_F (T:=T115) h
theorem pre64 {x:DenS I64} {y:DenS O64} (h:T64 x=some y):S64.pre x=true:=sum_pre (T:=T64) h
theorem fun64 {x:DenS I64} {y:DenS O64} (h:T64 x=some y):S64.F x=y:=sum_F (T:=T64) h
theorem pre25 {x:DenS I25} {y:DenS O25} (h:T25 x=some y):S25.pre x=true:=sum_pre (T:=T25) h
theorem fun25 {x:DenS I25} {y:DenS O25} (h:T25 x=some y):S25.F x=y:=sum_F (T:=T25) h
theorem pre350 {x:DenS I350} {y:DenS O350} (h:T350 x=some y):S350.pre x=true:=sum_pre (T:=T350) h
theorem fun350 {x:DenS I350} {y:DenS O350} (h:T350 x=some y):S350.F x=y:=sum_F (T:=T350) h
theorem pre351 {x:DenS I351} {y:DenS O351} (h:T351 x=some y):S351.pre x=true:=sum_pre (T:=T351) h
theorem fun351 {x:DenS I351} {y:DenS O351} (h:T351 x=some y):S351.F x=y:=sum_F (T:=T351) h
theorem pre352 {x:DenS I352} {y:DenS O352} (h:T352 x=some y):S352.pre x=true:=sum_pre (T:=T352) h
theorem fun352 {x:DenS I352} {y:DenS O352} (h:T352 x=some y):S352.F x=y:=sum_F (T:=T352) h
theorem pre353 {x:DenS I353} {y:DenS O353} (h:T353 x=some y):S353.pre x=true:=sum_pre (T:=T353) h
theorem fun353 {x:DenS I353} {y:DenS O353} (h:T353 x=some y):S353.F x=y:=sum_F (T:=T353) h
theorem pre315 {x:DenS I315} {y:DenS O315} (h:T315 x=some y):S315.pre x=true:=sum_pre (T:=T315) h
theorem fun315 {x:DenS I315} {y:DenS O315} (h:T315 x=some y):S315.F x=y:=sum_F (T:=T315) h
theorem pre316 {x:DenS I316} {y:DenS O316} (h:T316 x=some y):S316.pre x=true:=sum_pre (T:=T316) h
theorem fun316 {x:DenS I316} {y:DenS O316} (h:T316 x=some y):S316.F x=y:=sum_F (T:=T316) h
theorem pre354 {x:DenS I354} {y:DenS O354} (h:T354 x=some y):S354.pre x=true:=sum_pre (T:=T354) h
theorem fun354 {x:DenS I354} {y:DenS O354} (h:T354 x=some y):S354.F x=y:=sum_F (T:=T354) h
theorem pre376 {x:DenS I376} {y:DenS O376} (h:T376 x=some y):S376.pre x=true:=sum_pre (T:=T376) h
theorem fun376 {x:DenS I376} {y:DenS O376} (h:T376 x=some y):S376.F x=y:=sum_F (T:=T376) h
theorem pre377 {x:DenS I377} {y:DenS O377} (h:T377 x=some y):S377.pre x=true:=sum_pre (T:=T377) h
theorem fun377 {x:DenS I377} {y:DenS O377} (h:T377 x=some y):S377.F x=y:=sum_F (T:=T377) h
theorem pre378 {x:DenS I378} {y:DenS O378} (h:T378 x=some y):S378.pre x=true:=sum_pre (T:=T378) h
theorem fun378 {x:DenS I378} {y:DenS O378} (h:T378 x=some y):S378.F x=y:=sum_F (T:=T378) h
theorem pre40 {x:DenS I40} {y:DenS O40} (h:T40 x=some y):S40.pre x=true:=sum_pre (T:=T40) h
theorem fun40 {x:DenS I40} {y:DenS O40} (h:T40 x=some y):S40.F x=y:=sum_F (T:=T40) h
theorem pre1146 {x:DenS I1146} {y:DenS O1146} (h:T1146 x=some y):S1146.pre x=true:=sum_pre (T:=T1146) h
theorem fun1146 {x:DenS I1146} {y:DenS O1146} (h:T1146 x=some y):S1146.F x=y:=sum_F (T:=T1146) h
theorem pre327 {x:DenS I327} {y:DenS O327} (h:T327 x=some y):S327.pre x=true:=sum_pre (T:=T327) h
theorem fun327 {x:DenS I327} {y:DenS O327} (h:T327 x=some y):S327.F x=y:=sum_F (T:=T327) h
theorem pre328 {x:DenS I328} {y:DenS O328} (h:T328 x=some y):S328.pre x=true:=sum_pre (T:=T328) h
theorem fun328 {x:DenS I328} {y:DenS O328} (h:T328 x=some y):S328.F x=y:=sum_F (T:=T328) h
theorem pre1329 {x:DenS I1329} {y:DenS O1329} (h:T1329 x=some y):S1329.pre x=true:=sum_pre (T:=T1329) h
theorem fun1329 {x:DenS I1329} {y:DenS O1329} (h:T1329 x=some y):S1329.F x=y:=sum_F (T:=T1329) h
theorem pre144 {x:DenS I144} {y:DenS O144} (h:T144 x=some y):S144.pre x=true:=sum_pre (T:=T144) h
theorem fun144 {x:DenS I144} {y:DenS O144} (h:T144 x=some y):S144.F x=y:=sum_F (T:=T144) h
theorem pre330 {x:LK.D K330×DenS I330} {y:LK.B K330×DenS O330} (h:T330 x=some y):S330.pre x=true:=sumL_pre (T:=T330) h
theorem fun330 {x:LK.D K330×DenS I330} {y:LK.B K330×DenS O330} (h:T330 x=some y):S330.F x=y:=sumL_F (T:=T330) h
theorem pre331 {x:LK.D K331×DenS I331} {y:LK.B K331×DenS O331} (h:T331 x=some y):S331.pre x=true:=sumL_pre (T:=T331) h
theorem fun331 {x:LK.D K331×DenS I331} {y:LK.B K331×DenS O331} (h:T331 x=some y):S331.F x=y:=sumL_F (T:=T331) h
theorem pre332 {x:LK.D K332×DenS I332} {y:LK.B K332×DenS O332} (h:T332 x=some y):S332.pre x=true:=sumL_pre (T:=T332) h
theorem fun332 {x:LK.D K332×DenS I332} {y:LK.B K332×DenS O332} (h:T332 x=some y):S332.F x=y:=sumL_F (T:=T332) h
theorem pre333 {x:DenS I333} {y:DenS O333} (h:T333 x=some y):S333.pre x=true:=sum_pre (T:=T333) h
theorem fun333 {x:DenS I333} {y:DenS O333} (h:T333 x=some y):S333.F x=y:=sum_F (T:=T333) h
theorem pre345 {x:DenS I345} {y:DenS O345} (h:T345 x=some y):S345.pre x=true:=sum_pre (T:=T345) h
theorem fun345 {x:DenS I345} {y:DenS O345} (h:T345 x=some y):S345.F x=y:=sum_F (T:=T345) h
theorem pre1174 {x:DenS I1174} {y:DenS O1174} (h:T1174 x=some y):S1174.pre x=true:=sum_pre (T:=T1174) h
theorem fun1174 {x:DenS I1174} {y:DenS O1174} (h:T1174 x=some y):S1174.F x=y:=sum_F (T:=T1174) h
theorem pre145 {x:DenS I145} {y:DenS O145} (h:T145 x=some y):S145.pre x=true:=sum_pre (T:=T145) h
theorem fun145 {x:DenS I145} {y:DenS O145} (h:T145 x=some y):S145.F x=y:=sum_F (T:=T145) h
theorem pre379 {x:DenS I379} {y:DenS O379} (h:T379 x=some y):S379.pre x=true:=sum_pre (T:=T379) h
theorem fun379 {x:DenS I379} {y:DenS O379} (h:T379 x=some y):S379.F x=y:=sum_F (T:=T379) h
theorem pre380 {x:DenS I380} {y:DenS O380} (h:T380 x=some y):S380.pre x=true:=sum_pre (T:=T380) h
theorem fun380 {x:DenS I380} {y:DenS O380} (h:T380 x=some y):S380.F x=y:=sum_F (T:=T380) h
theorem pre381 {x:DenS I381} {y:DenS O381} (h:T381 x=some y):S381.pre x=true:=sum_pre (T:=T381) h
theorem fun381 {x:DenS I381} {y:DenS O381} (h:T381 x=some y):S381.F x=y:=sum_F (T:=T381) h
theorem pre311 {x:DenS I311} {y:DenS O311} (h:T311 x=some y):S311.pre x=true:=sum_pre (T:=T311) h
theorem fun311 {x:DenS I311} {y:DenS O311} (h:T311 x=some y):S311.F x=y:=sum_F (T:=T311) h
theorem pre312 {x:DenS I312} {y:DenS O312} (h:T312 x=some y):S312.pre x=true:=sum_pre (T:=T312) h
theorem fun312 {x:DenS I312} {y:DenS O312} (h:T312 x=some y):S312.F x=y:=sum_F (T:=T312) h
theorem pre313 {x:DenS I313} {y:DenS O313} (h:T313 x=some y):S313.pre x=true:=sum_pre (T:=T313) h
theorem fun313 {x:DenS I313} {y:DenS O313} (h:T313 x=some y):S313.F x=y:=sum_F (T:=T313) h
theorem pre314 {x:DenS I314} {y:DenS O314} (h:T314 x=some y):S314.pre x=true:=sum_pre (T:=T314) h
theorem fun314 {x:DenS I314} {y:DenS O314} (h:T314 x=some y):S314.F x=y:=sum_F (T:=T314) h
theorem pre317 {x:DenS I317} {y:DenS O317} (h:T317 x=some y):S317.pre x=true:=sum_pre (T:=T317) h
theorem fun317 {x:DenS I317} {y:DenS O317} (h:T317 x=some y):S317.F x=y:=sum_F (T:=T317) h
theorem pre318 {x:DenS I318} {y:DenS O318} (h:T318 x=some y):S318.pre x=true:=sum_pre (T:=T318) h
theorem fun318 {x:DenS I318} {y:DenS O318} (h:T318 x=some y):S318.F x=y:=sum_F (T:=T318) h
theorem pre391 {x:DenS I391} {y:DenS O391} (h:T391 x=some y):S391.pre x=true:=sum_pre (T:=T391) h
theorem fun391 {x:DenS I391} {y:DenS O391} (h:T391 x=some y):S391.F x=y:=sum_F (T:=T391) h
theorem pre103 {x:DenS I103} {y:DenS O103} (h:T103 x=some y):S103.pre x=true:=sum_pre (T:=T103) h
theorem fun103 {x:DenS I103} {y:DenS O103} (h:T103 x=some y):S103.F x=y:=sum_F (T:=T103) h
theorem pre100 {x:DenS I100} {y:DenS O100} (h:T100 x=some y):S100.pre x=true:=sum_pre (T:=T100) h
theorem fun100 {x:DenS I100} {y:DenS O100} (h:T100 x=some y):S100.F x=y:=sum_F (T:=T100) h
theorem pre104 {x:DenS I104} {y:DenS O104} (h:T104 x=some y):S104.pre x=true:=sum_pre (T:=T104) h
theorem fun104 {x:DenS I104} {y:DenS O104} (h:T104 x=some y):S104.F x=y:=sum_F (T:=T104) h
theorem pre106 {x:DenS I106} {y:DenS O106} (h:T106 x=some y):S106.pre x=true:=sum_pre (T:=T106) h
theorem fun106 {x:DenS I106} {y:DenS O106} (h:T106 x=some y):S106.F x=y:=sum_F (T:=T106) h
theorem pre51 {x:DenS I51} {y:DenS O51} (h:T51 x=some y):S51.pre x=true:=sum_pre (T:=T51) h
theorem fun51 {x:DenS I51} {y:DenS O51} (h:T51 x=some y):S51.F x=y:=sum_F (T:=T51) h
theorem pre392 {x:DenS I392} {y:DenS O392} (h:T392 x=some y):S392.pre x=true:=sum_pre (T:=T392) h
theorem fun392 {x:DenS I392} {y:DenS O392} (h:T392 x=some y):S392.F x=y:=sum_F (T:=T392) h
theorem pre393 {x:DenS I393} {y:DenS O393} (h:T393 x=some y):S393.pre x=true:=sum_pre (T:=T393) h
theorem fun393 {x:DenS I393} {y:DenS O393} (h:T393 x=some y):S393.F x=y:=sum_F (T:=T393) h
end Vx
namespace Vx
open Go
theorem shrI_u64 {a:Int} (n:Nat) (hn:n≤64):shrI .u64 a (n:Int)=a/2^n:=by
 unfold shrI
 rw [Int.fdiv_eq_ediv_of_nonneg]
 ·congr 2
  simp [IntKind.bits]
  omega
 ·exact Int.pow_nonneg (by omega)
theorem ofInt_u64 {m:Nat} (h:m<2^64):(BitVec.ofInt 64 (m:Int)).toNat=m:=by
 rw [BitVec.toNat_ofInt]
 omega
theorem andI_mask {m n:Nat} (h:m<2^64) (hn:n≤64):andI .u64 (m:Int) ((2^n-1:Nat):Int)=((m%2^n:Nat):Int):=by
 have h2:2^n≤2^64:=Nat.pow_le_pow_right (by omega) hn
 have h3:0<2^n:=Nat.two_pow_pos n
 have hlt:m%2^n<2^n:=Nat.mod_lt _ h3
 have key:(BitVec.ofInt 64 (m:Int) &&& BitVec.ofInt 64 ((2^n-1:Nat):Int)).toNat=m%2^n:=by
  rw [BitVec.toNat_and,ofInt_u64 h,ofInt_u64 (by omega),Nat.and_two_pow_sub_one_eq_mod]
 show IntKind.u64.wrap (((BitVec.ofInt 64 (m:Int) &&& BitVec.ofInt 64 ((2^n-1:Nat):Int)).toNat:Nat):Int)=_
 rw [key]
 exact IntWalk.u64_in _ (by omega)
theorem shlI_one {n:Nat} (hn:n≤63):shlI .u64 1 (n:Int)=((2^n:Nat):Int):=by
 have h2:2^n≤2^63:=Nat.pow_le_pow_right (by omega) hn
 have:(min (n:Int).toNat IntKind.u64.bits)=n:=by simp [IntKind.bits]; omega
 unfold shlI
 rw [this,Int.one_mul]
 have e:(2:Int)^n=((2^n:Nat):Int):=by simp
 rw [e]
 refine IntWalk.u64_in _ ⟨Int.natCast_nonneg _,?_⟩
 have:((2^n:Nat):Int)≤((2^63:Nat):Int):=Int.ofNat_le.2 h2
 exact Int.le_trans this (by decide)
end Vx
namespace VL
open Go Vx
def Fm (f:Int):Prop:=0≤f∧f<4
instance (f:Int):Decidable (Fm f):=by unfold Fm; infer_instance
def fW (f:Int):Nat:=if f=0 then 16 else if f=1 then 16 else if f=2 then 32 else 64
def fP (f:Int):Nat:=if f=0 then 11 else if f=1 then 8 else if f=2 then 24 else 53
def fX (f:Int):Nat:=if f=0 then 15 else if f=1 then 127 else if f=2 then 127 else 1023
def rowOf (f:Int):Den rowsSh:=((fW f:Int),((fP f:Int),((1-(fX f:Int)),((fX f:Int),()))))
theorem Fm_cases {f:Int} (h:Fm f):f=0∨f=1∨f=2∨f=3:=by
 obtain ⟨h1,h2⟩:=h
 omega
theorem row_at {f:Int} (h:Fm f) (d:Den rowsSh):k_rows.getD (Int.toNat f) d=rowOf f:=by
 rcases Fm_cases h with rfl | rfl | rfl | rfl <;> rfl
theorem fP_ge {f:Int} (h:Fm f):8≤fP f:=by
 rcases Fm_cases h with rfl | rfl | rfl | rfl <;> decide
theorem fP_lt {f:Int} (h:Fm f):fP f+5≤fW f:=by
 rcases Fm_cases h with rfl | rfl | rfl | rfl <;> decide
theorem fW_le {f:Int} (h:Fm f):fW f≤64:=by
 rcases Fm_cases h with rfl | rfl | rfl | rfl <;> decide
theorem fX_le {f:Int} (h:Fm f):fX f≤1023:=by
 rcases Fm_cases h with rfl | rfl | rfl | rfl <;> decide
theorem fX_eq {f:Int} (h:Fm f):2*fX f+1=2^(fW f-fP f)-1:=by
 rcases Fm_cases h with rfl | rfl | rfl | rfl <;> decide
theorem wrapI {n:Int} (h:-9223372036854775808≤n∧n<9223372036854775808):IntKind.wrap .i64 n=n:=IntWalk.i64_in n ⟨h.1,by omega⟩
theorem wrapU {n:Int} (h:0≤n∧n<18446744073709551616):IntKind.wrap .u64 n=n:=IntWalk.u64_in n ⟨h.1,by omega⟩
theorem shrN (a n:Nat) (hn:n≤64):shrI .u64 (a:Int) (n:Int)=((a/2^n:Nat):Int):=by
 rw [shrI_u64 n hn]
 simp
theorem wsub (m n:Nat) (h:n≤m) (hm:m≤4611686018427387904):IntKind.wrap .i64 ((m:Int)-(n:Int))=((m-n:Nat):Int):=by
 rw [wrapI (by omega)]
 omega
theorem nbeq (m n:Nat):((m:Int)==(n:Int))=(m==n):=by
 rw [Bool.eq_iff_iff]; simp only [beq_iff_eq]; omega
theorem nbeq0 (m:Nat):((m:Int)==0)=(m==0):=nbeq m 0
theorem nbne (m n:Nat):((m:Int) != (n:Int))=(m != n):=by
 show (!((m:Int)==(n:Int)))=!(m==n)
 rw [nbeq]
theorem nbne0 (m:Nat):((m:Int) != 0)=(m != 0):=nbne m 0
theorem nlt (m n:Nat):(decide ((m:Int)<(n:Int)))=decide (m<n):=by
 rw [Bool.eq_iff_iff]; simp
theorem nnn (m:Nat):(decide (0≤(m:Int)))=true:=by simp
def chk (f:Int) (a:Nat):Int:=if Fm f then (if a<2^fW f then 0 else 4) else 2
def eF (f:Int) (a:Nat):Nat:=a/2^(fP f-1)%2^(fW f-fP f)
def mF (f:Int) (a:Nat):Nat:=a%2^(fP f-1)
def sF (f:Int) (a:Nat):Bool:=a/2^(fW f-1) != 0
def fullF (f:Int):Nat:=2^(fW f-fP f)-1
def absF (f:Int) (a:Nat):Nat:=a%2^(fW f-1)
theorem T69_ok {f:Int} (h:Fm f):T69 (f,())=some (rowOf f,0,()):=by
 rcases Fm_cases h with rfl | rfl | rfl | rfl <;> kernel_rfl
theorem T69_bad {f:Int} (h:¬ Fm f):T69 (f,())=some ((0,0,0,0,()),2,()):=by
 show t69 f=_
 unfold t69
 have:(decide (f<(0:Int))||decide (f≥(4:Int)))=true:=by
  simp only [Fm] at h
  simp only [Bool.or_eq_true,decide_eq_true_eq]
  omega
 rw [this]
 rfl
theorem chk_bad {f:Int} (h:¬ Fm f) (a:Nat):chk f a=2:=by unfold chk; rw [if_neg h]
theorem chk_ok {f:Int} (h:Fm f) {a:Nat} (ha:a<2^fW f):chk f a=0:=by unfold chk; rw [if_pos h,if_pos ha]
theorem chk_big {f:Int} (h:Fm f) {a:Nat} (ha:¬ a<2^fW f):chk f a=4:=by unfold chk; rw [if_pos h,if_neg ha]
theorem chk_zero {f:Int} {a:Nat} (h:chk f a=0):Fm f∧a<2^fW f:=by
 unfold chk at h
 split at h
 ·split at h
  ·exact ⟨by assumption,by assumption⟩
  ·cases h
 ·cases h
theorem div_ne_zero {a n:Nat}:(a/2^n != 0)=decide (2^n≤a):=by
 rw [Bool.eq_iff_iff]
 simp [Nat.div_eq_zero_iff,Nat.two_pow_pos]
theorem T66_eq (f:Int) (a:Nat) (ha:a<2^64):T66 (f,(a:Int),())=some (chk f a,()):=by
 show t66 S69.pre S69.F f a=_
 unfold t66
 by_cases hf:Fm f
 ·simp only [pre69 (T69_ok hf),fun69 (T69_ok hf),cond_true,rowOf,nnn,Bool.true_or]
  rw [shrN _ _ (fW_le hf),nbne0,div_ne_zero]
  show (bif decide ((fW f:Int)<((64:Nat):Int))&&_ then _ else _)=_
  rw [nlt]
  have hw:=fW_le hf
  by_cases h:a<2^fW f
  ·have:(decide (fW f<64)&&decide (2^fW f≤a))=false:=by simp; intro _; exact h
   rw [this,chk_ok hf h]; rfl
  ·have:(decide (fW f<64)&&decide (2^fW f≤a))=true:=by
    simp only [Bool.and_eq_true,decide_eq_true_eq]
    refine ⟨?_,by omega⟩
    rcases Nat.lt_or_ge (fW f) 64 with h1 | h1
    ·exact h1
    ·have:fW f=64:=by omega
     rw [this] at h; omega
   rw [this,chk_big hf h]; rfl
 ·simp only [pre69 (T69_bad hf),fun69 (T69_bad hf),cond_true,chk_bad hf]
  rfl
theorem T91_eq (n:Nat) (hn:n≤63):T91 ((n:Int),())=some (((2^n-1:Nat):Int),()):=by
 show t91 n=_
 unfold t91
 have h2:2^n≤2^63:=Nat.pow_le_pow_right (by omega) hn
 have h1:0<2^n:=Nat.two_pow_pos n
 rw [nnn,cond_true,shlI_one hn]
 generalize 2^n=c at *
 rw [wrapU (by omega)]
 have:(c:Int)-1=((c-1:Nat):Int):=by omega
 rw [this]
theorem T90_eq {f:Int} (hf:Fm f) (a:Nat) (ha:a<2^64):T90 (rowOf f,(a:Int),())=some (sF f a,(eF f a:Int),(mF f a:Int),()):=by
 show t90 S91.pre S91.F (rowOf f) a=_
 unfold t90
 have h1:=fP_ge hf
 have h2:=fP_lt hf
 have h3:=fW_le hf
 have e1:IntKind.wrap .i64 ((rowOf f).1-1)=((fW f-1:Nat):Int):=wsub (fW f) 1 (by omega) (by omega)
 have e2:IntKind.wrap .i64 ((rowOf f).2.1-1)=((fP f-1:Nat):Int):=wsub (fP f) 1 (by omega) (by omega)
 have e3:IntKind.wrap .i64 ((rowOf f).1-(rowOf f).2.1)=((fW f-fP f:Nat):Int):=wsub (fW f) (fP f) (by omega) (by omega)
 have p1:=T91_eq (fW f-fP f) (by omega)
 have p2:=T91_eq (fP f-1) (by omega)
 rw [e1,e2,e3]
 simp only [nnn,cond_true,pre91 p1,pre91 p2,fun91 p1,fun91 p2]
 rw [shrN _ _ (by omega),shrN _ _ (by omega),andI_mask (Nat.lt_of_le_of_lt (Nat.div_le_self _ _) ha) (by omega),andI_mask ha (by omega),nbne0]
 rfl
def cls (f:Int) (a:Nat):Int :=
 bif eF f a==fullF f&&mF f a==0 then (bif sF f a then 2 else 9)
 else bif eF f a==fullF f&&mF f a/2^(fP f-2) != 0 then 1
 else bif eF f a==fullF f then 0
 else bif eF f a==0&&mF f a==0 then (bif sF f a then 5 else 6)
 else bif eF f a==0 then (bif sF f a then 4 else 7)
 else (bif sF f a then 3 else 8)
theorem T65_ok {f:Int} {a:Nat} (ha:a<2^64) (h:chk f a=0):T65 (f,(a:Int),())=some (cls f a,0,()):=by
 obtain ⟨hf,h0⟩:=chk_zero h
 show t65 S66.pre S66.F S90.pre S90.F S91.pre S91.F f a=_
 unfold t65
 have h1:=fP_ge hf
 have h2:=fP_lt hf
 have h3:=fW_le hf
 have e3:IntKind.wrap .i64 ((rowOf f).1-(rowOf f).2.1)=((fW f-fP f:Nat):Int):=wsub (fW f) (fP f) (by omega) (by omega)
 have e4:IntKind.wrap .i64 ((rowOf f).2.1-2)=((fP f-2:Nat):Int):=wsub (fP f) 2 (by omega) (by omega)
 have p0:=T66_eq f a ha
 have p1:=T91_eq (fW f-fP f) (by omega)
 have p2:=T90_eq hf a ha
 have hr:(decide (0≤f)&&decide (f<((4:Nat):Int)))=true:=by
  simp only [Bool.and_eq_true,decide_eq_true_eq]; exact hf
 simp only [row_at hf,e3,e4,hr,pre66 p0,fun66 p0,pre91 p1,fun91 p1,pre90 p2,fun90 p2,h,cond_true,nnn,Bool.true_or,bne_self_eq_false,cond_false]
 rw [shrN _ _ (by omega),nbeq,nbeq0,nbeq0,nbne0]
 unfold cls fullF
 generalize (eF f a==2^(fW f-fP f)-1)=b1
 generalize (mF f a==0)=b2
 generalize (mF f a/2^(fP f-2) != 0)=b3
 generalize (eF f a==0)=b4
 generalize sF f a=b5
 cases b1 <;> cases b2 <;> cases b3 <;> cases b4 <;> cases b5 <;> rfl
theorem T65_bad {f:Int} {a:Nat} (ha:a<2^64) (h:chk f a≠0):T65 (f,(a:Int),())=some (0,chk f a,()):=by
 show t65 S66.pre S66.F S90.pre S90.F S91.pre S91.F f a=_
 unfold t65
 have p0:=T66_eq f a ha
 have:(chk f a != 0)=true:=by simpa using h
 simp only [pre66 p0,fun66 p0,this,cond_true]
theorem T115_ok {f:Int} (hf:Fm f):T115 (f,())=some (((2^(fW f-1):Nat):Int),()):=by
 rcases Fm_cases hf with rfl | rfl | rfl | rfl <;> kernel_rfl
def place (f:Int) (a:Nat):Int:=bif sF f a then -(absF f a:Int) else absF f a
def nan (f:Int) (a:Nat):Bool:=eF f a==fullF f&&mF f a != 0
def snan (f:Int) (a:Nat):Bool:=nan f a&&mF f a/2^(fP f-2)==0
theorem cls_nan (f:Int) (a:Nat):(cls f a==1||cls f a==0)=nan f a:=by
 unfold cls nan
 simp only [bne]
 cases eF f a==fullF f <;> cases mF f a==0 <;> cases sF f a <;> cases eF f a==0 <;> cases mF f a/2^(fP f-2)==0 <;> rfl
theorem cls_snan (f:Int) (a:Nat):(cls f a==0)=snan f a:=by
 unfold cls snan nan
 simp only [bne]
 cases eF f a==fullF f <;> cases hm:mF f a==0 <;> cases sF f a <;> cases eF f a==0 <;> cases mF f a/2^(fP f-2)==0 <;> rfl
end VL
namespace VL
open Go Vx
theorem snan_nan {f:Int} {a:Nat} (h:nan f a=false):snan f a=false:=by
 unfold snan; rw [h]; rfl
end VL
namespace VL
open Go Vx
theorem pow_split {f:Int} (hf:Fm f):2^(fW f-1)=2^(fP f-1)*2^(fW f-fP f):=by
 have h1:=fP_ge hf
 have h2:=fP_lt hf
 rw [← Nat.pow_add]
 congr 1
 omega
theorem abs_eq {f:Int} (hf:Fm f) (a:Nat):absF f a=mF f a+2^(fP f-1)*eF f a:=by
 unfold absF mF eF
 rw [pow_split hf,Nat.mod_mul]
theorem pat_eq {f:Int} {a:Nat} (h:chk f a=0):a=absF f a+(bif sF f a then 2^(fW f-1) else 0):=by
 obtain ⟨hf,h0⟩:=chk_zero h
 have h2:=fP_lt hf
 have e:2^fW f=2*2^(fW f-1):=by rw [← Nat.pow_succ']; congr 1; omega
 unfold absF sF
 rw [div_ne_zero]
 by_cases hc:2^(fW f-1)≤a
 ·rw [decide_eq_true hc]
  simp only [cond_true]
  have:a%2^(fW f-1)=a-2^(fW f-1):=by
   rw [Nat.mod_eq_sub_mod hc,Nat.mod_eq_of_lt (by omega)]
  omega
 ·rw [decide_eq_false hc]
  simp only [cond_false]
  rw [Nat.mod_eq_of_lt (by omega)]
  rfl
theorem abs_lt' {f:Int} (a:Nat):absF f a<2^(fW f-1):=Nat.mod_lt _ (Nat.two_pow_pos _)
theorem full_pos {f:Int} (hf:Fm f):0<fullF f:=by
 rcases Fm_cases hf with rfl | rfl | rfl | rfl <;> decide
def nanF (f:Int):Nat:=2^(fW f-1)-2^(fP f-2)
theorem T70_ok {f:Int} (hf:Fm f):T70 (f,())=some ((nanF f:Int),0,()):=by
 rcases Fm_cases hf with rfl | rfl | rfl | rfl <;> kernel_rfl
end VL
namespace VL
open Go Vx
theorem one_bit (k:Nat):Nat.testBit 1 k=decide (k=0):=by
 rw [Bool.eq_iff_iff]
 simp [Nat.testBit_one_eq_true_iff_self_eq_zero]
theorem xor_pow {m n:Nat} (h:m<2^(n+1)):m ^^^ 2^n=if m<2^n then m+2^n else m-2^n:=by
 apply Nat.eq_of_testBit_eq
 intro i
 rw [Nat.testBit_xor,Nat.testBit_two_pow]
 have h2:2^(n+1)=2*2^n:=Nat.pow_succ'
 split
 ·rename_i hm
  have:m+2^n=2^n*1+m:=by omega
  rw [this,Nat.testBit_two_pow_mul_add _ hm]
  by_cases hi:i<n
  ·have:¬ n=i:=by omega
   simp [hi,this]
  ·rw [if_neg hi,Nat.testBit_lt_two_pow (Nat.lt_of_lt_of_le hm (Nat.pow_le_pow_right (by omega) (by omega)))]
   rw [one_bit]
   by_cases hn:n=i
   ·subst hn; simp
   ·have:¬ i-n=0:=by omega
    simp [hn,this]
 ·rename_i hm
  have e:m=2^n*1+(m-2^n):=by omega
  have hr:m-2^n<2^n:=by omega
  rw [e,Nat.testBit_two_pow_mul_add _ hr]
  have e2:2^n*1+(m-2^n)-2^n=m-2^n:=by omega
  rw [e2]
  by_cases hi:i<n
  ·have:¬ n=i:=by omega
   simp [hi,this]
  ·rw [if_neg hi,Nat.testBit_lt_two_pow (x:=m-2^n) (Nat.lt_of_lt_of_le hr (Nat.pow_le_pow_right (by omega) (by omega))),one_bit]
   by_cases hn:n=i
   ·subst hn; simp
   ·have:¬ i-n=0:=by omega
    simp [hn,this]
theorem xorI_bit {m n:Nat} (hn:n≤63) (h:m<2^(n+1)):xorI .u64 (m:Int) ((2^n:Nat):Int)=((if m<2^n then m+2^n else m-2^n:Nat):Int):=by
 have h1:2^(n+1)≤2^64:=Nat.pow_le_pow_right (by omega) (by omega)
 have h2:2^n<2^64:=Nat.pow_lt_pow_right (by omega) (by omega)
 have h3:2^(n+1)=2*2^n:=Nat.pow_succ'
 have key:(BitVec.ofInt 64 (m:Int) ^^^ BitVec.ofInt 64 ((2^n:Nat):Int)).toNat=if m<2^n then m+2^n else m-2^n:=by
  rw [BitVec.toNat_xor,ofInt_u64 (by omega),ofInt_u64 h2,xor_pow h]
 show IntKind.u64.wrap (((BitVec.ofInt 64 (m:Int) ^^^ BitVec.ofInt 64 ((2^n:Nat):Int)).toNat:Nat):Int)=_
 rw [key]
 refine wrapU ⟨Int.natCast_nonneg _,?_⟩
 split <;> omega
def mkF (f:Int) (s:Bool) (n:Nat):Nat:=n+(bif s then 2^(fW f-1) else 0)
theorem two_half {f:Int} (hf:Fm f):2^fW f=2*2^(fW f-1):=by
 have h2:=fP_lt hf
 rw [← Nat.pow_succ']; congr 1; omega
theorem mk_chk {f:Int} (hf:Fm f) (s:Bool) {n:Nat} (hn:n<2^(fW f-1)):chk f (mkF f s n)=0:=by
 apply chk_ok hf
 rw [two_half hf]
 unfold mkF
 cases s <;> simp <;> omega
theorem mk_abs {f:Int} (s:Bool) {n:Nat} (hn:n<2^(fW f-1)):absF f (mkF f s n)=n:=by
 unfold absF mkF
 cases s
 ·simp only [cond_false,Nat.add_zero]; exact Nat.mod_eq_of_lt hn
 ·simp only [cond_true,Nat.add_mod_right]; exact Nat.mod_eq_of_lt hn
theorem mk_sgn {f:Int} (s:Bool) {n:Nat} (hn:n<2^(fW f-1)):sF f (mkF f s n)=s:=by
 unfold sF mkF
 rw [div_ne_zero]
 cases s
 ·simp only [cond_false,Nat.add_zero,decide_eq_false_iff_not]; omega
 ·simp
theorem pat_mk {f:Int} {a:Nat} (h:chk f a=0):a=mkF f (sF f a) (absF f a):=pat_eq h
theorem pat_lt {f:Int} {a:Nat} (h:chk f a=0):a<2^64:=by
 obtain ⟨hf,h0⟩:=chk_zero h
 exact Nat.lt_of_lt_of_le h0 (Nat.pow_le_pow_right (by omega) (fW_le hf))
theorem eF_abs {f:Int} (hf:Fm f) (a:Nat):eF f a=absF f a/2^(fP f-1):=by
 rw [abs_eq hf,Nat.add_mul_div_left _ _ (Nat.two_pow_pos _)]
 have:mF f a/2^(fP f-1)=0:=Nat.div_eq_of_lt (Nat.mod_lt _ (Nat.two_pow_pos _))
 omega
theorem mF_abs {f:Int} (hf:Fm f) (a:Nat):mF f a=absF f a%2^(fP f-1):=by
 rw [abs_eq hf,Nat.add_mul_mod_self_left]
 exact (Nat.mod_eq_of_lt (Nat.mod_lt _ (Nat.two_pow_pos _))).symm
theorem nan_congr {f:Int} (hf:Fm f) {a b:Nat} (h:absF f a=absF f b):nan f a=nan f b:=by
 unfold nan; rw [eF_abs hf,eF_abs hf b,mF_abs hf,mF_abs hf b,h]
def infF (f:Int):Nat:=2^(fP f-1)*fullF f
theorem inf_room {f:Int} (hf:Fm f):infF f+128≤2^(fW f-1):=by
 rcases Fm_cases hf with rfl | rfl | rfl | rfl <;> decide
theorem e_le {f:Int} (a:Nat):eF f a≤fullF f:=by
 have:eF f a<2^(fW f-fP f):=Nat.mod_lt _ (Nat.two_pow_pos _)
 unfold fullF; omega
theorem inf_iff {f:Int} (hf:Fm f) (a:Nat):absF f a=infF f↔eF f a=fullF f∧mF f a=0:=by
 have hp:=Nat.two_pow_pos (fP f-1)
 constructor
 ·intro h
  rw [eF_abs hf,mF_abs hf,h]
  unfold infF
  exact ⟨Nat.mul_div_cancel_left _ hp,Nat.mul_mod_right _ _⟩
 ·rintro ⟨h1,h2⟩
  rw [abs_eq hf,h1,h2]
  unfold infF; omega
def negF (f:Int) (a:Nat):Nat:=mkF f (!sF f a) (absF f a)
theorem neg_chk {f:Int} (hf:Fm f) (a:Nat):chk f (negF f a)=0:=mk_chk hf _ (abs_lt' a)
theorem neg_abs {f:Int} (a:Nat):absF f (negF f a)=absF f a:=mk_abs _ (abs_lt' a)
theorem neg_sgn {f:Int} (a:Nat):sF f (negF f a)=!sF f a:=mk_sgn _ (abs_lt' a)
theorem T64_ok {f:Int} {a:Nat} (h:chk f a=0):T64 (f,(a:Int),())=some ((negF f a:Int),0,()):=by
 obtain ⟨hf,h0⟩:=chk_zero h
 show t64 S66.pre S66.F S115.pre S115.F f a=_
 unfold t64
 have h2:=fP_lt hf
 have h3:=fW_le hf
 have p0:=T66_eq f a (pat_lt h)
 have p1:=T115_ok hf
 simp only [pre66 p0,fun66 p0,pre115 p1,fun115 p1,h,cond_true,bne_self_eq_false,cond_false]
 rw [xorI_bit (by omega) (by rw [Nat.sub_add_cancel (by omega)]; exact h0)]
 have e:(if a<2^(fW f-1) then a+2^(fW f-1) else a-2^(fW f-1))=negF f a:=by
  have hp:=pat_mk h
  have hl:=abs_lt' (f:=f) a
  unfold negF
  unfold mkF at hp ⊢
  cases hs:sF f a <;> rw [hs] at hp <;> simp only [cond_true,cond_false,Bool.not_true,Bool.not_false] at hp ⊢
  ·rw [if_pos (by omega)]; omega
  ·rw [if_neg (by omega)]; omega
 rw [e]
end VL
namespace VL
open Go Vx
theorem nan_neg {f:Int} (hf:Fm f) (a:Nat):nan f (negF f a)=nan f a:=nan_congr hf (neg_abs a)
end VL
namespace VL
open Go Vx
def nv (B:Nat):List Nat→Nat
 | []=>0
 | x::r=>x+B*nv B r
def trimL:List Nat→List Nat
 | []=>[]
 | x::r=>match trimL r with
  | []=>if x=0 then [] else [x]
  | y::t=>x::y::t
def dg (B:Nat) (n:Nat):List Nat :=
 if h:n=0∨B<2 then [] else n%B::dg B (n/B)
termination_by n
decreasing_by exact Nat.div_lt_self (by omega) (by omega)
theorem dg_zero (B:Nat):dg B 0=[]:=by rw [dg]; simp
theorem dg_pos {B n:Nat} (hB:2≤B) (hn:0<n):dg B n=n%B::dg B (n/B):=by
 rw [dg]; rw [dif_neg (by omega)]
theorem dg_lt {B:Nat} (hB:2≤B):∀ (n:Nat),∀ x∈dg B n,x<B:=by
 intro n
 induction n using Nat.strongRecOn with
 | ind n ih =>
  intro x hx
  rcases Nat.eq_zero_or_pos n with rfl | hn
  ·rw [dg_zero] at hx; simp at hx
  ·rw [dg_pos hB hn] at hx
   rcases List.mem_cons.1 hx with rfl | hx
   ·exact Nat.mod_lt _ (by omega)
   ·exact ih (n/B) (Nat.div_lt_self hn (by omega)) x hx
theorem nv_dg {B:Nat} (hB:2≤B):∀ (n:Nat),nv B (dg B n)=n:=by
 intro n
 induction n using Nat.strongRecOn with
 | ind n ih =>
  rcases Nat.eq_zero_or_pos n with rfl | hn
  ·rw [dg_zero]; rfl
  ·rw [dg_pos hB hn]
   simp only [nv]
   rw [ih (n/B) (Nat.div_lt_self hn (by omega))]
   exact Nat.mod_add_div n B
theorem dg_cons {B x v:Nat} (hB:2≤B) (hx:x<B) (h:0<x+B*v):dg B (x+B*v)=x::dg B v:=by
 rw [dg_pos hB h,Nat.add_mul_mod_self_left,Nat.mod_eq_of_lt hx,Nat.add_mul_div_left _ _ (by omega),Nat.div_eq_of_lt hx,Nat.zero_add]
theorem trim_dg {B:Nat} (hB:2≤B):∀ (l:List Nat),(∀ x∈l,x<B)→trimL l=dg B (nv B l)
 | [],_=>by simp only [nv]; rw [dg_zero]; rfl
 | x::r,h=>by
  have ih:=trim_dg hB r fun y hy=>h y (by simp [hy])
  simp only [trimL,nv]
  rcases Nat.eq_zero_or_pos (nv B r) with h0 | h0
  ·rw [ih,h0,dg_zero,Nat.mul_zero,Nat.add_zero]
   simp only
   rcases Nat.eq_zero_or_pos x with rfl | hx
   ·rw [dg_zero]; rfl
   ·rw [if_neg (by omega)]
    have:=dg_cons (v:=0) hB (h x (by simp)) (by omega)
    rw [Nat.mul_zero,Nat.add_zero,dg_zero] at this
    exact this.symm
  ·have hp:0<B*nv B r:=Nat.mul_pos (by omega) h0
   rw [dg_cons hB (h x (by simp)) (by omega),ih]
   rw [dg_pos hB h0]
theorem trim_len:∀ (l:List Nat),(trimL l).length≤l.length∧trimL l=l.take (trimL l).length
 | []=>⟨Nat.le_refl _,rfl⟩
 | x::r=>by
  obtain ⟨h1,h2⟩:=trim_len r
  simp only [trimL]
  cases e:trimL r with
  | nil =>
   simp only
   split
   ·exact ⟨by simp,rfl⟩
   ·exact ⟨by simp,rfl⟩
  | cons y t =>
   rw [e] at h1 h2
   simp only
   refine ⟨by simp at h1 ⊢; omega,?_⟩
   simp only [List.length_cons,List.take_succ_cons]
   congr 1
theorem trim_out:∀ (l:List Nat) (i:Nat),(trimL l).length≤i→l.getD i 0=0
 | [],i,_=>by simp
 | x::r,i,h=>by
  have ih:=trim_out r
  simp only [trimL] at h
  cases e:trimL r with
  | nil =>
   rw [e] at h ih
   simp only at h
   cases i with
   | zero =>
    split at h
    ·rename_i hx; simp [hx]
    ·simp at h
   | succ i=>simpa using ih i (by simp)
  | cons y t =>
   rw [e] at h ih
   simp only at h
   cases i with
   | zero=>simp at h
   | succ i=>simpa using ih i (by simpa using h)
theorem trim_last:∀ (l:List Nat),0<(trimL l).length→l.getD ((trimL l).length-1) 0≠0
 | [],h=>by simp [trimL] at h
 | x::r,h=>by
  have ih:=trim_last r
  simp only [trimL] at h ⊢
  cases e:trimL r with
  | nil =>
   rw [e] at h
   simp only at h ⊢
   split at h
   ·simp at h
   ·rename_i hx; rw [if_neg hx]; simpa using hx
  | cons y t =>
   rw [e] at ih
   simp only [List.length_cons] at ih ⊢
   have:=ih (by simp)
   simpa using this
def Wd (l:List Nat):List Int:=l.map fun n:Nat=>(n:Int)
theorem Wd_len (l:List Nat):(Wd l).length=l.length:=by simp [Wd]
theorem Wd_getD (l:List Nat) (i:Nat):(Wd l).getD i 0=((l.getD i 0:Nat):Int):=by
 unfold Wd
 rw [List.getD_eq_getElem?_getD,List.getD_eq_getElem?_getD,List.getElem?_map]
 cases l[i]? <;> simp
theorem Wd_take (l:List Nat) (n:Nat):(Wd l).take n=Wd (l.take n):=by simp [Wd,List.map_take]
theorem Wd_drop (l:List Nat) (n:Nat):(Wd l).drop n=Wd (l.drop n):=by simp [Wd,List.map_drop]
theorem Wd_set (l:List Nat) (i n:Nat):(Wd l).set i (n:Int)=Wd (l.set i n):=by simp [Wd,List.map_set]
theorem Wd_rep (n:Nat):List.replicate n (0:Int)=Wd (List.replicate n 0):=by simp [Wd]
end VL
