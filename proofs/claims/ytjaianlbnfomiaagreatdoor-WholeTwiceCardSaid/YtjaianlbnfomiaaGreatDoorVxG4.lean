/- Part 4 of the proof. What is proved: symbolic execution of the functions, proved sound; what each function of the program computes, and that every run ends with it; what these functions compute, in plain numbers. Conditions: each theorem bears its own. -/
import Derived.Test.YtjaianlbnfomiaaGreatDoorVxG3
import Derived.Test.YtjaianlbnfomiaaGreatDoorProg
set_option linter.all false
set_option exponentiation.threshold 1000000
namespace Vx
open Go Go.Proofs
abbrev rowsSh:Shape:=.pair (.int .i64) (.pair (.int .i64) (.pair (.int .i64) (.pair (.int .i64) .unit)))
def k_rows:List (Den rowsSh):=[(16,11,-14,15,()),(16,8,-126,127,()),(32,24,-126,127,()),(64,53,-1022,1023,())]
def k_len8:List UInt8:=[0,1,2,2,3,3,3,3,4,4,4,4,4,4,4,4,5,5,5,5,5,5,5,5,5,5,5,5,5,5,5,5,6,6,6,6,6,6,6,6,6,6,6,6,6,6,6,6,6,6,6,6,6,6,6,6,6,6,6,6,6,6,6,6,7,7,7,7,7,7,7,7,7,7,7,7,7,7,7,7,7,7,7,7,7,7,7,7,7,7,7,7,7,7,7,7,7,7,7,7,7,7,7,7,7,7,7,7,7,7,7,7,7,7,7,7,7,7,7,7,7,7,7,7,7,7,7,7,8,8,8,8,8,8,8,8,8,8,8,8,8,8,8,8,8,8,8,8,8,8,8,8,8,8,8,8,8,8,8,8,8,8,8,8,8,8,8,8,8,8,8,8,8,8,8,8,8,8,8,8,8,8,8,8,8,8,8,8,8,8,8,8,8,8,8,8,8,8,8,8,8,8,8,8,8,8,8,8,8,8,8,8,8,8,8,8,8,8,8,8,8,8,8,8,8,8,8,8,8,8,8,8,8,8,8,8,8,8,8,8,8,8,8,8,8,8,8,8,8,8,8,8,8,8,8,8]
def k_deb:List (Den (.int .u8)):=[0,1,56,2,57,49,28,3,61,58,42,50,38,29,17,4,62,47,59,36,45,43,51,22,53,39,33,30,24,18,12,5,63,55,48,27,60,41,37,16,46,35,44,21,52,32,23,11,54,26,40,15,34,20,31,10,25,14,19,9,13,8,7,6]
def G1:List (Nat×Sigma fun τ=>List (Den τ)):=[(0,⟨rowsSh,k_rows⟩),(1,⟨.int .u8,k_deb⟩)]
theorem mixedOk:Tryz.prog.follows .mixedOrders=true:=by kernel_rfl
abbrev I385:Sig:=[(false,.int .i64)]
abbrev O385:Sig:=[(false,.int .i64)]
noncomputable def t385 (a0:Den (.int .i64)):Option (DenS O385) :=
 some ((IntKind.wrap .i64 (Int.tmod (IntKind.wrap .u64 a0) (4:Int))),())
theorem r385 (a0:Den (.int .i64)) :
  run { P:=Tryz.prog,sums:=[],loops:=[],globs:=G1 } 9 14 Tryz.f14 I385 O385 (a0,())=t385 a0:=by kernel_rfl
noncomputable def T385 (x:DenS I385):Option (DenS O385):=t385 x.1
noncomputable def C385:Cfg:={ P:=Tryz.prog,sums:=[],loops:=[],globs:=G1 }
noncomputable def S385:Sum:=sumOf I385 O385 T385 (DenS.dflt O385)
theorem S385_sound:Sound Tryz.prog G1 14 S385 :=
 fn_sound C385 9 14 Tryz.f14 mixedOk (by kernel_rfl) (by kernel_rfl) (by kernel_rfl) trivial trivial I385 O385 T385 _ (fun x=>r385 x.1)
abbrev I386:Sig:=[(false,.int .i64)]
abbrev O386:Sig:=[(false,.int .i64)]
noncomputable def t386 (a0:Den (.int .i64)):Option (DenS O386) :=
 some ((IntKind.wrap .i64 (Int.tmod (IntKind.wrap .u64 a0) (6:Int))),())
theorem r386 (a0:Den (.int .i64)) :
  run { P:=Tryz.prog,sums:=[],loops:=[],globs:=G1 } 9 15 Tryz.f15 I386 O386 (a0,())=t386 a0:=by kernel_rfl
noncomputable def T386 (x:DenS I386):Option (DenS O386):=t386 x.1
noncomputable def C386:Cfg:={ P:=Tryz.prog,sums:=[],loops:=[],globs:=G1 }
noncomputable def S386:Sum:=sumOf I386 O386 T386 (DenS.dflt O386)
theorem S386_sound:Sound Tryz.prog G1 15 S386 :=
 fn_sound C386 9 15 Tryz.f15 mixedOk (by kernel_rfl) (by kernel_rfl) (by kernel_rfl) trivial trivial I386 O386 T386 _ (fun x=>r386 x.1)
abbrev I387:Sig:=[(false,.int .i64)]
abbrev O387:Sig:=[(false,.int .i64),(false,.int .i64),(false,.int .i64)]
noncomputable def t387 (a0:Den (.int .i64)):Option (DenS O387) :=
 bif (a0==(0:Int)) then
 (some ((16:Int),((11:Int),((-(14:Int)),()))))
 else bif (a0==(1:Int)) then
 (some ((16:Int),((8:Int),((-(126:Int)),()))))
 else bif (a0==(2:Int)) then
 (some ((32:Int),((24:Int),((-(126:Int)),()))))
 else some ((64:Int),((53:Int),((-(1022:Int)),())))
theorem r387 (a0:Den (.int .i64)) :
  run { P:=Tryz.prog,sums:=[],loops:=[],globs:=G1 } 9 16 Tryz.f16 I387 O387 (a0,())=t387 a0:=by kernel_rfl
noncomputable def T387 (x:DenS I387):Option (DenS O387):=t387 x.1
noncomputable def C387:Cfg:={ P:=Tryz.prog,sums:=[],loops:=[],globs:=G1 }
noncomputable def S387:Sum:=sumOf I387 O387 T387 (DenS.dflt O387)
theorem S387_sound:Sound Tryz.prog G1 16 S387 :=
 fn_sound C387 9 16 Tryz.f16 mixedOk (by kernel_rfl) (by kernel_rfl) (by kernel_rfl) trivial trivial I387 O387 T387 _ (fun x=>r387 x.1)
abbrev I388:Sig:=[(false,.int .i64),(false,.int .u64)]
abbrev O388:Sig:=[(false,.int .u64)]
noncomputable def t388 (p387:DenS I387→Bool) (f387:DenS I387→DenS O387) (a0:Den (.int .i64)) (a1:Den (.int .u64)):Option (DenS O388) :=
 bif (p387 (a0,())) then
 (bif ((f387 (a0,())).1==(64:Int)) then
 (some (a1,()))
 else bif (decide ((0:Int)≤(f387 (a0,())).1)) then
 (some ((andI .u64 a1 (IntKind.wrap .u64 ((shlI .u64 (1:Int) (f387 (a0,())).1)-(1:Int)))),()))
 else none)
 else none
theorem r388 (p387:DenS I387→Bool) (f387:DenS I387→DenS O387) (a0:Den (.int .i64)) (a1:Den (.int .u64)) :
  run { P:=Tryz.prog,sums:=[(16,⟨I387,O387,p387,f387⟩)],loops:=[],globs:=G1 } 9 5 Tryz.f5 I388 O388 (a0,a1,())=t388 p387 f387 a0 a1:=by kernel_rfl
noncomputable def T388 (x:DenS I388):Option (DenS O388):=t388 S387.pre S387.F x.1 x.2.1
noncomputable def C388:Cfg:={ P:=Tryz.prog,sums:=[(16,S387)],loops:=[],globs:=G1 }
noncomputable def S388:Sum:=sumOf I388 O388 T388 (DenS.dflt O388)
theorem S388_sound:Sound Tryz.prog G1 5 S388 :=
 fn_sound C388 9 5 Tryz.f5 mixedOk (by kernel_rfl) (by kernel_rfl) (by kernel_rfl) ⟨S387_sound,trivial⟩ trivial I388 O388 T388 _ (fun x=>r388 S387.pre S387.F x.1 x.2.1)
abbrev I389:Sig:=[(true,.pair (.int .i64) (.pair (.int .i64) (.pair (.int .u64) (.pair (.int .u64) (.pair (.int .u64) (.unit))))))]
abbrev O389:Sig:=[(true,.pair (.int .i64) (.pair (.int .i64) (.pair (.int .u64) (.pair (.int .u64) (.pair (.int .u64) (.unit))))))]
noncomputable def t389 (p385:DenS I385→Bool) (f385:DenS I385→DenS O385) (p386:DenS I386→Bool) (f386:DenS I386→DenS O386) (p388:DenS I388→Bool) (f388:DenS I388→DenS O388) (a0:Den (.pair (.int .i64) (.pair (.int .i64) (.pair (.int .u64) (.pair (.int .u64) (.pair (.int .u64) (.unit))))))):Option (DenS O389) :=
 bif (p385 (a0.1,())) then
 (bif (p386 (a0.2.1,())) then
 (bif (p388 ((f385 (a0.1,())).1,(a0.2.2.1,()))) then
 (bif (p388 ((f385 (a0.1,())).1,(a0.2.2.2.1,()))) then
 (bif (p388 ((f385 (a0.1,())).1,a0.2.2.2.2)) then
 (some (((f385 (a0.1,())).1,((f386 (a0.2.1,())).1,((f388 ((f385 (a0.1,())).1,(a0.2.2.1,()))).1,((f388 ((f385 (a0.1,())).1,(a0.2.2.2.1,()))).1,(f388 ((f385 (a0.1,())).1,a0.2.2.2.2)))))),()))
 else none)
 else none)
 else none)
 else none)
 else none
theorem r389 (p385:DenS I385→Bool) (f385:DenS I385→DenS O385) (p386:DenS I386→Bool) (f386:DenS I386→DenS O386) (p388:DenS I388→Bool) (f388:DenS I388→DenS O388) (a0:Den (.pair (.int .i64) (.pair (.int .i64) (.pair (.int .u64) (.pair (.int .u64) (.pair (.int .u64) (.unit))))))) :
  run { P:=Tryz.prog,sums:=[(14,⟨I385,O385,p385,f385⟩),(15,⟨I386,O386,p386,f386⟩),(5,⟨I388,O388,p388,f388⟩)],loops:=[],globs:=G1 } 9 4 Tryz.f4 I389 O389 (a0,())=t389 p385 f385 p386 f386 p388 f388 a0:=by kernel_rfl
noncomputable def T389 (x:DenS I389):Option (DenS O389):=t389 S385.pre S385.F S386.pre S386.F S388.pre S388.F x.1
noncomputable def C389:Cfg:={ P:=Tryz.prog,sums:=[(14,S385),(15,S386),(5,S388)],loops:=[],globs:=G1 }
noncomputable def S389:Sum:=sumOf I389 O389 T389 (DenS.dflt O389)
theorem S389_sound:Sound Tryz.prog G1 4 S389 :=
 fn_sound C389 9 4 Tryz.f4 mixedOk (by kernel_rfl) (by kernel_rfl) (by kernel_rfl) ⟨S385_sound,⟨S386_sound,⟨S388_sound,trivial⟩⟩⟩ trivial I389 O389 T389 _ (fun x=>r389 S385.pre S385.F S386.pre S386.F S388.pre S388.F x.1)
abbrev I390:Sig:=[(false,.int .i64),(false,.int .u64)]
abbrev O390:Sig:=[(false,.int .i64)]
noncomputable def t390 (a0:Den (.int .i64)) (a1:Den (.int .u64)):Option (DenS O390) :=
 bif ((a0==(0:Int))&&((Int.tmod a1 (2:Int))==(0:Int))) then
 (some ((2:Int),()))
 else some ((3:Int),())
theorem r390 (a0:Den (.int .i64)) (a1:Den (.int .u64)) :
  run { P:=Tryz.prog,sums:=[],loops:=[],globs:=G1 } 9 6 Tryz.f6 I390 O390 (a0,a1,())=t390 a0 a1:=by kernel_rfl
noncomputable def T390 (x:DenS I390):Option (DenS O390):=t390 x.1 x.2.1
noncomputable def C390:Cfg:={ P:=Tryz.prog,sums:=[],loops:=[],globs:=G1 }
noncomputable def S390:Sum:=sumOf I390 O390 T390 (DenS.dflt O390)
theorem S390_sound:Sound Tryz.prog G1 6 S390 :=
 fn_sound C390 9 6 Tryz.f6 mixedOk (by kernel_rfl) (by kernel_rfl) (by kernel_rfl) trivial trivial I390 O390 T390 _ (fun x=>r390 x.1 x.2.1)
abbrev I69:Sig:=[(false,.int .i64)]
abbrev O69:Sig:=[(true,.pair (.int .i64) (.pair (.int .i64) (.pair (.int .i64) (.pair (.int .i64) (.unit))))),(false,.int .i64)]
noncomputable def t69 (a0:Den (.int .i64)):Option (DenS O69) :=
 bif ((decide (a0<(0:Int)))||(decide (a0≥(4:Int)))) then
 (some (((0:Int),((0:Int),((0:Int),((0:Int),())))),((2:Int),())))
 else bif ((decide ((0:Int)≤a0))&&(decide (a0<((4:Nat):Int)))) then
 (some ((Vx.k_rows.getD (Int.toNat a0) ((0:Int),((0:Int),((0:Int),((0:Int),()))))),((0:Int),())))
 else none
theorem r69 (a0:Den (.int .i64)) :
  run { P:=Tryz.prog,sums:=[],loops:=[],globs:=G1 } 9 19 Tryz.f19 I69 O69 (a0,())=t69 a0:=by kernel_rfl
noncomputable def T69 (x:DenS I69):Option (DenS O69):=t69 x.1
noncomputable def C69:Cfg:={ P:=Tryz.prog,sums:=[],loops:=[],globs:=G1 }
noncomputable def S69:Sum:=sumOf I69 O69 T69 (DenS.dflt O69)
theorem S69_sound:Sound Tryz.prog G1 19 S69 :=
 fn_sound C69 9 19 Tryz.f19 mixedOk (by kernel_rfl) (by kernel_rfl) (by kernel_rfl) trivial trivial I69 O69 T69 _ (fun x=>r69 x.1)
abbrev I66:Sig:=[(false,.int .i64),(false,.int .u64)]
abbrev O66:Sig:=[(false,.int .i64)]
noncomputable def t66 (p69:DenS I69→Bool) (f69:DenS I69→DenS O69) (a0:Den (.int .i64)) (a1:Den (.int .u64)):Option (DenS O66) :=
 bif (p69 (a0,())) then
 (bif ((f69 (a0,())).2.1 != (0:Int)) then
 (some (f69 (a0,())).2)
 else bif ((decide ((0:Int)≤(f69 (a0,())).1.1))||(!(decide ((f69 (a0,())).1.1<(64:Int))))) then
 (bif ((decide ((f69 (a0,())).1.1<(64:Int)))&&((shrI .u64 a1 (f69 (a0,())).1.1) != (0:Int))) then
 (some ((4:Int),()))
 else some ((0:Int),()))
 else none)
 else none
theorem r66 (p69:DenS I69→Bool) (f69:DenS I69→DenS O69) (a0:Den (.int .i64)) (a1:Den (.int .u64)) :
  run { P:=Tryz.prog,sums:=[(19,⟨I69,O69,p69,f69⟩)],loops:=[],globs:=G1 } 9 24 Tryz.f24 I66 O66 (a0,a1,())=t66 p69 f69 a0 a1:=by kernel_rfl
noncomputable def T66 (x:DenS I66):Option (DenS O66):=t66 S69.pre S69.F x.1 x.2.1
noncomputable def C66:Cfg:={ P:=Tryz.prog,sums:=[(19,S69)],loops:=[],globs:=G1 }
noncomputable def S66:Sum:=sumOf I66 O66 T66 (DenS.dflt O66)
theorem S66_sound:Sound Tryz.prog G1 24 S66 :=
 fn_sound C66 9 24 Tryz.f24 mixedOk (by kernel_rfl) (by kernel_rfl) (by kernel_rfl) ⟨S69_sound,trivial⟩ trivial I66 O66 T66 _ (fun x=>r66 S69.pre S69.F x.1 x.2.1)
abbrev I91:Sig:=[(false,.int .i64)]
abbrev O91:Sig:=[(false,.int .u64)]
noncomputable def t91 (a0:Den (.int .i64)):Option (DenS O91) :=
 bif (decide ((0:Int)≤a0)) then
 (some ((IntKind.wrap .u64 ((shlI .u64 (1:Int) a0)-(1:Int))),()))
 else none
theorem r91 (a0:Den (.int .i64)) :
  run { P:=Tryz.prog,sums:=[],loops:=[],globs:=G1 } 9 48 Tryz.f48 I91 O91 (a0,())=t91 a0:=by kernel_rfl
noncomputable def T91 (x:DenS I91):Option (DenS O91):=t91 x.1
noncomputable def C91:Cfg:={ P:=Tryz.prog,sums:=[],loops:=[],globs:=G1 }
noncomputable def S91:Sum:=sumOf I91 O91 T91 (DenS.dflt O91)
theorem S91_sound:Sound Tryz.prog G1 48 S91 :=
 fn_sound C91 9 48 Tryz.f48 mixedOk (by kernel_rfl) (by kernel_rfl) (by kernel_rfl) trivial trivial I91 O91 T91 _ (fun x=>r91 x.1)
abbrev I90:Sig:=[(true,.pair (.int .i64) (.pair (.int .i64) (.pair (.int .i64) (.pair (.int .i64) (.unit))))),(false,.int .u64)]
abbrev O90:Sig:=[(false,.bool),(false,.int .u64),(false,.int .u64)]
noncomputable def t90 (p91:DenS I91→Bool) (f91:DenS I91→DenS O91) (a0:Den (.pair (.int .i64) (.pair (.int .i64) (.pair (.int .i64) (.pair (.int .i64) (.unit)))))) (a1:Den (.int .u64)):Option (DenS O90) :=
 bif (decide ((0:Int)≤(IntKind.wrap .i64 (a0.1-(1:Int))))) then
 (bif (decide ((0:Int)≤(IntKind.wrap .i64 (a0.2.1-(1:Int))))) then
 (bif (p91 ((IntKind.wrap .i64 (a0.1-a0.2.1)),())) then
 (bif (p91 ((IntKind.wrap .i64 (a0.2.1-(1:Int))),())) then
 (some (((shrI .u64 a1 (IntKind.wrap .i64 (a0.1-(1:Int)))) != (0:Int)),((andI .u64 (shrI .u64 a1 (IntKind.wrap .i64 (a0.2.1-(1:Int)))) (f91 ((IntKind.wrap .i64 (a0.1-a0.2.1)),())).1),((andI .u64 a1 (f91 ((IntKind.wrap .i64 (a0.2.1-(1:Int))),())).1),()))))
 else none)
 else none)
 else none)
 else none
theorem r90 (p91:DenS I91→Bool) (f91:DenS I91→DenS O91) (a0:Den (.pair (.int .i64) (.pair (.int .i64) (.pair (.int .i64) (.pair (.int .i64) (.unit)))))) (a1:Den (.int .u64)) :
  run { P:=Tryz.prog,sums:=[(48,⟨I91,O91,p91,f91⟩)],loops:=[],globs:=G1 } 9 47 Tryz.f47 I90 O90 (a0,a1,())=t90 p91 f91 a0 a1:=by kernel_rfl
noncomputable def T90 (x:DenS I90):Option (DenS O90):=t90 S91.pre S91.F x.1 x.2.1
noncomputable def C90:Cfg:={ P:=Tryz.prog,sums:=[(48,S91)],loops:=[],globs:=G1 }
noncomputable def S90:Sum:=sumOf I90 O90 T90 (DenS.dflt O90)
theorem S90_sound:Sound Tryz.prog G1 47 S90 :=
 fn_sound C90 9 47 Tryz.f47 mixedOk (by kernel_rfl) (by kernel_rfl) (by kernel_rfl) ⟨S91_sound,trivial⟩ trivial I90 O90 T90 _ (fun x=>r90 S91.pre S91.F x.1 x.2.1)
abbrev I65:Sig:=[(false,.int .i64),(false,.int .u64)]
abbrev O65:Sig:=[(false,.int .i64),(false,.int .i64)]
noncomputable def t65 (p66:DenS I66→Bool) (f66:DenS I66→DenS O66) (p90:DenS I90→Bool) (f90:DenS I90→DenS O90) (p91:DenS I91→Bool) (f91:DenS I91→DenS O91) (a0:Den (.int .i64)) (a1:Den (.int .u64)):Option (DenS O65) :=
 bif (p66 (a0,(a1,()))) then
 (bif ((f66 (a0,(a1,()))).1 != (0:Int)) then
 (some ((0:Int),(f66 (a0,(a1,())))))
 else bif ((decide ((0:Int)≤a0))&&(decide (a0<((4:Nat):Int)))) then
 (bif (p90 ((Vx.k_rows.getD (Int.toNat a0) ((0:Int),((0:Int),((0:Int),((0:Int),()))))),(a1,()))) then
 (bif (p91 ((IntKind.wrap .i64 ((Vx.k_rows.getD (Int.toNat a0) ((0:Int),((0:Int),((0:Int),((0:Int),()))))).1-(Vx.k_rows.getD (Int.toNat a0) ((0:Int),((0:Int),((0:Int),((0:Int),()))))).2.1)),())) then
 (bif (((f90 ((Vx.k_rows.getD (Int.toNat a0) ((0:Int),((0:Int),((0:Int),((0:Int),()))))),(a1,()))).2.1==(f91 ((IntKind.wrap .i64 ((Vx.k_rows.getD (Int.toNat a0) ((0:Int),((0:Int),((0:Int),((0:Int),()))))).1-(Vx.k_rows.getD (Int.toNat a0) ((0:Int),((0:Int),((0:Int),((0:Int),()))))).2.1)),())).1)&&((f90 ((Vx.k_rows.getD (Int.toNat a0) ((0:Int),((0:Int),((0:Int),((0:Int),()))))),(a1,()))).2.2.1==(0:Int))) then
 (bif (f90 ((Vx.k_rows.getD (Int.toNat a0) ((0:Int),((0:Int),((0:Int),((0:Int),()))))),(a1,()))).1 then
 (some ((IntKind.wrap .i64 ((11:Int)-(9:Int))),((0:Int),())))
 else some ((9:Int),((0:Int),())))
 else bif (p91 ((IntKind.wrap .i64 ((Vx.k_rows.getD (Int.toNat a0) ((0:Int),((0:Int),((0:Int),((0:Int),()))))).1-(Vx.k_rows.getD (Int.toNat a0) ((0:Int),((0:Int),((0:Int),((0:Int),()))))).2.1)),())) then
 (bif ((decide ((0:Int)≤(IntKind.wrap .i64 ((Vx.k_rows.getD (Int.toNat a0) ((0:Int),((0:Int),((0:Int),((0:Int),()))))).2.1-(2:Int)))))||(!(decide ((f90 ((Vx.k_rows.getD (Int.toNat a0) ((0:Int),((0:Int),((0:Int),((0:Int),()))))),(a1,()))).2.1=(f91 ((IntKind.wrap .i64 ((Vx.k_rows.getD (Int.toNat a0) ((0:Int),((0:Int),((0:Int),((0:Int),()))))).1-(Vx.k_rows.getD (Int.toNat a0) ((0:Int),((0:Int),((0:Int),((0:Int),()))))).2.1)),())).1)))) then
 (bif (((f90 ((Vx.k_rows.getD (Int.toNat a0) ((0:Int),((0:Int),((0:Int),((0:Int),()))))),(a1,()))).2.1==(f91 ((IntKind.wrap .i64 ((Vx.k_rows.getD (Int.toNat a0) ((0:Int),((0:Int),((0:Int),((0:Int),()))))).1-(Vx.k_rows.getD (Int.toNat a0) ((0:Int),((0:Int),((0:Int),((0:Int),()))))).2.1)),())).1)&&((shrI .u64 (f90 ((Vx.k_rows.getD (Int.toNat a0) ((0:Int),((0:Int),((0:Int),((0:Int),()))))),(a1,()))).2.2.1 (IntKind.wrap .i64 ((Vx.k_rows.getD (Int.toNat a0) ((0:Int),((0:Int),((0:Int),((0:Int),()))))).2.1-(2:Int)))) != (0:Int))) then
 (some ((1:Int),((0:Int),())))
 else bif (p91 ((IntKind.wrap .i64 ((Vx.k_rows.getD (Int.toNat a0) ((0:Int),((0:Int),((0:Int),((0:Int),()))))).1-(Vx.k_rows.getD (Int.toNat a0) ((0:Int),((0:Int),((0:Int),((0:Int),()))))).2.1)),())) then
 (bif ((f90 ((Vx.k_rows.getD (Int.toNat a0) ((0:Int),((0:Int),((0:Int),((0:Int),()))))),(a1,()))).2.1==(f91 ((IntKind.wrap .i64 ((Vx.k_rows.getD (Int.toNat a0) ((0:Int),((0:Int),((0:Int),((0:Int),()))))).1-(Vx.k_rows.getD (Int.toNat a0) ((0:Int),((0:Int),((0:Int),((0:Int),()))))).2.1)),())).1) then
 (some ((0:Int),((0:Int),())))
 else bif (((f90 ((Vx.k_rows.getD (Int.toNat a0) ((0:Int),((0:Int),((0:Int),((0:Int),()))))),(a1,()))).2.1==(0:Int))&&((f90 ((Vx.k_rows.getD (Int.toNat a0) ((0:Int),((0:Int),((0:Int),((0:Int),()))))),(a1,()))).2.2.1==(0:Int))) then
 (bif (f90 ((Vx.k_rows.getD (Int.toNat a0) ((0:Int),((0:Int),((0:Int),((0:Int),()))))),(a1,()))).1 then
 (some ((IntKind.wrap .i64 ((11:Int)-(6:Int))),((0:Int),())))
 else some ((6:Int),((0:Int),())))
 else bif ((f90 ((Vx.k_rows.getD (Int.toNat a0) ((0:Int),((0:Int),((0:Int),((0:Int),()))))),(a1,()))).2.1==(0:Int)) then
 (bif (f90 ((Vx.k_rows.getD (Int.toNat a0) ((0:Int),((0:Int),((0:Int),((0:Int),()))))),(a1,()))).1 then
 (some ((IntKind.wrap .i64 ((11:Int)-(7:Int))),((0:Int),())))
 else some ((7:Int),((0:Int),())))
 else bif (f90 ((Vx.k_rows.getD (Int.toNat a0) ((0:Int),((0:Int),((0:Int),((0:Int),()))))),(a1,()))).1 then
 (some ((IntKind.wrap .i64 ((11:Int)-(8:Int))),((0:Int),())))
 else some ((8:Int),((0:Int),())))
 else none)
 else none)
 else none)
 else none)
 else none)
 else none)
 else none
theorem r65 (p66:DenS I66→Bool) (f66:DenS I66→DenS O66) (p90:DenS I90→Bool) (f90:DenS I90→DenS O90) (p91:DenS I91→Bool) (f91:DenS I91→DenS O91) (a0:Den (.int .i64)) (a1:Den (.int .u64)) :
  run { P:=Tryz.prog,sums:=[(24,⟨I66,O66,p66,f66⟩),(47,⟨I90,O90,p90,f90⟩),(48,⟨I91,O91,p91,f91⟩)],loops:=[],globs:=G1 } 9 20 Tryz.f20 I65 O65 (a0,a1,())=t65 p66 f66 p90 f90 p91 f91 a0 a1:=by kernel_rfl
noncomputable def T65 (x:DenS I65):Option (DenS O65):=t65 S66.pre S66.F S90.pre S90.F S91.pre S91.F x.1 x.2.1
noncomputable def C65:Cfg:={ P:=Tryz.prog,sums:=[(24,S66),(47,S90),(48,S91)],loops:=[],globs:=G1 }
noncomputable def S65:Sum:=sumOf I65 O65 T65 (DenS.dflt O65)
theorem S65_sound:Sound Tryz.prog G1 20 S65 :=
 fn_sound C65 9 20 Tryz.f20 mixedOk (by kernel_rfl) (by kernel_rfl) (by kernel_rfl) ⟨S66_sound,⟨S90_sound,⟨S91_sound,trivial⟩⟩⟩ trivial I65 O65 T65 _ (fun x=>r65 S66.pre S66.F S90.pre S90.F S91.pre S91.F x.1 x.2.1)
abbrev I116:Sig:=[(true,.pair (.int .i64) (.pair (.int .i64) (.pair (.int .i64) (.pair (.int .i64) (.unit)))))]
abbrev O116:Sig:=[(false,.int .u64)]
noncomputable def t116 (a0:Den (.pair (.int .i64) (.pair (.int .i64) (.pair (.int .i64) (.pair (.int .i64) (.unit)))))):Option (DenS O116) :=
 some ((0:Int),())
theorem r116 (a0:Den (.pair (.int .i64) (.pair (.int .i64) (.pair (.int .i64) (.pair (.int .i64) (.unit)))))) :
  run { P:=Tryz.prog,sums:=[],loops:=[],globs:=G1 } 9 50 Tryz.f50 I116 O116 (a0,())=t116 a0:=by kernel_rfl
noncomputable def T116 (x:DenS I116):Option (DenS O116):=t116 x.1
noncomputable def C116:Cfg:={ P:=Tryz.prog,sums:=[],loops:=[],globs:=G1 }
noncomputable def S116:Sum:=sumOf I116 O116 T116 (DenS.dflt O116)
theorem S116_sound:Sound Tryz.prog G1 50 S116 :=
 fn_sound C116 9 50 Tryz.f50 mixedOk (by kernel_rfl) (by kernel_rfl) (by kernel_rfl) trivial trivial I116 O116 T116 _ (fun x=>r116 x.1)
abbrev I117:Sig:=[(true,.pair (.int .i64) (.pair (.int .i64) (.pair (.int .i64) (.pair (.int .i64) (.unit)))))]
abbrev O117:Sig:=[(false,.int .u64)]
noncomputable def t117 (a0:Den (.pair (.int .i64) (.pair (.int .i64) (.pair (.int .i64) (.pair (.int .i64) (.unit)))))):Option (DenS O117) :=
 bif (decide ((0:Int)≤(IntKind.wrap .i64 (a0.2.1-(2:Int))))) then
 (some ((shlI .u64 (1:Int) (IntKind.wrap .i64 (a0.2.1-(2:Int)))),()))
 else none
theorem r117 (a0:Den (.pair (.int .i64) (.pair (.int .i64) (.pair (.int .i64) (.pair (.int .i64) (.unit)))))) :
  run { P:=Tryz.prog,sums:=[],loops:=[],globs:=G1 } 9 51 Tryz.f51 I117 O117 (a0,())=t117 a0:=by kernel_rfl
noncomputable def T117 (x:DenS I117):Option (DenS O117):=t117 x.1
noncomputable def C117:Cfg:={ P:=Tryz.prog,sums:=[],loops:=[],globs:=G1 }
noncomputable def S117:Sum:=sumOf I117 O117 T117 (DenS.dflt O117)
theorem S117_sound:Sound Tryz.prog G1 51 S117 :=
 fn_sound C117 9 51 Tryz.f51 mixedOk (by kernel_rfl) (by kernel_rfl) (by kernel_rfl) trivial trivial I117 O117 T117 _ (fun x=>r117 x.1)
abbrev I140:Sig:=[(true,.pair (.int .i64) (.pair (.int .i64) (.pair (.int .i64) (.pair (.int .i64) (.unit))))),(false,.bool),(false,.int .u64),(false,.int .u64)]
abbrev O140:Sig:=[(false,.int .u64)]
noncomputable def t140 (a0:Den (.pair (.int .i64) (.pair (.int .i64) (.pair (.int .i64) (.pair (.int .i64) (.unit)))))) (a1:Den (.bool)) (a2:Den (.int .u64)) (a3:Den (.int .u64)):Option (DenS O140) :=
 bif (decide ((0:Int)≤(IntKind.wrap .i64 (a0.2.1-(1:Int))))) then
 (bif a1 then
 (bif (decide ((0:Int)≤(IntKind.wrap .i64 (a0.1-(1:Int))))) then
 (some ((orI .u64 (orI .u64 (shlI .u64 a2 (IntKind.wrap .i64 (a0.2.1-(1:Int)))) a3) (shlI .u64 (1:Int) (IntKind.wrap .i64 (a0.1-(1:Int))))),()))
 else none)
 else some ((orI .u64 (shlI .u64 a2 (IntKind.wrap .i64 (a0.2.1-(1:Int)))) a3),()))
 else none
theorem r140 (a0:Den (.pair (.int .i64) (.pair (.int .i64) (.pair (.int .i64) (.pair (.int .i64) (.unit)))))) (a1:Den (.bool)) (a2:Den (.int .u64)) (a3:Den (.int .u64)) :
  run { P:=Tryz.prog,sums:=[],loops:=[],globs:=G1 } 9 68 Tryz.f68 I140 O140 (a0,a1,a2,a3,())=t140 a0 a1 a2 a3:=by kernel_rfl
noncomputable def T140 (x:DenS I140):Option (DenS O140):=t140 x.1 x.2.1 x.2.2.1 x.2.2.2.1
noncomputable def C140:Cfg:={ P:=Tryz.prog,sums:=[],loops:=[],globs:=G1 }
noncomputable def S140:Sum:=sumOf I140 O140 T140 (DenS.dflt O140)
theorem S140_sound:Sound Tryz.prog G1 68 S140 :=
 fn_sound C140 9 68 Tryz.f68 mixedOk (by kernel_rfl) (by kernel_rfl) (by kernel_rfl) trivial trivial I140 O140 T140 _ (fun x=>r140 x.1 x.2.1 x.2.2.1 x.2.2.2.1)
abbrev I70:Sig:=[(false,.int .i64)]
abbrev O70:Sig:=[(false,.int .u64),(false,.int .i64)]
noncomputable def t70 (p116:DenS I116→Bool) (f116:DenS I116→DenS O116) (p117:DenS I117→Bool) (f117:DenS I117→DenS O117) (p69:DenS I69→Bool) (f69:DenS I69→DenS O69) (p91:DenS I91→Bool) (f91:DenS I91→DenS O91) (p140:DenS I140→Bool) (f140:DenS I140→DenS O140) (a0:Den (.int .i64)):Option (DenS O70) :=
 bif (p69 (a0,())) then
 (bif ((f69 (a0,())).2.1 != (0:Int)) then
 (some ((0:Int),(f69 (a0,())).2))
 else bif (p91 ((IntKind.wrap .i64 ((f69 (a0,())).1.1-(f69 (a0,())).1.2.1)),())) then
 (bif (p116 ((f69 (a0,())).1,())) then
 (bif (p117 ((f69 (a0,())).1,())) then
 (bif (p140 ((f69 (a0,())).1,(false,((IntKind.wrap .u64 ((f91 ((IntKind.wrap .i64 ((f69 (a0,())).1.1-(f69 (a0,())).1.2.1)),())).1-(f116 ((f69 (a0,())).1,())).1)),(f117 ((f69 (a0,())).1,())))))) then
 (some ((f140 ((f69 (a0,())).1,(false,((IntKind.wrap .u64 ((f91 ((IntKind.wrap .i64 ((f69 (a0,())).1.1-(f69 (a0,())).1.2.1)),())).1-(f116 ((f69 (a0,())).1,())).1)),(f117 ((f69 (a0,())).1,())))))).1,((0:Int),())))
 else none)
 else none)
 else none)
 else none)
 else none
theorem r70 (p116:DenS I116→Bool) (f116:DenS I116→DenS O116) (p117:DenS I117→Bool) (f117:DenS I117→DenS O117) (p69:DenS I69→Bool) (f69:DenS I69→DenS O69) (p91:DenS I91→Bool) (f91:DenS I91→DenS O91) (p140:DenS I140→Bool) (f140:DenS I140→DenS O140) (a0:Den (.int .i64)) :
  run { P:=Tryz.prog,sums:=[(50,⟨I116,O116,p116,f116⟩),(51,⟨I117,O117,p117,f117⟩),(19,⟨I69,O69,p69,f69⟩),(48,⟨I91,O91,p91,f91⟩),(68,⟨I140,O140,p140,f140⟩)],loops:=[],globs:=G1 } 9 21 Tryz.f21 I70 O70 (a0,())=t70 p116 f116 p117 f117 p69 f69 p91 f91 p140 f140 a0:=by kernel_rfl
noncomputable def T70 (x:DenS I70):Option (DenS O70):=t70 S116.pre S116.F S117.pre S117.F S69.pre S69.F S91.pre S91.F S140.pre S140.F x.1
noncomputable def C70:Cfg:={ P:=Tryz.prog,sums:=[(50,S116),(51,S117),(19,S69),(48,S91),(68,S140)],loops:=[],globs:=G1 }
noncomputable def S70:Sum:=sumOf I70 O70 T70 (DenS.dflt O70)
theorem S70_sound:Sound Tryz.prog G1 21 S70 :=
 fn_sound C70 9 21 Tryz.f21 mixedOk (by kernel_rfl) (by kernel_rfl) (by kernel_rfl) ⟨S116_sound,⟨S117_sound,⟨S69_sound,⟨S91_sound,⟨S140_sound,trivial⟩⟩⟩⟩⟩ trivial I70 O70 T70 _ (fun x=>r70 S116.pre S116.F S117.pre S117.F S69.pre S69.F S91.pre S91.F S140.pre S140.F x.1)
abbrev I98:Sig:=[(false,.int .i64),(false,.int .u64)]
abbrev O98:Sig:=[(false,.bool),(false,.int .u64),(false,.int .u64),(false,.int .i64)]
noncomputable def t98 (p66:DenS I66→Bool) (f66:DenS I66→DenS O66) (p90:DenS I90→Bool) (f90:DenS I90→DenS O90) (a0:Den (.int .i64)) (a1:Den (.int .u64)):Option (DenS O98) :=
 bif (p66 (a0,(a1,()))) then
 (bif ((f66 (a0,(a1,()))).1 != (0:Int)) then
 (some (false,((0:Int),((0:Int),(f66 (a0,(a1,())))))))
 else bif (bif (decide ((0:Int)≤a0)) then (decide (a0<((4:Nat):Int))) else false) then
 (bif (p90 ((Vx.k_rows.getD (Int.toNat a0) ((0:Int),((0:Int),((0:Int),((0:Int),()))))),(a1,()))) then
 (some ((f90 ((Vx.k_rows.getD (Int.toNat a0) ((0:Int),((0:Int),((0:Int),((0:Int),()))))),(a1,()))).1,((f90 ((Vx.k_rows.getD (Int.toNat a0) ((0:Int),((0:Int),((0:Int),((0:Int),()))))),(a1,()))).2.1,((f90 ((Vx.k_rows.getD (Int.toNat a0) ((0:Int),((0:Int),((0:Int),((0:Int),()))))),(a1,()))).2.2.1,((0:Int),())))))
 else none)
 else none)
 else none
theorem r98 (p66:DenS I66→Bool) (f66:DenS I66→DenS O66) (p90:DenS I90→Bool) (f90:DenS I90→DenS O90) (a0:Den (.int .i64)) (a1:Den (.int .u64)) :
  run { P:=Tryz.prog,sums:=[(24,⟨I66,O66,p66,f66⟩),(47,⟨I90,O90,p90,f90⟩)],loops:=[],globs:=G1 } 9 45 Tryz.f45 I98 O98 (a0,a1,())=t98 p66 f66 p90 f90 a0 a1:=by kernel_rfl
noncomputable def T98 (x:DenS I98):Option (DenS O98):=t98 S66.pre S66.F S90.pre S90.F x.1 x.2.1
noncomputable def C98:Cfg:={ P:=Tryz.prog,sums:=[(24,S66),(47,S90)],loops:=[],globs:=G1 }
noncomputable def S98:Sum:=sumOf I98 O98 T98 (DenS.dflt O98)
theorem S98_sound:Sound Tryz.prog G1 45 S98 :=
 fn_sound C98 9 45 Tryz.f45 mixedOk (by kernel_rfl) (by kernel_rfl) (by kernel_rfl) ⟨S66_sound,⟨S90_sound,trivial⟩⟩ trivial I98 O98 T98 _ (fun x=>r98 S66.pre S66.F S90.pre S90.F x.1 x.2.1)
abbrev I72:Sig:=[(false,.int .i64),(true,.pair (.int .i64) (.pair (.int .i64) (.pair (.int .i64) (.pair (.int .i64) (.unit))))),(false,.int .u64)]
abbrev O72:Sig:=[(true,.pair (.bool) (.pair (.int .u64) (.pair (.int .i64) (.unit))))]
noncomputable def t72 (p98:DenS I98→Bool) (f98:DenS I98→DenS O98) (a0:Den (.int .i64)) (a1:Den (.pair (.int .i64) (.pair (.int .i64) (.pair (.int .i64) (.pair (.int .i64) (.unit)))))) (a2:Den (.int .u64)):Option (DenS O72) :=
 bif (p98 (a0,(a2,()))) then
 (bif (decide ((f98 (a0,(a2,()))).2.1>(0:Int))) then
 (bif (decide ((0:Int)≤(IntKind.wrap .i64 (a1.2.1-(1:Int))))) then
 (some (((f98 (a0,(a2,()))).1,((orI .u64 (f98 (a0,(a2,()))).2.2.1 (shlI .u64 (1:Int) (IntKind.wrap .i64 (a1.2.1-(1:Int))))),((IntKind.wrap .i64 ((IntKind.wrap .i64 ((IntKind.wrap .i64 (a1.2.2.1-a1.2.1))+(1:Int)))+(IntKind.wrap .i64 ((IntKind.wrap .i64 (f98 (a0,(a2,()))).2.1)-(1:Int))))),()))),()))
 else none)
 else some (((f98 (a0,(a2,()))).1,((f98 (a0,(a2,()))).2.2.1,((IntKind.wrap .i64 ((IntKind.wrap .i64 (a1.2.2.1-a1.2.1))+(1:Int))),()))),()))
 else none
theorem r72 (p98:DenS I98→Bool) (f98:DenS I98→DenS O98) (a0:Den (.int .i64)) (a1:Den (.pair (.int .i64) (.pair (.int .i64) (.pair (.int .i64) (.pair (.int .i64) (.unit)))))) (a2:Den (.int .u64)) :
  run { P:=Tryz.prog,sums:=[(45,⟨I98,O98,p98,f98⟩)],loops:=[],globs:=G1 } 9 23 Tryz.f23 I72 O72 (a0,a1,a2,())=t72 p98 f98 a0 a1 a2:=by kernel_rfl
noncomputable def T72 (x:DenS I72):Option (DenS O72):=t72 S98.pre S98.F x.1 x.2.1 x.2.2.1
noncomputable def C72:Cfg:={ P:=Tryz.prog,sums:=[(45,S98)],loops:=[],globs:=G1 }
noncomputable def S72:Sum:=sumOf I72 O72 T72 (DenS.dflt O72)
theorem S72_sound:Sound Tryz.prog G1 23 S72 :=
 fn_sound C72 9 23 Tryz.f23 mixedOk (by kernel_rfl) (by kernel_rfl) (by kernel_rfl) ⟨S98_sound,trivial⟩ trivial I72 O72 T72 _ (fun x=>r72 S98.pre S98.F x.1 x.2.1 x.2.2.1)
abbrev I119:Sig:=[(true,.pair (.int .u64) (.pair (.int .u64) (.unit))),(false,.int .i64)]
abbrev O119:Sig:=[(true,.pair (.int .u64) (.pair (.int .u64) (.unit)))]
noncomputable def t119 (a0:Den (.pair (.int .u64) (.pair (.int .u64) (.unit)))) (a1:Den (.int .i64)):Option (DenS O119) :=
 bif (decide (a1≤(0:Int))) then
 (some ((a0.1,a0.2),()))
 else bif (decide (a1≥(128:Int))) then
 (some (((0:Int),((0:Int),())),()))
 else bif (decide (a1≥(64:Int))) then
 (bif (decide ((0:Int)≤(IntKind.wrap .i64 (a1-(64:Int))))) then
 (some (((shlI .u64 a0.2.1 (IntKind.wrap .i64 (a1-(64:Int)))),((0:Int),())),()))
 else none)
 else bif (decide ((0:Int)≤a1)) then
 (bif (decide ((0:Int)≤(IntKind.wrap .i64 ((64:Int)-a1)))) then
 (bif (decide ((0:Int)≤a1)) then
 (some (((orI .u64 (shlI .u64 a0.1 a1) (shrI .u64 a0.2.1 (IntKind.wrap .i64 ((64:Int)-a1)))),((shlI .u64 a0.2.1 a1),())),()))
 else none)
 else none)
 else none
theorem r119 (a0:Den (.pair (.int .u64) (.pair (.int .u64) (.unit)))) (a1:Den (.int .i64)) :
  run { P:=Tryz.prog,sums:=[],loops:=[],globs:=G1 } 9 44 Tryz.f44 I119 O119 (a0,a1,())=t119 a0 a1:=by kernel_rfl
noncomputable def T119 (x:DenS I119):Option (DenS O119):=t119 x.1 x.2.1
noncomputable def C119:Cfg:={ P:=Tryz.prog,sums:=[],loops:=[],globs:=G1 }
noncomputable def S119:Sum:=sumOf I119 O119 T119 (DenS.dflt O119)
theorem S119_sound:Sound Tryz.prog G1 44 S119 :=
 fn_sound C119 9 44 Tryz.f44 mixedOk (by kernel_rfl) (by kernel_rfl) (by kernel_rfl) trivial trivial I119 O119 T119 _ (fun x=>r119 x.1 x.2.1)
abbrev I120:Sig:=[(true,.pair (.int .u64) (.pair (.int .u64) (.unit))),(false,.int .i64)]
abbrev O120:Sig:=[(true,.pair (.int .u64) (.pair (.int .u64) (.unit)))]
noncomputable def t120 (a0:Den (.pair (.int .u64) (.pair (.int .u64) (.unit)))) (a1:Den (.int .i64)):Option (DenS O120) :=
 bif (decide (a1≤(0:Int))) then
 (some ((a0.1,a0.2),()))
 else bif (decide (a1≥(128:Int))) then
 (some (((0:Int),((0:Int),())),()))
 else bif (decide (a1≥(64:Int))) then
 (bif (decide ((0:Int)≤(IntKind.wrap .i64 (a1-(64:Int))))) then
 (some (((0:Int),((shrI .u64 a0.1 (IntKind.wrap .i64 (a1-(64:Int)))),())),()))
 else none)
 else bif (decide ((0:Int)≤a1)) then
 (bif (decide ((0:Int)≤a1)) then
 (bif (decide ((0:Int)≤(IntKind.wrap .i64 ((64:Int)-a1)))) then
 (some (((shrI .u64 a0.1 a1),((orI .u64 (shrI .u64 a0.2.1 a1) (shlI .u64 a0.1 (IntKind.wrap .i64 ((64:Int)-a1)))),())),()))
 else none)
 else none)
 else none
theorem r120 (a0:Den (.pair (.int .u64) (.pair (.int .u64) (.unit)))) (a1:Den (.int .i64)) :
  run { P:=Tryz.prog,sums:=[],loops:=[],globs:=G1 } 9 52 Tryz.f52 I120 O120 (a0,a1,())=t120 a0 a1:=by kernel_rfl
noncomputable def T120 (x:DenS I120):Option (DenS O120):=t120 x.1 x.2.1
noncomputable def C120:Cfg:={ P:=Tryz.prog,sums:=[],loops:=[],globs:=G1 }
noncomputable def S120:Sum:=sumOf I120 O120 T120 (DenS.dflt O120)
theorem S120_sound:Sound Tryz.prog G1 52 S120 :=
 fn_sound C120 9 52 Tryz.f52 mixedOk (by kernel_rfl) (by kernel_rfl) (by kernel_rfl) trivial trivial I120 O120 T120 _ (fun x=>r120 x.1 x.2.1)
abbrev I155:Sig:=sig3
abbrev O155:Sig:=sig2
noncomputable def S155:Sum:=addSum
theorem S155_sound:Sound Tryz.prog G1 69 S155:=add_sound Tryz.func69 (by kernel_rfl) (by kernel_rfl) (by kernel_rfl) (by kernel_rfl)
abbrev I121:Sig:=[(true,.pair (.int .u64) (.pair (.int .u64) (.unit))),(true,.pair (.int .u64) (.pair (.int .u64) (.unit)))]
abbrev O121:Sig:=[(true,.pair (.int .u64) (.pair (.int .u64) (.unit))),(false,.int .u64)]
noncomputable def t121 (p155:DenS I155→Bool) (f155:DenS I155→DenS O155) (a0:Den (.pair (.int .u64) (.pair (.int .u64) (.unit)))) (a1:Den (.pair (.int .u64) (.pair (.int .u64) (.unit)))):Option (DenS O121) :=
 bif (p155 (a0.2.1,(a1.2.1,((0:Int),())))) then
 (bif (p155 (a0.1,(a1.1,(f155 (a0.2.1,(a1.2.1,((0:Int),())))).2))) then
 (some (((f155 (a0.1,(a1.1,(f155 (a0.2.1,(a1.2.1,((0:Int),())))).2))).1,((f155 (a0.2.1,(a1.2.1,((0:Int),())))).1,())),(f155 (a0.1,(a1.1,(f155 (a0.2.1,(a1.2.1,((0:Int),())))).2))).2))
 else none)
 else none
theorem r121 (p155:DenS I155→Bool) (f155:DenS I155→DenS O155) (a0:Den (.pair (.int .u64) (.pair (.int .u64) (.unit)))) (a1:Den (.pair (.int .u64) (.pair (.int .u64) (.unit)))) :
  run { P:=Tryz.prog,sums:=[(69,⟨I155,O155,p155,f155⟩)],loops:=[],globs:=G1 } 9 53 Tryz.f53 I121 O121 (a0,a1,())=t121 p155 f155 a0 a1:=by kernel_rfl
noncomputable def T121 (x:DenS I121):Option (DenS O121):=t121 S155.pre S155.F x.1 x.2.1
noncomputable def C121:Cfg:={ P:=Tryz.prog,sums:=[(69,S155)],loops:=[],globs:=G1 }
noncomputable def S121:Sum:=sumOf I121 O121 T121 (DenS.dflt O121)
theorem S121_sound:Sound Tryz.prog G1 53 S121 :=
 fn_sound C121 9 53 Tryz.f53 mixedOk (by kernel_rfl) (by kernel_rfl) (by kernel_rfl) ⟨S155_sound,trivial⟩ trivial I121 O121 T121 _ (fun x=>r121 S155.pre S155.F x.1 x.2.1)
abbrev I123:Sig:=[(true,.pair (.int .u64) (.pair (.int .u64) (.unit))),(true,.pair (.int .u64) (.pair (.int .u64) (.unit)))]
abbrev O123:Sig:=[(false,.int .i64)]
noncomputable def t123 (a0:Den (.pair (.int .u64) (.pair (.int .u64) (.unit)))) (a1:Den (.pair (.int .u64) (.pair (.int .u64) (.unit)))):Option (DenS O123) :=
 bif ((a0.1==a1.1)&&(a0.2.1==a1.2.1)) then
 (some ((0:Int),()))
 else bif ((decide (a0.1<a1.1))||((a0.1==a1.1)&&(decide (a0.2.1<a1.2.1)))) then
 (some ((-(1:Int)),()))
 else some ((1:Int),())
theorem r123 (a0:Den (.pair (.int .u64) (.pair (.int .u64) (.unit)))) (a1:Den (.pair (.int .u64) (.pair (.int .u64) (.unit)))) :
  run { P:=Tryz.prog,sums:=[],loops:=[],globs:=G1 } 9 54 Tryz.f54 I123 O123 (a0,a1,())=t123 a0 a1:=by kernel_rfl
noncomputable def T123 (x:DenS I123):Option (DenS O123):=t123 x.1 x.2.1
noncomputable def C123:Cfg:={ P:=Tryz.prog,sums:=[],loops:=[],globs:=G1 }
noncomputable def S123:Sum:=sumOf I123 O123 T123 (DenS.dflt O123)
theorem S123_sound:Sound Tryz.prog G1 54 S123 :=
 fn_sound C123 9 54 Tryz.f54 mixedOk (by kernel_rfl) (by kernel_rfl) (by kernel_rfl) trivial trivial I123 O123 T123 _ (fun x=>r123 x.1 x.2.1)
abbrev I157:Sig:=sig3
abbrev O157:Sig:=sig2
noncomputable def S157:Sum:=subSum
theorem S157_sound:Sound Tryz.prog G1 70 S157:=sub_sound Tryz.func70 (by kernel_rfl) (by kernel_rfl) (by kernel_rfl) (by kernel_rfl)
abbrev I124:Sig:=[(true,.pair (.int .u64) (.pair (.int .u64) (.unit))),(true,.pair (.int .u64) (.pair (.int .u64) (.unit)))]
abbrev O124:Sig:=[(true,.pair (.int .u64) (.pair (.int .u64) (.unit))),(false,.int .u64)]
noncomputable def t124 (p157:DenS I157→Bool) (f157:DenS I157→DenS O157) (a0:Den (.pair (.int .u64) (.pair (.int .u64) (.unit)))) (a1:Den (.pair (.int .u64) (.pair (.int .u64) (.unit)))):Option (DenS O124) :=
 bif (p157 (a0.2.1,(a1.2.1,((0:Int),())))) then
 (bif (p157 (a0.1,(a1.1,(f157 (a0.2.1,(a1.2.1,((0:Int),())))).2))) then
 (some (((f157 (a0.1,(a1.1,(f157 (a0.2.1,(a1.2.1,((0:Int),())))).2))).1,((f157 (a0.2.1,(a1.2.1,((0:Int),())))).1,())),(f157 (a0.1,(a1.1,(f157 (a0.2.1,(a1.2.1,((0:Int),())))).2))).2))
 else none)
 else none
theorem r124 (p157:DenS I157→Bool) (f157:DenS I157→DenS O157) (a0:Den (.pair (.int .u64) (.pair (.int .u64) (.unit)))) (a1:Den (.pair (.int .u64) (.pair (.int .u64) (.unit)))) :
  run { P:=Tryz.prog,sums:=[(70,⟨I157,O157,p157,f157⟩)],loops:=[],globs:=G1 } 9 55 Tryz.f55 I124 O124 (a0,a1,())=t124 p157 f157 a0 a1:=by kernel_rfl
noncomputable def T124 (x:DenS I124):Option (DenS O124):=t124 S157.pre S157.F x.1 x.2.1
noncomputable def C124:Cfg:={ P:=Tryz.prog,sums:=[(70,S157)],loops:=[],globs:=G1 }
noncomputable def S124:Sum:=sumOf I124 O124 T124 (DenS.dflt O124)
theorem S124_sound:Sound Tryz.prog G1 55 S124 :=
 fn_sound C124 9 55 Tryz.f55 mixedOk (by kernel_rfl) (by kernel_rfl) (by kernel_rfl) ⟨S157_sound,trivial⟩ trivial I124 O124 T124 _ (fun x=>r124 S157.pre S157.F x.1 x.2.1)
abbrev I154:Sig:=[(true,.pair (.int .i64) (.pair (.int .i64) (.pair (.int .i64) (.pair (.int .i64) (.unit)))))]
abbrev O154:Sig:=[(false,.int .u64)]
noncomputable def t154 (p91:DenS I91→Bool) (f91:DenS I91→DenS O91) (a0:Den (.pair (.int .i64) (.pair (.int .i64) (.pair (.int .i64) (.pair (.int .i64) (.unit)))))):Option (DenS O154) :=
 bif (p91 ((IntKind.wrap .i64 (a0.1-a0.2.1)),())) then
 (some (f91 ((IntKind.wrap .i64 (a0.1-a0.2.1)),())))
 else none
theorem r154 (p91:DenS I91→Bool) (f91:DenS I91→DenS O91) (a0:Den (.pair (.int .i64) (.pair (.int .i64) (.pair (.int .i64) (.pair (.int .i64) (.unit)))))) :
  run { P:=Tryz.prog,sums:=[(48,⟨I91,O91,p91,f91⟩)],loops:=[],globs:=G1 } 9 57 Tryz.f57 I154 O154 (a0,())=t154 p91 f91 a0:=by kernel_rfl
noncomputable def T154 (x:DenS I154):Option (DenS O154):=t154 S91.pre S91.F x.1
noncomputable def C154:Cfg:={ P:=Tryz.prog,sums:=[(48,S91)],loops:=[],globs:=G1 }
noncomputable def S154:Sum:=sumOf I154 O154 T154 (DenS.dflt O154)
theorem S154_sound:Sound Tryz.prog G1 57 S154 :=
 fn_sound C154 9 57 Tryz.f57 mixedOk (by kernel_rfl) (by kernel_rfl) (by kernel_rfl) ⟨S91_sound,trivial⟩ trivial I154 O154 T154 _ (fun x=>r154 S91.pre S91.F x.1)
abbrev I118:Sig:=[(false,.int .i64),(false,.bool)]
abbrev O118:Sig:=[(false,.int .u64),(false,.int .i64)]
noncomputable def t118 (p154:DenS I154→Bool) (f154:DenS I154→DenS O154) (p116:DenS I116→Bool) (f116:DenS I116→DenS O116) (p69:DenS I69→Bool) (f69:DenS I69→DenS O69) (p91:DenS I91→Bool) (f91:DenS I91→DenS O91) (p140:DenS I140→Bool) (f140:DenS I140→DenS O140) (a0:Den (.int .i64)) (a1:Den (.bool)):Option (DenS O118) :=
 bif (p69 (a0,())) then
 (bif ((f69 (a0,())).2.1 != (0:Int)) then
 (some ((0:Int),(f69 (a0,())).2))
 else bif (p91 ((IntKind.wrap .i64 ((f69 (a0,())).1.1-(f69 (a0,())).1.2.1)),())) then
 (bif (p154 ((f69 (a0,())).1,())) then
 (bif (p116 ((f69 (a0,())).1,())) then
 (bif (p140 ((f69 (a0,())).1,(a1,((IntKind.wrap .u64 ((f91 ((IntKind.wrap .i64 ((f69 (a0,())).1.1-(f69 (a0,())).1.2.1)),())).1-(f154 ((f69 (a0,())).1,())).1)),(f116 ((f69 (a0,())).1,())))))) then
 (some ((f140 ((f69 (a0,())).1,(a1,((IntKind.wrap .u64 ((f91 ((IntKind.wrap .i64 ((f69 (a0,())).1.1-(f69 (a0,())).1.2.1)),())).1-(f154 ((f69 (a0,())).1,())).1)),(f116 ((f69 (a0,())).1,())))))).1,((0:Int),())))
 else none)
 else none)
 else none)
 else none)
 else none
theorem r118 (p154:DenS I154→Bool) (f154:DenS I154→DenS O154) (p116:DenS I116→Bool) (f116:DenS I116→DenS O116) (p69:DenS I69→Bool) (f69:DenS I69→DenS O69) (p91:DenS I91→Bool) (f91:DenS I91→DenS O91) (p140:DenS I140→Bool) (f140:DenS I140→DenS O140) (a0:Den (.int .i64)) (a1:Den (.bool)) :
  run { P:=Tryz.prog,sums:=[(57,⟨I154,O154,p154,f154⟩),(50,⟨I116,O116,p116,f116⟩),(19,⟨I69,O69,p69,f69⟩),(48,⟨I91,O91,p91,f91⟩),(68,⟨I140,O140,p140,f140⟩)],loops:=[],globs:=G1 } 9 31 Tryz.f31 I118 O118 (a0,a1,())=t118 p154 f154 p116 f116 p69 f69 p91 f91 p140 f140 a0 a1:=by kernel_rfl
noncomputable def T118 (x:DenS I118):Option (DenS O118):=t118 S154.pre S154.F S116.pre S116.F S69.pre S69.F S91.pre S91.F S140.pre S140.F x.1 x.2.1
noncomputable def C118:Cfg:={ P:=Tryz.prog,sums:=[(57,S154),(50,S116),(19,S69),(48,S91),(68,S140)],loops:=[],globs:=G1 }
noncomputable def S118:Sum:=sumOf I118 O118 T118 (DenS.dflt O118)
theorem S118_sound:Sound Tryz.prog G1 31 S118 :=
 fn_sound C118 9 31 Tryz.f31 mixedOk (by kernel_rfl) (by kernel_rfl) (by kernel_rfl) ⟨S154_sound,⟨S116_sound,⟨S69_sound,⟨S91_sound,⟨S140_sound,trivial⟩⟩⟩⟩⟩ trivial I118 O118 T118 _ (fun x=>r118 S154.pre S154.F S116.pre S116.F S69.pre S69.F S91.pre S91.F S140.pre S140.F x.1 x.2.1)
abbrev I147:Sig:=[(false,.int .i64)]
abbrev O147:Sig:=[(false,.int .i64)]
noncomputable def t147 (a0:Den (.int .i64)):Option (DenS O147) :=
 bif ((decide (a0<(0:Int)))||(decide (a0>(5:Int)))) then
 (some ((3:Int),()))
 else some ((0:Int),())
theorem r147 (a0:Den (.int .i64)) :
  run { P:=Tryz.prog,sums:=[],loops:=[],globs:=G1 } 9 71 Tryz.f71 I147 O147 (a0,())=t147 a0:=by kernel_rfl
noncomputable def T147 (x:DenS I147):Option (DenS O147):=t147 x.1
noncomputable def C147:Cfg:={ P:=Tryz.prog,sums:=[],loops:=[],globs:=G1 }
noncomputable def S147:Sum:=sumOf I147 O147 T147 (DenS.dflt O147)
theorem S147_sound:Sound Tryz.prog G1 71 S147 :=
 fn_sound C147 9 71 Tryz.f71 mixedOk (by kernel_rfl) (by kernel_rfl) (by kernel_rfl) trivial trivial I147 O147 T147 _ (fun x=>r147 x.1)
abbrev I105:Sig:=[(false,.int .i64),(false,.int .i64)]
abbrev O105:Sig:=[(true,.pair (.int .i64) (.pair (.int .i64) (.pair (.int .i64) (.pair (.int .i64) (.unit))))),(false,.int .i64)]
noncomputable def t105 (p69:DenS I69→Bool) (f69:DenS I69→DenS O69) (p147:DenS I147→Bool) (f147:DenS I147→DenS O147) (a0:Den (.int .i64)) (a1:Den (.int .i64)):Option (DenS O105) :=
 bif (p69 (a0,())) then
 (bif ((f69 (a0,())).2.1 != (0:Int)) then
 (some (f69 (a0,())))
 else bif (p147 (a1,())) then
 (some ((f69 (a0,())).1,(f147 (a1,()))))
 else none)
 else none
theorem r105 (p69:DenS I69→Bool) (f69:DenS I69→DenS O69) (p147:DenS I147→Bool) (f147:DenS I147→DenS O147) (a0:Den (.int .i64)) (a1:Den (.int .i64)) :
  run { P:=Tryz.prog,sums:=[(19,⟨I69,O69,p69,f69⟩),(71,⟨I147,O147,p147,f147⟩)],loops:=[],globs:=G1 } 9 58 Tryz.f58 I105 O105 (a0,a1,())=t105 p69 f69 p147 f147 a0 a1:=by kernel_rfl
noncomputable def T105 (x:DenS I105):Option (DenS O105):=t105 S69.pre S69.F S147.pre S147.F x.1 x.2.1
noncomputable def C105:Cfg:={ P:=Tryz.prog,sums:=[(19,S69),(71,S147)],loops:=[],globs:=G1 }
noncomputable def S105:Sum:=sumOf I105 O105 T105 (DenS.dflt O105)
theorem S105_sound:Sound Tryz.prog G1 58 S105 :=
 fn_sound C105 9 58 Tryz.f58 mixedOk (by kernel_rfl) (by kernel_rfl) (by kernel_rfl) ⟨S69_sound,⟨S147_sound,trivial⟩⟩ trivial I105 O105 T105 _ (fun x=>r105 S69.pre S69.F S147.pre S147.F x.1 x.2.1)
abbrev I173:Sig:=[(false,.slice (.int .u64))]
abbrev O173:Sig:=[(false,.slice (.int .u64))]
abbrev P173_2:Pat:=⟨21,[(0,.one (.sl (.int .u64))),(3,.one (.v .i64))],[]⟩
abbrev A173_2:List (Nat×Shape):=[]
abbrev X173_2:List (Nat×Pat):=[(0,⟨21,[(0,.one (.sl (.int .u64))),(3,.one (.v .i64))],[]⟩)]
abbrev Q173_2:Option Pat:=none
noncomputable def h173_2 {R:Type} (L:Pat.D P173_2→Option R) (e:OutT X173_2 Q173_2→Option R) (x:Pat.D P173_2):Option R :=
 bif (((decide ((0:Int)≤(IntKind.wrap .i64 (x.1.2.1-(1:Int)))))&&(decide ((IntKind.wrap .i64 (x.1.2.1-(1:Int)))<(x.1.1.length:Int))))||(!(decide (x.1.2.1>(0:Int))))) then
 (bif ((decide (x.1.2.1>(0:Int)))&&((x.1.1.getD (Int.toNat (IntKind.wrap .i64 (x.1.2.1-(1:Int)))) (0:Int))==(0:Int))) then
 ((L ((x.1.1,((IntKind.wrap .i64 (x.1.2.1-(1:Int))),())),())))
 else (e (.inl (x.1,()))))
 else none
theorem s173_2 (w173_2:Pat.D P173_2→Option (OutT X173_2 Q173_2)) (d:Nat) (R:Type) (L:Pat.D P173_2→Option R) (e:OutT X173_2 Q173_2→Option R) (x:Pat.D P173_2) :
  lStep { P:=Tryz.prog,sums:=[],loops:=[(73,2,LoopSpec.of P173_2 A173_2 X173_2 Q173_2 w173_2)],globs:=G1 } (d+2) 73 (bodyOf Tryz.f73 2) P173_2 A173_2 X173_2 Q173_2 (R:=R) L e x=h173_2 L e x:=by kernel_rfl
theorem m173_2:Par fun L e x=>h173_2 L e x:=by
 intro A B rel L L' e e' h0 hL he x
 unfold h173_2
 repeat' (first | exact h0 | exact hL _ | exact he _ | apply rel_cond | (apply rel_obind h0; intro _) | (apply rel_obind2 <;> intro _))
noncomputable def t173 (w173_2:Pat.D P173_2→Option (OutT X173_2 Q173_2)) (a0:Den (.slice (.int .u64))):Option (DenS O173) :=
 Vx.obind (w173_2 ((a0,((a0.length:Int),())),())) fun y0 =>
 Vx.obind2 y0 (fun y1 =>
 bif ((decide ((0:Int)≤y1.1.2.1))&&(decide (y1.1.2.1≤(y1.1.1.length:Int)))) then
 (some (((y1.1.1.take (Int.toNat y1.1.2.1)).drop (Int.toNat (0:Int))),()))
 else none) (fun z1 =>
 none)
theorem r173 (w173_2:Pat.D P173_2→Option (OutT X173_2 Q173_2)) (a0:Den (.slice (.int .u64))) :
  run { P:=Tryz.prog,sums:=[],loops:=[(73,2,LoopSpec.of P173_2 A173_2 X173_2 Q173_2 w173_2)],globs:=G1 } 9 73 Tryz.f73 I173 O173 (a0,())=t173 w173_2 a0:=by kernel_rfl
noncomputable def W173_2:P173_2.D→Option (OutT X173_2 Q173_2):=lfix fun L=>h173_2 L some
noncomputable def T173 (x:DenS I173):Option (DenS O173):=t173 W173_2 x.1
noncomputable def C173:Cfg:={ P:=Tryz.prog,sums:=[],loops:=[(73,2,LoopSpec.of P173_2 A173_2 X173_2 Q173_2 W173_2)],globs:=G1 }
noncomputable def S173:Sum:=sumOf I173 O173 T173 (DenS.dflt O173)
theorem S173_sound:Sound Tryz.prog G1 73 S173 :=
 fn_sound C173 9 73 Tryz.f73 mixedOk (by kernel_rfl) (by kernel_rfl) (by kernel_rfl) trivial ⟨rfl,fun d=>loopOk_of (fun L e x=>h173_2 L e x) (m173_2) (fun R L e x=>s173_2 W173_2 d R L e x),trivial⟩ I173 O173 T173 _ (fun x=>r173 W173_2 x.1)
abbrev I146:Sig:=[(false,.slice (.int .u64))]
abbrev O146:Sig:=[(false,.slice (.int .u64))]
noncomputable def t146 (p173:DenS I173→Bool) (f173:DenS I173→DenS O173) (a0:Den (.slice (.int .u64))):Option (DenS O146) :=
 bif (p173 (a0,())) then
 (bif ((decide ((0:Int)≤((f173 (a0,())).1.length:Int)))&&(decide ((((f173 (a0,())).1.length:Int)*(8:Int))≤(140737488355328:Int)))) then
 (some ((((f173 (a0,())).1.take (List.replicate (Int.toNat ((f173 (a0,())).1.length:Int)) (0:Int)).length)++((List.replicate (Int.toNat ((f173 (a0,())).1.length:Int)) (0:Int)).drop (f173 (a0,())).1.length)),()))
 else none)
 else none
theorem r146 (p173:DenS I173→Bool) (f173:DenS I173→DenS O173) (a0:Den (.slice (.int .u64))) :
  run { P:=Tryz.prog,sums:=[(73,⟨I173,O173,p173,f173⟩)],loops:=[],globs:=G1 } 9 72 Tryz.f72 I146 O146 (a0,())=t146 p173 f173 a0:=by kernel_rfl
noncomputable def T146 (x:DenS I146):Option (DenS O146):=t146 S173.pre S173.F x.1
noncomputable def C146:Cfg:={ P:=Tryz.prog,sums:=[(73,S173)],loops:=[],globs:=G1 }
noncomputable def S146:Sum:=sumOf I146 O146 T146 (DenS.dflt O146)
theorem S146_sound:Sound Tryz.prog G1 72 S146 :=
 fn_sound C146 9 72 Tryz.f72 mixedOk (by kernel_rfl) (by kernel_rfl) (by kernel_rfl) ⟨S173_sound,trivial⟩ trivial I146 O146 T146 _ (fun x=>r146 S173.pre S173.F x.1)
abbrev I102:Sig:=[(false,.slice (.int .u64))]
abbrev O102:Sig:=[(false,.slice (.int .u64))]
noncomputable def t102 (p146:DenS I146→Bool) (f146:DenS I146→DenS O146) (a0:Den (.slice (.int .u64))):Option (DenS O102) :=
 bif (p146 (a0,())) then
 (some (f146 (a0,())))
 else none
theorem r102 (p146:DenS I146→Bool) (f146:DenS I146→DenS O146) (a0:Den (.slice (.int .u64))) :
  run { P:=Tryz.prog,sums:=[(72,⟨I146,O146,p146,f146⟩)],loops:=[],globs:=G1 } 9 59 Tryz.f59 I102 O102 (a0,())=t102 p146 f146 a0:=by kernel_rfl
noncomputable def T102 (x:DenS I102):Option (DenS O102):=t102 S146.pre S146.F x.1
noncomputable def C102:Cfg:={ P:=Tryz.prog,sums:=[(72,S146)],loops:=[],globs:=G1 }
noncomputable def S102:Sum:=sumOf I102 O102 T102 (DenS.dflt O102)
theorem S102_sound:Sound Tryz.prog G1 59 S102 :=
 fn_sound C102 9 59 Tryz.f59 mixedOk (by kernel_rfl) (by kernel_rfl) (by kernel_rfl) ⟨S146_sound,trivial⟩ trivial I102 O102 T102 _ (fun x=>r102 S146.pre S146.F x.1)
abbrev I178:Sig:=[(false,.int .u64)]
abbrev O178:Sig:=[(false,.int .i64)]
noncomputable def t178 (a0:Den (.int .u64)):Option (DenS O178) :=
 bif (decide (a0≥(4294967296:Int))) then
 (bif (decide ((shrI .u64 a0 (32:Int))≥(65536:Int))) then
 (bif (decide ((shrI .u64 (shrI .u64 a0 (32:Int)) (16:Int))≥(256:Int))) then
 (bif ((decide ((0:Int)≤(IntKind.wrap .u8 (shrI .u64 (shrI .u64 (shrI .u64 a0 (32:Int)) (16:Int)) (8:Int)))))&&(decide ((IntKind.wrap .u8 (shrI .u64 (shrI .u64 (shrI .u64 a0 (32:Int)) (16:Int)) (8:Int)))<(256:Int)))) then
 (some ((IntKind.wrap .i64 ((IntKind.wrap .i64 ((IntKind.wrap .i64 ((32:Int)+(16:Int)))+(8:Int)))+(IntKind.wrap .i64 ((UInt8.toNat (Vx.k_len8.getD (Int.toNat (IntKind.wrap .u8 (shrI .u64 (shrI .u64 (shrI .u64 a0 (32:Int)) (16:Int)) (8:Int)))) (0:UInt8))):Int)))),()))
 else none)
 else bif ((decide ((0:Int)≤(IntKind.wrap .u8 (shrI .u64 (shrI .u64 a0 (32:Int)) (16:Int)))))&&(decide ((IntKind.wrap .u8 (shrI .u64 (shrI .u64 a0 (32:Int)) (16:Int)))<(256:Int)))) then
 (some ((IntKind.wrap .i64 ((IntKind.wrap .i64 ((32:Int)+(16:Int)))+(IntKind.wrap .i64 ((UInt8.toNat (Vx.k_len8.getD (Int.toNat (IntKind.wrap .u8 (shrI .u64 (shrI .u64 a0 (32:Int)) (16:Int)))) (0:UInt8))):Int)))),()))
 else none)
 else bif (decide ((shrI .u64 a0 (32:Int))≥(256:Int))) then
 (bif ((decide ((0:Int)≤(IntKind.wrap .u8 (shrI .u64 (shrI .u64 a0 (32:Int)) (8:Int)))))&&(decide ((IntKind.wrap .u8 (shrI .u64 (shrI .u64 a0 (32:Int)) (8:Int)))<(256:Int)))) then
 (some ((IntKind.wrap .i64 ((IntKind.wrap .i64 ((32:Int)+(8:Int)))+(IntKind.wrap .i64 ((UInt8.toNat (Vx.k_len8.getD (Int.toNat (IntKind.wrap .u8 (shrI .u64 (shrI .u64 a0 (32:Int)) (8:Int)))) (0:UInt8))):Int)))),()))
 else none)
 else bif ((decide ((0:Int)≤(IntKind.wrap .u8 (shrI .u64 a0 (32:Int)))))&&(decide ((IntKind.wrap .u8 (shrI .u64 a0 (32:Int)))<(256:Int)))) then
 (some ((IntKind.wrap .i64 ((32:Int)+(IntKind.wrap .i64 ((UInt8.toNat (Vx.k_len8.getD (Int.toNat (IntKind.wrap .u8 (shrI .u64 a0 (32:Int)))) (0:UInt8))):Int)))),()))
 else none)
 else bif (decide (a0≥(65536:Int))) then
 (bif (decide ((shrI .u64 a0 (16:Int))≥(256:Int))) then
 (bif ((decide ((0:Int)≤(IntKind.wrap .u8 (shrI .u64 (shrI .u64 a0 (16:Int)) (8:Int)))))&&(decide ((IntKind.wrap .u8 (shrI .u64 (shrI .u64 a0 (16:Int)) (8:Int)))<(256:Int)))) then
 (some ((IntKind.wrap .i64 ((IntKind.wrap .i64 ((IntKind.wrap .i64 ((0:Int)+(16:Int)))+(8:Int)))+(IntKind.wrap .i64 ((UInt8.toNat (Vx.k_len8.getD (Int.toNat (IntKind.wrap .u8 (shrI .u64 (shrI .u64 a0 (16:Int)) (8:Int)))) (0:UInt8))):Int)))),()))
 else none)
 else bif ((decide ((0:Int)≤(IntKind.wrap .u8 (shrI .u64 a0 (16:Int)))))&&(decide ((IntKind.wrap .u8 (shrI .u64 a0 (16:Int)))<(256:Int)))) then
 (some ((IntKind.wrap .i64 ((IntKind.wrap .i64 ((0:Int)+(16:Int)))+(IntKind.wrap .i64 ((UInt8.toNat (Vx.k_len8.getD (Int.toNat (IntKind.wrap .u8 (shrI .u64 a0 (16:Int)))) (0:UInt8))):Int)))),()))
 else none)
 else bif (decide (a0≥(256:Int))) then
 (bif ((decide ((0:Int)≤(IntKind.wrap .u8 (shrI .u64 a0 (8:Int)))))&&(decide ((IntKind.wrap .u8 (shrI .u64 a0 (8:Int)))<(256:Int)))) then
 (some ((IntKind.wrap .i64 ((IntKind.wrap .i64 ((0:Int)+(8:Int)))+(IntKind.wrap .i64 ((UInt8.toNat (Vx.k_len8.getD (Int.toNat (IntKind.wrap .u8 (shrI .u64 a0 (8:Int)))) (0:UInt8))):Int)))),()))
 else none)
 else bif ((decide ((0:Int)≤(IntKind.wrap .u8 a0)))&&(decide ((IntKind.wrap .u8 a0)<(256:Int)))) then
 (some ((IntKind.wrap .i64 ((0:Int)+(IntKind.wrap .i64 ((UInt8.toNat (Vx.k_len8.getD (Int.toNat (IntKind.wrap .u8 a0)) (0:UInt8))):Int)))),()))
 else none
theorem r178 (a0:Den (.int .u64)) :
  run { P:=Tryz.prog,sums:=[],loops:=[],globs:=G1 } 9 66 Tryz.f66 I178 O178 (a0,())=t178 a0:=by kernel_rfl
noncomputable def T178 (x:DenS I178):Option (DenS O178):=t178 x.1
noncomputable def C178:Cfg:={ P:=Tryz.prog,sums:=[],loops:=[],globs:=G1 }
noncomputable def S178:Sum:=sumOf I178 O178 T178 (DenS.dflt O178)
theorem S178_sound:Sound Tryz.prog G1 66 S178 :=
 fn_sound C178 9 66 Tryz.f66 mixedOk (by kernel_rfl) (by kernel_rfl) (by kernel_rfl) trivial trivial I178 O178 T178 _ (fun x=>r178 x.1)
abbrev I151:Sig:=[(false,.slice (.int .u64))]
abbrev O151:Sig:=[(false,.int .i64)]
noncomputable def t151 (p173:DenS I173→Bool) (f173:DenS I173→DenS O173) (p178:DenS I178→Bool) (f178:DenS I178→DenS O178) (a0:Den (.slice (.int .u64))):Option (DenS O151) :=
 bif (p173 (a0,())) then
 (bif (((f173 (a0,())).1.length:Int)==(0:Int)) then
 (some ((0:Int),()))
 else bif ((decide ((0:Int)≤(IntKind.wrap .i64 (((f173 (a0,())).1.length:Int)-(1:Int)))))&&(decide ((IntKind.wrap .i64 (((f173 (a0,())).1.length:Int)-(1:Int)))<((f173 (a0,())).1.length:Int)))) then
 (bif (p178 (((f173 (a0,())).1.getD (Int.toNat (IntKind.wrap .i64 (((f173 (a0,())).1.length:Int)-(1:Int)))) (0:Int)),())) then
 (some ((IntKind.wrap .i64 ((IntKind.wrap .i64 ((64:Int)*(IntKind.wrap .i64 (((f173 (a0,())).1.length:Int)-(1:Int)))))+(f178 (((f173 (a0,())).1.getD (Int.toNat (IntKind.wrap .i64 (((f173 (a0,())).1.length:Int)-(1:Int)))) (0:Int)),())).1)),()))
 else none)
 else none)
 else none
theorem r151 (p173:DenS I173→Bool) (f173:DenS I173→DenS O173) (p178:DenS I178→Bool) (f178:DenS I178→DenS O178) (a0:Den (.slice (.int .u64))) :
  run { P:=Tryz.prog,sums:=[(73,⟨I173,O173,p173,f173⟩),(66,⟨I178,O178,p178,f178⟩)],loops:=[],globs:=G1 } 9 60 Tryz.f60 I151 O151 (a0,())=t151 p173 f173 p178 f178 a0:=by kernel_rfl
noncomputable def T151 (x:DenS I151):Option (DenS O151):=t151 S173.pre S173.F S178.pre S178.F x.1
noncomputable def C151:Cfg:={ P:=Tryz.prog,sums:=[(73,S173),(66,S178)],loops:=[],globs:=G1 }
noncomputable def S151:Sum:=sumOf I151 O151 T151 (DenS.dflt O151)
theorem S151_sound:Sound Tryz.prog G1 60 S151 :=
 fn_sound C151 9 60 Tryz.f60 mixedOk (by kernel_rfl) (by kernel_rfl) (by kernel_rfl) ⟨S173_sound,⟨S178_sound,trivial⟩⟩ trivial I151 O151 T151 _ (fun x=>r151 S173.pre S173.F S178.pre S178.F x.1)
abbrev I156:Sig:=[(false,.int .i64),(false,.bool)]
abbrev O156:Sig:=[(false,.int .u64),(false,.int .i64),(false,.int .i64)]
noncomputable def t156 (p118:DenS I118→Bool) (f118:DenS I118→DenS O118) (a0:Den (.int .i64)) (a1:Den (.bool)):Option (DenS O156) :=
 bif (p118 (a0,(a1,()))) then
 (some ((f118 (a0,(a1,()))).1,((0:Int),(f118 (a0,(a1,()))).2)))
 else none
theorem r156 (p118:DenS I118→Bool) (f118:DenS I118→DenS O118) (a0:Den (.int .i64)) (a1:Den (.bool)) :
  run { P:=Tryz.prog,sums:=[(31,⟨I118,O118,p118,f118⟩)],loops:=[],globs:=G1 } 9 61 Tryz.f61 I156 O156 (a0,a1,())=t156 p118 f118 a0 a1:=by kernel_rfl
noncomputable def T156 (x:DenS I156):Option (DenS O156):=t156 S118.pre S118.F x.1 x.2.1
noncomputable def C156:Cfg:={ P:=Tryz.prog,sums:=[(31,S118)],loops:=[],globs:=G1 }
noncomputable def S156:Sum:=sumOf I156 O156 T156 (DenS.dflt O156)
theorem S156_sound:Sound Tryz.prog G1 61 S156 :=
 fn_sound C156 9 61 Tryz.f61 mixedOk (by kernel_rfl) (by kernel_rfl) (by kernel_rfl) ⟨S118_sound,trivial⟩ trivial I156 O156 T156 _ (fun x=>r156 S118.pre S118.F x.1 x.2.1)
abbrev I148:Sig:=[(true,.pair (.bool) (.pair (.slice (.int .u64)) (.pair (.int .i64) (.pair (.bool) (.unit)))))]
abbrev O148:Sig:=[(false,.int .i64)]
noncomputable def t148 (p151:DenS I151→Bool) (f151:DenS I151→DenS O151) (a0:Den (.pair (.bool) (.pair (.slice (.int .u64)) (.pair (.int .i64) (.pair (.bool) (.unit)))))):Option (DenS O148) :=
 bif (p151 (a0.2.1,())) then
 (some ((IntKind.wrap .i64 ((IntKind.wrap .i64 (a0.2.2.1+(f151 (a0.2.1,())).1))-(1:Int))),()))
 else none
theorem r148 (p151:DenS I151→Bool) (f151:DenS I151→DenS O151) (a0:Den (.pair (.bool) (.pair (.slice (.int .u64)) (.pair (.int .i64) (.pair (.bool) (.unit)))))) :
  run { P:=Tryz.prog,sums:=[(60,⟨I151,O151,p151,f151⟩)],loops:=[],globs:=G1 } 9 74 Tryz.f74 I148 O148 (a0,())=t148 p151 f151 a0:=by kernel_rfl
noncomputable def T148 (x:DenS I148):Option (DenS O148):=t148 S151.pre S151.F x.1
noncomputable def C148:Cfg:={ P:=Tryz.prog,sums:=[(60,S151)],loops:=[],globs:=G1 }
noncomputable def S148:Sum:=sumOf I148 O148 T148 (DenS.dflt O148)
theorem S148_sound:Sound Tryz.prog G1 74 S148 :=
 fn_sound C148 9 74 Tryz.f74 mixedOk (by kernel_rfl) (by kernel_rfl) (by kernel_rfl) ⟨S151_sound,trivial⟩ trivial I148 O148 T148 _ (fun x=>r148 S151.pre S151.F x.1)
abbrev I1173:Sig:=[(true,.slice (.int .u64))]
abbrev O1173:Sig:=[(true,.slice (.int .u64))]
abbrev P1173_2:Pat:=⟨21,[(0,.one (.own 0)),(3,.one (.v .i64))],[.arr (.int .u64)]⟩
abbrev A1173_2:List (Nat×Shape):=[]
abbrev X1173_2:List (Nat×Pat):=[(0,⟨21,[(0,.one (.own 0)),(3,.one (.v .i64))],[.arr (.int .u64)]⟩)]
abbrev Q1173_2:Option Pat:=none
noncomputable def h1173_2 {R:Type} (L:Pat.D P1173_2→Option R) (e:OutT X1173_2 Q1173_2→Option R) (x:Pat.D P1173_2):Option R :=
 bif (((decide ((0:Int)≤(IntKind.wrap .i64 (x.1.2.1-(1:Int)))))&&(decide ((IntKind.wrap .i64 (x.1.2.1-(1:Int)))<(x.2.1.length:Int))))||(!(decide (x.1.2.1>(0:Int))))) then
 (bif ((decide (x.1.2.1>(0:Int)))&&((x.2.1.getD (Int.toNat (IntKind.wrap .i64 (x.1.2.1-(1:Int)))) (0:Int))==(0:Int))) then
 ((L (((),((IntKind.wrap .i64 (x.1.2.1-(1:Int))),())),x.2)))
 else (e (.inl (((),x.1.2),x.2))))
 else none
theorem s1173_2 (w1173_2:Pat.D P1173_2→Option (OutT X1173_2 Q1173_2)) (d:Nat) (R:Type) (L:Pat.D P1173_2→Option R) (e:OutT X1173_2 Q1173_2→Option R) (x:Pat.D P1173_2) :
  lStep { P:=Tryz.prog,sums:=[],loops:=[(73,2,LoopSpec.of P1173_2 A1173_2 X1173_2 Q1173_2 w1173_2)],globs:=G1,keep:=true } (d+2) 73 (bodyOf Tryz.f73 2) P1173_2 A1173_2 X1173_2 Q1173_2 (R:=R) L e x=h1173_2 L e x:=by kernel_rfl
theorem m1173_2:Par fun L e x=>h1173_2 L e x:=by
 intro A B rel L L' e e' h0 hL he x
 unfold h1173_2
 repeat' (first | exact h0 | exact hL _ | exact he _ | apply rel_cond | (apply rel_obind h0; intro _) | (apply rel_obind2 <;> intro _))
noncomputable def t1173 (w1173_2:Pat.D P1173_2→Option (OutT X1173_2 Q1173_2)) (a0:Den (.slice (.int .u64))):Option (DenS O1173) :=
 Vx.obind (w1173_2 (((),((a0.length:Int),())),(a0,()))) fun y0 =>
 Vx.obind2 y0 (fun y1 =>
 bif ((decide ((0:Int)≤y1.1.2.1))&&(decide (y1.1.2.1≤(y1.2.1.length:Int)))) then
 (some ((y1.2.1.take (Int.toNat y1.1.2.1)),()))
 else none) (fun z1 =>
 none)
theorem r1173 (w1173_2:Pat.D P1173_2→Option (OutT X1173_2 Q1173_2)) (a0:Den (.slice (.int .u64))) :
  run { P:=Tryz.prog,sums:=[],loops:=[(73,2,LoopSpec.of P1173_2 A1173_2 X1173_2 Q1173_2 w1173_2)],globs:=G1,keep:=true } 9 73 Tryz.f73 I1173 O1173 (a0,())=t1173 w1173_2 a0:=by kernel_rfl
noncomputable def W1173_2:P1173_2.D→Option (OutT X1173_2 Q1173_2):=lfix fun L=>h1173_2 L some
noncomputable def T1173 (x:DenS I1173):Option (DenS O1173):=t1173 W1173_2 x.1
noncomputable def C1173:Cfg:={ P:=Tryz.prog,sums:=[],loops:=[(73,2,LoopSpec.of P1173_2 A1173_2 X1173_2 Q1173_2 W1173_2)],globs:=G1,keep:=true }
noncomputable def S1173:Sum:=sumOf I1173 O1173 T1173 (DenS.dflt O1173)
theorem S1173_sound:Sound Tryz.prog G1 73 S1173 :=
 fn_sound C1173 9 73 Tryz.f73 mixedOk (by kernel_rfl) (by kernel_rfl) (by kernel_rfl) trivial ⟨rfl,fun d=>loopOk_of (fun L e x=>h1173_2 L e x) (m1173_2) (fun R L e x=>s1173_2 W1173_2 d R L e x),trivial⟩ I1173 O1173 T1173 _ (fun x=>r1173 W1173_2 x.1)
abbrev I1171:Sig:=[(false,.slice (.int .u64)),(false,.int .i64)]
abbrev O1171:Sig:=[(true,.slice (.int .u64))]
abbrev P1171_7:Pat:=⟨66,[(25,.one (.v .i64)),(0,.one (.sl (.int .u64))),(5,.one (.v .i64)),(6,.one (.v .i64)),(26,.one (.v .i64)),(7,.one (.own 0))],[.arr (.int .u64)]⟩
abbrev A1171_7:List (Nat×Shape):=[]
abbrev X1171_7:List (Nat×Pat):=[(0,⟨66,[(7,.one (.own 0))],[.arr (.int .u64)]⟩)]
abbrev Q1171_7:Option Pat:=none
noncomputable def h1171_7 (p1173:DenS I1173→Bool) (f1173:DenS I1173→DenS O1173) (p173:DenS I173→Bool) (f173:DenS I173→DenS O173) {R:Type} (L:Pat.D P1171_7→Option R) (e:OutT X1171_7 Q1171_7→Option R) (x:Pat.D P1171_7):Option R :=
 bif (decide (x.1.2.2.2.2.1<x.1.1)) then
 (bif ((decide ((0:Int)≤(IntKind.wrap .i64 (x.1.2.2.1+x.1.2.2.2.2.1))))&&(decide ((IntKind.wrap .i64 (x.1.2.2.1+x.1.2.2.2.2.1))<(x.1.2.1.length:Int)))) then
 (bif (decide ((0:Int)≤x.1.2.2.2.1)) then
 (bif ((decide ((0:Int)≤x.1.2.2.2.2.1))&&(decide (x.1.2.2.2.2.1<(x.2.1.length:Int)))) then
 (bif (decide ((IntKind.wrap .i64 ((IntKind.wrap .i64 (x.1.2.2.1+x.1.2.2.2.2.1))+(1:Int)))<(x.1.2.1.length:Int))) then
 (bif ((decide ((0:Int)≤x.1.2.2.2.2.1))&&(decide (x.1.2.2.2.2.1<((x.2.1.set (Int.toNat x.1.2.2.2.2.1) (shrI .u64 (x.1.2.1.getD (Int.toNat (IntKind.wrap .i64 (x.1.2.2.1+x.1.2.2.2.2.1))) (0:Int)) x.1.2.2.2.1)).length:Int)))) then
 (bif ((decide ((0:Int)≤(IntKind.wrap .i64 ((IntKind.wrap .i64 (x.1.2.2.1+x.1.2.2.2.2.1))+(1:Int)))))&&(decide ((IntKind.wrap .i64 ((IntKind.wrap .i64 (x.1.2.2.1+x.1.2.2.2.2.1))+(1:Int)))<(x.1.2.1.length:Int)))) then
 (bif (decide ((0:Int)≤(IntKind.wrap .i64 ((64:Int)-x.1.2.2.2.1)))) then
 (bif ((decide ((0:Int)≤x.1.2.2.2.2.1))&&(decide (x.1.2.2.2.2.1<((x.2.1.set (Int.toNat x.1.2.2.2.2.1) (shrI .u64 (x.1.2.1.getD (Int.toNat (IntKind.wrap .i64 (x.1.2.2.1+x.1.2.2.2.2.1))) (0:Int)) x.1.2.2.2.1)).length:Int)))) then
 ((L ((x.1.1,(x.1.2.1,(x.1.2.2.1,(x.1.2.2.2.1,((IntKind.wrap .i64 (x.1.2.2.2.2.1+(1:Int))),((),())))))),(((x.2.1.set (Int.toNat x.1.2.2.2.2.1) (shrI .u64 (x.1.2.1.getD (Int.toNat (IntKind.wrap .i64 (x.1.2.2.1+x.1.2.2.2.2.1))) (0:Int)) x.1.2.2.2.1)).set (Int.toNat x.1.2.2.2.2.1) (orI .u64 ((x.2.1.set (Int.toNat x.1.2.2.2.2.1) (shrI .u64 (x.1.2.1.getD (Int.toNat (IntKind.wrap .i64 (x.1.2.2.1+x.1.2.2.2.2.1))) (0:Int)) x.1.2.2.2.1)).getD (Int.toNat x.1.2.2.2.2.1) (0:Int)) (shlI .u64 (x.1.2.1.getD (Int.toNat (IntKind.wrap .i64 ((IntKind.wrap .i64 (x.1.2.2.1+x.1.2.2.2.2.1))+(1:Int)))) (0:Int)) (IntKind.wrap .i64 ((64:Int)-x.1.2.2.2.1))))),()))))
 else none)
 else none)
 else none)
 else none)
 else (L ((x.1.1,(x.1.2.1,(x.1.2.2.1,(x.1.2.2.2.1,((IntKind.wrap .i64 (x.1.2.2.2.2.1+(1:Int))),((),())))))),((x.2.1.set (Int.toNat x.1.2.2.2.2.1) (shrI .u64 (x.1.2.1.getD (Int.toNat (IntKind.wrap .i64 (x.1.2.2.1+x.1.2.2.2.2.1))) (0:Int)) x.1.2.2.2.1)),()))))
 else none)
 else none)
 else none)
 else (e (.inl (((),()),x.2)))
theorem s1171_7 (p1173:DenS I1173→Bool) (f1173:DenS I1173→DenS O1173) (p173:DenS I173→Bool) (f173:DenS I173→DenS O173) (w1171_7:Pat.D P1171_7→Option (OutT X1171_7 Q1171_7)) (d:Nat) (R:Type) (L:Pat.D P1171_7→Option R) (e:OutT X1171_7 Q1171_7→Option R) (x:Pat.D P1171_7) :
  lStep { P:=Tryz.prog,sums:=[(73,⟨I1173,O1173,p1173,f1173⟩),(73,⟨I173,O173,p173,f173⟩)],loops:=[(96,7,LoopSpec.of P1171_7 A1171_7 X1171_7 Q1171_7 w1171_7)],globs:=G1,keep:=true } (d+2) 96 (bodyOf Tryz.f96 7) P1171_7 A1171_7 X1171_7 Q1171_7 (R:=R) L e x=h1171_7 p1173 f1173 p173 f173 L e x:=by kernel_rfl
theorem m1171_7 (p1173:DenS I1173→Bool) (f1173:DenS I1173→DenS O1173) (p173:DenS I173→Bool) (f173:DenS I173→DenS O173):Par fun L e x=>h1171_7 p1173 f1173 p173 f173 L e x:=by
 intro A B rel L L' e e' h0 hL he x
 unfold h1171_7
 repeat' (first | exact h0 | exact hL _ | exact he _ | apply rel_cond | (apply rel_obind h0; intro _) | (apply rel_obind2 <;> intro _))
noncomputable def t1171 (p1173:DenS I1173→Bool) (f1173:DenS I1173→DenS O1173) (p173:DenS I173→Bool) (f173:DenS I173→DenS O173) (w1171_7:Pat.D P1171_7→Option (OutT X1171_7 Q1171_7)) (a0:Den (.slice (.int .u64))) (a1:Den (.int .i64)):Option (DenS O1171) :=
 bif (p173 (a0,())) then
 (bif (decide ((quoI .i64 a1 (64:Int))≥((f173 (a0,())).1.length:Int))) then
 (some ([],()))
 else bif ((decide ((0:Int)≤(IntKind.wrap .i64 (((f173 (a0,())).1.length:Int)-(quoI .i64 a1 (64:Int))))))&&(decide (((IntKind.wrap .i64 (((f173 (a0,())).1.length:Int)-(quoI .i64 a1 (64:Int))))*(8:Int))≤(140737488355328:Int)))) then
 (Vx.obind (w1171_7 ((((List.replicate (Int.toNat (IntKind.wrap .i64 (((f173 (a0,())).1.length:Int)-(quoI .i64 a1 (64:Int))))) (0:Int)).length:Int),((f173 (a0,())).1,((quoI .i64 a1 (64:Int)),((Int.tmod a1 (64:Int)),((0:Int),((),())))))),((List.replicate (Int.toNat (IntKind.wrap .i64 (((f173 (a0,())).1.length:Int)-(quoI .i64 a1 (64:Int))))) (0:Int)),()))) fun y3 =>
 Vx.obind2 y3 (fun y4 =>
 bif (p1173 y4.2) then
 (some (f1173 y4.2))
 else none) (fun z4 =>
 none))
 else none)
 else none
theorem r1171 (p1173:DenS I1173→Bool) (f1173:DenS I1173→DenS O1173) (p173:DenS I173→Bool) (f173:DenS I173→DenS O173) (w1171_7:Pat.D P1171_7→Option (OutT X1171_7 Q1171_7)) (a0:Den (.slice (.int .u64))) (a1:Den (.int .i64)) :
  run { P:=Tryz.prog,sums:=[(73,⟨I1173,O1173,p1173,f1173⟩),(73,⟨I173,O173,p173,f173⟩)],loops:=[(96,7,LoopSpec.of P1171_7 A1171_7 X1171_7 Q1171_7 w1171_7)],globs:=G1,keep:=true } 9 96 Tryz.f96 I1171 O1171 (a0,a1,())=t1171 p1173 f1173 p173 f173 w1171_7 a0 a1:=by kernel_rfl
noncomputable def W1171_7:P1171_7.D→Option (OutT X1171_7 Q1171_7):=lfix fun L=>h1171_7 S1173.pre S1173.F S173.pre S173.F L some
noncomputable def T1171 (x:DenS I1171):Option (DenS O1171):=t1171 S1173.pre S1173.F S173.pre S173.F W1171_7 x.1 x.2.1
noncomputable def C1171:Cfg:={ P:=Tryz.prog,sums:=[(73,S1173),(73,S173)],loops:=[(96,7,LoopSpec.of P1171_7 A1171_7 X1171_7 Q1171_7 W1171_7)],globs:=G1,keep:=true }
noncomputable def S1171:Sum:=sumOf I1171 O1171 T1171 (DenS.dflt O1171)
theorem S1171_sound:Sound Tryz.prog G1 96 S1171 :=
 fn_sound C1171 9 96 Tryz.f96 mixedOk (by kernel_rfl) (by kernel_rfl) (by kernel_rfl) ⟨S1173_sound,⟨S173_sound,trivial⟩⟩ ⟨rfl,fun d=>loopOk_of (fun L e x=>h1171_7 S1173.pre S1173.F S173.pre S173.F L e x) (m1171_7 S1173.pre S1173.F S173.pre S173.F) (fun R L e x=>s1171_7 S1173.pre S1173.F S173.pre S173.F W1171_7 d R L e x),trivial⟩ I1171 O1171 T1171 _ (fun x=>r1171 S1173.pre S1173.F S173.pre S173.F W1171_7 x.1 x.2.1)
abbrev I171:Sig:=[(false,.slice (.int .u64)),(false,.int .i64)]
abbrev O171:Sig:=[(false,.slice (.int .u64))]
abbrev P171_7:Pat:=⟨66,[(25,.one (.v .i64)),(0,.one (.sl (.int .u64))),(5,.one (.v .i64)),(6,.one (.v .i64)),(26,.one (.v .i64)),(7,.one (.own 0))],[.arr (.int .u64)]⟩
abbrev A171_7:List (Nat×Shape):=[]
abbrev X171_7:List (Nat×Pat):=[(0,⟨66,[(7,.one (.own 0))],[.arr (.int .u64)]⟩)]
abbrev Q171_7:Option Pat:=none
noncomputable def h171_7 (p173:DenS I173→Bool) (f173:DenS I173→DenS O173) {R:Type} (L:Pat.D P171_7→Option R) (e:OutT X171_7 Q171_7→Option R) (x:Pat.D P171_7):Option R :=
 bif (decide (x.1.2.2.2.2.1<x.1.1)) then
 (bif ((decide ((0:Int)≤(IntKind.wrap .i64 (x.1.2.2.1+x.1.2.2.2.2.1))))&&(decide ((IntKind.wrap .i64 (x.1.2.2.1+x.1.2.2.2.2.1))<(x.1.2.1.length:Int)))) then
 (bif (decide ((0:Int)≤x.1.2.2.2.1)) then
 (bif ((decide ((0:Int)≤x.1.2.2.2.2.1))&&(decide (x.1.2.2.2.2.1<(x.2.1.length:Int)))) then
 (bif (decide ((IntKind.wrap .i64 ((IntKind.wrap .i64 (x.1.2.2.1+x.1.2.2.2.2.1))+(1:Int)))<(x.1.2.1.length:Int))) then
 (bif ((decide ((0:Int)≤x.1.2.2.2.2.1))&&(decide (x.1.2.2.2.2.1<((x.2.1.set (Int.toNat x.1.2.2.2.2.1) (shrI .u64 (x.1.2.1.getD (Int.toNat (IntKind.wrap .i64 (x.1.2.2.1+x.1.2.2.2.2.1))) (0:Int)) x.1.2.2.2.1)).length:Int)))) then
 (bif ((decide ((0:Int)≤(IntKind.wrap .i64 ((IntKind.wrap .i64 (x.1.2.2.1+x.1.2.2.2.2.1))+(1:Int)))))&&(decide ((IntKind.wrap .i64 ((IntKind.wrap .i64 (x.1.2.2.1+x.1.2.2.2.2.1))+(1:Int)))<(x.1.2.1.length:Int)))) then
 (bif (decide ((0:Int)≤(IntKind.wrap .i64 ((64:Int)-x.1.2.2.2.1)))) then
 (bif ((decide ((0:Int)≤x.1.2.2.2.2.1))&&(decide (x.1.2.2.2.2.1<((x.2.1.set (Int.toNat x.1.2.2.2.2.1) (shrI .u64 (x.1.2.1.getD (Int.toNat (IntKind.wrap .i64 (x.1.2.2.1+x.1.2.2.2.2.1))) (0:Int)) x.1.2.2.2.1)).length:Int)))) then
 ((L ((x.1.1,(x.1.2.1,(x.1.2.2.1,(x.1.2.2.2.1,((IntKind.wrap .i64 (x.1.2.2.2.2.1+(1:Int))),((),())))))),(((x.2.1.set (Int.toNat x.1.2.2.2.2.1) (shrI .u64 (x.1.2.1.getD (Int.toNat (IntKind.wrap .i64 (x.1.2.2.1+x.1.2.2.2.2.1))) (0:Int)) x.1.2.2.2.1)).set (Int.toNat x.1.2.2.2.2.1) (orI .u64 ((x.2.1.set (Int.toNat x.1.2.2.2.2.1) (shrI .u64 (x.1.2.1.getD (Int.toNat (IntKind.wrap .i64 (x.1.2.2.1+x.1.2.2.2.2.1))) (0:Int)) x.1.2.2.2.1)).getD (Int.toNat x.1.2.2.2.2.1) (0:Int)) (shlI .u64 (x.1.2.1.getD (Int.toNat (IntKind.wrap .i64 ((IntKind.wrap .i64 (x.1.2.2.1+x.1.2.2.2.2.1))+(1:Int)))) (0:Int)) (IntKind.wrap .i64 ((64:Int)-x.1.2.2.2.1))))),()))))
 else none)
 else none)
 else none)
 else none)
 else (L ((x.1.1,(x.1.2.1,(x.1.2.2.1,(x.1.2.2.2.1,((IntKind.wrap .i64 (x.1.2.2.2.2.1+(1:Int))),((),())))))),((x.2.1.set (Int.toNat x.1.2.2.2.2.1) (shrI .u64 (x.1.2.1.getD (Int.toNat (IntKind.wrap .i64 (x.1.2.2.1+x.1.2.2.2.2.1))) (0:Int)) x.1.2.2.2.1)),()))))
 else none)
 else none)
 else none)
 else (e (.inl (((),()),x.2)))
theorem s171_7 (p173:DenS I173→Bool) (f173:DenS I173→DenS O173) (w171_7:Pat.D P171_7→Option (OutT X171_7 Q171_7)) (d:Nat) (R:Type) (L:Pat.D P171_7→Option R) (e:OutT X171_7 Q171_7→Option R) (x:Pat.D P171_7) :
  lStep { P:=Tryz.prog,sums:=[(73,⟨I173,O173,p173,f173⟩)],loops:=[(96,7,LoopSpec.of P171_7 A171_7 X171_7 Q171_7 w171_7)],globs:=G1 } (d+2) 96 (bodyOf Tryz.f96 7) P171_7 A171_7 X171_7 Q171_7 (R:=R) L e x=h171_7 p173 f173 L e x:=by kernel_rfl
theorem m171_7 (p173:DenS I173→Bool) (f173:DenS I173→DenS O173):Par fun L e x=>h171_7 p173 f173 L e x:=by
 intro A B rel L L' e e' h0 hL he x
 unfold h171_7
 repeat' (first | exact h0 | exact hL _ | exact he _ | apply rel_cond | (apply rel_obind h0; intro _) | (apply rel_obind2 <;> intro _))
noncomputable def t171 (p173:DenS I173→Bool) (f173:DenS I173→DenS O173) (w171_7:Pat.D P171_7→Option (OutT X171_7 Q171_7)) (a0:Den (.slice (.int .u64))) (a1:Den (.int .i64)):Option (DenS O171) :=
 bif (p173 (a0,())) then
 (bif (decide ((quoI .i64 a1 (64:Int))≥((f173 (a0,())).1.length:Int))) then
 (some ([],()))
 else bif ((decide ((0:Int)≤(IntKind.wrap .i64 (((f173 (a0,())).1.length:Int)-(quoI .i64 a1 (64:Int))))))&&(decide (((IntKind.wrap .i64 (((f173 (a0,())).1.length:Int)-(quoI .i64 a1 (64:Int))))*(8:Int))≤(140737488355328:Int)))) then
 (Vx.obind (w171_7 ((((List.replicate (Int.toNat (IntKind.wrap .i64 (((f173 (a0,())).1.length:Int)-(quoI .i64 a1 (64:Int))))) (0:Int)).length:Int),((f173 (a0,())).1,((quoI .i64 a1 (64:Int)),((Int.tmod a1 (64:Int)),((0:Int),((),())))))),((List.replicate (Int.toNat (IntKind.wrap .i64 (((f173 (a0,())).1.length:Int)-(quoI .i64 a1 (64:Int))))) (0:Int)),()))) fun y3 =>
 Vx.obind2 y3 (fun y4 =>
 bif (p173 y4.2) then
 (some (f173 y4.2))
 else none) (fun z4 =>
 none))
 else none)
 else none
theorem r171 (p173:DenS I173→Bool) (f173:DenS I173→DenS O173) (w171_7:Pat.D P171_7→Option (OutT X171_7 Q171_7)) (a0:Den (.slice (.int .u64))) (a1:Den (.int .i64)) :
  run { P:=Tryz.prog,sums:=[(73,⟨I173,O173,p173,f173⟩)],loops:=[(96,7,LoopSpec.of P171_7 A171_7 X171_7 Q171_7 w171_7)],globs:=G1 } 9 96 Tryz.f96 I171 O171 (a0,a1,())=t171 p173 f173 w171_7 a0 a1:=by kernel_rfl
noncomputable def W171_7:P171_7.D→Option (OutT X171_7 Q171_7):=lfix fun L=>h171_7 S173.pre S173.F L some
noncomputable def T171 (x:DenS I171):Option (DenS O171):=t171 S173.pre S173.F W171_7 x.1 x.2.1
noncomputable def C171:Cfg:={ P:=Tryz.prog,sums:=[(73,S173)],loops:=[(96,7,LoopSpec.of P171_7 A171_7 X171_7 Q171_7 W171_7)],globs:=G1 }
noncomputable def S171:Sum:=sumOf I171 O171 T171 (DenS.dflt O171)
theorem S171_sound:Sound Tryz.prog G1 96 S171 :=
 fn_sound C171 9 96 Tryz.f96 mixedOk (by kernel_rfl) (by kernel_rfl) (by kernel_rfl) ⟨S173_sound,trivial⟩ ⟨rfl,fun d=>loopOk_of (fun L e x=>h171_7 S173.pre S173.F L e x) (m171_7 S173.pre S173.F) (fun R L e x=>s171_7 S173.pre S173.F W171_7 d R L e x),trivial⟩ I171 O171 T171 _ (fun x=>r171 S173.pre S173.F W171_7 x.1 x.2.1)
abbrev I92:Sig:=[(false,.int .u64)]
abbrev O92:Sig:=[(false,.int .i64)]
noncomputable def t92 (a0:Den (.int .u64)):Option (DenS O92) :=
 bif (a0==(0:Int)) then
 (some ((64:Int),()))
 else bif (Vx.sealB ((decide ((0:Int)≤(shrI .u64 (IntKind.wrap .u64 ((andI .u64 a0 (IntKind.wrap .u64 ((0:Int)-a0)))*(285870213051353865:Int))) (58:Int))))&&(decide ((shrI .u64 (IntKind.wrap .u64 ((andI .u64 a0 (IntKind.wrap .u64 ((0:Int)-a0)))*(285870213051353865:Int))) (58:Int))<((64:Nat):Int))))) then
 (some ((IntKind.wrap .i64 (Vx.k_deb.getD (Int.toNat (shrI .u64 (IntKind.wrap .u64 ((andI .u64 a0 (IntKind.wrap .u64 ((0:Int)-a0)))*(285870213051353865:Int))) (58:Int))) (0:Int))),()))
 else none
theorem r92 (a0:Den (.int .u64)) :
  run { P:=Tryz.prog,sums:=[],loops:=[],globs:=G1 } 9 64 Tryz.f64 I92 O92 (a0,())=t92 a0:=by kernel_rfl
noncomputable def T92 (x:DenS I92):Option (DenS O92):=t92 x.1
noncomputable def C92:Cfg:={ P:=Tryz.prog,sums:=[],loops:=[],globs:=G1 }
noncomputable def S92:Sum:=sumOf I92 O92 T92 (DenS.dflt O92)
theorem S92_sound:Sound Tryz.prog G1 64 S92 :=
 fn_sound C92 9 64 Tryz.f64 mixedOk (by kernel_rfl) (by kernel_rfl) (by kernel_rfl) trivial trivial I92 O92 T92 _ (fun x=>r92 x.1)
abbrev I184:Sig:=[(false,.slice (.int .u64)),(false,.int .i64)]
abbrev O184:Sig:=[(false,.bool)]
abbrev P184_2:Pat:=⟨25,[(9,.one (.v .i64)),(8,.one (.sl (.int .u64))),(1,.one (.v .i64)),(10,.one (.v .i64))],[]⟩
abbrev A184_2:List (Nat×Shape):=[]
abbrev X184_2:List (Nat×Pat):=[(0,⟨25,[],[]⟩)]
abbrev Q184_2:Option Pat:=(some ⟨25,[(4,.one (.bool))],[]⟩)
noncomputable def h184_2 (p173:DenS I173→Bool) (f173:DenS I173→DenS O173) (p92:DenS I92→Bool) (f92:DenS I92→DenS O92) {R:Type} (L:Pat.D P184_2→Option R) (e:OutT X184_2 Q184_2→Option R) (x:Pat.D P184_2):Option R :=
 bif (decide (x.1.2.2.2.1<x.1.1)) then
 (bif ((decide ((0:Int)≤x.1.2.2.2.1))&&(decide (x.1.2.2.2.1<(x.1.2.1.length:Int)))) then
 (bif ((x.1.2.1.getD (Int.toNat x.1.2.2.2.1) (0:Int)) != (0:Int)) then
 (bif (p92 ((x.1.2.1.getD (Int.toNat x.1.2.2.2.1) (0:Int)),())) then
 ((e (.inr (((decide ((IntKind.wrap .i64 ((IntKind.wrap .i64 ((64:Int)*x.1.2.2.2.1))+(f92 ((x.1.2.1.getD (Int.toNat x.1.2.2.2.1) (0:Int)),())).1))≥x.1.2.2.1)),()),()))))
 else none)
 else (L ((x.1.1,(x.1.2.1,(x.1.2.2.1,((IntKind.wrap .i64 (x.1.2.2.2.1+(1:Int))),())))),())))
 else none)
 else (e (.inl ((),())))
theorem s184_2 (p173:DenS I173→Bool) (f173:DenS I173→DenS O173) (p92:DenS I92→Bool) (f92:DenS I92→DenS O92) (w184_2:Pat.D P184_2→Option (OutT X184_2 Q184_2)) (d:Nat) (R:Type) (L:Pat.D P184_2→Option R) (e:OutT X184_2 Q184_2→Option R) (x:Pat.D P184_2) :
  lStep { P:=Tryz.prog,sums:=[(73,⟨I173,O173,p173,f173⟩),(64,⟨I92,O92,p92,f92⟩)],loops:=[(97,2,LoopSpec.of P184_2 A184_2 X184_2 Q184_2 w184_2)],globs:=G1 } (d+2) 97 (bodyOf Tryz.f97 2) P184_2 A184_2 X184_2 Q184_2 (R:=R) L e x=h184_2 p173 f173 p92 f92 L e x:=by kernel_rfl
theorem m184_2 (p173:DenS I173→Bool) (f173:DenS I173→DenS O173) (p92:DenS I92→Bool) (f92:DenS I92→DenS O92):Par fun L e x=>h184_2 p173 f173 p92 f92 L e x:=by
 intro A B rel L L' e e' h0 hL he x
 unfold h184_2
 repeat' (first | exact h0 | exact hL _ | exact he _ | apply rel_cond | (apply rel_obind h0; intro _) | (apply rel_obind2 <;> intro _))
noncomputable def t184 (p173:DenS I173→Bool) (f173:DenS I173→DenS O173) (p92:DenS I92→Bool) (f92:DenS I92→DenS O92) (w184_2:Pat.D P184_2→Option (OutT X184_2 Q184_2)) (a0:Den (.slice (.int .u64))) (a1:Den (.int .i64)):Option (DenS O184) :=
 bif (p173 (a0,())) then
 (Vx.obind (w184_2 ((((f173 (a0,())).1.length:Int),((f173 (a0,())).1,(a1,((0:Int),())))),())) fun y1 =>
 Vx.obind2 y1 (fun y2 =>
 some (true,())) (fun z2 =>
 some z2.1))
 else none
theorem r184 (p173:DenS I173→Bool) (f173:DenS I173→DenS O173) (p92:DenS I92→Bool) (f92:DenS I92→DenS O92) (w184_2:Pat.D P184_2→Option (OutT X184_2 Q184_2)) (a0:Den (.slice (.int .u64))) (a1:Den (.int .i64)) :
  run { P:=Tryz.prog,sums:=[(73,⟨I173,O173,p173,f173⟩),(64,⟨I92,O92,p92,f92⟩)],loops:=[(97,2,LoopSpec.of P184_2 A184_2 X184_2 Q184_2 w184_2)],globs:=G1 } 9 97 Tryz.f97 I184 O184 (a0,a1,())=t184 p173 f173 p92 f92 w184_2 a0 a1:=by kernel_rfl
noncomputable def W184_2:P184_2.D→Option (OutT X184_2 Q184_2):=lfix fun L=>h184_2 S173.pre S173.F S92.pre S92.F L some
noncomputable def T184 (x:DenS I184):Option (DenS O184):=t184 S173.pre S173.F S92.pre S92.F W184_2 x.1 x.2.1
noncomputable def C184:Cfg:={ P:=Tryz.prog,sums:=[(73,S173),(64,S92)],loops:=[(97,2,LoopSpec.of P184_2 A184_2 X184_2 Q184_2 W184_2)],globs:=G1 }
noncomputable def S184:Sum:=sumOf I184 O184 T184 (DenS.dflt O184)
theorem S184_sound:Sound Tryz.prog G1 97 S184 :=
 fn_sound C184 9 97 Tryz.f97 mixedOk (by kernel_rfl) (by kernel_rfl) (by kernel_rfl) ⟨S173_sound,⟨S92_sound,trivial⟩⟩ ⟨rfl,fun d=>loopOk_of (fun L e x=>h184_2 S173.pre S173.F S92.pre S92.F L e x) (m184_2 S173.pre S173.F S92.pre S92.F) (fun R L e x=>s184_2 S173.pre S173.F S92.pre S92.F W184_2 d R L e x),trivial⟩ I184 O184 T184 _ (fun x=>r184 S173.pre S173.F S92.pre S92.F W184_2 x.1 x.2.1)
abbrev I175:Sig:=[(false,.slice (.int .u64)),(false,.int .i64)]
abbrev O175:Sig:=[(false,.slice (.int .u64)),(false,.int .i64)]
noncomputable def t175 (p1171:DenS I1171→Bool) (f1171:DenS I1171→DenS O1171) (p171:DenS I171→Bool) (f171:DenS I171→DenS O171) (p184:DenS I184→Bool) (f184:DenS I184→DenS O184) (a0:Den (.slice (.int .u64))) (a1:Den (.int .i64)):Option (DenS O175) :=
 bif (decide (a1<(0:Int))) then
 (some ([],((7:Int),())))
 else bif (p1171 (a0,(a1,()))) then
 (bif (p184 (a0,(a1,()))) then
 (bif (!(f184 (a0,(a1,()))).1) then
 (bif (((f1171 (a0,(a1,()))).1.length:Int)==(0:Int)) then
 (some (((1:Int)::[]),((0:Int),())))
 else bif (decide ((0:Int)<((f1171 (a0,(a1,()))).1.length:Int))) then
 (bif (decide ((0:Int)<((f1171 (a0,(a1,()))).1.length:Int))) then
 (some (((f1171 (a0,(a1,()))).1.set (Int.toNat (0:Int)) (orI .u64 ((f1171 (a0,(a1,()))).1.getD (Int.toNat (0:Int)) (0:Int)) (1:Int))),((0:Int),())))
 else none)
 else none)
 else some ((f1171 (a0,(a1,()))).1,((0:Int),())))
 else none)
 else none
theorem r175 (p1171:DenS I1171→Bool) (f1171:DenS I1171→DenS O1171) (p171:DenS I171→Bool) (f171:DenS I171→DenS O171) (p184:DenS I184→Bool) (f184:DenS I184→DenS O184) (a0:Den (.slice (.int .u64))) (a1:Den (.int .i64)) :
  run { P:=Tryz.prog,sums:=[(96,⟨I1171,O1171,p1171,f1171⟩),(96,⟨I171,O171,p171,f171⟩),(97,⟨I184,O184,p184,f184⟩)],loops:=[],globs:=G1 } 9 86 Tryz.f86 I175 O175 (a0,a1,())=t175 p1171 f1171 p171 f171 p184 f184 a0 a1:=by kernel_rfl
noncomputable def T175 (x:DenS I175):Option (DenS O175):=t175 S1171.pre S1171.F S171.pre S171.F S184.pre S184.F x.1 x.2.1
noncomputable def C175:Cfg:={ P:=Tryz.prog,sums:=[(96,S1171),(96,S171),(97,S184)],loops:=[],globs:=G1 }
noncomputable def S175:Sum:=sumOf I175 O175 T175 (DenS.dflt O175)
theorem S175_sound:Sound Tryz.prog G1 86 S175 :=
 fn_sound C175 9 86 Tryz.f86 mixedOk (by kernel_rfl) (by kernel_rfl) (by kernel_rfl) ⟨S1171_sound,⟨S171_sound,⟨S184_sound,trivial⟩⟩⟩ trivial I175 O175 T175 _ (fun x=>r175 S1171.pre S1171.F S171.pre S171.F S184.pre S184.F x.1 x.2.1)
abbrev I186:Sig:=[(false,.slice (.int .u64)),(false,.int .i64)]
abbrev O186:Sig:=[(false,.slice (.int .u64))]
abbrev P186_7:Pat:=⟨56,[(26,.one (.v .i64)),(25,.one (.sl (.int .u64))),(5,.one (.v .i64)),(6,.one (.v .i64)),(27,.one (.v .i64)),(7,.one (.own 0))],[.arr (.int .u64)]⟩
abbrev A186_7:List (Nat×Shape):=[]
abbrev X186_7:List (Nat×Pat):=[(0,⟨56,[(7,.one (.own 0))],[.arr (.int .u64)]⟩)]
abbrev Q186_7:Option Pat:=none
noncomputable def h186_7 (p173:DenS I173→Bool) (f173:DenS I173→DenS O173) {R:Type} (L:Pat.D P186_7→Option R) (e:OutT X186_7 Q186_7→Option R) (x:Pat.D P186_7):Option R :=
 bif (decide (x.1.2.2.2.2.1<x.1.1)) then
 (bif ((decide ((0:Int)≤x.1.2.2.2.2.1))&&(decide (x.1.2.2.2.2.1<(x.1.2.1.length:Int)))) then
 (bif ((decide ((0:Int)≤(IntKind.wrap .i64 (x.1.2.2.1+x.1.2.2.2.2.1))))&&(decide ((IntKind.wrap .i64 (x.1.2.2.1+x.1.2.2.2.2.1))<(x.2.1.length:Int)))) then
 (bif (decide ((0:Int)≤x.1.2.2.2.1)) then
 (bif ((decide ((0:Int)≤(IntKind.wrap .i64 (x.1.2.2.1+x.1.2.2.2.2.1))))&&(decide ((IntKind.wrap .i64 (x.1.2.2.1+x.1.2.2.2.2.1))<(x.2.1.length:Int)))) then
 (bif (decide ((0:Int)≤(IntKind.wrap .i64 ((64:Int)-x.1.2.2.2.1)))) then
 (bif ((decide ((0:Int)≤(IntKind.wrap .i64 ((IntKind.wrap .i64 (x.1.2.2.1+x.1.2.2.2.2.1))+(1:Int)))))&&(decide ((IntKind.wrap .i64 ((IntKind.wrap .i64 (x.1.2.2.1+x.1.2.2.2.2.1))+(1:Int)))<((x.2.1.set (Int.toNat (IntKind.wrap .i64 (x.1.2.2.1+x.1.2.2.2.2.1))) (orI .u64 (x.2.1.getD (Int.toNat (IntKind.wrap .i64 (x.1.2.2.1+x.1.2.2.2.2.1))) (0:Int)) (shlI .u64 (x.1.2.1.getD (Int.toNat x.1.2.2.2.2.1) (0:Int)) x.1.2.2.2.1))).length:Int)))) then
 ((L ((x.1.1,(x.1.2.1,(x.1.2.2.1,(x.1.2.2.2.1,((IntKind.wrap .i64 (x.1.2.2.2.2.1+(1:Int))),((),())))))),(((x.2.1.set (Int.toNat (IntKind.wrap .i64 (x.1.2.2.1+x.1.2.2.2.2.1))) (orI .u64 (x.2.1.getD (Int.toNat (IntKind.wrap .i64 (x.1.2.2.1+x.1.2.2.2.2.1))) (0:Int)) (shlI .u64 (x.1.2.1.getD (Int.toNat x.1.2.2.2.2.1) (0:Int)) x.1.2.2.2.1))).set (Int.toNat (IntKind.wrap .i64 ((IntKind.wrap .i64 (x.1.2.2.1+x.1.2.2.2.2.1))+(1:Int)))) (shrI .u64 (x.1.2.1.getD (Int.toNat x.1.2.2.2.2.1) (0:Int)) (IntKind.wrap .i64 ((64:Int)-x.1.2.2.2.1)))),()))))
 else none)
 else none)
 else none)
 else none)
 else none)
 else none)
 else (e (.inl (((),()),x.2)))
theorem s186_7 (p173:DenS I173→Bool) (f173:DenS I173→DenS O173) (w186_7:Pat.D P186_7→Option (OutT X186_7 Q186_7)) (d:Nat) (R:Type) (L:Pat.D P186_7→Option R) (e:OutT X186_7 Q186_7→Option R) (x:Pat.D P186_7) :
  lStep { P:=Tryz.prog,sums:=[(73,⟨I173,O173,p173,f173⟩)],loops:=[(90,7,LoopSpec.of P186_7 A186_7 X186_7 Q186_7 w186_7)],globs:=G1 } (d+2) 90 (bodyOf Tryz.f90 7) P186_7 A186_7 X186_7 Q186_7 (R:=R) L e x=h186_7 p173 f173 L e x:=by kernel_rfl
theorem m186_7 (p173:DenS I173→Bool) (f173:DenS I173→DenS O173):Par fun L e x=>h186_7 p173 f173 L e x:=by
 intro A B rel L L' e e' h0 hL he x
 unfold h186_7
 repeat' (first | exact h0 | exact hL _ | exact he _ | apply rel_cond | (apply rel_obind h0; intro _) | (apply rel_obind2 <;> intro _))
noncomputable def t186 (p173:DenS I173→Bool) (f173:DenS I173→DenS O173) (w186_7:Pat.D P186_7→Option (OutT X186_7 Q186_7)) (a0:Den (.slice (.int .u64))) (a1:Den (.int .i64)):Option (DenS O186) :=
 bif (p173 (a0,())) then
 (bif (((f173 (a0,())).1.length:Int)==(0:Int)) then
 (some ([],()))
 else bif ((decide ((0:Int)≤(IntKind.wrap .i64 ((IntKind.wrap .i64 ((quoI .i64 a1 (64:Int))+((f173 (a0,())).1.length:Int)))+(1:Int)))))&&(decide (((IntKind.wrap .i64 ((IntKind.wrap .i64 ((quoI .i64 a1 (64:Int))+((f173 (a0,())).1.length:Int)))+(1:Int)))*(8:Int))≤(140737488355328:Int)))) then
 (Vx.obind (w186_7 ((((f173 (a0,())).1.length:Int),((f173 (a0,())).1,((quoI .i64 a1 (64:Int)),((Int.tmod a1 (64:Int)),((0:Int),((),())))))),((List.replicate (Int.toNat (IntKind.wrap .i64 ((IntKind.wrap .i64 ((quoI .i64 a1 (64:Int))+((f173 (a0,())).1.length:Int)))+(1:Int)))) (0:Int)),()))) fun y3 =>
 Vx.obind2 y3 (fun y4 =>
 bif (p173 y4.2) then
 (some (f173 y4.2))
 else none) (fun z4 =>
 none))
 else none)
 else none
theorem r186 (p173:DenS I173→Bool) (f173:DenS I173→DenS O173) (w186_7:Pat.D P186_7→Option (OutT X186_7 Q186_7)) (a0:Den (.slice (.int .u64))) (a1:Den (.int .i64)) :
  run { P:=Tryz.prog,sums:=[(73,⟨I173,O173,p173,f173⟩)],loops:=[(90,7,LoopSpec.of P186_7 A186_7 X186_7 Q186_7 w186_7)],globs:=G1 } 9 90 Tryz.f90 I186 O186 (a0,a1,())=t186 p173 f173 w186_7 a0 a1:=by kernel_rfl
noncomputable def W186_7:P186_7.D→Option (OutT X186_7 Q186_7):=lfix fun L=>h186_7 S173.pre S173.F L some
noncomputable def T186 (x:DenS I186):Option (DenS O186):=t186 S173.pre S173.F W186_7 x.1 x.2.1
noncomputable def C186:Cfg:={ P:=Tryz.prog,sums:=[(73,S173)],loops:=[(90,7,LoopSpec.of P186_7 A186_7 X186_7 Q186_7 W186_7)],globs:=G1 }
noncomputable def S186:Sum:=sumOf I186 O186 T186 (DenS.dflt O186)
theorem S186_sound:Sound Tryz.prog G1 90 S186 :=
 fn_sound C186 9 90 Tryz.f90 mixedOk (by kernel_rfl) (by kernel_rfl) (by kernel_rfl) ⟨S173_sound,trivial⟩ ⟨rfl,fun d=>loopOk_of (fun L e x=>h186_7 S173.pre S173.F L e x) (m186_7 S173.pre S173.F) (fun R L e x=>s186_7 S173.pre S173.F W186_7 d R L e x),trivial⟩ I186 O186 T186 _ (fun x=>r186 S173.pre S173.F W186_7 x.1 x.2.1)
abbrev I185:Sig:=[(false,.slice (.slice (.int .u64)))]
abbrev O185:Sig:=[(false,.bool)]
abbrev P185_2:Pat:=⟨16,[(6,.one (.v .i64)),(5,.one (.sl (.slice (.int .u64)))),(7,.one (.v .i64))],[]⟩
abbrev A185_2:List (Nat×Shape):=[]
abbrev X185_2:List (Nat×Pat):=[(0,⟨16,[],[]⟩)]
abbrev Q185_2:Option Pat:=(some ⟨16,[(2,.one (.bool))],[]⟩)
noncomputable def h185_2 (p173:DenS I173→Bool) (f173:DenS I173→DenS O173) {R:Type} (L:Pat.D P185_2→Option R) (e:OutT X185_2 Q185_2→Option R) (x:Pat.D P185_2):Option R :=
 bif (decide (x.1.2.2.1<x.1.1)) then
 (bif ((decide ((0:Int)≤x.1.2.2.1))&&(decide (x.1.2.2.1<(x.1.2.1.length:Int)))) then
 (bif (p173 ((x.1.2.1.getD (Int.toNat x.1.2.2.1) []),())) then
 (bif (decide (((f173 ((x.1.2.1.getD (Int.toNat x.1.2.2.1) []),())).1.length:Int)>(1024:Int))) then
 ((e (.inr ((true,()),()))))
 else (L ((x.1.1,(x.1.2.1,((IntKind.wrap .i64 (x.1.2.2.1+(1:Int))),()))),())))
 else none)
 else none)
 else (e (.inl ((),())))
theorem s185_2 (p173:DenS I173→Bool) (f173:DenS I173→DenS O173) (w185_2:Pat.D P185_2→Option (OutT X185_2 Q185_2)) (d:Nat) (R:Type) (L:Pat.D P185_2→Option R) (e:OutT X185_2 Q185_2→Option R) (x:Pat.D P185_2) :
  lStep { P:=Tryz.prog,sums:=[(73,⟨I173,O173,p173,f173⟩)],loops:=[(89,2,LoopSpec.of P185_2 A185_2 X185_2 Q185_2 w185_2)],globs:=G1 } (d+2) 89 (bodyOf Tryz.f89 2) P185_2 A185_2 X185_2 Q185_2 (R:=R) L e x=h185_2 p173 f173 L e x:=by kernel_rfl
theorem m185_2 (p173:DenS I173→Bool) (f173:DenS I173→DenS O173):Par fun L e x=>h185_2 p173 f173 L e x:=by
 intro A B rel L L' e e' h0 hL he x
 unfold h185_2
 repeat' (first | exact h0 | exact hL _ | exact he _ | apply rel_cond | (apply rel_obind h0; intro _) | (apply rel_obind2 <;> intro _))
noncomputable def t185 (p173:DenS I173→Bool) (f173:DenS I173→DenS O173) (w185_2:Pat.D P185_2→Option (OutT X185_2 Q185_2)) (a0:Den (.slice (.slice (.int .u64)))):Option (DenS O185) :=
 Vx.obind (w185_2 (((a0.length:Int),(a0,((0:Int),()))),())) fun y0 =>
 Vx.obind2 y0 (fun y1 =>
 some (false,())) (fun z1 =>
 some z1.1)
theorem r185 (p173:DenS I173→Bool) (f173:DenS I173→DenS O173) (w185_2:Pat.D P185_2→Option (OutT X185_2 Q185_2)) (a0:Den (.slice (.slice (.int .u64)))) :
  run { P:=Tryz.prog,sums:=[(73,⟨I173,O173,p173,f173⟩)],loops:=[(89,2,LoopSpec.of P185_2 A185_2 X185_2 Q185_2 w185_2)],globs:=G1 } 9 89 Tryz.f89 I185 O185 (a0,())=t185 p173 f173 w185_2 a0:=by kernel_rfl
noncomputable def W185_2:P185_2.D→Option (OutT X185_2 Q185_2):=lfix fun L=>h185_2 S173.pre S173.F L some
noncomputable def T185 (x:DenS I185):Option (DenS O185):=t185 S173.pre S173.F W185_2 x.1
noncomputable def C185:Cfg:={ P:=Tryz.prog,sums:=[(73,S173)],loops:=[(89,2,LoopSpec.of P185_2 A185_2 X185_2 Q185_2 W185_2)],globs:=G1 }
noncomputable def S185:Sum:=sumOf I185 O185 T185 (DenS.dflt O185)
theorem S185_sound:Sound Tryz.prog G1 89 S185 :=
 fn_sound C185 9 89 Tryz.f89 mixedOk (by kernel_rfl) (by kernel_rfl) (by kernel_rfl) ⟨S173_sound,trivial⟩ ⟨rfl,fun d=>loopOk_of (fun L e x=>h185_2 S173.pre S173.F L e x) (m185_2 S173.pre S173.F) (fun R L e x=>s185_2 S173.pre S173.F W185_2 d R L e x),trivial⟩ I185 O185 T185 _ (fun x=>r185 S173.pre S173.F W185_2 x.1)
abbrev I176:Sig:=[(false,.slice (.int .u64)),(false,.int .i64)]
abbrev O176:Sig:=[(false,.slice (.int .u64)),(false,.int .i64)]
noncomputable def t176 (p186:DenS I186→Bool) (f186:DenS I186→DenS O186) (p185:DenS I185→Bool) (f185:DenS I185→DenS O185) (a0:Den (.slice (.int .u64))) (a1:Den (.int .i64)):Option (DenS O176) :=
 bif ((decide (a1<(0:Int)))||(decide (a1>(65536:Int)))) then
 (some ([],((7:Int),())))
 else bif (p185 ((a0::[]),())) then
 (bif (f185 ((a0::[]),())).1 then
 (some ([],((5:Int),())))
 else bif (p186 (a0,(a1,()))) then
 (bif (p185 (((f186 (a0,(a1,()))).1::[]),())) then
 (bif (f185 (((f186 (a0,(a1,()))).1::[]),())).1 then
 (some ([],((5:Int),())))
 else some ((f186 (a0,(a1,()))).1,((0:Int),())))
 else none)
 else none)
 else none
theorem r176 (p186:DenS I186→Bool) (f186:DenS I186→DenS O186) (p185:DenS I185→Bool) (f185:DenS I185→DenS O185) (a0:Den (.slice (.int .u64))) (a1:Den (.int .i64)) :
  run { P:=Tryz.prog,sums:=[(90,⟨I186,O186,p186,f186⟩),(89,⟨I185,O185,p185,f185⟩)],loops:=[],globs:=G1 } 9 78 Tryz.f78 I176 O176 (a0,a1,())=t176 p186 f186 p185 f185 a0 a1:=by kernel_rfl
noncomputable def T176 (x:DenS I176):Option (DenS O176):=t176 S186.pre S186.F S185.pre S185.F x.1 x.2.1
noncomputable def C176:Cfg:={ P:=Tryz.prog,sums:=[(90,S186),(89,S185)],loops:=[],globs:=G1 }
noncomputable def S176:Sum:=sumOf I176 O176 T176 (DenS.dflt O176)
theorem S176_sound:Sound Tryz.prog G1 78 S176 :=
 fn_sound C176 9 78 Tryz.f78 mixedOk (by kernel_rfl) (by kernel_rfl) (by kernel_rfl) ⟨S186_sound,⟨S185_sound,trivial⟩⟩ trivial I176 O176 T176 _ (fun x=>r176 S186.pre S186.F S185.pre S185.F x.1 x.2.1)
abbrev I141:Sig:=[(false,.slice (.int .u64)),(false,.int .i64)]
abbrev O141:Sig:=[(false,.slice (.int .u64)),(false,.int .i64)]
noncomputable def t141 (p171:DenS I171→Bool) (f171:DenS I171→DenS O171) (a0:Den (.slice (.int .u64))) (a1:Den (.int .i64)):Option (DenS O141) :=
 bif (decide (a1<(0:Int))) then
 (some ([],((7:Int),())))
 else bif (p171 (a0,(a1,()))) then
 (some ((f171 (a0,(a1,()))).1,((0:Int),())))
 else none
theorem r141 (p171:DenS I171→Bool) (f171:DenS I171→DenS O171) (a0:Den (.slice (.int .u64))) (a1:Den (.int .i64)) :
  run { P:=Tryz.prog,sums:=[(96,⟨I171,O171,p171,f171⟩)],loops:=[],globs:=G1 } 9 87 Tryz.f87 I141 O141 (a0,a1,())=t141 p171 f171 a0 a1:=by kernel_rfl
noncomputable def T141 (x:DenS I141):Option (DenS O141):=t141 S171.pre S171.F x.1 x.2.1
noncomputable def C141:Cfg:={ P:=Tryz.prog,sums:=[(96,S171)],loops:=[],globs:=G1 }
noncomputable def S141:Sum:=sumOf I141 O141 T141 (DenS.dflt O141)
theorem S141_sound:Sound Tryz.prog G1 87 S141 :=
 fn_sound C141 9 87 Tryz.f87 mixedOk (by kernel_rfl) (by kernel_rfl) (by kernel_rfl) ⟨S171_sound,trivial⟩ trivial I141 O141 T141 _ (fun x=>r141 S171.pre S171.F x.1 x.2.1)
abbrev I177:Sig:=[(false,.int .i64),(false,.bool),(false,.bool),(false,.int .u64)]
abbrev O177:Sig:=[(false,.bool)]
noncomputable def t177 (a0:Den (.int .i64)) (a1:Den (.bool)) (a2:Den (.bool)) (a3:Den (.int .u64)):Option (DenS O177) :=
 bif (a0==(4:Int)) then
 (some ((!(!a1)),()))
 else bif (a0==(3:Int)) then
 (some ((!a1),()))
 else bif (a0==(0:Int)) then
 (bif (a3==(2:Int)) then
 (some (a2,()))
 else some ((decide (a3≥(2:Int))),()))
 else bif (a0==(1:Int)) then
 (some ((decide (a3≥(2:Int))),()))
 else bif (a0==(5:Int)) then
 (some ((!a2),()))
 else some (false,())
theorem r177 (a0:Den (.int .i64)) (a1:Den (.bool)) (a2:Den (.bool)) (a3:Den (.int .u64)) :
  run { P:=Tryz.prog,sums:=[],loops:=[],globs:=G1 } 9 88 Tryz.f88 I177 O177 (a0,a1,a2,a3,())=t177 a0 a1 a2 a3:=by kernel_rfl
noncomputable def T177 (x:DenS I177):Option (DenS O177):=t177 x.1 x.2.1 x.2.2.1 x.2.2.2.1
noncomputable def C177:Cfg:={ P:=Tryz.prog,sums:=[],loops:=[],globs:=G1 }
noncomputable def S177:Sum:=sumOf I177 O177 T177 (DenS.dflt O177)
theorem S177_sound:Sound Tryz.prog G1 88 S177 :=
 fn_sound C177 9 88 Tryz.f88 mixedOk (by kernel_rfl) (by kernel_rfl) (by kernel_rfl) trivial trivial I177 O177 T177 _ (fun x=>r177 x.1 x.2.1 x.2.2.1 x.2.2.2.1)
abbrev I143:Sig:=[(false,.slice (.int .u64)),(false,.slice (.int .u64))]
abbrev O143:Sig:=[(false,.slice (.int .u64))]
abbrev P143_8:Pat:=⟨61,[(28,.one (.v .i64)),(1,.one (.sl (.int .u64))),(29,.one (.v .i64)),(0,.one (.sl (.int .u64))),(6,.one (.v .u64)),(5,.one (.own 0))],[.arr (.int .u64)]⟩
abbrev A143_8:List (Nat×Shape):=[]
abbrev X143_8:List (Nat×Pat):=[(0,⟨61,[(0,.one (.sl (.int .u64))),(6,.one (.v .u64)),(5,.one (.own 0))],[.arr (.int .u64)]⟩)]
abbrev Q143_8:Option Pat:=none
noncomputable def h143_8 (p155:DenS I155→Bool) (f155:DenS I155→DenS O155) (p173:DenS I173→Bool) (f173:DenS I173→DenS O173) {R:Type} (L:Pat.D P143_8→Option R) (e:OutT X143_8 Q143_8→Option R) (x:Pat.D P143_8):Option R :=
 bif (decide (x.1.2.2.1<x.1.1)) then
 (bif (decide (x.1.2.2.1<(x.1.2.1.length:Int))) then
 (bif ((decide ((0:Int)≤x.1.2.2.1))&&(decide (x.1.2.2.1<(x.1.2.1.length:Int)))) then
 (bif ((decide ((0:Int)≤x.1.2.2.1))&&(decide (x.1.2.2.1<(x.1.2.2.2.1.length:Int)))) then
 (bif (p155 ((x.1.2.2.2.1.getD (Int.toNat x.1.2.2.1) (0:Int)),((x.1.2.1.getD (Int.toNat x.1.2.2.1) (0:Int)),(x.1.2.2.2.2.1,())))) then
 (bif ((decide ((0:Int)≤x.1.2.2.1))&&(decide (x.1.2.2.1<(x.2.1.length:Int)))) then
 ((L ((x.1.1,(x.1.2.1,((IntKind.wrap .i64 (x.1.2.2.1+(1:Int))),(x.1.2.2.2.1,((f155 ((x.1.2.2.2.1.getD (Int.toNat x.1.2.2.1) (0:Int)),((x.1.2.1.getD (Int.toNat x.1.2.2.1) (0:Int)),(x.1.2.2.2.2.1,())))).2.1,((),())))))),((x.2.1.set (Int.toNat x.1.2.2.1) (f155 ((x.1.2.2.2.1.getD (Int.toNat x.1.2.2.1) (0:Int)),((x.1.2.1.getD (Int.toNat x.1.2.2.1) (0:Int)),(x.1.2.2.2.2.1,())))).1),()))))
 else none)
 else none)
 else none)
 else none)
 else bif ((decide ((0:Int)≤x.1.2.2.1))&&(decide (x.1.2.2.1<(x.1.2.2.2.1.length:Int)))) then
 (bif (p155 ((x.1.2.2.2.1.getD (Int.toNat x.1.2.2.1) (0:Int)),((0:Int),(x.1.2.2.2.2.1,())))) then
 (bif ((decide ((0:Int)≤x.1.2.2.1))&&(decide (x.1.2.2.1<(x.2.1.length:Int)))) then
 ((L ((x.1.1,(x.1.2.1,((IntKind.wrap .i64 (x.1.2.2.1+(1:Int))),(x.1.2.2.2.1,((f155 ((x.1.2.2.2.1.getD (Int.toNat x.1.2.2.1) (0:Int)),((0:Int),(x.1.2.2.2.2.1,())))).2.1,((),())))))),((x.2.1.set (Int.toNat x.1.2.2.1) (f155 ((x.1.2.2.2.1.getD (Int.toNat x.1.2.2.1) (0:Int)),((0:Int),(x.1.2.2.2.2.1,())))).1),()))))
 else none)
 else none)
 else none)
 else (e (.inl ((x.1.2.2.2.1,(x.1.2.2.2.2.1,((),()))),x.2)))
theorem s143_8 (p155:DenS I155→Bool) (f155:DenS I155→DenS O155) (p173:DenS I173→Bool) (f173:DenS I173→DenS O173) (w143_8:Pat.D P143_8→Option (OutT X143_8 Q143_8)) (d:Nat) (R:Type) (L:Pat.D P143_8→Option R) (e:OutT X143_8 Q143_8→Option R) (x:Pat.D P143_8) :
  lStep { P:=Tryz.prog,sums:=[(69,⟨I155,O155,p155,f155⟩),(73,⟨I173,O173,p173,f173⟩)],loops:=[(80,8,LoopSpec.of P143_8 A143_8 X143_8 Q143_8 w143_8)],globs:=G1 } (d+2) 80 (bodyOf Tryz.f80 8) P143_8 A143_8 X143_8 Q143_8 (R:=R) L e x=h143_8 p155 f155 p173 f173 L e x:=by kernel_rfl
theorem m143_8 (p155:DenS I155→Bool) (f155:DenS I155→DenS O155) (p173:DenS I173→Bool) (f173:DenS I173→DenS O173):Par fun L e x=>h143_8 p155 f155 p173 f173 L e x:=by
 intro A B rel L L' e e' h0 hL he x
 unfold h143_8
 repeat' (first | exact h0 | exact hL _ | exact he _ | apply rel_cond | (apply rel_obind h0; intro _) | (apply rel_obind2 <;> intro _))
noncomputable def t143 (p155:DenS I155→Bool) (f155:DenS I155→DenS O155) (p173:DenS I173→Bool) (f173:DenS I173→DenS O173) (w143_8:Pat.D P143_8→Option (OutT X143_8 Q143_8)) (a0:Den (.slice (.int .u64))) (a1:Den (.slice (.int .u64))):Option (DenS O143) :=
 bif (p173 (a0,())) then
 (bif (p173 (a1,())) then
 (bif (decide (((f173 (a0,())).1.length:Int)<((f173 (a1,())).1.length:Int))) then
 (bif ((decide ((0:Int)≤(IntKind.wrap .i64 (((f173 (a1,())).1.length:Int)+(1:Int)))))&&(decide (((IntKind.wrap .i64 (((f173 (a1,())).1.length:Int)+(1:Int)))*(8:Int))≤(140737488355328:Int)))) then
 (Vx.obind (w143_8 ((((f173 (a1,())).1.length:Int),((f173 (a0,())).1,((0:Int),((f173 (a1,())).1,((0:Int),((),())))))),((((f173 (a1,())).1.take (List.replicate (Int.toNat (IntKind.wrap .i64 (((f173 (a1,())).1.length:Int)+(1:Int)))) (0:Int)).length)++((List.replicate (Int.toNat (IntKind.wrap .i64 (((f173 (a1,())).1.length:Int)+(1:Int)))) (0:Int)).drop (f173 (a1,())).1.length)),()))) fun y4 =>
 Vx.obind2 y4 (fun y5 =>
 bif ((decide ((0:Int)≤(y5.1.1.length:Int)))&&(decide ((y5.1.1.length:Int)<(y5.2.1.length:Int)))) then
 (bif (p173 ((y5.2.1.set (Int.toNat (y5.1.1.length:Int)) y5.1.2.1),())) then
 (some (f173 ((y5.2.1.set (Int.toNat (y5.1.1.length:Int)) y5.1.2.1),())))
 else none)
 else none) (fun z5 =>
 none))
 else none)
 else bif ((decide ((0:Int)≤(IntKind.wrap .i64 (((f173 (a0,())).1.length:Int)+(1:Int)))))&&(decide (((IntKind.wrap .i64 (((f173 (a0,())).1.length:Int)+(1:Int)))*(8:Int))≤(140737488355328:Int)))) then
 (Vx.obind (w143_8 ((((f173 (a0,())).1.length:Int),((f173 (a1,())).1,((0:Int),((f173 (a0,())).1,((0:Int),((),())))))),((((f173 (a0,())).1.take (List.replicate (Int.toNat (IntKind.wrap .i64 (((f173 (a0,())).1.length:Int)+(1:Int)))) (0:Int)).length)++((List.replicate (Int.toNat (IntKind.wrap .i64 (((f173 (a0,())).1.length:Int)+(1:Int)))) (0:Int)).drop (f173 (a0,())).1.length)),()))) fun y4 =>
 Vx.obind2 y4 (fun y5 =>
 bif ((decide ((0:Int)≤(y5.1.1.length:Int)))&&(decide ((y5.1.1.length:Int)<(y5.2.1.length:Int)))) then
 (bif (p173 ((y5.2.1.set (Int.toNat (y5.1.1.length:Int)) y5.1.2.1),())) then
 (some (f173 ((y5.2.1.set (Int.toNat (y5.1.1.length:Int)) y5.1.2.1),())))
 else none)
 else none) (fun z5 =>
 none))
 else none)
 else none)
 else none
theorem r143 (p155:DenS I155→Bool) (f155:DenS I155→DenS O155) (p173:DenS I173→Bool) (f173:DenS I173→DenS O173) (w143_8:Pat.D P143_8→Option (OutT X143_8 Q143_8)) (a0:Den (.slice (.int .u64))) (a1:Den (.slice (.int .u64))) :
  run { P:=Tryz.prog,sums:=[(69,⟨I155,O155,p155,f155⟩),(73,⟨I173,O173,p173,f173⟩)],loops:=[(80,8,LoopSpec.of P143_8 A143_8 X143_8 Q143_8 w143_8)],globs:=G1 } 9 80 Tryz.f80 I143 O143 (a0,a1,())=t143 p155 f155 p173 f173 w143_8 a0 a1:=by kernel_rfl
noncomputable def W143_8:P143_8.D→Option (OutT X143_8 Q143_8):=lfix fun L=>h143_8 S155.pre S155.F S173.pre S173.F L some
noncomputable def T143 (x:DenS I143):Option (DenS O143):=t143 S155.pre S155.F S173.pre S173.F W143_8 x.1 x.2.1
noncomputable def C143:Cfg:={ P:=Tryz.prog,sums:=[(69,S155),(73,S173)],loops:=[(80,8,LoopSpec.of P143_8 A143_8 X143_8 Q143_8 W143_8)],globs:=G1 }
noncomputable def S143:Sum:=sumOf I143 O143 T143 (DenS.dflt O143)
theorem S143_sound:Sound Tryz.prog G1 80 S143 :=
 fn_sound C143 9 80 Tryz.f80 mixedOk (by kernel_rfl) (by kernel_rfl) (by kernel_rfl) ⟨S155_sound,⟨S173_sound,trivial⟩⟩ ⟨rfl,fun d=>loopOk_of (fun L e x=>h143_8 S155.pre S155.F S173.pre S173.F L e x) (m143_8 S155.pre S155.F S173.pre S173.F) (fun R L e x=>s143_8 S155.pre S155.F S173.pre S173.F W143_8 d R L e x),trivial⟩ I143 O143 T143 _ (fun x=>r143 S155.pre S155.F S173.pre S173.F W143_8 x.1 x.2.1)
abbrev I150:Sig:=[(true,.pair (.bool) (.pair (.slice (.int .u64)) (.pair (.int .i64) (.pair (.bool) (.unit))))),(false,.int .i64),(false,.int .i64)]
abbrev O150:Sig:=[(false,.slice (.int .u64)),(false,.bool)]
noncomputable def t150 (p175:DenS I175→Bool) (f175:DenS I175→DenS O175) (p176:DenS I176→Bool) (f176:DenS I176→DenS O176) (p141:DenS I141→Bool) (f141:DenS I141→DenS O141) (p177:DenS I177→Bool) (f177:DenS I177→DenS O177) (p143:DenS I143→Bool) (f143:DenS I143→DenS O143) (a0:Den (.pair (.bool) (.pair (.slice (.int .u64)) (.pair (.int .i64) (.pair (.bool) (.unit)))))) (a1:Den (.int .i64)) (a2:Den (.int .i64)):Option (DenS O150) :=
 bif (decide ((IntKind.wrap .i64 (a2-a0.2.2.1))≥(2:Int))) then
 (bif (p175 (a0.2.1,((IntKind.wrap .i64 ((IntKind.wrap .i64 (a2-a0.2.2.1))-(2:Int))),()))) then
 (bif (decide (((f175 (a0.2.1,((IntKind.wrap .i64 ((IntKind.wrap .i64 (a2-a0.2.2.1))-(2:Int))),()))).1.length:Int)>(0:Int))) then
 (bif (decide ((0:Int)<((f175 (a0.2.1,((IntKind.wrap .i64 ((IntKind.wrap .i64 (a2-a0.2.2.1))-(2:Int))),()))).1.length:Int))) then
 (bif a0.2.2.2.1 then
 (bif (p141 ((f175 (a0.2.1,((IntKind.wrap .i64 ((IntKind.wrap .i64 (a2-a0.2.2.1))-(2:Int))),()))).1,((2:Int),()))) then
 (bif ((decide ((0:Int)<((f141 ((f175 (a0.2.1,((IntKind.wrap .i64 ((IntKind.wrap .i64 (a2-a0.2.2.1))-(2:Int))),()))).1,((2:Int),()))).1.length:Int)))||(!(decide (((f141 ((f175 (a0.2.1,((IntKind.wrap .i64 ((IntKind.wrap .i64 (a2-a0.2.2.1))-(2:Int))),()))).1,((2:Int),()))).1.length:Int)>(0:Int))))) then
 (bif ((p177 (a1,(a0.1,(((decide (((f141 ((f175 (a0.2.1,((IntKind.wrap .i64 ((IntKind.wrap .i64 (a2-a0.2.2.1))-(2:Int))),()))).1,((2:Int),()))).1.length:Int)>(0:Int)))&&((andI .u64 ((f141 ((f175 (a0.2.1,((IntKind.wrap .i64 ((IntKind.wrap .i64 (a2-a0.2.2.1))-(2:Int))),()))).1,((2:Int),()))).1.getD (Int.toNat (0:Int)) (0:Int)) (1:Int))==(1:Int))),((orI .u64 (andI .u64 ((f175 (a0.2.1,((IntKind.wrap .i64 ((IntKind.wrap .i64 (a2-a0.2.2.1))-(2:Int))),()))).1.getD (Int.toNat (0:Int)) (0:Int)) (3:Int)) (1:Int)),())))))||(!(bif ((orI .u64 (andI .u64 ((f175 (a0.2.1,((IntKind.wrap .i64 ((IntKind.wrap .i64 (a2-a0.2.2.1))-(2:Int))),()))).1.getD (Int.toNat (0:Int)) (0:Int)) (3:Int)) (1:Int))==(0:Int)) then false else true))) then
 (bif (((orI .u64 (andI .u64 ((f175 (a0.2.1,((IntKind.wrap .i64 ((IntKind.wrap .i64 (a2-a0.2.2.1))-(2:Int))),()))).1.getD (Int.toNat (0:Int)) (0:Int)) (3:Int)) (1:Int)) != (0:Int))&&(f177 (a1,(a0.1,(((decide (((f141 ((f175 (a0.2.1,((IntKind.wrap .i64 ((IntKind.wrap .i64 (a2-a0.2.2.1))-(2:Int))),()))).1,((2:Int),()))).1.length:Int)>(0:Int)))&&((andI .u64 ((f141 ((f175 (a0.2.1,((IntKind.wrap .i64 ((IntKind.wrap .i64 (a2-a0.2.2.1))-(2:Int))),()))).1,((2:Int),()))).1.getD (Int.toNat (0:Int)) (0:Int)) (1:Int))==(1:Int))),((orI .u64 (andI .u64 ((f175 (a0.2.1,((IntKind.wrap .i64 ((IntKind.wrap .i64 (a2-a0.2.2.1))-(2:Int))),()))).1.getD (Int.toNat (0:Int)) (0:Int)) (3:Int)) (1:Int)),()))))).1) then
 (bif (p143 ((f141 ((f175 (a0.2.1,((IntKind.wrap .i64 ((IntKind.wrap .i64 (a2-a0.2.2.1))-(2:Int))),()))).1,((2:Int),()))).1,(((1:Int)::[]),()))) then
 (some ((f143 ((f141 ((f175 (a0.2.1,((IntKind.wrap .i64 ((IntKind.wrap .i64 (a2-a0.2.2.1))-(2:Int))),()))).1,((2:Int),()))).1,(((1:Int)::[]),()))).1,(((orI .u64 (andI .u64 ((f175 (a0.2.1,((IntKind.wrap .i64 ((IntKind.wrap .i64 (a2-a0.2.2.1))-(2:Int))),()))).1.getD (Int.toNat (0:Int)) (0:Int)) (3:Int)) (1:Int)) != (0:Int)),())))
 else none)
 else some ((f141 ((f175 (a0.2.1,((IntKind.wrap .i64 ((IntKind.wrap .i64 (a2-a0.2.2.1))-(2:Int))),()))).1,((2:Int),()))).1,(((orI .u64 (andI .u64 ((f175 (a0.2.1,((IntKind.wrap .i64 ((IntKind.wrap .i64 (a2-a0.2.2.1))-(2:Int))),()))).1.getD (Int.toNat (0:Int)) (0:Int)) (3:Int)) (1:Int)) != (0:Int)),())))
 else none)
 else none)
 else none)
 else bif (p141 ((f175 (a0.2.1,((IntKind.wrap .i64 ((IntKind.wrap .i64 (a2-a0.2.2.1))-(2:Int))),()))).1,((2:Int),()))) then
 (bif ((decide ((0:Int)<((f141 ((f175 (a0.2.1,((IntKind.wrap .i64 ((IntKind.wrap .i64 (a2-a0.2.2.1))-(2:Int))),()))).1,((2:Int),()))).1.length:Int)))||(!(decide (((f141 ((f175 (a0.2.1,((IntKind.wrap .i64 ((IntKind.wrap .i64 (a2-a0.2.2.1))-(2:Int))),()))).1,((2:Int),()))).1.length:Int)>(0:Int))))) then
 (bif ((p177 (a1,(a0.1,(((decide (((f141 ((f175 (a0.2.1,((IntKind.wrap .i64 ((IntKind.wrap .i64 (a2-a0.2.2.1))-(2:Int))),()))).1,((2:Int),()))).1.length:Int)>(0:Int)))&&((andI .u64 ((f141 ((f175 (a0.2.1,((IntKind.wrap .i64 ((IntKind.wrap .i64 (a2-a0.2.2.1))-(2:Int))),()))).1,((2:Int),()))).1.getD (Int.toNat (0:Int)) (0:Int)) (1:Int))==(1:Int))),((andI .u64 ((f175 (a0.2.1,((IntKind.wrap .i64 ((IntKind.wrap .i64 (a2-a0.2.2.1))-(2:Int))),()))).1.getD (Int.toNat (0:Int)) (0:Int)) (3:Int)),())))))||(!(bif ((andI .u64 ((f175 (a0.2.1,((IntKind.wrap .i64 ((IntKind.wrap .i64 (a2-a0.2.2.1))-(2:Int))),()))).1.getD (Int.toNat (0:Int)) (0:Int)) (3:Int))==(0:Int)) then false else true))) then
 (bif (((andI .u64 ((f175 (a0.2.1,((IntKind.wrap .i64 ((IntKind.wrap .i64 (a2-a0.2.2.1))-(2:Int))),()))).1.getD (Int.toNat (0:Int)) (0:Int)) (3:Int)) != (0:Int))&&(f177 (a1,(a0.1,(((decide (((f141 ((f175 (a0.2.1,((IntKind.wrap .i64 ((IntKind.wrap .i64 (a2-a0.2.2.1))-(2:Int))),()))).1,((2:Int),()))).1.length:Int)>(0:Int)))&&((andI .u64 ((f141 ((f175 (a0.2.1,((IntKind.wrap .i64 ((IntKind.wrap .i64 (a2-a0.2.2.1))-(2:Int))),()))).1,((2:Int),()))).1.getD (Int.toNat (0:Int)) (0:Int)) (1:Int))==(1:Int))),((andI .u64 ((f175 (a0.2.1,((IntKind.wrap .i64 ((IntKind.wrap .i64 (a2-a0.2.2.1))-(2:Int))),()))).1.getD (Int.toNat (0:Int)) (0:Int)) (3:Int)),()))))).1) then
 (bif (p143 ((f141 ((f175 (a0.2.1,((IntKind.wrap .i64 ((IntKind.wrap .i64 (a2-a0.2.2.1))-(2:Int))),()))).1,((2:Int),()))).1,(((1:Int)::[]),()))) then
 (some ((f143 ((f141 ((f175 (a0.2.1,((IntKind.wrap .i64 ((IntKind.wrap .i64 (a2-a0.2.2.1))-(2:Int))),()))).1,((2:Int),()))).1,(((1:Int)::[]),()))).1,(((andI .u64 ((f175 (a0.2.1,((IntKind.wrap .i64 ((IntKind.wrap .i64 (a2-a0.2.2.1))-(2:Int))),()))).1.getD (Int.toNat (0:Int)) (0:Int)) (3:Int)) != (0:Int)),())))
 else none)
 else some ((f141 ((f175 (a0.2.1,((IntKind.wrap .i64 ((IntKind.wrap .i64 (a2-a0.2.2.1))-(2:Int))),()))).1,((2:Int),()))).1,(((andI .u64 ((f175 (a0.2.1,((IntKind.wrap .i64 ((IntKind.wrap .i64 (a2-a0.2.2.1))-(2:Int))),()))).1.getD (Int.toNat (0:Int)) (0:Int)) (3:Int)) != (0:Int)),())))
 else none)
 else none)
 else none)
 else none)
 else bif a0.2.2.2.1 then
 (bif (p141 ((f175 (a0.2.1,((IntKind.wrap .i64 ((IntKind.wrap .i64 (a2-a0.2.2.1))-(2:Int))),()))).1,((2:Int),()))) then
 (bif ((decide ((0:Int)<((f141 ((f175 (a0.2.1,((IntKind.wrap .i64 ((IntKind.wrap .i64 (a2-a0.2.2.1))-(2:Int))),()))).1,((2:Int),()))).1.length:Int)))||(!(decide (((f141 ((f175 (a0.2.1,((IntKind.wrap .i64 ((IntKind.wrap .i64 (a2-a0.2.2.1))-(2:Int))),()))).1,((2:Int),()))).1.length:Int)>(0:Int))))) then
 (bif ((p177 (a1,(a0.1,(((decide (((f141 ((f175 (a0.2.1,((IntKind.wrap .i64 ((IntKind.wrap .i64 (a2-a0.2.2.1))-(2:Int))),()))).1,((2:Int),()))).1.length:Int)>(0:Int)))&&((andI .u64 ((f141 ((f175 (a0.2.1,((IntKind.wrap .i64 ((IntKind.wrap .i64 (a2-a0.2.2.1))-(2:Int))),()))).1,((2:Int),()))).1.getD (Int.toNat (0:Int)) (0:Int)) (1:Int))==(1:Int))),((orI .u64 (0:Int) (1:Int)),())))))||false) then
 (bif (f177 (a1,(a0.1,(((decide (((f141 ((f175 (a0.2.1,((IntKind.wrap .i64 ((IntKind.wrap .i64 (a2-a0.2.2.1))-(2:Int))),()))).1,((2:Int),()))).1.length:Int)>(0:Int)))&&((andI .u64 ((f141 ((f175 (a0.2.1,((IntKind.wrap .i64 ((IntKind.wrap .i64 (a2-a0.2.2.1))-(2:Int))),()))).1,((2:Int),()))).1.getD (Int.toNat (0:Int)) (0:Int)) (1:Int))==(1:Int))),((orI .u64 (0:Int) (1:Int)),()))))).1 then
 (bif (p143 ((f141 ((f175 (a0.2.1,((IntKind.wrap .i64 ((IntKind.wrap .i64 (a2-a0.2.2.1))-(2:Int))),()))).1,((2:Int),()))).1,(((1:Int)::[]),()))) then
 (some ((f143 ((f141 ((f175 (a0.2.1,((IntKind.wrap .i64 ((IntKind.wrap .i64 (a2-a0.2.2.1))-(2:Int))),()))).1,((2:Int),()))).1,(((1:Int)::[]),()))).1,(true,())))
 else none)
 else some ((f141 ((f175 (a0.2.1,((IntKind.wrap .i64 ((IntKind.wrap .i64 (a2-a0.2.2.1))-(2:Int))),()))).1,((2:Int),()))).1,(true,())))
 else none)
 else none)
 else none)
 else bif (p141 ((f175 (a0.2.1,((IntKind.wrap .i64 ((IntKind.wrap .i64 (a2-a0.2.2.1))-(2:Int))),()))).1,((2:Int),()))) then
 (bif ((decide ((0:Int)<((f141 ((f175 (a0.2.1,((IntKind.wrap .i64 ((IntKind.wrap .i64 (a2-a0.2.2.1))-(2:Int))),()))).1,((2:Int),()))).1.length:Int)))||(!(decide (((f141 ((f175 (a0.2.1,((IntKind.wrap .i64 ((IntKind.wrap .i64 (a2-a0.2.2.1))-(2:Int))),()))).1,((2:Int),()))).1.length:Int)>(0:Int))))) then
 (bif ((p177 (a1,(a0.1,(((decide (((f141 ((f175 (a0.2.1,((IntKind.wrap .i64 ((IntKind.wrap .i64 (a2-a0.2.2.1))-(2:Int))),()))).1,((2:Int),()))).1.length:Int)>(0:Int)))&&((andI .u64 ((f141 ((f175 (a0.2.1,((IntKind.wrap .i64 ((IntKind.wrap .i64 (a2-a0.2.2.1))-(2:Int))),()))).1,((2:Int),()))).1.getD (Int.toNat (0:Int)) (0:Int)) (1:Int))==(1:Int))),((0:Int),())))))||true) then
 (some ((f141 ((f175 (a0.2.1,((IntKind.wrap .i64 ((IntKind.wrap .i64 (a2-a0.2.2.1))-(2:Int))),()))).1,((2:Int),()))).1,(false,())))
 else none)
 else none)
 else none)
 else none)
 else bif (p176 (a0.2.1,((IntKind.wrap .i64 ((2:Int)-(IntKind.wrap .i64 (a2-a0.2.2.1)))),()))) then
 (bif (decide (((f176 (a0.2.1,((IntKind.wrap .i64 ((2:Int)-(IntKind.wrap .i64 (a2-a0.2.2.1)))),()))).1.length:Int)>(0:Int))) then
 (bif (decide ((0:Int)<((f176 (a0.2.1,((IntKind.wrap .i64 ((2:Int)-(IntKind.wrap .i64 (a2-a0.2.2.1)))),()))).1.length:Int))) then
 (bif a0.2.2.2.1 then
 (bif (p141 ((f176 (a0.2.1,((IntKind.wrap .i64 ((2:Int)-(IntKind.wrap .i64 (a2-a0.2.2.1)))),()))).1,((2:Int),()))) then
 (bif ((decide ((0:Int)<((f141 ((f176 (a0.2.1,((IntKind.wrap .i64 ((2:Int)-(IntKind.wrap .i64 (a2-a0.2.2.1)))),()))).1,((2:Int),()))).1.length:Int)))||(!(decide (((f141 ((f176 (a0.2.1,((IntKind.wrap .i64 ((2:Int)-(IntKind.wrap .i64 (a2-a0.2.2.1)))),()))).1,((2:Int),()))).1.length:Int)>(0:Int))))) then
 (bif ((p177 (a1,(a0.1,(((decide (((f141 ((f176 (a0.2.1,((IntKind.wrap .i64 ((2:Int)-(IntKind.wrap .i64 (a2-a0.2.2.1)))),()))).1,((2:Int),()))).1.length:Int)>(0:Int)))&&((andI .u64 ((f141 ((f176 (a0.2.1,((IntKind.wrap .i64 ((2:Int)-(IntKind.wrap .i64 (a2-a0.2.2.1)))),()))).1,((2:Int),()))).1.getD (Int.toNat (0:Int)) (0:Int)) (1:Int))==(1:Int))),((orI .u64 (andI .u64 ((f176 (a0.2.1,((IntKind.wrap .i64 ((2:Int)-(IntKind.wrap .i64 (a2-a0.2.2.1)))),()))).1.getD (Int.toNat (0:Int)) (0:Int)) (3:Int)) (1:Int)),())))))||(!(bif ((orI .u64 (andI .u64 ((f176 (a0.2.1,((IntKind.wrap .i64 ((2:Int)-(IntKind.wrap .i64 (a2-a0.2.2.1)))),()))).1.getD (Int.toNat (0:Int)) (0:Int)) (3:Int)) (1:Int))==(0:Int)) then false else true))) then
 (bif (((orI .u64 (andI .u64 ((f176 (a0.2.1,((IntKind.wrap .i64 ((2:Int)-(IntKind.wrap .i64 (a2-a0.2.2.1)))),()))).1.getD (Int.toNat (0:Int)) (0:Int)) (3:Int)) (1:Int)) != (0:Int))&&(f177 (a1,(a0.1,(((decide (((f141 ((f176 (a0.2.1,((IntKind.wrap .i64 ((2:Int)-(IntKind.wrap .i64 (a2-a0.2.2.1)))),()))).1,((2:Int),()))).1.length:Int)>(0:Int)))&&((andI .u64 ((f141 ((f176 (a0.2.1,((IntKind.wrap .i64 ((2:Int)-(IntKind.wrap .i64 (a2-a0.2.2.1)))),()))).1,((2:Int),()))).1.getD (Int.toNat (0:Int)) (0:Int)) (1:Int))==(1:Int))),((orI .u64 (andI .u64 ((f176 (a0.2.1,((IntKind.wrap .i64 ((2:Int)-(IntKind.wrap .i64 (a2-a0.2.2.1)))),()))).1.getD (Int.toNat (0:Int)) (0:Int)) (3:Int)) (1:Int)),()))))).1) then
 (bif (p143 ((f141 ((f176 (a0.2.1,((IntKind.wrap .i64 ((2:Int)-(IntKind.wrap .i64 (a2-a0.2.2.1)))),()))).1,((2:Int),()))).1,(((1:Int)::[]),()))) then
 (some ((f143 ((f141 ((f176 (a0.2.1,((IntKind.wrap .i64 ((2:Int)-(IntKind.wrap .i64 (a2-a0.2.2.1)))),()))).1,((2:Int),()))).1,(((1:Int)::[]),()))).1,(((orI .u64 (andI .u64 ((f176 (a0.2.1,((IntKind.wrap .i64 ((2:Int)-(IntKind.wrap .i64 (a2-a0.2.2.1)))),()))).1.getD (Int.toNat (0:Int)) (0:Int)) (3:Int)) (1:Int)) != (0:Int)),())))
 else none)
 else some ((f141 ((f176 (a0.2.1,((IntKind.wrap .i64 ((2:Int)-(IntKind.wrap .i64 (a2-a0.2.2.1)))),()))).1,((2:Int),()))).1,(((orI .u64 (andI .u64 ((f176 (a0.2.1,((IntKind.wrap .i64 ((2:Int)-(IntKind.wrap .i64 (a2-a0.2.2.1)))),()))).1.getD (Int.toNat (0:Int)) (0:Int)) (3:Int)) (1:Int)) != (0:Int)),())))
 else none)
 else none)
 else none)
 else bif (p141 ((f176 (a0.2.1,((IntKind.wrap .i64 ((2:Int)-(IntKind.wrap .i64 (a2-a0.2.2.1)))),()))).1,((2:Int),()))) then
 (bif ((decide ((0:Int)<((f141 ((f176 (a0.2.1,((IntKind.wrap .i64 ((2:Int)-(IntKind.wrap .i64 (a2-a0.2.2.1)))),()))).1,((2:Int),()))).1.length:Int)))||(!(decide (((f141 ((f176 (a0.2.1,((IntKind.wrap .i64 ((2:Int)-(IntKind.wrap .i64 (a2-a0.2.2.1)))),()))).1,((2:Int),()))).1.length:Int)>(0:Int))))) then
 (bif ((p177 (a1,(a0.1,(((decide (((f141 ((f176 (a0.2.1,((IntKind.wrap .i64 ((2:Int)-(IntKind.wrap .i64 (a2-a0.2.2.1)))),()))).1,((2:Int),()))).1.length:Int)>(0:Int)))&&((andI .u64 ((f141 ((f176 (a0.2.1,((IntKind.wrap .i64 ((2:Int)-(IntKind.wrap .i64 (a2-a0.2.2.1)))),()))).1,((2:Int),()))).1.getD (Int.toNat (0:Int)) (0:Int)) (1:Int))==(1:Int))),((andI .u64 ((f176 (a0.2.1,((IntKind.wrap .i64 ((2:Int)-(IntKind.wrap .i64 (a2-a0.2.2.1)))),()))).1.getD (Int.toNat (0:Int)) (0:Int)) (3:Int)),())))))||(!(bif ((andI .u64 ((f176 (a0.2.1,((IntKind.wrap .i64 ((2:Int)-(IntKind.wrap .i64 (a2-a0.2.2.1)))),()))).1.getD (Int.toNat (0:Int)) (0:Int)) (3:Int))==(0:Int)) then false else true))) then
 (bif (((andI .u64 ((f176 (a0.2.1,((IntKind.wrap .i64 ((2:Int)-(IntKind.wrap .i64 (a2-a0.2.2.1)))),()))).1.getD (Int.toNat (0:Int)) (0:Int)) (3:Int)) != (0:Int))&&(f177 (a1,(a0.1,(((decide (((f141 ((f176 (a0.2.1,((IntKind.wrap .i64 ((2:Int)-(IntKind.wrap .i64 (a2-a0.2.2.1)))),()))).1,((2:Int),()))).1.length:Int)>(0:Int)))&&((andI .u64 ((f141 ((f176 (a0.2.1,((IntKind.wrap .i64 ((2:Int)-(IntKind.wrap .i64 (a2-a0.2.2.1)))),()))).1,((2:Int),()))).1.getD (Int.toNat (0:Int)) (0:Int)) (1:Int))==(1:Int))),((andI .u64 ((f176 (a0.2.1,((IntKind.wrap .i64 ((2:Int)-(IntKind.wrap .i64 (a2-a0.2.2.1)))),()))).1.getD (Int.toNat (0:Int)) (0:Int)) (3:Int)),()))))).1) then
 (bif (p143 ((f141 ((f176 (a0.2.1,((IntKind.wrap .i64 ((2:Int)-(IntKind.wrap .i64 (a2-a0.2.2.1)))),()))).1,((2:Int),()))).1,(((1:Int)::[]),()))) then
 (some ((f143 ((f141 ((f176 (a0.2.1,((IntKind.wrap .i64 ((2:Int)-(IntKind.wrap .i64 (a2-a0.2.2.1)))),()))).1,((2:Int),()))).1,(((1:Int)::[]),()))).1,(((andI .u64 ((f176 (a0.2.1,((IntKind.wrap .i64 ((2:Int)-(IntKind.wrap .i64 (a2-a0.2.2.1)))),()))).1.getD (Int.toNat (0:Int)) (0:Int)) (3:Int)) != (0:Int)),())))
 else none)
 else some ((f141 ((f176 (a0.2.1,((IntKind.wrap .i64 ((2:Int)-(IntKind.wrap .i64 (a2-a0.2.2.1)))),()))).1,((2:Int),()))).1,(((andI .u64 ((f176 (a0.2.1,((IntKind.wrap .i64 ((2:Int)-(IntKind.wrap .i64 (a2-a0.2.2.1)))),()))).1.getD (Int.toNat (0:Int)) (0:Int)) (3:Int)) != (0:Int)),())))
 else none)
 else none)
 else none)
 else none)
 else bif a0.2.2.2.1 then
 (bif (p141 ((f176 (a0.2.1,((IntKind.wrap .i64 ((2:Int)-(IntKind.wrap .i64 (a2-a0.2.2.1)))),()))).1,((2:Int),()))) then
 (bif ((decide ((0:Int)<((f141 ((f176 (a0.2.1,((IntKind.wrap .i64 ((2:Int)-(IntKind.wrap .i64 (a2-a0.2.2.1)))),()))).1,((2:Int),()))).1.length:Int)))||(!(decide (((f141 ((f176 (a0.2.1,((IntKind.wrap .i64 ((2:Int)-(IntKind.wrap .i64 (a2-a0.2.2.1)))),()))).1,((2:Int),()))).1.length:Int)>(0:Int))))) then
 (bif ((p177 (a1,(a0.1,(((decide (((f141 ((f176 (a0.2.1,((IntKind.wrap .i64 ((2:Int)-(IntKind.wrap .i64 (a2-a0.2.2.1)))),()))).1,((2:Int),()))).1.length:Int)>(0:Int)))&&((andI .u64 ((f141 ((f176 (a0.2.1,((IntKind.wrap .i64 ((2:Int)-(IntKind.wrap .i64 (a2-a0.2.2.1)))),()))).1,((2:Int),()))).1.getD (Int.toNat (0:Int)) (0:Int)) (1:Int))==(1:Int))),((orI .u64 (0:Int) (1:Int)),())))))||false) then
 (bif (f177 (a1,(a0.1,(((decide (((f141 ((f176 (a0.2.1,((IntKind.wrap .i64 ((2:Int)-(IntKind.wrap .i64 (a2-a0.2.2.1)))),()))).1,((2:Int),()))).1.length:Int)>(0:Int)))&&((andI .u64 ((f141 ((f176 (a0.2.1,((IntKind.wrap .i64 ((2:Int)-(IntKind.wrap .i64 (a2-a0.2.2.1)))),()))).1,((2:Int),()))).1.getD (Int.toNat (0:Int)) (0:Int)) (1:Int))==(1:Int))),((orI .u64 (0:Int) (1:Int)),()))))).1 then
 (bif (p143 ((f141 ((f176 (a0.2.1,((IntKind.wrap .i64 ((2:Int)-(IntKind.wrap .i64 (a2-a0.2.2.1)))),()))).1,((2:Int),()))).1,(((1:Int)::[]),()))) then
 (some ((f143 ((f141 ((f176 (a0.2.1,((IntKind.wrap .i64 ((2:Int)-(IntKind.wrap .i64 (a2-a0.2.2.1)))),()))).1,((2:Int),()))).1,(((1:Int)::[]),()))).1,(true,())))
 else none)
 else some ((f141 ((f176 (a0.2.1,((IntKind.wrap .i64 ((2:Int)-(IntKind.wrap .i64 (a2-a0.2.2.1)))),()))).1,((2:Int),()))).1,(true,())))
 else none)
 else none)
 else none)
 else bif (p141 ((f176 (a0.2.1,((IntKind.wrap .i64 ((2:Int)-(IntKind.wrap .i64 (a2-a0.2.2.1)))),()))).1,((2:Int),()))) then
 (bif ((decide ((0:Int)<((f141 ((f176 (a0.2.1,((IntKind.wrap .i64 ((2:Int)-(IntKind.wrap .i64 (a2-a0.2.2.1)))),()))).1,((2:Int),()))).1.length:Int)))||(!(decide (((f141 ((f176 (a0.2.1,((IntKind.wrap .i64 ((2:Int)-(IntKind.wrap .i64 (a2-a0.2.2.1)))),()))).1,((2:Int),()))).1.length:Int)>(0:Int))))) then
 (bif ((p177 (a1,(a0.1,(((decide (((f141 ((f176 (a0.2.1,((IntKind.wrap .i64 ((2:Int)-(IntKind.wrap .i64 (a2-a0.2.2.1)))),()))).1,((2:Int),()))).1.length:Int)>(0:Int)))&&((andI .u64 ((f141 ((f176 (a0.2.1,((IntKind.wrap .i64 ((2:Int)-(IntKind.wrap .i64 (a2-a0.2.2.1)))),()))).1,((2:Int),()))).1.getD (Int.toNat (0:Int)) (0:Int)) (1:Int))==(1:Int))),((0:Int),())))))||true) then
 (some ((f141 ((f176 (a0.2.1,((IntKind.wrap .i64 ((2:Int)-(IntKind.wrap .i64 (a2-a0.2.2.1)))),()))).1,((2:Int),()))).1,(false,())))
 else none)
 else none)
 else none)
 else none
theorem r150 (p175:DenS I175→Bool) (f175:DenS I175→DenS O175) (p176:DenS I176→Bool) (f176:DenS I176→DenS O176) (p141:DenS I141→Bool) (f141:DenS I141→DenS O141) (p177:DenS I177→Bool) (f177:DenS I177→DenS O177) (p143:DenS I143→Bool) (f143:DenS I143→DenS O143) (a0:Den (.pair (.bool) (.pair (.slice (.int .u64)) (.pair (.int .i64) (.pair (.bool) (.unit)))))) (a1:Den (.int .i64)) (a2:Den (.int .i64)) :
  run { P:=Tryz.prog,sums:=[(86,⟨I175,O175,p175,f175⟩),(78,⟨I176,O176,p176,f176⟩),(87,⟨I141,O141,p141,f141⟩),(88,⟨I177,O177,p177,f177⟩),(80,⟨I143,O143,p143,f143⟩)],loops:=[],globs:=G1 } 9 76 Tryz.f76 I150 O150 (a0,a1,a2,())=t150 p175 f175 p176 f176 p141 f141 p177 f177 p143 f143 a0 a1 a2:=by kernel_rfl
noncomputable def T150 (x:DenS I150):Option (DenS O150):=t150 S175.pre S175.F S176.pre S176.F S141.pre S141.F S177.pre S177.F S143.pre S143.F x.1 x.2.1 x.2.2.1
noncomputable def C150:Cfg:={ P:=Tryz.prog,sums:=[(86,S175),(78,S176),(87,S141),(88,S177),(80,S143)],loops:=[],globs:=G1 }
noncomputable def S150:Sum:=sumOf I150 O150 T150 (DenS.dflt O150)
theorem S150_sound:Sound Tryz.prog G1 76 S150 :=
 fn_sound C150 9 76 Tryz.f76 mixedOk (by kernel_rfl) (by kernel_rfl) (by kernel_rfl) ⟨S175_sound,⟨S176_sound,⟨S141_sound,⟨S177_sound,⟨S143_sound,trivial⟩⟩⟩⟩⟩ trivial I150 O150 T150 _ (fun x=>r150 S175.pre S175.F S176.pre S176.F S141.pre S141.F S177.pre S177.F S143.pre S143.F x.1 x.2.1 x.2.2.1)
abbrev I97:Sig:=[(false,.int .i64),(false,.bool)]
abbrev O97:Sig:=[(false,.int .u64),(false,.int .i64)]
noncomputable def t97 (p116:DenS I116→Bool) (f116:DenS I116→DenS O116) (p69:DenS I69→Bool) (f69:DenS I69→DenS O69) (p91:DenS I91→Bool) (f91:DenS I91→DenS O91) (p140:DenS I140→Bool) (f140:DenS I140→DenS O140) (a0:Den (.int .i64)) (a1:Den (.bool)):Option (DenS O97) :=
 bif (p69 (a0,())) then
 (bif ((f69 (a0,())).2.1 != (0:Int)) then
 (some ((0:Int),(f69 (a0,())).2))
 else bif (p91 ((IntKind.wrap .i64 ((f69 (a0,())).1.1-(f69 (a0,())).1.2.1)),())) then
 (bif (p116 ((f69 (a0,())).1,())) then
 (bif (p116 ((f69 (a0,())).1,())) then
 (bif (p140 ((f69 (a0,())).1,(a1,((IntKind.wrap .u64 ((f91 ((IntKind.wrap .i64 ((f69 (a0,())).1.1-(f69 (a0,())).1.2.1)),())).1-(f116 ((f69 (a0,())).1,())).1)),(f116 ((f69 (a0,())).1,())))))) then
 (some ((f140 ((f69 (a0,())).1,(a1,((IntKind.wrap .u64 ((f91 ((IntKind.wrap .i64 ((f69 (a0,())).1.1-(f69 (a0,())).1.2.1)),())).1-(f116 ((f69 (a0,())).1,())).1)),(f116 ((f69 (a0,())).1,())))))).1,((0:Int),())))
 else none)
 else none)
 else none)
 else none)
 else none
theorem r97 (p116:DenS I116→Bool) (f116:DenS I116→DenS O116) (p69:DenS I69→Bool) (f69:DenS I69→DenS O69) (p91:DenS I91→Bool) (f91:DenS I91→DenS O91) (p140:DenS I140→Bool) (f140:DenS I140→DenS O140) (a0:Den (.int .i64)) (a1:Den (.bool)) :
  run { P:=Tryz.prog,sums:=[(50,⟨I116,O116,p116,f116⟩),(19,⟨I69,O69,p69,f69⟩),(48,⟨I91,O91,p91,f91⟩),(68,⟨I140,O140,p140,f140⟩)],loops:=[],globs:=G1 } 9 30 Tryz.f30 I97 O97 (a0,a1,())=t97 p116 f116 p69 f69 p91 f91 p140 f140 a0 a1:=by kernel_rfl
noncomputable def T97 (x:DenS I97):Option (DenS O97):=t97 S116.pre S116.F S69.pre S69.F S91.pre S91.F S140.pre S140.F x.1 x.2.1
noncomputable def C97:Cfg:={ P:=Tryz.prog,sums:=[(50,S116),(19,S69),(48,S91),(68,S140)],loops:=[],globs:=G1 }
noncomputable def S97:Sum:=sumOf I97 O97 T97 (DenS.dflt O97)
theorem S97_sound:Sound Tryz.prog G1 30 S97 :=
 fn_sound C97 9 30 Tryz.f30 mixedOk (by kernel_rfl) (by kernel_rfl) (by kernel_rfl) ⟨S116_sound,⟨S69_sound,⟨S91_sound,⟨S140_sound,trivial⟩⟩⟩⟩ trivial I97 O97 T97 _ (fun x=>r97 S116.pre S116.F S69.pre S69.F S91.pre S91.F S140.pre S140.F x.1 x.2.1)
abbrev I95:Sig:=[(true,.pair (.int .i64) (.pair (.int .i64) (.pair (.int .i64) (.pair (.int .i64) (.unit)))))]
abbrev O95:Sig:=[(false,.int .u64)]
noncomputable def t95 (a0:Den (.pair (.int .i64) (.pair (.int .i64) (.pair (.int .i64) (.pair (.int .i64) (.unit)))))):Option (DenS O95) :=
 some ((1:Int),())
theorem r95 (a0:Den (.pair (.int .i64) (.pair (.int .i64) (.pair (.int .i64) (.pair (.int .i64) (.unit)))))) :
  run { P:=Tryz.prog,sums:=[],loops:=[],globs:=G1 } 9 94 Tryz.f94 I95 O95 (a0,())=t95 a0:=by kernel_rfl
noncomputable def T95 (x:DenS I95):Option (DenS O95):=t95 x.1
noncomputable def C95:Cfg:={ P:=Tryz.prog,sums:=[],loops:=[],globs:=G1 }
noncomputable def S95:Sum:=sumOf I95 O95 T95 (DenS.dflt O95)
theorem S95_sound:Sound Tryz.prog G1 94 S95 :=
 fn_sound C95 9 94 Tryz.f94 mixedOk (by kernel_rfl) (by kernel_rfl) (by kernel_rfl) trivial trivial I95 O95 T95 _ (fun x=>r95 x.1)
abbrev I96:Sig:=[(true,.pair (.int .i64) (.pair (.int .i64) (.pair (.int .i64) (.pair (.int .i64) (.unit)))))]
abbrev O96:Sig:=[(false,.int .u64)]
noncomputable def t96 (p91:DenS I91→Bool) (f91:DenS I91→DenS O91) (a0:Den (.pair (.int .i64) (.pair (.int .i64) (.pair (.int .i64) (.pair (.int .i64) (.unit)))))):Option (DenS O96) :=
 bif (p91 ((IntKind.wrap .i64 (a0.2.1-(1:Int))),())) then
 (some (f91 ((IntKind.wrap .i64 (a0.2.1-(1:Int))),())))
 else none
theorem r96 (p91:DenS I91→Bool) (f91:DenS I91→DenS O91) (a0:Den (.pair (.int .i64) (.pair (.int .i64) (.pair (.int .i64) (.pair (.int .i64) (.unit)))))) :
  run { P:=Tryz.prog,sums:=[(48,⟨I91,O91,p91,f91⟩)],loops:=[],globs:=G1 } 9 95 Tryz.f95 I96 O96 (a0,())=t96 p91 f91 a0:=by kernel_rfl
noncomputable def T96 (x:DenS I96):Option (DenS O96):=t96 S91.pre S91.F x.1
noncomputable def C96:Cfg:={ P:=Tryz.prog,sums:=[(48,S91)],loops:=[],globs:=G1 }
noncomputable def S96:Sum:=sumOf I96 O96 T96 (DenS.dflt O96)
theorem S96_sound:Sound Tryz.prog G1 95 S96 :=
 fn_sound C96 9 95 Tryz.f95 mixedOk (by kernel_rfl) (by kernel_rfl) (by kernel_rfl) ⟨S91_sound,trivial⟩ trivial I96 O96 T96 _ (fun x=>r96 S91.pre S91.F x.1)
abbrev I43:Sig:=[(false,.int .i64),(false,.bool)]
abbrev O43:Sig:=[(false,.int .u64),(false,.int .i64)]
noncomputable def t43 (p95:DenS I95→Bool) (f95:DenS I95→DenS O95) (p96:DenS I96→Bool) (f96:DenS I96→DenS O96) (p69:DenS I69→Bool) (f69:DenS I69→DenS O69) (p91:DenS I91→Bool) (f91:DenS I91→DenS O91) (p140:DenS I140→Bool) (f140:DenS I140→DenS O140) (a0:Den (.int .i64)) (a1:Den (.bool)):Option (DenS O43) :=
 bif (p69 (a0,())) then
 (bif ((f69 (a0,())).2.1 != (0:Int)) then
 (some ((0:Int),(f69 (a0,())).2))
 else bif (p91 ((IntKind.wrap .i64 ((f69 (a0,())).1.1-(f69 (a0,())).1.2.1)),())) then
 (bif (p95 ((f69 (a0,())).1,())) then
 (bif (p96 ((f69 (a0,())).1,())) then
 (bif (p140 ((f69 (a0,())).1,(a1,((IntKind.wrap .u64 ((f91 ((IntKind.wrap .i64 ((f69 (a0,())).1.1-(f69 (a0,())).1.2.1)),())).1-(f95 ((f69 (a0,())).1,())).1)),(f96 ((f69 (a0,())).1,())))))) then
 (some ((f140 ((f69 (a0,())).1,(a1,((IntKind.wrap .u64 ((f91 ((IntKind.wrap .i64 ((f69 (a0,())).1.1-(f69 (a0,())).1.2.1)),())).1-(f95 ((f69 (a0,())).1,())).1)),(f96 ((f69 (a0,())).1,())))))).1,((0:Int),())))
 else none)
 else none)
 else none)
 else none)
 else none
theorem r43 (p95:DenS I95→Bool) (f95:DenS I95→DenS O95) (p96:DenS I96→Bool) (f96:DenS I96→DenS O96) (p69:DenS I69→Bool) (f69:DenS I69→DenS O69) (p91:DenS I91→Bool) (f91:DenS I91→DenS O91) (p140:DenS I140→Bool) (f140:DenS I140→DenS O140) (a0:Den (.int .i64)) (a1:Den (.bool)) :
  run { P:=Tryz.prog,sums:=[(94,⟨I95,O95,p95,f95⟩),(95,⟨I96,O96,p96,f96⟩),(19,⟨I69,O69,p69,f69⟩),(48,⟨I91,O91,p91,f91⟩),(68,⟨I140,O140,p140,f140⟩)],loops:=[],globs:=G1 } 9 85 Tryz.f85 I43 O43 (a0,a1,())=t43 p95 f95 p96 f96 p69 f69 p91 f91 p140 f140 a0 a1:=by kernel_rfl
noncomputable def T43 (x:DenS I43):Option (DenS O43):=t43 S95.pre S95.F S96.pre S96.F S69.pre S69.F S91.pre S91.F S140.pre S140.F x.1 x.2.1
noncomputable def C43:Cfg:={ P:=Tryz.prog,sums:=[(94,S95),(95,S96),(19,S69),(48,S91),(68,S140)],loops:=[],globs:=G1 }
noncomputable def S43:Sum:=sumOf I43 O43 T43 (DenS.dflt O43)
theorem S43_sound:Sound Tryz.prog G1 85 S43 :=
 fn_sound C43 9 85 Tryz.f85 mixedOk (by kernel_rfl) (by kernel_rfl) (by kernel_rfl) ⟨S95_sound,⟨S96_sound,⟨S69_sound,⟨S91_sound,⟨S140_sound,trivial⟩⟩⟩⟩⟩ trivial I43 O43 T43 _ (fun x=>r43 S95.pre S95.F S96.pre S96.F S69.pre S69.F S91.pre S91.F S140.pre S140.F x.1 x.2.1)
abbrev I149:Sig:=[(false,.int .i64),(false,.int .i64),(false,.bool)]
abbrev O149:Sig:=[(false,.int .u64)]
noncomputable def t149 (p97:DenS I97→Bool) (f97:DenS I97→DenS O97) (p43:DenS I43→Bool) (f43:DenS I43→DenS O43) (a0:Den (.int .i64)) (a1:Den (.int .i64)) (a2:Den (.bool)):Option (DenS O149) :=
 bif ((((a1==(0:Int))||(a1==(1:Int)))||((a1==(3:Int))&&(!a2)))||((a1==(4:Int))&&a2)) then
 (bif (p97 (a0,(a2,()))) then
 (some ((f97 (a0,(a2,()))).1,()))
 else none)
 else bif (p43 (a0,(a2,()))) then
 (some ((f43 (a0,(a2,()))).1,()))
 else none
theorem r149 (p97:DenS I97→Bool) (f97:DenS I97→DenS O97) (p43:DenS I43→Bool) (f43:DenS I43→DenS O43) (a0:Den (.int .i64)) (a1:Den (.int .i64)) (a2:Den (.bool)) :
  run { P:=Tryz.prog,sums:=[(30,⟨I97,O97,p97,f97⟩),(85,⟨I43,O43,p43,f43⟩)],loops:=[],globs:=G1 } 9 75 Tryz.f75 I149 O149 (a0,a1,a2,())=t149 p97 f97 p43 f43 a0 a1 a2:=by kernel_rfl
noncomputable def T149 (x:DenS I149):Option (DenS O149):=t149 S97.pre S97.F S43.pre S43.F x.1 x.2.1 x.2.2.1
noncomputable def C149:Cfg:={ P:=Tryz.prog,sums:=[(30,S97),(85,S43)],loops:=[],globs:=G1 }
noncomputable def S149:Sum:=sumOf I149 O149 T149 (DenS.dflt O149)
theorem S149_sound:Sound Tryz.prog G1 75 S149 :=
 fn_sound C149 9 75 Tryz.f75 mixedOk (by kernel_rfl) (by kernel_rfl) (by kernel_rfl) ⟨S97_sound,⟨S43_sound,trivial⟩⟩ trivial I149 O149 T149 _ (fun x=>r149 S97.pre S97.F S43.pre S43.F x.1 x.2.1 x.2.2.1)
end Vx
namespace Vx
open Go Go.Proofs
abbrev I152:Sig:=[(true,.pair (.bool) (.pair (.slice (.int .u64)) (.pair (.int .i64) (.pair (.bool) (.unit))))),(true,.pair (.int .i64) (.pair (.int .i64) (.pair (.int .i64) (.pair (.int .i64) (.unit))))),(false,.int .i64),(false,.int .i64)]
abbrev O152:Sig:=[(false,.bool)]
noncomputable def t152 (p150:DenS I150→Bool) (f150:DenS I150→DenS O150) (p151:DenS I151→Bool) (f151:DenS I151→DenS O151) (a0:Den (.pair (.bool) (.pair (.slice (.int .u64)) (.pair (.int .i64) (.pair (.bool) (.unit)))))) (a1:Den (.pair (.int .i64) (.pair (.int .i64) (.pair (.int .i64) (.pair (.int .i64) (.unit)))))) (a2:Den (.int .i64)) (a3:Den (.int .i64)):Option (DenS O152) :=
 bif (decide (a3≥a1.2.2.1)) then
 (some (false,()))
 else bif (p150 ((a0.1,a0.2),(a2,((IntKind.wrap .i64 ((IntKind.wrap .i64 (a3-a1.2.1))+(1:Int))),())))) then
 (bif (p151 ((f150 ((a0.1,a0.2),(a2,((IntKind.wrap .i64 ((IntKind.wrap .i64 (a3-a1.2.1))+(1:Int))),())))).1,())) then
 (some ((decide ((IntKind.wrap .i64 ((IntKind.wrap .i64 (a3-a1.2.1))+(f151 ((f150 ((a0.1,a0.2),(a2,((IntKind.wrap .i64 ((IntKind.wrap .i64 (a3-a1.2.1))+(1:Int))),())))).1,())).1))<a1.2.2.1)),()))
 else none)
 else none
theorem r152 (p150:DenS I150→Bool) (f150:DenS I150→DenS O150) (p151:DenS I151→Bool) (f151:DenS I151→DenS O151) (a0:Den (.pair (.bool) (.pair (.slice (.int .u64)) (.pair (.int .i64) (.pair (.bool) (.unit)))))) (a1:Den (.pair (.int .i64) (.pair (.int .i64) (.pair (.int .i64) (.pair (.int .i64) (.unit)))))) (a2:Den (.int .i64)) (a3:Den (.int .i64)) :
  run { P:=Tryz.prog,sums:=[(76,⟨I150,O150,p150,f150⟩),(60,⟨I151,O151,p151,f151⟩)],loops:=[],globs:=G1 } 9 77 Tryz.f77 I152 O152 (a0,a1,a2,a3,())=t152 p150 f150 p151 f151 a0 a1 a2 a3:=by kernel_rfl
noncomputable def T152 (x:DenS I152):Option (DenS O152):=t152 S150.pre S150.F S151.pre S151.F x.1 x.2.1 x.2.2.1 x.2.2.2.1
noncomputable def C152:Cfg:={ P:=Tryz.prog,sums:=[(76,S150),(60,S151)],loops:=[],globs:=G1 }
noncomputable def S152:Sum:=sumOf I152 O152 T152 (DenS.dflt O152)
theorem S152_sound:Sound Tryz.prog G1 77 S152 :=
 fn_sound C152 9 77 Tryz.f77 mixedOk (by kernel_rfl) (by kernel_rfl) (by kernel_rfl) ⟨S150_sound,⟨S151_sound,trivial⟩⟩ trivial I152 O152 T152 _ (fun x=>r152 S150.pre S150.F S151.pre S151.F x.1 x.2.1 x.2.2.1 x.2.2.2.1)
abbrev I107:Sig:=[(true,.pair (.bool) (.pair (.slice (.int .u64)) (.pair (.int .i64) (.pair (.bool) (.unit))))),(false,.int .i64),(true,.pair (.int .i64) (.pair (.int .i64) (.pair (.int .i64) (.pair (.int .i64) (.unit))))),(false,.int .i64)]
abbrev O107:Sig:=[(false,.int .u64),(false,.int .i64)]
noncomputable def t107 (p148:DenS I148→Bool) (f148:DenS I148→DenS O148) (p150:DenS I150→Bool) (f150:DenS I150→DenS O150) (p151:DenS I151→Bool) (f151:DenS I151→DenS O151) (p149:DenS I149→Bool) (f149:DenS I149→DenS O149) (p152:DenS I152→Bool) (f152:DenS I152→DenS O152) (a0:Den (.pair (.bool) (.pair (.slice (.int .u64)) (.pair (.int .i64) (.pair (.bool) (.unit)))))) (a1:Den (.int .i64)) (a2:Den (.pair (.int .i64) (.pair (.int .i64) (.pair (.int .i64) (.pair (.int .i64) (.unit)))))) (a3:Den (.int .i64)):Option (DenS O107) :=
 bif (p148 ((a0.1,a0.2),())) then
 (bif (decide ((f148 ((a0.1,a0.2),())).1>a2.2.2.2.1)) then
 (bif (p149 (a1,(a3,(a0.1,())))) then
 (some ((f149 (a1,(a3,(a0.1,())))).1,((20:Int),())))
 else none)
 else bif (p150 ((a0.1,a0.2),(a3,((IntKind.wrap .i64 ((IntKind.wrap .i64 ((if (a2.2.2.1>(f148 ((a0.1,a0.2),())).1) then a2.2.2.1 else (f148 ((a0.1,a0.2),())).1)-a2.2.1))+(1:Int))),())))) then
 (bif (decide ((0:Int)≤(IntKind.wrap .i64 (a2.2.1-(1:Int))))) then
 (bif (decide (((f150 ((a0.1,a0.2),(a3,((IntKind.wrap .i64 ((IntKind.wrap .i64 ((if (a2.2.2.1>(f148 ((a0.1,a0.2),())).1) then a2.2.2.1 else (f148 ((a0.1,a0.2),())).1)-a2.2.1))+(1:Int))),())))).1.length:Int)>(0:Int))) then
 (bif (decide ((0:Int)<((f150 ((a0.1,a0.2),(a3,((IntKind.wrap .i64 ((IntKind.wrap .i64 ((if (a2.2.2.1>(f148 ((a0.1,a0.2),())).1) then a2.2.2.1 else (f148 ((a0.1,a0.2),())).1)-a2.2.1))+(1:Int))),())))).1.length:Int))) then
 (bif (p151 ((f150 ((a0.1,a0.2),(a3,((IntKind.wrap .i64 ((IntKind.wrap .i64 ((if (a2.2.2.1>(f148 ((a0.1,a0.2),())).1) then a2.2.2.1 else (f148 ((a0.1,a0.2),())).1)-a2.2.1))+(1:Int))),())))).1,())) then
 (bif (decide ((IntKind.wrap .i64 ((IntKind.wrap .i64 ((IntKind.wrap .i64 ((IntKind.wrap .i64 ((if (a2.2.2.1>(f148 ((a0.1,a0.2),())).1) then a2.2.2.1 else (f148 ((a0.1,a0.2),())).1)-a2.2.1))+(1:Int)))+(f151 ((f150 ((a0.1,a0.2),(a3,((IntKind.wrap .i64 ((IntKind.wrap .i64 ((if (a2.2.2.1>(f148 ((a0.1,a0.2),())).1) then a2.2.2.1 else (f148 ((a0.1,a0.2),())).1)-a2.2.1))+(1:Int))),())))).1,())).1))-(1:Int)))>a2.2.2.2.1)) then
 (bif (p149 (a1,(a3,(a0.1,())))) then
 (some ((f149 (a1,(a3,(a0.1,())))).1,((20:Int),())))
 else none)
 else bif a0.1 then
 (bif (decide ((0:Int)≤(IntKind.wrap .i64 (a2.1-(1:Int))))) then
 (bif (!(f150 ((a0.1,a0.2),(a3,((IntKind.wrap .i64 ((IntKind.wrap .i64 ((if (a2.2.2.1>(f148 ((a0.1,a0.2),())).1) then a2.2.2.1 else (f148 ((a0.1,a0.2),())).1)-a2.2.1))+(1:Int))),())))).2.1) then
 (some ((orI .u64 (IntKind.wrap .u64 ((shlI .u64 (IntKind.wrap .u64 (IntKind.wrap .i64 ((IntKind.wrap .i64 ((IntKind.wrap .i64 ((if (a2.2.2.1>(f148 ((a0.1,a0.2),())).1) then a2.2.2.1 else (f148 ((a0.1,a0.2),())).1)-a2.2.1))+(1:Int)))-(IntKind.wrap .i64 ((IntKind.wrap .i64 (a2.2.2.1-a2.2.1))+(1:Int)))))) (IntKind.wrap .i64 (a2.2.1-(1:Int))))+((f150 ((a0.1,a0.2),(a3,((IntKind.wrap .i64 ((IntKind.wrap .i64 ((if (a2.2.2.1>(f148 ((a0.1,a0.2),())).1) then a2.2.2.1 else (f148 ((a0.1,a0.2),())).1)-a2.2.1))+(1:Int))),())))).1.getD (Int.toNat (0:Int)) (0:Int)))) (shlI .u64 (1:Int) (IntKind.wrap .i64 (a2.1-(1:Int))))),((0:Int),())))
 else bif (p152 ((a0.1,a0.2),((a2.1,a2.2),(a3,(f148 ((a0.1,a0.2),())))))) then
 (bif (f152 ((a0.1,a0.2),((a2.1,a2.2),(a3,(f148 ((a0.1,a0.2),())))))).1 then
 (some ((orI .u64 (IntKind.wrap .u64 ((shlI .u64 (IntKind.wrap .u64 (IntKind.wrap .i64 ((IntKind.wrap .i64 ((IntKind.wrap .i64 ((if (a2.2.2.1>(f148 ((a0.1,a0.2),())).1) then a2.2.2.1 else (f148 ((a0.1,a0.2),())).1)-a2.2.1))+(1:Int)))-(IntKind.wrap .i64 ((IntKind.wrap .i64 (a2.2.2.1-a2.2.1))+(1:Int)))))) (IntKind.wrap .i64 (a2.2.1-(1:Int))))+((f150 ((a0.1,a0.2),(a3,((IntKind.wrap .i64 ((IntKind.wrap .i64 ((if (a2.2.2.1>(f148 ((a0.1,a0.2),())).1) then a2.2.2.1 else (f148 ((a0.1,a0.2),())).1)-a2.2.1))+(1:Int))),())))).1.getD (Int.toNat (0:Int)) (0:Int)))) (shlI .u64 (1:Int) (IntKind.wrap .i64 (a2.1-(1:Int))))),((24:Int),())))
 else some ((orI .u64 (IntKind.wrap .u64 ((shlI .u64 (IntKind.wrap .u64 (IntKind.wrap .i64 ((IntKind.wrap .i64 ((IntKind.wrap .i64 ((if (a2.2.2.1>(f148 ((a0.1,a0.2),())).1) then a2.2.2.1 else (f148 ((a0.1,a0.2),())).1)-a2.2.1))+(1:Int)))-(IntKind.wrap .i64 ((IntKind.wrap .i64 (a2.2.2.1-a2.2.1))+(1:Int)))))) (IntKind.wrap .i64 (a2.2.1-(1:Int))))+((f150 ((a0.1,a0.2),(a3,((IntKind.wrap .i64 ((IntKind.wrap .i64 ((if (a2.2.2.1>(f148 ((a0.1,a0.2),())).1) then a2.2.2.1 else (f148 ((a0.1,a0.2),())).1)-a2.2.1))+(1:Int))),())))).1.getD (Int.toNat (0:Int)) (0:Int)))) (shlI .u64 (1:Int) (IntKind.wrap .i64 (a2.1-(1:Int))))),((16:Int),())))
 else none)
 else none)
 else bif (!(f150 ((a0.1,a0.2),(a3,((IntKind.wrap .i64 ((IntKind.wrap .i64 ((if (a2.2.2.1>(f148 ((a0.1,a0.2),())).1) then a2.2.2.1 else (f148 ((a0.1,a0.2),())).1)-a2.2.1))+(1:Int))),())))).2.1) then
 (some ((IntKind.wrap .u64 ((shlI .u64 (IntKind.wrap .u64 (IntKind.wrap .i64 ((IntKind.wrap .i64 ((IntKind.wrap .i64 ((if (a2.2.2.1>(f148 ((a0.1,a0.2),())).1) then a2.2.2.1 else (f148 ((a0.1,a0.2),())).1)-a2.2.1))+(1:Int)))-(IntKind.wrap .i64 ((IntKind.wrap .i64 (a2.2.2.1-a2.2.1))+(1:Int)))))) (IntKind.wrap .i64 (a2.2.1-(1:Int))))+((f150 ((a0.1,a0.2),(a3,((IntKind.wrap .i64 ((IntKind.wrap .i64 ((if (a2.2.2.1>(f148 ((a0.1,a0.2),())).1) then a2.2.2.1 else (f148 ((a0.1,a0.2),())).1)-a2.2.1))+(1:Int))),())))).1.getD (Int.toNat (0:Int)) (0:Int)))),((0:Int),())))
 else bif (p152 ((a0.1,a0.2),((a2.1,a2.2),(a3,(f148 ((a0.1,a0.2),())))))) then
 (bif (f152 ((a0.1,a0.2),((a2.1,a2.2),(a3,(f148 ((a0.1,a0.2),())))))).1 then
 (some ((IntKind.wrap .u64 ((shlI .u64 (IntKind.wrap .u64 (IntKind.wrap .i64 ((IntKind.wrap .i64 ((IntKind.wrap .i64 ((if (a2.2.2.1>(f148 ((a0.1,a0.2),())).1) then a2.2.2.1 else (f148 ((a0.1,a0.2),())).1)-a2.2.1))+(1:Int)))-(IntKind.wrap .i64 ((IntKind.wrap .i64 (a2.2.2.1-a2.2.1))+(1:Int)))))) (IntKind.wrap .i64 (a2.2.1-(1:Int))))+((f150 ((a0.1,a0.2),(a3,((IntKind.wrap .i64 ((IntKind.wrap .i64 ((if (a2.2.2.1>(f148 ((a0.1,a0.2),())).1) then a2.2.2.1 else (f148 ((a0.1,a0.2),())).1)-a2.2.1))+(1:Int))),())))).1.getD (Int.toNat (0:Int)) (0:Int)))),((24:Int),())))
 else some ((IntKind.wrap .u64 ((shlI .u64 (IntKind.wrap .u64 (IntKind.wrap .i64 ((IntKind.wrap .i64 ((IntKind.wrap .i64 ((if (a2.2.2.1>(f148 ((a0.1,a0.2),())).1) then a2.2.2.1 else (f148 ((a0.1,a0.2),())).1)-a2.2.1))+(1:Int)))-(IntKind.wrap .i64 ((IntKind.wrap .i64 (a2.2.2.1-a2.2.1))+(1:Int)))))) (IntKind.wrap .i64 (a2.2.1-(1:Int))))+((f150 ((a0.1,a0.2),(a3,((IntKind.wrap .i64 ((IntKind.wrap .i64 ((if (a2.2.2.1>(f148 ((a0.1,a0.2),())).1) then a2.2.2.1 else (f148 ((a0.1,a0.2),())).1)-a2.2.1))+(1:Int))),())))).1.getD (Int.toNat (0:Int)) (0:Int)))),((16:Int),())))
 else none)
 else none)
 else none)
 else bif (p151 ((f150 ((a0.1,a0.2),(a3,((IntKind.wrap .i64 ((IntKind.wrap .i64 ((if (a2.2.2.1>(f148 ((a0.1,a0.2),())).1) then a2.2.2.1 else (f148 ((a0.1,a0.2),())).1)-a2.2.1))+(1:Int))),())))).1,())) then
 (bif (decide ((IntKind.wrap .i64 ((IntKind.wrap .i64 ((IntKind.wrap .i64 ((IntKind.wrap .i64 ((if (a2.2.2.1>(f148 ((a0.1,a0.2),())).1) then a2.2.2.1 else (f148 ((a0.1,a0.2),())).1)-a2.2.1))+(1:Int)))+(f151 ((f150 ((a0.1,a0.2),(a3,((IntKind.wrap .i64 ((IntKind.wrap .i64 ((if (a2.2.2.1>(f148 ((a0.1,a0.2),())).1) then a2.2.2.1 else (f148 ((a0.1,a0.2),())).1)-a2.2.1))+(1:Int))),())))).1,())).1))-(1:Int)))>a2.2.2.2.1)) then
 (bif (p149 (a1,(a3,(a0.1,())))) then
 (some ((f149 (a1,(a3,(a0.1,())))).1,((20:Int),())))
 else none)
 else bif a0.1 then
 (bif (decide ((0:Int)≤(IntKind.wrap .i64 (a2.1-(1:Int))))) then
 (bif (!(f150 ((a0.1,a0.2),(a3,((IntKind.wrap .i64 ((IntKind.wrap .i64 ((if (a2.2.2.1>(f148 ((a0.1,a0.2),())).1) then a2.2.2.1 else (f148 ((a0.1,a0.2),())).1)-a2.2.1))+(1:Int))),())))).2.1) then
 (some ((orI .u64 (shlI .u64 (IntKind.wrap .u64 (IntKind.wrap .i64 ((IntKind.wrap .i64 ((IntKind.wrap .i64 ((if (a2.2.2.1>(f148 ((a0.1,a0.2),())).1) then a2.2.2.1 else (f148 ((a0.1,a0.2),())).1)-a2.2.1))+(1:Int)))-(IntKind.wrap .i64 ((IntKind.wrap .i64 (a2.2.2.1-a2.2.1))+(1:Int)))))) (IntKind.wrap .i64 (a2.2.1-(1:Int)))) (shlI .u64 (1:Int) (IntKind.wrap .i64 (a2.1-(1:Int))))),((0:Int),())))
 else bif (p152 ((a0.1,a0.2),((a2.1,a2.2),(a3,(f148 ((a0.1,a0.2),())))))) then
 (bif (f152 ((a0.1,a0.2),((a2.1,a2.2),(a3,(f148 ((a0.1,a0.2),())))))).1 then
 (some ((orI .u64 (shlI .u64 (IntKind.wrap .u64 (IntKind.wrap .i64 ((IntKind.wrap .i64 ((IntKind.wrap .i64 ((if (a2.2.2.1>(f148 ((a0.1,a0.2),())).1) then a2.2.2.1 else (f148 ((a0.1,a0.2),())).1)-a2.2.1))+(1:Int)))-(IntKind.wrap .i64 ((IntKind.wrap .i64 (a2.2.2.1-a2.2.1))+(1:Int)))))) (IntKind.wrap .i64 (a2.2.1-(1:Int)))) (shlI .u64 (1:Int) (IntKind.wrap .i64 (a2.1-(1:Int))))),((24:Int),())))
 else some ((orI .u64 (shlI .u64 (IntKind.wrap .u64 (IntKind.wrap .i64 ((IntKind.wrap .i64 ((IntKind.wrap .i64 ((if (a2.2.2.1>(f148 ((a0.1,a0.2),())).1) then a2.2.2.1 else (f148 ((a0.1,a0.2),())).1)-a2.2.1))+(1:Int)))-(IntKind.wrap .i64 ((IntKind.wrap .i64 (a2.2.2.1-a2.2.1))+(1:Int)))))) (IntKind.wrap .i64 (a2.2.1-(1:Int)))) (shlI .u64 (1:Int) (IntKind.wrap .i64 (a2.1-(1:Int))))),((16:Int),())))
 else none)
 else none)
 else bif (!(f150 ((a0.1,a0.2),(a3,((IntKind.wrap .i64 ((IntKind.wrap .i64 ((if (a2.2.2.1>(f148 ((a0.1,a0.2),())).1) then a2.2.2.1 else (f148 ((a0.1,a0.2),())).1)-a2.2.1))+(1:Int))),())))).2.1) then
 (some ((shlI .u64 (IntKind.wrap .u64 (IntKind.wrap .i64 ((IntKind.wrap .i64 ((IntKind.wrap .i64 ((if (a2.2.2.1>(f148 ((a0.1,a0.2),())).1) then a2.2.2.1 else (f148 ((a0.1,a0.2),())).1)-a2.2.1))+(1:Int)))-(IntKind.wrap .i64 ((IntKind.wrap .i64 (a2.2.2.1-a2.2.1))+(1:Int)))))) (IntKind.wrap .i64 (a2.2.1-(1:Int)))),((0:Int),())))
 else bif (p152 ((a0.1,a0.2),((a2.1,a2.2),(a3,(f148 ((a0.1,a0.2),())))))) then
 (bif (f152 ((a0.1,a0.2),((a2.1,a2.2),(a3,(f148 ((a0.1,a0.2),())))))).1 then
 (some ((shlI .u64 (IntKind.wrap .u64 (IntKind.wrap .i64 ((IntKind.wrap .i64 ((IntKind.wrap .i64 ((if (a2.2.2.1>(f148 ((a0.1,a0.2),())).1) then a2.2.2.1 else (f148 ((a0.1,a0.2),())).1)-a2.2.1))+(1:Int)))-(IntKind.wrap .i64 ((IntKind.wrap .i64 (a2.2.2.1-a2.2.1))+(1:Int)))))) (IntKind.wrap .i64 (a2.2.1-(1:Int)))),((24:Int),())))
 else some ((shlI .u64 (IntKind.wrap .u64 (IntKind.wrap .i64 ((IntKind.wrap .i64 ((IntKind.wrap .i64 ((if (a2.2.2.1>(f148 ((a0.1,a0.2),())).1) then a2.2.2.1 else (f148 ((a0.1,a0.2),())).1)-a2.2.1))+(1:Int)))-(IntKind.wrap .i64 ((IntKind.wrap .i64 (a2.2.2.1-a2.2.1))+(1:Int)))))) (IntKind.wrap .i64 (a2.2.1-(1:Int)))),((16:Int),())))
 else none)
 else none)
 else none)
 else none)
 else none
theorem r107 (p148:DenS I148→Bool) (f148:DenS I148→DenS O148) (p150:DenS I150→Bool) (f150:DenS I150→DenS O150) (p151:DenS I151→Bool) (f151:DenS I151→DenS O151) (p149:DenS I149→Bool) (f149:DenS I149→DenS O149) (p152:DenS I152→Bool) (f152:DenS I152→DenS O152) (a0:Den (.pair (.bool) (.pair (.slice (.int .u64)) (.pair (.int .i64) (.pair (.bool) (.unit)))))) (a1:Den (.int .i64)) (a2:Den (.pair (.int .i64) (.pair (.int .i64) (.pair (.int .i64) (.pair (.int .i64) (.unit)))))) (a3:Den (.int .i64)) :
  run { P:=Tryz.prog,sums:=[(74,⟨I148,O148,p148,f148⟩),(76,⟨I150,O150,p150,f150⟩),(60,⟨I151,O151,p151,f151⟩),(75,⟨I149,O149,p149,f149⟩),(77,⟨I152,O152,p152,f152⟩)],loops:=[],globs:=G1 } 9 62 Tryz.f62 I107 O107 (a0,a1,a2,a3,())=t107 p148 f148 p150 f150 p151 f151 p149 f149 p152 f152 a0 a1 a2 a3:=by kernel_rfl
noncomputable def T107 (x:DenS I107):Option (DenS O107):=t107 S148.pre S148.F S150.pre S150.F S151.pre S151.F S149.pre S149.F S152.pre S152.F x.1 x.2.1 x.2.2.1 x.2.2.2.1
noncomputable def C107:Cfg:={ P:=Tryz.prog,sums:=[(74,S148),(76,S150),(60,S151),(75,S149),(77,S152)],loops:=[],globs:=G1 }
noncomputable def S107:Sum:=sumOf I107 O107 T107 (DenS.dflt O107)
theorem S107_sound:Sound Tryz.prog G1 62 S107 :=
 fn_sound C107 9 62 Tryz.f62 mixedOk (by kernel_rfl) (by kernel_rfl) (by kernel_rfl) ⟨S148_sound,⟨S150_sound,⟨S151_sound,⟨S149_sound,⟨S152_sound,trivial⟩⟩⟩⟩⟩ trivial I107 O107 T107 _ (fun x=>r107 S148.pre S148.F S150.pre S150.F S151.pre S151.F S149.pre S149.F S152.pre S152.F x.1 x.2.1 x.2.2.1 x.2.2.2.1)
abbrev I122:Sig:=[(false,.int .i64),(false,.int .i64),(false,.bool),(true,.pair (.int .u64) (.pair (.int .u64) (.unit))),(false,.int .i64),(false,.bool)]
abbrev O122:Sig:=[(false,.int .u64),(false,.int .i64),(false,.int .i64)]
noncomputable def t122 (p105:DenS I105→Bool) (f105:DenS I105→DenS O105) (p102:DenS I102→Bool) (f102:DenS I102→DenS O102) (p151:DenS I151→Bool) (f151:DenS I151→DenS O151) (p156:DenS I156→Bool) (f156:DenS I156→DenS O156) (p107:DenS I107→Bool) (f107:DenS I107→DenS O107) (a0:Den (.int .i64)) (a1:Den (.int .i64)) (a2:Den (.bool)) (a3:Den (.pair (.int .u64) (.pair (.int .u64) (.unit)))) (a4:Den (.int .i64)) (a5:Den (.bool)):Option (DenS O122) :=
 bif (p105 (a0,(a1,()))) then
 (bif ((f105 (a0,(a1,()))).2.1 != (0:Int)) then
 (some ((0:Int),((0:Int),(f105 (a0,(a1,()))).2)))
 else bif (p102 ((a3.2.1::(a3.1::[])),())) then
 (bif ((decide (a4<(-(40000:Int))))||(decide (a4>(40000:Int)))) then
 (some ((0:Int),((0:Int),((30:Int),()))))
 else bif ((p151 (f102 ((a3.2.1::(a3.1::[])),())))||(!a5)) then
 (bif (a5&&(decide ((f151 (f102 ((a3.2.1::(a3.1::[])),()))).1<(IntKind.wrap .i64 ((f105 (a0,(a1,()))).1.2.1+(2:Int)))))) then
 (some ((0:Int),((0:Int),((7:Int),()))))
 else bif (((f102 ((a3.2.1::(a3.1::[])),())).1.length:Int)==(0:Int)) then
 (bif (p156 (a0,(a2,()))) then
 (some (f156 (a0,(a2,()))))
 else none)
 else bif (p107 ((a2,((f102 ((a3.2.1::(a3.1::[])),())).1,(a4,(a5,())))),(a0,((f105 (a0,(a1,()))).1,(a1,()))))) then
 (some ((f107 ((a2,((f102 ((a3.2.1::(a3.1::[])),())).1,(a4,(a5,())))),(a0,((f105 (a0,(a1,()))).1,(a1,()))))).1,((f107 ((a2,((f102 ((a3.2.1::(a3.1::[])),())).1,(a4,(a5,())))),(a0,((f105 (a0,(a1,()))).1,(a1,()))))).2.1,((0:Int),()))))
 else none)
 else none)
 else none)
 else none
theorem r122 (p105:DenS I105→Bool) (f105:DenS I105→DenS O105) (p102:DenS I102→Bool) (f102:DenS I102→DenS O102) (p151:DenS I151→Bool) (f151:DenS I151→DenS O151) (p156:DenS I156→Bool) (f156:DenS I156→DenS O156) (p107:DenS I107→Bool) (f107:DenS I107→DenS O107) (a0:Den (.int .i64)) (a1:Den (.int .i64)) (a2:Den (.bool)) (a3:Den (.pair (.int .u64) (.pair (.int .u64) (.unit)))) (a4:Den (.int .i64)) (a5:Den (.bool)) :
  run { P:=Tryz.prog,sums:=[(58,⟨I105,O105,p105,f105⟩),(59,⟨I102,O102,p102,f102⟩),(60,⟨I151,O151,p151,f151⟩),(61,⟨I156,O156,p156,f156⟩),(62,⟨I107,O107,p107,f107⟩)],loops:=[],globs:=G1 } 9 32 Tryz.f32 I122 O122 (a0,a1,a2,a3,a4,a5,())=t122 p105 f105 p102 f102 p151 f151 p156 f156 p107 f107 a0 a1 a2 a3 a4 a5:=by kernel_rfl
noncomputable def T122 (x:DenS I122):Option (DenS O122):=t122 S105.pre S105.F S102.pre S102.F S151.pre S151.F S156.pre S156.F S107.pre S107.F x.1 x.2.1 x.2.2.1 x.2.2.2.1 x.2.2.2.2.1 x.2.2.2.2.2.1
noncomputable def C122:Cfg:={ P:=Tryz.prog,sums:=[(58,S105),(59,S102),(60,S151),(61,S156),(62,S107)],loops:=[],globs:=G1 }
noncomputable def S122:Sum:=sumOf I122 O122 T122 (DenS.dflt O122)
theorem S122_sound:Sound Tryz.prog G1 32 S122 :=
 fn_sound C122 9 32 Tryz.f32 mixedOk (by kernel_rfl) (by kernel_rfl) (by kernel_rfl) ⟨S105_sound,⟨S102_sound,⟨S151_sound,⟨S156_sound,⟨S107_sound,trivial⟩⟩⟩⟩⟩ trivial I122 O122 T122 _ (fun x=>r122 S105.pre S105.F S102.pre S102.F S151.pre S151.F S156.pre S156.F S107.pre S107.F x.1 x.2.1 x.2.2.1 x.2.2.2.1 x.2.2.2.2.1 x.2.2.2.2.2.1)
end Vx
namespace Vx
open Go Go.Proofs
abbrev I71:Sig:=[(false,.int .i64),(false,.int .i64),(true,.pair (.bool) (.pair (.int .u64) (.pair (.int .i64) (.unit)))),(true,.pair (.bool) (.pair (.int .u64) (.pair (.int .i64) (.unit))))]
abbrev O71:Sig:=[(false,.int .u64),(false,.int .i64),(false,.int .i64)]
noncomputable def tl71 (p119:DenS I119→Bool) (f119:DenS I119→DenS O119) (p120:DenS I120→Bool) (f120:DenS I120→DenS O120) (p121:DenS I121→Bool) (f121:DenS I121→DenS O121) (p123:DenS I123→Bool) (f123:DenS I123→DenS O123) (p124:DenS I124→Bool) (f124:DenS I124→DenS O124) (p118:DenS I118→Bool) (f118:DenS I118→DenS O118) (p122:DenS I122→Bool) (f122:DenS I122→DenS O122) (f m:Int) (nx:Bool) (X ex:Int) (ny:Bool) (Y ey:Int):Option (DenS O71) :=
 bif (p119 (((0:Int),(X,())),((if ((70:Int)<(IntKind.wrap .i64 (ex-ey))) then (70:Int) else (IntKind.wrap .i64 (ex-ey))),()))) then
 (bif (p120 (((0:Int),(Y,())),((IntKind.wrap .i64 ((IntKind.wrap .i64 (ex-(if ((70:Int)<(IntKind.wrap .i64 (ex-ey))) then (70:Int) else (IntKind.wrap .i64 (ex-ey)))))-ey)),()))) then
 (bif (p119 ((f120 (((0:Int),(Y,())),((IntKind.wrap .i64 ((IntKind.wrap .i64 (ex-(if ((70:Int)<(IntKind.wrap .i64 (ex-ey))) then (70:Int) else (IntKind.wrap .i64 (ex-ey)))))-ey)),()))).1,((IntKind.wrap .i64 ((IntKind.wrap .i64 (ex-(if ((70:Int)<(IntKind.wrap .i64 (ex-ey))) then (70:Int) else (IntKind.wrap .i64 (ex-ey)))))-ey)),()))) then
 (bif (p120 (((0:Int),(Y,())),((IntKind.wrap .i64 ((IntKind.wrap .i64 (ex-(if ((70:Int)<(IntKind.wrap .i64 (ex-ey))) then (70:Int) else (IntKind.wrap .i64 (ex-ey)))))-ey)),()))) then
 (bif (nx==ny) then
 (bif (p121 ((f119 (((0:Int),(X,())),((if ((70:Int)<(IntKind.wrap .i64 (ex-ey))) then (70:Int) else (IntKind.wrap .i64 (ex-ey))),()))).1,(f120 (((0:Int),(Y,())),((IntKind.wrap .i64 ((IntKind.wrap .i64 (ex-(if ((70:Int)<(IntKind.wrap .i64 (ex-ey))) then (70:Int) else (IntKind.wrap .i64 (ex-ey)))))-ey)),()))))) then
 (bif (p122 (f,(m,(nx,((f121 ((f119 (((0:Int),(X,())),((if ((70:Int)<(IntKind.wrap .i64 (ex-ey))) then (70:Int) else (IntKind.wrap .i64 (ex-ey))),()))).1,(f120 (((0:Int),(Y,())),((IntKind.wrap .i64 ((IntKind.wrap .i64 (ex-(if ((70:Int)<(IntKind.wrap .i64 (ex-ey))) then (70:Int) else (IntKind.wrap .i64 (ex-ey)))))-ey)),()))))).1,((IntKind.wrap .i64 (ex-(if ((70:Int)<(IntKind.wrap .i64 (ex-ey))) then (70:Int) else (IntKind.wrap .i64 (ex-ey))))),(((!(((f119 ((f120 (((0:Int),(Y,())),((IntKind.wrap .i64 ((IntKind.wrap .i64 (ex-(if ((70:Int)<(IntKind.wrap .i64 (ex-ey))) then (70:Int) else (IntKind.wrap .i64 (ex-ey)))))-ey)),()))).1,((IntKind.wrap .i64 ((IntKind.wrap .i64 (ex-(if ((70:Int)<(IntKind.wrap .i64 (ex-ey))) then (70:Int) else (IntKind.wrap .i64 (ex-ey)))))-ey)),()))).1.1==(0:Int))&&((f119 ((f120 (((0:Int),(Y,())),((IntKind.wrap .i64 ((IntKind.wrap .i64 (ex-(if ((70:Int)<(IntKind.wrap .i64 (ex-ey))) then (70:Int) else (IntKind.wrap .i64 (ex-ey)))))-ey)),()))).1,((IntKind.wrap .i64 ((IntKind.wrap .i64 (ex-(if ((70:Int)<(IntKind.wrap .i64 (ex-ey))) then (70:Int) else (IntKind.wrap .i64 (ex-ey)))))-ey)),()))).1.2.1==Y)))||((decide ((IntKind.wrap .i64 ((IntKind.wrap .i64 (ex-(if ((70:Int)<(IntKind.wrap .i64 (ex-ey))) then (70:Int) else (IntKind.wrap .i64 (ex-ey)))))-ey))>(63:Int)))&&(Y != (0:Int)))),()))))))) then
 (some (f122 (f,(m,(nx,((f121 ((f119 (((0:Int),(X,())),((if ((70:Int)<(IntKind.wrap .i64 (ex-ey))) then (70:Int) else (IntKind.wrap .i64 (ex-ey))),()))).1,(f120 (((0:Int),(Y,())),((IntKind.wrap .i64 ((IntKind.wrap .i64 (ex-(if ((70:Int)<(IntKind.wrap .i64 (ex-ey))) then (70:Int) else (IntKind.wrap .i64 (ex-ey)))))-ey)),()))))).1,((IntKind.wrap .i64 (ex-(if ((70:Int)<(IntKind.wrap .i64 (ex-ey))) then (70:Int) else (IntKind.wrap .i64 (ex-ey))))),(((!(((f119 ((f120 (((0:Int),(Y,())),((IntKind.wrap .i64 ((IntKind.wrap .i64 (ex-(if ((70:Int)<(IntKind.wrap .i64 (ex-ey))) then (70:Int) else (IntKind.wrap .i64 (ex-ey)))))-ey)),()))).1,((IntKind.wrap .i64 ((IntKind.wrap .i64 (ex-(if ((70:Int)<(IntKind.wrap .i64 (ex-ey))) then (70:Int) else (IntKind.wrap .i64 (ex-ey)))))-ey)),()))).1.1==(0:Int))&&((f119 ((f120 (((0:Int),(Y,())),((IntKind.wrap .i64 ((IntKind.wrap .i64 (ex-(if ((70:Int)<(IntKind.wrap .i64 (ex-ey))) then (70:Int) else (IntKind.wrap .i64 (ex-ey)))))-ey)),()))).1,((IntKind.wrap .i64 ((IntKind.wrap .i64 (ex-(if ((70:Int)<(IntKind.wrap .i64 (ex-ey))) then (70:Int) else (IntKind.wrap .i64 (ex-ey)))))-ey)),()))).1.2.1==Y)))||((decide ((IntKind.wrap .i64 ((IntKind.wrap .i64 (ex-(if ((70:Int)<(IntKind.wrap .i64 (ex-ey))) then (70:Int) else (IntKind.wrap .i64 (ex-ey)))))-ey))>(63:Int)))&&(Y != (0:Int)))),()))))))))
 else none)
 else none)
 else bif (p123 ((f119 (((0:Int),(X,())),((if ((70:Int)<(IntKind.wrap .i64 (ex-ey))) then (70:Int) else (IntKind.wrap .i64 (ex-ey))),()))).1,(f120 (((0:Int),(Y,())),((IntKind.wrap .i64 ((IntKind.wrap .i64 (ex-(if ((70:Int)<(IntKind.wrap .i64 (ex-ey))) then (70:Int) else (IntKind.wrap .i64 (ex-ey)))))-ey)),()))))) then
 (bif (decide ((f123 ((f119 (((0:Int),(X,())),((if ((70:Int)<(IntKind.wrap .i64 (ex-ey))) then (70:Int) else (IntKind.wrap .i64 (ex-ey))),()))).1,(f120 (((0:Int),(Y,())),((IntKind.wrap .i64 ((IntKind.wrap .i64 (ex-(if ((70:Int)<(IntKind.wrap .i64 (ex-ey))) then (70:Int) else (IntKind.wrap .i64 (ex-ey)))))-ey)),()))))).1<(0:Int))) then
 (bif (p124 ((f120 (((0:Int),(Y,())),((IntKind.wrap .i64 ((IntKind.wrap .i64 (ex-(if ((70:Int)<(IntKind.wrap .i64 (ex-ey))) then (70:Int) else (IntKind.wrap .i64 (ex-ey)))))-ey)),()))).1,(f119 (((0:Int),(X,())),((if ((70:Int)<(IntKind.wrap .i64 (ex-ey))) then (70:Int) else (IntKind.wrap .i64 (ex-ey))),()))))) then
 (bif ((!(((f119 ((f120 (((0:Int),(Y,())),((IntKind.wrap .i64 ((IntKind.wrap .i64 (ex-(if ((70:Int)<(IntKind.wrap .i64 (ex-ey))) then (70:Int) else (IntKind.wrap .i64 (ex-ey)))))-ey)),()))).1,((IntKind.wrap .i64 ((IntKind.wrap .i64 (ex-(if ((70:Int)<(IntKind.wrap .i64 (ex-ey))) then (70:Int) else (IntKind.wrap .i64 (ex-ey)))))-ey)),()))).1.1==(0:Int))&&((f119 ((f120 (((0:Int),(Y,())),((IntKind.wrap .i64 ((IntKind.wrap .i64 (ex-(if ((70:Int)<(IntKind.wrap .i64 (ex-ey))) then (70:Int) else (IntKind.wrap .i64 (ex-ey)))))-ey)),()))).1,((IntKind.wrap .i64 ((IntKind.wrap .i64 (ex-(if ((70:Int)<(IntKind.wrap .i64 (ex-ey))) then (70:Int) else (IntKind.wrap .i64 (ex-ey)))))-ey)),()))).1.2.1==Y)))||((decide ((IntKind.wrap .i64 ((IntKind.wrap .i64 (ex-(if ((70:Int)<(IntKind.wrap .i64 (ex-ey))) then (70:Int) else (IntKind.wrap .i64 (ex-ey)))))-ey))>(63:Int)))&&(Y != (0:Int)))) then
 (bif (p124 ((f124 ((f120 (((0:Int),(Y,())),((IntKind.wrap .i64 ((IntKind.wrap .i64 (ex-(if ((70:Int)<(IntKind.wrap .i64 (ex-ey))) then (70:Int) else (IntKind.wrap .i64 (ex-ey)))))-ey)),()))).1,(f119 (((0:Int),(X,())),((if ((70:Int)<(IntKind.wrap .i64 (ex-ey))) then (70:Int) else (IntKind.wrap .i64 (ex-ey))),()))))).1,(((0:Int),((1:Int),())),()))) then
 (bif ((((f124 ((f124 ((f120 (((0:Int),(Y,())),((IntKind.wrap .i64 ((IntKind.wrap .i64 (ex-(if ((70:Int)<(IntKind.wrap .i64 (ex-ey))) then (70:Int) else (IntKind.wrap .i64 (ex-ey)))))-ey)),()))).1,(f119 (((0:Int),(X,())),((if ((70:Int)<(IntKind.wrap .i64 (ex-ey))) then (70:Int) else (IntKind.wrap .i64 (ex-ey))),()))))).1,(((0:Int),((1:Int),())),()))).1.1==(0:Int))&&((f124 ((f124 ((f120 (((0:Int),(Y,())),((IntKind.wrap .i64 ((IntKind.wrap .i64 (ex-(if ((70:Int)<(IntKind.wrap .i64 (ex-ey))) then (70:Int) else (IntKind.wrap .i64 (ex-ey)))))-ey)),()))).1,(f119 (((0:Int),(X,())),((if ((70:Int)<(IntKind.wrap .i64 (ex-ey))) then (70:Int) else (IntKind.wrap .i64 (ex-ey))),()))))).1,(((0:Int),((1:Int),())),()))).1.2.1==(0:Int)))&&(!((!(((f119 ((f120 (((0:Int),(Y,())),((IntKind.wrap .i64 ((IntKind.wrap .i64 (ex-(if ((70:Int)<(IntKind.wrap .i64 (ex-ey))) then (70:Int) else (IntKind.wrap .i64 (ex-ey)))))-ey)),()))).1,((IntKind.wrap .i64 ((IntKind.wrap .i64 (ex-(if ((70:Int)<(IntKind.wrap .i64 (ex-ey))) then (70:Int) else (IntKind.wrap .i64 (ex-ey)))))-ey)),()))).1.1==(0:Int))&&((f119 ((f120 (((0:Int),(Y,())),((IntKind.wrap .i64 ((IntKind.wrap .i64 (ex-(if ((70:Int)<(IntKind.wrap .i64 (ex-ey))) then (70:Int) else (IntKind.wrap .i64 (ex-ey)))))-ey)),()))).1,((IntKind.wrap .i64 ((IntKind.wrap .i64 (ex-(if ((70:Int)<(IntKind.wrap .i64 (ex-ey))) then (70:Int) else (IntKind.wrap .i64 (ex-ey)))))-ey)),()))).1.2.1==Y)))||((decide ((IntKind.wrap .i64 ((IntKind.wrap .i64 (ex-(if ((70:Int)<(IntKind.wrap .i64 (ex-ey))) then (70:Int) else (IntKind.wrap .i64 (ex-ey)))))-ey))>(63:Int)))&&(Y != (0:Int)))))) then
 (bif (p118 (f,((m==(4:Int)),()))) then
 (some ((f118 (f,((m==(4:Int)),()))).1,((0:Int),((0:Int),()))))
 else none)
 else bif (p122 (f,(m,(ny,((f124 ((f124 ((f120 (((0:Int),(Y,())),((IntKind.wrap .i64 ((IntKind.wrap .i64 (ex-(if ((70:Int)<(IntKind.wrap .i64 (ex-ey))) then (70:Int) else (IntKind.wrap .i64 (ex-ey)))))-ey)),()))).1,(f119 (((0:Int),(X,())),((if ((70:Int)<(IntKind.wrap .i64 (ex-ey))) then (70:Int) else (IntKind.wrap .i64 (ex-ey))),()))))).1,(((0:Int),((1:Int),())),()))).1,((IntKind.wrap .i64 (ex-(if ((70:Int)<(IntKind.wrap .i64 (ex-ey))) then (70:Int) else (IntKind.wrap .i64 (ex-ey))))),(((!(((f119 ((f120 (((0:Int),(Y,())),((IntKind.wrap .i64 ((IntKind.wrap .i64 (ex-(if ((70:Int)<(IntKind.wrap .i64 (ex-ey))) then (70:Int) else (IntKind.wrap .i64 (ex-ey)))))-ey)),()))).1,((IntKind.wrap .i64 ((IntKind.wrap .i64 (ex-(if ((70:Int)<(IntKind.wrap .i64 (ex-ey))) then (70:Int) else (IntKind.wrap .i64 (ex-ey)))))-ey)),()))).1.1==(0:Int))&&((f119 ((f120 (((0:Int),(Y,())),((IntKind.wrap .i64 ((IntKind.wrap .i64 (ex-(if ((70:Int)<(IntKind.wrap .i64 (ex-ey))) then (70:Int) else (IntKind.wrap .i64 (ex-ey)))))-ey)),()))).1,((IntKind.wrap .i64 ((IntKind.wrap .i64 (ex-(if ((70:Int)<(IntKind.wrap .i64 (ex-ey))) then (70:Int) else (IntKind.wrap .i64 (ex-ey)))))-ey)),()))).1.2.1==Y)))||((decide ((IntKind.wrap .i64 ((IntKind.wrap .i64 (ex-(if ((70:Int)<(IntKind.wrap .i64 (ex-ey))) then (70:Int) else (IntKind.wrap .i64 (ex-ey)))))-ey))>(63:Int)))&&(Y != (0:Int)))),()))))))) then
 (some (f122 (f,(m,(ny,((f124 ((f124 ((f120 (((0:Int),(Y,())),((IntKind.wrap .i64 ((IntKind.wrap .i64 (ex-(if ((70:Int)<(IntKind.wrap .i64 (ex-ey))) then (70:Int) else (IntKind.wrap .i64 (ex-ey)))))-ey)),()))).1,(f119 (((0:Int),(X,())),((if ((70:Int)<(IntKind.wrap .i64 (ex-ey))) then (70:Int) else (IntKind.wrap .i64 (ex-ey))),()))))).1,(((0:Int),((1:Int),())),()))).1,((IntKind.wrap .i64 (ex-(if ((70:Int)<(IntKind.wrap .i64 (ex-ey))) then (70:Int) else (IntKind.wrap .i64 (ex-ey))))),(((!(((f119 ((f120 (((0:Int),(Y,())),((IntKind.wrap .i64 ((IntKind.wrap .i64 (ex-(if ((70:Int)<(IntKind.wrap .i64 (ex-ey))) then (70:Int) else (IntKind.wrap .i64 (ex-ey)))))-ey)),()))).1,((IntKind.wrap .i64 ((IntKind.wrap .i64 (ex-(if ((70:Int)<(IntKind.wrap .i64 (ex-ey))) then (70:Int) else (IntKind.wrap .i64 (ex-ey)))))-ey)),()))).1.1==(0:Int))&&((f119 ((f120 (((0:Int),(Y,())),((IntKind.wrap .i64 ((IntKind.wrap .i64 (ex-(if ((70:Int)<(IntKind.wrap .i64 (ex-ey))) then (70:Int) else (IntKind.wrap .i64 (ex-ey)))))-ey)),()))).1,((IntKind.wrap .i64 ((IntKind.wrap .i64 (ex-(if ((70:Int)<(IntKind.wrap .i64 (ex-ey))) then (70:Int) else (IntKind.wrap .i64 (ex-ey)))))-ey)),()))).1.2.1==Y)))||((decide ((IntKind.wrap .i64 ((IntKind.wrap .i64 (ex-(if ((70:Int)<(IntKind.wrap .i64 (ex-ey))) then (70:Int) else (IntKind.wrap .i64 (ex-ey)))))-ey))>(63:Int)))&&(Y != (0:Int)))),()))))))))
 else none)
 else none)
 else bif ((((f124 ((f120 (((0:Int),(Y,())),((IntKind.wrap .i64 ((IntKind.wrap .i64 (ex-(if ((70:Int)<(IntKind.wrap .i64 (ex-ey))) then (70:Int) else (IntKind.wrap .i64 (ex-ey)))))-ey)),()))).1,(f119 (((0:Int),(X,())),((if ((70:Int)<(IntKind.wrap .i64 (ex-ey))) then (70:Int) else (IntKind.wrap .i64 (ex-ey))),()))))).1.1==(0:Int))&&((f124 ((f120 (((0:Int),(Y,())),((IntKind.wrap .i64 ((IntKind.wrap .i64 (ex-(if ((70:Int)<(IntKind.wrap .i64 (ex-ey))) then (70:Int) else (IntKind.wrap .i64 (ex-ey)))))-ey)),()))).1,(f119 (((0:Int),(X,())),((if ((70:Int)<(IntKind.wrap .i64 (ex-ey))) then (70:Int) else (IntKind.wrap .i64 (ex-ey))),()))))).1.2.1==(0:Int)))&&(!((!(((f119 ((f120 (((0:Int),(Y,())),((IntKind.wrap .i64 ((IntKind.wrap .i64 (ex-(if ((70:Int)<(IntKind.wrap .i64 (ex-ey))) then (70:Int) else (IntKind.wrap .i64 (ex-ey)))))-ey)),()))).1,((IntKind.wrap .i64 ((IntKind.wrap .i64 (ex-(if ((70:Int)<(IntKind.wrap .i64 (ex-ey))) then (70:Int) else (IntKind.wrap .i64 (ex-ey)))))-ey)),()))).1.1==(0:Int))&&((f119 ((f120 (((0:Int),(Y,())),((IntKind.wrap .i64 ((IntKind.wrap .i64 (ex-(if ((70:Int)<(IntKind.wrap .i64 (ex-ey))) then (70:Int) else (IntKind.wrap .i64 (ex-ey)))))-ey)),()))).1,((IntKind.wrap .i64 ((IntKind.wrap .i64 (ex-(if ((70:Int)<(IntKind.wrap .i64 (ex-ey))) then (70:Int) else (IntKind.wrap .i64 (ex-ey)))))-ey)),()))).1.2.1==Y)))||((decide ((IntKind.wrap .i64 ((IntKind.wrap .i64 (ex-(if ((70:Int)<(IntKind.wrap .i64 (ex-ey))) then (70:Int) else (IntKind.wrap .i64 (ex-ey)))))-ey))>(63:Int)))&&(Y != (0:Int)))))) then
 (bif (p118 (f,((m==(4:Int)),()))) then
 (some ((f118 (f,((m==(4:Int)),()))).1,((0:Int),((0:Int),()))))
 else none)
 else bif (p122 (f,(m,(ny,((f124 ((f120 (((0:Int),(Y,())),((IntKind.wrap .i64 ((IntKind.wrap .i64 (ex-(if ((70:Int)<(IntKind.wrap .i64 (ex-ey))) then (70:Int) else (IntKind.wrap .i64 (ex-ey)))))-ey)),()))).1,(f119 (((0:Int),(X,())),((if ((70:Int)<(IntKind.wrap .i64 (ex-ey))) then (70:Int) else (IntKind.wrap .i64 (ex-ey))),()))))).1,((IntKind.wrap .i64 (ex-(if ((70:Int)<(IntKind.wrap .i64 (ex-ey))) then (70:Int) else (IntKind.wrap .i64 (ex-ey))))),(((!(((f119 ((f120 (((0:Int),(Y,())),((IntKind.wrap .i64 ((IntKind.wrap .i64 (ex-(if ((70:Int)<(IntKind.wrap .i64 (ex-ey))) then (70:Int) else (IntKind.wrap .i64 (ex-ey)))))-ey)),()))).1,((IntKind.wrap .i64 ((IntKind.wrap .i64 (ex-(if ((70:Int)<(IntKind.wrap .i64 (ex-ey))) then (70:Int) else (IntKind.wrap .i64 (ex-ey)))))-ey)),()))).1.1==(0:Int))&&((f119 ((f120 (((0:Int),(Y,())),((IntKind.wrap .i64 ((IntKind.wrap .i64 (ex-(if ((70:Int)<(IntKind.wrap .i64 (ex-ey))) then (70:Int) else (IntKind.wrap .i64 (ex-ey)))))-ey)),()))).1,((IntKind.wrap .i64 ((IntKind.wrap .i64 (ex-(if ((70:Int)<(IntKind.wrap .i64 (ex-ey))) then (70:Int) else (IntKind.wrap .i64 (ex-ey)))))-ey)),()))).1.2.1==Y)))||((decide ((IntKind.wrap .i64 ((IntKind.wrap .i64 (ex-(if ((70:Int)<(IntKind.wrap .i64 (ex-ey))) then (70:Int) else (IntKind.wrap .i64 (ex-ey)))))-ey))>(63:Int)))&&(Y != (0:Int)))),()))))))) then
 (some (f122 (f,(m,(ny,((f124 ((f120 (((0:Int),(Y,())),((IntKind.wrap .i64 ((IntKind.wrap .i64 (ex-(if ((70:Int)<(IntKind.wrap .i64 (ex-ey))) then (70:Int) else (IntKind.wrap .i64 (ex-ey)))))-ey)),()))).1,(f119 (((0:Int),(X,())),((if ((70:Int)<(IntKind.wrap .i64 (ex-ey))) then (70:Int) else (IntKind.wrap .i64 (ex-ey))),()))))).1,((IntKind.wrap .i64 (ex-(if ((70:Int)<(IntKind.wrap .i64 (ex-ey))) then (70:Int) else (IntKind.wrap .i64 (ex-ey))))),(((!(((f119 ((f120 (((0:Int),(Y,())),((IntKind.wrap .i64 ((IntKind.wrap .i64 (ex-(if ((70:Int)<(IntKind.wrap .i64 (ex-ey))) then (70:Int) else (IntKind.wrap .i64 (ex-ey)))))-ey)),()))).1,((IntKind.wrap .i64 ((IntKind.wrap .i64 (ex-(if ((70:Int)<(IntKind.wrap .i64 (ex-ey))) then (70:Int) else (IntKind.wrap .i64 (ex-ey)))))-ey)),()))).1.1==(0:Int))&&((f119 ((f120 (((0:Int),(Y,())),((IntKind.wrap .i64 ((IntKind.wrap .i64 (ex-(if ((70:Int)<(IntKind.wrap .i64 (ex-ey))) then (70:Int) else (IntKind.wrap .i64 (ex-ey)))))-ey)),()))).1,((IntKind.wrap .i64 ((IntKind.wrap .i64 (ex-(if ((70:Int)<(IntKind.wrap .i64 (ex-ey))) then (70:Int) else (IntKind.wrap .i64 (ex-ey)))))-ey)),()))).1.2.1==Y)))||((decide ((IntKind.wrap .i64 ((IntKind.wrap .i64 (ex-(if ((70:Int)<(IntKind.wrap .i64 (ex-ey))) then (70:Int) else (IntKind.wrap .i64 (ex-ey)))))-ey))>(63:Int)))&&(Y != (0:Int)))),()))))))))
 else none)
 else none)
 else bif (p124 ((f119 (((0:Int),(X,())),((if ((70:Int)<(IntKind.wrap .i64 (ex-ey))) then (70:Int) else (IntKind.wrap .i64 (ex-ey))),()))).1,(f120 (((0:Int),(Y,())),((IntKind.wrap .i64 ((IntKind.wrap .i64 (ex-(if ((70:Int)<(IntKind.wrap .i64 (ex-ey))) then (70:Int) else (IntKind.wrap .i64 (ex-ey)))))-ey)),()))))) then
 (bif ((!(((f119 ((f120 (((0:Int),(Y,())),((IntKind.wrap .i64 ((IntKind.wrap .i64 (ex-(if ((70:Int)<(IntKind.wrap .i64 (ex-ey))) then (70:Int) else (IntKind.wrap .i64 (ex-ey)))))-ey)),()))).1,((IntKind.wrap .i64 ((IntKind.wrap .i64 (ex-(if ((70:Int)<(IntKind.wrap .i64 (ex-ey))) then (70:Int) else (IntKind.wrap .i64 (ex-ey)))))-ey)),()))).1.1==(0:Int))&&((f119 ((f120 (((0:Int),(Y,())),((IntKind.wrap .i64 ((IntKind.wrap .i64 (ex-(if ((70:Int)<(IntKind.wrap .i64 (ex-ey))) then (70:Int) else (IntKind.wrap .i64 (ex-ey)))))-ey)),()))).1,((IntKind.wrap .i64 ((IntKind.wrap .i64 (ex-(if ((70:Int)<(IntKind.wrap .i64 (ex-ey))) then (70:Int) else (IntKind.wrap .i64 (ex-ey)))))-ey)),()))).1.2.1==Y)))||((decide ((IntKind.wrap .i64 ((IntKind.wrap .i64 (ex-(if ((70:Int)<(IntKind.wrap .i64 (ex-ey))) then (70:Int) else (IntKind.wrap .i64 (ex-ey)))))-ey))>(63:Int)))&&(Y != (0:Int)))) then
 (bif (p124 ((f124 ((f119 (((0:Int),(X,())),((if ((70:Int)<(IntKind.wrap .i64 (ex-ey))) then (70:Int) else (IntKind.wrap .i64 (ex-ey))),()))).1,(f120 (((0:Int),(Y,())),((IntKind.wrap .i64 ((IntKind.wrap .i64 (ex-(if ((70:Int)<(IntKind.wrap .i64 (ex-ey))) then (70:Int) else (IntKind.wrap .i64 (ex-ey)))))-ey)),()))))).1,(((0:Int),((1:Int),())),()))) then
 (bif ((((f124 ((f124 ((f119 (((0:Int),(X,())),((if ((70:Int)<(IntKind.wrap .i64 (ex-ey))) then (70:Int) else (IntKind.wrap .i64 (ex-ey))),()))).1,(f120 (((0:Int),(Y,())),((IntKind.wrap .i64 ((IntKind.wrap .i64 (ex-(if ((70:Int)<(IntKind.wrap .i64 (ex-ey))) then (70:Int) else (IntKind.wrap .i64 (ex-ey)))))-ey)),()))))).1,(((0:Int),((1:Int),())),()))).1.1==(0:Int))&&((f124 ((f124 ((f119 (((0:Int),(X,())),((if ((70:Int)<(IntKind.wrap .i64 (ex-ey))) then (70:Int) else (IntKind.wrap .i64 (ex-ey))),()))).1,(f120 (((0:Int),(Y,())),((IntKind.wrap .i64 ((IntKind.wrap .i64 (ex-(if ((70:Int)<(IntKind.wrap .i64 (ex-ey))) then (70:Int) else (IntKind.wrap .i64 (ex-ey)))))-ey)),()))))).1,(((0:Int),((1:Int),())),()))).1.2.1==(0:Int)))&&(!((!(((f119 ((f120 (((0:Int),(Y,())),((IntKind.wrap .i64 ((IntKind.wrap .i64 (ex-(if ((70:Int)<(IntKind.wrap .i64 (ex-ey))) then (70:Int) else (IntKind.wrap .i64 (ex-ey)))))-ey)),()))).1,((IntKind.wrap .i64 ((IntKind.wrap .i64 (ex-(if ((70:Int)<(IntKind.wrap .i64 (ex-ey))) then (70:Int) else (IntKind.wrap .i64 (ex-ey)))))-ey)),()))).1.1==(0:Int))&&((f119 ((f120 (((0:Int),(Y,())),((IntKind.wrap .i64 ((IntKind.wrap .i64 (ex-(if ((70:Int)<(IntKind.wrap .i64 (ex-ey))) then (70:Int) else (IntKind.wrap .i64 (ex-ey)))))-ey)),()))).1,((IntKind.wrap .i64 ((IntKind.wrap .i64 (ex-(if ((70:Int)<(IntKind.wrap .i64 (ex-ey))) then (70:Int) else (IntKind.wrap .i64 (ex-ey)))))-ey)),()))).1.2.1==Y)))||((decide ((IntKind.wrap .i64 ((IntKind.wrap .i64 (ex-(if ((70:Int)<(IntKind.wrap .i64 (ex-ey))) then (70:Int) else (IntKind.wrap .i64 (ex-ey)))))-ey))>(63:Int)))&&(Y != (0:Int)))))) then
 (bif (p118 (f,((m==(4:Int)),()))) then
 (some ((f118 (f,((m==(4:Int)),()))).1,((0:Int),((0:Int),()))))
 else none)
 else bif (p122 (f,(m,(nx,((f124 ((f124 ((f119 (((0:Int),(X,())),((if ((70:Int)<(IntKind.wrap .i64 (ex-ey))) then (70:Int) else (IntKind.wrap .i64 (ex-ey))),()))).1,(f120 (((0:Int),(Y,())),((IntKind.wrap .i64 ((IntKind.wrap .i64 (ex-(if ((70:Int)<(IntKind.wrap .i64 (ex-ey))) then (70:Int) else (IntKind.wrap .i64 (ex-ey)))))-ey)),()))))).1,(((0:Int),((1:Int),())),()))).1,((IntKind.wrap .i64 (ex-(if ((70:Int)<(IntKind.wrap .i64 (ex-ey))) then (70:Int) else (IntKind.wrap .i64 (ex-ey))))),(((!(((f119 ((f120 (((0:Int),(Y,())),((IntKind.wrap .i64 ((IntKind.wrap .i64 (ex-(if ((70:Int)<(IntKind.wrap .i64 (ex-ey))) then (70:Int) else (IntKind.wrap .i64 (ex-ey)))))-ey)),()))).1,((IntKind.wrap .i64 ((IntKind.wrap .i64 (ex-(if ((70:Int)<(IntKind.wrap .i64 (ex-ey))) then (70:Int) else (IntKind.wrap .i64 (ex-ey)))))-ey)),()))).1.1==(0:Int))&&((f119 ((f120 (((0:Int),(Y,())),((IntKind.wrap .i64 ((IntKind.wrap .i64 (ex-(if ((70:Int)<(IntKind.wrap .i64 (ex-ey))) then (70:Int) else (IntKind.wrap .i64 (ex-ey)))))-ey)),()))).1,((IntKind.wrap .i64 ((IntKind.wrap .i64 (ex-(if ((70:Int)<(IntKind.wrap .i64 (ex-ey))) then (70:Int) else (IntKind.wrap .i64 (ex-ey)))))-ey)),()))).1.2.1==Y)))||((decide ((IntKind.wrap .i64 ((IntKind.wrap .i64 (ex-(if ((70:Int)<(IntKind.wrap .i64 (ex-ey))) then (70:Int) else (IntKind.wrap .i64 (ex-ey)))))-ey))>(63:Int)))&&(Y != (0:Int)))),()))))))) then
 (some (f122 (f,(m,(nx,((f124 ((f124 ((f119 (((0:Int),(X,())),((if ((70:Int)<(IntKind.wrap .i64 (ex-ey))) then (70:Int) else (IntKind.wrap .i64 (ex-ey))),()))).1,(f120 (((0:Int),(Y,())),((IntKind.wrap .i64 ((IntKind.wrap .i64 (ex-(if ((70:Int)<(IntKind.wrap .i64 (ex-ey))) then (70:Int) else (IntKind.wrap .i64 (ex-ey)))))-ey)),()))))).1,(((0:Int),((1:Int),())),()))).1,((IntKind.wrap .i64 (ex-(if ((70:Int)<(IntKind.wrap .i64 (ex-ey))) then (70:Int) else (IntKind.wrap .i64 (ex-ey))))),(((!(((f119 ((f120 (((0:Int),(Y,())),((IntKind.wrap .i64 ((IntKind.wrap .i64 (ex-(if ((70:Int)<(IntKind.wrap .i64 (ex-ey))) then (70:Int) else (IntKind.wrap .i64 (ex-ey)))))-ey)),()))).1,((IntKind.wrap .i64 ((IntKind.wrap .i64 (ex-(if ((70:Int)<(IntKind.wrap .i64 (ex-ey))) then (70:Int) else (IntKind.wrap .i64 (ex-ey)))))-ey)),()))).1.1==(0:Int))&&((f119 ((f120 (((0:Int),(Y,())),((IntKind.wrap .i64 ((IntKind.wrap .i64 (ex-(if ((70:Int)<(IntKind.wrap .i64 (ex-ey))) then (70:Int) else (IntKind.wrap .i64 (ex-ey)))))-ey)),()))).1,((IntKind.wrap .i64 ((IntKind.wrap .i64 (ex-(if ((70:Int)<(IntKind.wrap .i64 (ex-ey))) then (70:Int) else (IntKind.wrap .i64 (ex-ey)))))-ey)),()))).1.2.1==Y)))||((decide ((IntKind.wrap .i64 ((IntKind.wrap .i64 (ex-(if ((70:Int)<(IntKind.wrap .i64 (ex-ey))) then (70:Int) else (IntKind.wrap .i64 (ex-ey)))))-ey))>(63:Int)))&&(Y != (0:Int)))),()))))))))
 else none)
 else none)
 else bif ((((f124 ((f119 (((0:Int),(X,())),((if ((70:Int)<(IntKind.wrap .i64 (ex-ey))) then (70:Int) else (IntKind.wrap .i64 (ex-ey))),()))).1,(f120 (((0:Int),(Y,())),((IntKind.wrap .i64 ((IntKind.wrap .i64 (ex-(if ((70:Int)<(IntKind.wrap .i64 (ex-ey))) then (70:Int) else (IntKind.wrap .i64 (ex-ey)))))-ey)),()))))).1.1==(0:Int))&&((f124 ((f119 (((0:Int),(X,())),((if ((70:Int)<(IntKind.wrap .i64 (ex-ey))) then (70:Int) else (IntKind.wrap .i64 (ex-ey))),()))).1,(f120 (((0:Int),(Y,())),((IntKind.wrap .i64 ((IntKind.wrap .i64 (ex-(if ((70:Int)<(IntKind.wrap .i64 (ex-ey))) then (70:Int) else (IntKind.wrap .i64 (ex-ey)))))-ey)),()))))).1.2.1==(0:Int)))&&(!((!(((f119 ((f120 (((0:Int),(Y,())),((IntKind.wrap .i64 ((IntKind.wrap .i64 (ex-(if ((70:Int)<(IntKind.wrap .i64 (ex-ey))) then (70:Int) else (IntKind.wrap .i64 (ex-ey)))))-ey)),()))).1,((IntKind.wrap .i64 ((IntKind.wrap .i64 (ex-(if ((70:Int)<(IntKind.wrap .i64 (ex-ey))) then (70:Int) else (IntKind.wrap .i64 (ex-ey)))))-ey)),()))).1.1==(0:Int))&&((f119 ((f120 (((0:Int),(Y,())),((IntKind.wrap .i64 ((IntKind.wrap .i64 (ex-(if ((70:Int)<(IntKind.wrap .i64 (ex-ey))) then (70:Int) else (IntKind.wrap .i64 (ex-ey)))))-ey)),()))).1,((IntKind.wrap .i64 ((IntKind.wrap .i64 (ex-(if ((70:Int)<(IntKind.wrap .i64 (ex-ey))) then (70:Int) else (IntKind.wrap .i64 (ex-ey)))))-ey)),()))).1.2.1==Y)))||((decide ((IntKind.wrap .i64 ((IntKind.wrap .i64 (ex-(if ((70:Int)<(IntKind.wrap .i64 (ex-ey))) then (70:Int) else (IntKind.wrap .i64 (ex-ey)))))-ey))>(63:Int)))&&(Y != (0:Int)))))) then
 (bif (p118 (f,((m==(4:Int)),()))) then
 (some ((f118 (f,((m==(4:Int)),()))).1,((0:Int),((0:Int),()))))
 else none)
 else bif (p122 (f,(m,(nx,((f124 ((f119 (((0:Int),(X,())),((if ((70:Int)<(IntKind.wrap .i64 (ex-ey))) then (70:Int) else (IntKind.wrap .i64 (ex-ey))),()))).1,(f120 (((0:Int),(Y,())),((IntKind.wrap .i64 ((IntKind.wrap .i64 (ex-(if ((70:Int)<(IntKind.wrap .i64 (ex-ey))) then (70:Int) else (IntKind.wrap .i64 (ex-ey)))))-ey)),()))))).1,((IntKind.wrap .i64 (ex-(if ((70:Int)<(IntKind.wrap .i64 (ex-ey))) then (70:Int) else (IntKind.wrap .i64 (ex-ey))))),(((!(((f119 ((f120 (((0:Int),(Y,())),((IntKind.wrap .i64 ((IntKind.wrap .i64 (ex-(if ((70:Int)<(IntKind.wrap .i64 (ex-ey))) then (70:Int) else (IntKind.wrap .i64 (ex-ey)))))-ey)),()))).1,((IntKind.wrap .i64 ((IntKind.wrap .i64 (ex-(if ((70:Int)<(IntKind.wrap .i64 (ex-ey))) then (70:Int) else (IntKind.wrap .i64 (ex-ey)))))-ey)),()))).1.1==(0:Int))&&((f119 ((f120 (((0:Int),(Y,())),((IntKind.wrap .i64 ((IntKind.wrap .i64 (ex-(if ((70:Int)<(IntKind.wrap .i64 (ex-ey))) then (70:Int) else (IntKind.wrap .i64 (ex-ey)))))-ey)),()))).1,((IntKind.wrap .i64 ((IntKind.wrap .i64 (ex-(if ((70:Int)<(IntKind.wrap .i64 (ex-ey))) then (70:Int) else (IntKind.wrap .i64 (ex-ey)))))-ey)),()))).1.2.1==Y)))||((decide ((IntKind.wrap .i64 ((IntKind.wrap .i64 (ex-(if ((70:Int)<(IntKind.wrap .i64 (ex-ey))) then (70:Int) else (IntKind.wrap .i64 (ex-ey)))))-ey))>(63:Int)))&&(Y != (0:Int)))),()))))))) then
 (some (f122 (f,(m,(nx,((f124 ((f119 (((0:Int),(X,())),((if ((70:Int)<(IntKind.wrap .i64 (ex-ey))) then (70:Int) else (IntKind.wrap .i64 (ex-ey))),()))).1,(f120 (((0:Int),(Y,())),((IntKind.wrap .i64 ((IntKind.wrap .i64 (ex-(if ((70:Int)<(IntKind.wrap .i64 (ex-ey))) then (70:Int) else (IntKind.wrap .i64 (ex-ey)))))-ey)),()))))).1,((IntKind.wrap .i64 (ex-(if ((70:Int)<(IntKind.wrap .i64 (ex-ey))) then (70:Int) else (IntKind.wrap .i64 (ex-ey))))),(((!(((f119 ((f120 (((0:Int),(Y,())),((IntKind.wrap .i64 ((IntKind.wrap .i64 (ex-(if ((70:Int)<(IntKind.wrap .i64 (ex-ey))) then (70:Int) else (IntKind.wrap .i64 (ex-ey)))))-ey)),()))).1,((IntKind.wrap .i64 ((IntKind.wrap .i64 (ex-(if ((70:Int)<(IntKind.wrap .i64 (ex-ey))) then (70:Int) else (IntKind.wrap .i64 (ex-ey)))))-ey)),()))).1.1==(0:Int))&&((f119 ((f120 (((0:Int),(Y,())),((IntKind.wrap .i64 ((IntKind.wrap .i64 (ex-(if ((70:Int)<(IntKind.wrap .i64 (ex-ey))) then (70:Int) else (IntKind.wrap .i64 (ex-ey)))))-ey)),()))).1,((IntKind.wrap .i64 ((IntKind.wrap .i64 (ex-(if ((70:Int)<(IntKind.wrap .i64 (ex-ey))) then (70:Int) else (IntKind.wrap .i64 (ex-ey)))))-ey)),()))).1.2.1==Y)))||((decide ((IntKind.wrap .i64 ((IntKind.wrap .i64 (ex-(if ((70:Int)<(IntKind.wrap .i64 (ex-ey))) then (70:Int) else (IntKind.wrap .i64 (ex-ey)))))-ey))>(63:Int)))&&(Y != (0:Int)))),()))))))))
 else none)
 else none)
 else none)
 else none)
 else none)
 else none)
 else none
noncomputable def t71 (p119:DenS I119→Bool) (f119:DenS I119→DenS O119) (p120:DenS I120→Bool) (f120:DenS I120→DenS O120) (p121:DenS I121→Bool) (f121:DenS I121→DenS O121) (p123:DenS I123→Bool) (f123:DenS I123→DenS O123) (p124:DenS I124→Bool) (f124:DenS I124→DenS O124) (p118:DenS I118→Bool) (f118:DenS I118→DenS O118) (p122:DenS I122→Bool) (f122:DenS I122→DenS O122) (a0:Den (.int .i64)) (a1:Den (.int .i64)) (a2:Den (.pair (.bool) (.pair (.int .u64) (.pair (.int .i64) (.unit))))) (a3:Den (.pair (.bool) (.pair (.int .u64) (.pair (.int .i64) (.unit))))):Option (DenS O71) :=
 bif (((a2.2.1==(0:Int))&&(a3.2.1==(0:Int)))&&(a2.1==a3.1)) then
 (bif (p118 (a0,(a2.1,()))) then (some ((f118 (a0,(a2.1,()))).1,((0:Int),((0:Int),())))) else none)
 else bif ((a2.2.1==(0:Int))||((a3.2.1 != (0:Int))&&(decide (a2.2.2.1<a3.2.2.1)))) then
 (bif (a2.2.1==(0:Int)) then (tl71 p119 f119 p120 f120 p121 f121 p123 f123 p124 f124 p118 f118 p122 f122 a0 a1 a3.1 a3.2.1 a3.2.2.1 a2.1 a2.2.1 a3.2.2.1) else (tl71 p119 f119 p120 f120 p121 f121 p123 f123 p124 f124 p118 f118 p122 f122 a0 a1 a3.1 a3.2.1 a3.2.2.1 a2.1 a2.2.1 a2.2.2.1))
 else bif (a3.2.1==(0:Int)) then (tl71 p119 f119 p120 f120 p121 f121 p123 f123 p124 f124 p118 f118 p122 f122 a0 a1 a2.1 a2.2.1 a2.2.2.1 a3.1 a3.2.1 a2.2.2.1)
 else (tl71 p119 f119 p120 f120 p121 f121 p123 f123 p124 f124 p118 f118 p122 f122 a0 a1 a2.1 a2.2.1 a2.2.2.1 a3.1 a3.2.1 a3.2.2.1)
theorem r71 (p119:DenS I119→Bool) (f119:DenS I119→DenS O119) (p120:DenS I120→Bool) (f120:DenS I120→DenS O120) (p121:DenS I121→Bool) (f121:DenS I121→DenS O121) (p123:DenS I123→Bool) (f123:DenS I123→DenS O123) (p124:DenS I124→Bool) (f124:DenS I124→DenS O124) (p118:DenS I118→Bool) (f118:DenS I118→DenS O118) (p122:DenS I122→Bool) (f122:DenS I122→DenS O122) (a0:Den (.int .i64)) (a1:Den (.int .i64)) (a2:Den (.pair (.bool) (.pair (.int .u64) (.pair (.int .i64) (.unit))))) (a3:Den (.pair (.bool) (.pair (.int .u64) (.pair (.int .i64) (.unit))))) :
  run { P:=Tryz.prog,sums:=[(44,⟨I119,O119,p119,f119⟩),(52,⟨I120,O120,p120,f120⟩),(53,⟨I121,O121,p121,f121⟩),(54,⟨I123,O123,p123,f123⟩),(55,⟨I124,O124,p124,f124⟩),(31,⟨I118,O118,p118,f118⟩),(32,⟨I122,O122,p122,f122⟩)],loops:=[],globs:=G1 } 9 22 Tryz.f22 I71 O71 (a0,a1,a2,a3,())=t71 p119 f119 p120 f120 p121 f121 p123 f123 p124 f124 p118 f118 p122 f122 a0 a1 a2 a3:=by kernel_rfl
noncomputable def T71 (x:DenS I71):Option (DenS O71):=t71 S119.pre S119.F S120.pre S120.F S121.pre S121.F S123.pre S123.F S124.pre S124.F S118.pre S118.F S122.pre S122.F x.1 x.2.1 x.2.2.1 x.2.2.2.1
noncomputable def C71:Cfg:={ P:=Tryz.prog,sums:=[(44,S119),(52,S120),(53,S121),(54,S123),(55,S124),(31,S118),(32,S122)],loops:=[],globs:=G1 }
noncomputable def S71:Sum:=sumOf I71 O71 T71 (DenS.dflt O71)
theorem S71_sound:Sound Tryz.prog G1 22 S71 :=
 fn_sound C71 9 22 Tryz.f22 mixedOk (by kernel_rfl) (by kernel_rfl) (by kernel_rfl) ⟨S119_sound,⟨S120_sound,⟨S121_sound,⟨S123_sound,⟨S124_sound,⟨S118_sound,⟨S122_sound,trivial⟩⟩⟩⟩⟩⟩⟩ trivial I71 O71 T71 _ (fun x=>r71 S119.pre S119.F S120.pre S120.F S121.pre S121.F S123.pre S123.F S124.pre S124.F S118.pre S118.F S122.pre S122.F x.1 x.2.1 x.2.2.1 x.2.2.2.1)
end Vx
