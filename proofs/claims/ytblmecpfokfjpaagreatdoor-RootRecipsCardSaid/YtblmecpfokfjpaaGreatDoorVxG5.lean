/- Part 5 of the proof. What is proved: symbolic execution of the functions, proved sound; what each function of the program computes, and that every run ends with it; what these functions compute, in plain numbers. Conditions: each theorem bears its own. -/
import Derived.Test.YtblmecpfokfjpaaGreatDoorVxG4
set_option linter.all false
set_option exponentiation.threshold 1000000
namespace Vx
open Go Go.Proofs
abbrev I149:Sig:=[(false,.int .i64),(false,.int .i64),(false,.bool)]
abbrev O149:Sig:=[(false,.int .u64)]
noncomputable def t149 (p97:DenS I97 → Bool) (f97:DenS I97 → DenS O97) (p43:DenS I43 → Bool) (f43:DenS I43 → DenS O43) (a0:Den (.int .i64)) (a1:Den (.int .i64)) (a2:Den (.bool)):Option (DenS O149) :=
  bif ((((a1 == (0:Int)) || (a1 == (1:Int))) || ((a1 == (3:Int)) && (!a2))) || ((a1 == (4:Int)) && a2)) then
  (bif (p97 (a0,(a2,()))) then
  (some ((f97 (a0,(a2,()))).1,()))
  else none)
  else bif (p43 (a0,(a2,()))) then
  (some ((f43 (a0,(a2,()))).1,()))
  else none
theorem r149 (p97:DenS I97 → Bool) (f97:DenS I97 → DenS O97) (p43:DenS I43 → Bool) (f43:DenS I43 → DenS O43) (a0:Den (.int .i64)) (a1:Den (.int .i64)) (a2:Den (.bool)) :
    run { P:=Go.Proofs.Tryz.prog,sums:=[(32,⟨I97,O97,p97,f97⟩),(112,⟨I43,O43,p43,f43⟩)],loops:=[],globs:=G1 } 9 101 Go.Proofs.Tryz.f101 I149 O149 (a0,a1,a2,()) = t149 p97 f97 p43 f43 a0 a1 a2:=by kernel_rfl
noncomputable def T149 (x:DenS I149):Option (DenS O149):=t149 S97.pre S97.F S43.pre S43.F x.1 x.2.1 x.2.2.1
noncomputable def C149:Cfg:={ P:=Go.Proofs.Tryz.prog,sums:=[(32,S97),(112,S43)],loops:=[],globs:=G1 }
noncomputable def S149:Sum:=sumOf I149 O149 T149 (DenS.dflt O149)
theorem S149_sound:Sound Go.Proofs.Tryz.prog G1 101 S149 :=
  fn_sound C149 9 101 Go.Proofs.Tryz.f101 mixedOk (by kernel_rfl) (by kernel_rfl) (by kernel_rfl) ⟨S97_sound,⟨S43_sound,trivial⟩⟩ trivial I149 O149 T149 _ (fun x=>r149 S97.pre S97.F S43.pre S43.F x.1 x.2.1 x.2.2.1)
abbrev I152:Sig:=[(true,.pair (.bool) (.pair (.slice (.int .u64)) (.pair (.int .i64) (.pair (.bool) (.unit))))),(true,.pair (.int .i64) (.pair (.int .i64) (.pair (.int .i64) (.pair (.int .i64) (.unit))))),(false,.int .i64),(false,.int .i64)]
abbrev O152:Sig:=[(false,.bool)]
noncomputable def t152 (p150:DenS I150 → Bool) (f150:DenS I150 → DenS O150) (p151:DenS I151 → Bool) (f151:DenS I151 → DenS O151) (a0:Den (.pair (.bool) (.pair (.slice (.int .u64)) (.pair (.int .i64) (.pair (.bool) (.unit)))))) (a1:Den (.pair (.int .i64) (.pair (.int .i64) (.pair (.int .i64) (.pair (.int .i64) (.unit)))))) (a2:Den (.int .i64)) (a3:Den (.int .i64)):Option (DenS O152) :=
  bif (decide (a3 ≥ a1.2.2.1)) then
  (some (false,()))
  else bif (p150 ((a0.1,a0.2),(a2,((Go.IntKind.wrap .i64 ((Go.IntKind.wrap .i64 (a3 - a1.2.1)) + (1:Int))),())))) then
  (bif (p151 ((f150 ((a0.1,a0.2),(a2,((Go.IntKind.wrap .i64 ((Go.IntKind.wrap .i64 (a3 - a1.2.1)) + (1:Int))),())))).1,())) then
  (some ((decide ((Go.IntKind.wrap .i64 ((Go.IntKind.wrap .i64 (a3 - a1.2.1)) + (f151 ((f150 ((a0.1,a0.2),(a2,((Go.IntKind.wrap .i64 ((Go.IntKind.wrap .i64 (a3 - a1.2.1)) + (1:Int))),())))).1,())).1)) < a1.2.2.1)),()))
  else none)
  else none
theorem r152 (p150:DenS I150 → Bool) (f150:DenS I150 → DenS O150) (p151:DenS I151 → Bool) (f151:DenS I151 → DenS O151) (a0:Den (.pair (.bool) (.pair (.slice (.int .u64)) (.pair (.int .i64) (.pair (.bool) (.unit)))))) (a1:Den (.pair (.int .i64) (.pair (.int .i64) (.pair (.int .i64) (.pair (.int .i64) (.unit)))))) (a2:Den (.int .i64)) (a3:Den (.int .i64)) :
    run { P:=Go.Proofs.Tryz.prog,sums:=[(102,⟨I150,O150,p150,f150⟩),(60,⟨I151,O151,p151,f151⟩)],loops:=[],globs:=G1 } 9 103 Go.Proofs.Tryz.f103 I152 O152 (a0,a1,a2,a3,()) = t152 p150 f150 p151 f151 a0 a1 a2 a3:=by kernel_rfl
noncomputable def T152 (x:DenS I152):Option (DenS O152):=t152 S150.pre S150.F S151.pre S151.F x.1 x.2.1 x.2.2.1 x.2.2.2.1
noncomputable def C152:Cfg:={ P:=Go.Proofs.Tryz.prog,sums:=[(102,S150),(60,S151)],loops:=[],globs:=G1 }
noncomputable def S152:Sum:=sumOf I152 O152 T152 (DenS.dflt O152)
theorem S152_sound:Sound Go.Proofs.Tryz.prog G1 103 S152 :=
  fn_sound C152 9 103 Go.Proofs.Tryz.f103 mixedOk (by kernel_rfl) (by kernel_rfl) (by kernel_rfl) ⟨S150_sound,⟨S151_sound,trivial⟩⟩ trivial I152 O152 T152 _ (fun x=>r152 S150.pre S150.F S151.pre S151.F x.1 x.2.1 x.2.2.1 x.2.2.2.1)
abbrev I107:Sig:=[(true,.pair (.bool) (.pair (.slice (.int .u64)) (.pair (.int .i64) (.pair (.bool) (.unit))))),(false,.int .i64),(true,.pair (.int .i64) (.pair (.int .i64) (.pair (.int .i64) (.pair (.int .i64) (.unit))))),(false,.int .i64)]
abbrev O107:Sig:=[(false,.int .u64),(false,.int .i64)]
noncomputable def t107 (p148:DenS I148 → Bool) (f148:DenS I148 → DenS O148) (p150:DenS I150 → Bool) (f150:DenS I150 → DenS O150) (p151:DenS I151 → Bool) (f151:DenS I151 → DenS O151) (p149:DenS I149 → Bool) (f149:DenS I149 → DenS O149) (p152:DenS I152 → Bool) (f152:DenS I152 → DenS O152) (a0:Den (.pair (.bool) (.pair (.slice (.int .u64)) (.pair (.int .i64) (.pair (.bool) (.unit)))))) (a1:Den (.int .i64)) (a2:Den (.pair (.int .i64) (.pair (.int .i64) (.pair (.int .i64) (.pair (.int .i64) (.unit)))))) (a3:Den (.int .i64)):Option (DenS O107) :=
  bif (p148 ((a0.1,a0.2),())) then
  (bif (decide ((f148 ((a0.1,a0.2),())).1 > a2.2.2.2.1)) then
  (bif (p149 (a1,(a3,(a0.1,())))) then
  (some ((f149 (a1,(a3,(a0.1,())))).1,((20:Int),())))
  else none)
  else bif (p150 ((a0.1,a0.2),(a3,((Go.IntKind.wrap .i64 ((Go.IntKind.wrap .i64 ((if (a2.2.2.1 > (f148 ((a0.1,a0.2),())).1) then a2.2.2.1 else (f148 ((a0.1,a0.2),())).1) - a2.2.1)) + (1:Int))),())))) then
  (bif (decide ((0:Int) ≤ (Go.IntKind.wrap .i64 (a2.2.1 - (1:Int))))) then
  (bif (decide (((f150 ((a0.1,a0.2),(a3,((Go.IntKind.wrap .i64 ((Go.IntKind.wrap .i64 ((if (a2.2.2.1 > (f148 ((a0.1,a0.2),())).1) then a2.2.2.1 else (f148 ((a0.1,a0.2),())).1) - a2.2.1)) + (1:Int))),())))).1.length:Int) > (0:Int))) then
  (bif (decide ((0:Int) < ((f150 ((a0.1,a0.2),(a3,((Go.IntKind.wrap .i64 ((Go.IntKind.wrap .i64 ((if (a2.2.2.1 > (f148 ((a0.1,a0.2),())).1) then a2.2.2.1 else (f148 ((a0.1,a0.2),())).1) - a2.2.1)) + (1:Int))),())))).1.length:Int))) then
  (bif (p151 ((f150 ((a0.1,a0.2),(a3,((Go.IntKind.wrap .i64 ((Go.IntKind.wrap .i64 ((if (a2.2.2.1 > (f148 ((a0.1,a0.2),())).1) then a2.2.2.1 else (f148 ((a0.1,a0.2),())).1) - a2.2.1)) + (1:Int))),())))).1,())) then
  (bif (decide ((Go.IntKind.wrap .i64 ((Go.IntKind.wrap .i64 ((Go.IntKind.wrap .i64 ((Go.IntKind.wrap .i64 ((if (a2.2.2.1 > (f148 ((a0.1,a0.2),())).1) then a2.2.2.1 else (f148 ((a0.1,a0.2),())).1) - a2.2.1)) + (1:Int))) + (f151 ((f150 ((a0.1,a0.2),(a3,((Go.IntKind.wrap .i64 ((Go.IntKind.wrap .i64 ((if (a2.2.2.1 > (f148 ((a0.1,a0.2),())).1) then a2.2.2.1 else (f148 ((a0.1,a0.2),())).1) - a2.2.1)) + (1:Int))),())))).1,())).1)) - (1:Int))) > a2.2.2.2.1)) then
  (bif (p149 (a1,(a3,(a0.1,())))) then
  (some ((f149 (a1,(a3,(a0.1,())))).1,((20:Int),())))
  else none)
  else bif a0.1 then
  (bif (decide ((0:Int) ≤ (Go.IntKind.wrap .i64 (a2.1 - (1:Int))))) then
  (bif (!(f150 ((a0.1,a0.2),(a3,((Go.IntKind.wrap .i64 ((Go.IntKind.wrap .i64 ((if (a2.2.2.1 > (f148 ((a0.1,a0.2),())).1) then a2.2.2.1 else (f148 ((a0.1,a0.2),())).1) - a2.2.1)) + (1:Int))),())))).2.1) then
  (some ((Vx.orI Go.IntKind.u64 (Go.IntKind.wrap .u64 ((Vx.shlI Go.IntKind.u64 (Go.IntKind.wrap .u64 (Go.IntKind.wrap .i64 ((Go.IntKind.wrap .i64 ((Go.IntKind.wrap .i64 ((if (a2.2.2.1 > (f148 ((a0.1,a0.2),())).1) then a2.2.2.1 else (f148 ((a0.1,a0.2),())).1) - a2.2.1)) + (1:Int))) - (Go.IntKind.wrap .i64 ((Go.IntKind.wrap .i64 (a2.2.2.1 - a2.2.1)) + (1:Int)))))) (Go.IntKind.wrap .i64 (a2.2.1 - (1:Int)))) + ((f150 ((a0.1,a0.2),(a3,((Go.IntKind.wrap .i64 ((Go.IntKind.wrap .i64 ((if (a2.2.2.1 > (f148 ((a0.1,a0.2),())).1) then a2.2.2.1 else (f148 ((a0.1,a0.2),())).1) - a2.2.1)) + (1:Int))),())))).1.getD (Int.toNat (0:Int)) (0:Int)))) (Vx.shlI Go.IntKind.u64 (1:Int) (Go.IntKind.wrap .i64 (a2.1 - (1:Int))))),((0:Int),())))
  else bif (p152 ((a0.1,a0.2),((a2.1,a2.2),(a3,(f148 ((a0.1,a0.2),())))))) then
  (bif (f152 ((a0.1,a0.2),((a2.1,a2.2),(a3,(f148 ((a0.1,a0.2),())))))).1 then
  (some ((Vx.orI Go.IntKind.u64 (Go.IntKind.wrap .u64 ((Vx.shlI Go.IntKind.u64 (Go.IntKind.wrap .u64 (Go.IntKind.wrap .i64 ((Go.IntKind.wrap .i64 ((Go.IntKind.wrap .i64 ((if (a2.2.2.1 > (f148 ((a0.1,a0.2),())).1) then a2.2.2.1 else (f148 ((a0.1,a0.2),())).1) - a2.2.1)) + (1:Int))) - (Go.IntKind.wrap .i64 ((Go.IntKind.wrap .i64 (a2.2.2.1 - a2.2.1)) + (1:Int)))))) (Go.IntKind.wrap .i64 (a2.2.1 - (1:Int)))) + ((f150 ((a0.1,a0.2),(a3,((Go.IntKind.wrap .i64 ((Go.IntKind.wrap .i64 ((if (a2.2.2.1 > (f148 ((a0.1,a0.2),())).1) then a2.2.2.1 else (f148 ((a0.1,a0.2),())).1) - a2.2.1)) + (1:Int))),())))).1.getD (Int.toNat (0:Int)) (0:Int)))) (Vx.shlI Go.IntKind.u64 (1:Int) (Go.IntKind.wrap .i64 (a2.1 - (1:Int))))),((24:Int),())))
  else some ((Vx.orI Go.IntKind.u64 (Go.IntKind.wrap .u64 ((Vx.shlI Go.IntKind.u64 (Go.IntKind.wrap .u64 (Go.IntKind.wrap .i64 ((Go.IntKind.wrap .i64 ((Go.IntKind.wrap .i64 ((if (a2.2.2.1 > (f148 ((a0.1,a0.2),())).1) then a2.2.2.1 else (f148 ((a0.1,a0.2),())).1) - a2.2.1)) + (1:Int))) - (Go.IntKind.wrap .i64 ((Go.IntKind.wrap .i64 (a2.2.2.1 - a2.2.1)) + (1:Int)))))) (Go.IntKind.wrap .i64 (a2.2.1 - (1:Int)))) + ((f150 ((a0.1,a0.2),(a3,((Go.IntKind.wrap .i64 ((Go.IntKind.wrap .i64 ((if (a2.2.2.1 > (f148 ((a0.1,a0.2),())).1) then a2.2.2.1 else (f148 ((a0.1,a0.2),())).1) - a2.2.1)) + (1:Int))),())))).1.getD (Int.toNat (0:Int)) (0:Int)))) (Vx.shlI Go.IntKind.u64 (1:Int) (Go.IntKind.wrap .i64 (a2.1 - (1:Int))))),((16:Int),())))
  else none)
  else none)
  else bif (!(f150 ((a0.1,a0.2),(a3,((Go.IntKind.wrap .i64 ((Go.IntKind.wrap .i64 ((if (a2.2.2.1 > (f148 ((a0.1,a0.2),())).1) then a2.2.2.1 else (f148 ((a0.1,a0.2),())).1) - a2.2.1)) + (1:Int))),())))).2.1) then
  (some ((Go.IntKind.wrap .u64 ((Vx.shlI Go.IntKind.u64 (Go.IntKind.wrap .u64 (Go.IntKind.wrap .i64 ((Go.IntKind.wrap .i64 ((Go.IntKind.wrap .i64 ((if (a2.2.2.1 > (f148 ((a0.1,a0.2),())).1) then a2.2.2.1 else (f148 ((a0.1,a0.2),())).1) - a2.2.1)) + (1:Int))) - (Go.IntKind.wrap .i64 ((Go.IntKind.wrap .i64 (a2.2.2.1 - a2.2.1)) + (1:Int)))))) (Go.IntKind.wrap .i64 (a2.2.1 - (1:Int)))) + ((f150 ((a0.1,a0.2),(a3,((Go.IntKind.wrap .i64 ((Go.IntKind.wrap .i64 ((if (a2.2.2.1 > (f148 ((a0.1,a0.2),())).1) then a2.2.2.1 else (f148 ((a0.1,a0.2),())).1) - a2.2.1)) + (1:Int))),())))).1.getD (Int.toNat (0:Int)) (0:Int)))),((0:Int),())))
  else bif (p152 ((a0.1,a0.2),((a2.1,a2.2),(a3,(f148 ((a0.1,a0.2),())))))) then
  (bif (f152 ((a0.1,a0.2),((a2.1,a2.2),(a3,(f148 ((a0.1,a0.2),())))))).1 then
  (some ((Go.IntKind.wrap .u64 ((Vx.shlI Go.IntKind.u64 (Go.IntKind.wrap .u64 (Go.IntKind.wrap .i64 ((Go.IntKind.wrap .i64 ((Go.IntKind.wrap .i64 ((if (a2.2.2.1 > (f148 ((a0.1,a0.2),())).1) then a2.2.2.1 else (f148 ((a0.1,a0.2),())).1) - a2.2.1)) + (1:Int))) - (Go.IntKind.wrap .i64 ((Go.IntKind.wrap .i64 (a2.2.2.1 - a2.2.1)) + (1:Int)))))) (Go.IntKind.wrap .i64 (a2.2.1 - (1:Int)))) + ((f150 ((a0.1,a0.2),(a3,((Go.IntKind.wrap .i64 ((Go.IntKind.wrap .i64 ((if (a2.2.2.1 > (f148 ((a0.1,a0.2),())).1) then a2.2.2.1 else (f148 ((a0.1,a0.2),())).1) - a2.2.1)) + (1:Int))),())))).1.getD (Int.toNat (0:Int)) (0:Int)))),((24:Int),())))
  else some ((Go.IntKind.wrap .u64 ((Vx.shlI Go.IntKind.u64 (Go.IntKind.wrap .u64 (Go.IntKind.wrap .i64 ((Go.IntKind.wrap .i64 ((Go.IntKind.wrap .i64 ((if (a2.2.2.1 > (f148 ((a0.1,a0.2),())).1) then a2.2.2.1 else (f148 ((a0.1,a0.2),())).1) - a2.2.1)) + (1:Int))) - (Go.IntKind.wrap .i64 ((Go.IntKind.wrap .i64 (a2.2.2.1 - a2.2.1)) + (1:Int)))))) (Go.IntKind.wrap .i64 (a2.2.1 - (1:Int)))) + ((f150 ((a0.1,a0.2),(a3,((Go.IntKind.wrap .i64 ((Go.IntKind.wrap .i64 ((if (a2.2.2.1 > (f148 ((a0.1,a0.2),())).1) then a2.2.2.1 else (f148 ((a0.1,a0.2),())).1) - a2.2.1)) + (1:Int))),())))).1.getD (Int.toNat (0:Int)) (0:Int)))),((16:Int),())))
  else none)
  else none)
  else none)
  else bif (p151 ((f150 ((a0.1,a0.2),(a3,((Go.IntKind.wrap .i64 ((Go.IntKind.wrap .i64 ((if (a2.2.2.1 > (f148 ((a0.1,a0.2),())).1) then a2.2.2.1 else (f148 ((a0.1,a0.2),())).1) - a2.2.1)) + (1:Int))),())))).1,())) then
  (bif (decide ((Go.IntKind.wrap .i64 ((Go.IntKind.wrap .i64 ((Go.IntKind.wrap .i64 ((Go.IntKind.wrap .i64 ((if (a2.2.2.1 > (f148 ((a0.1,a0.2),())).1) then a2.2.2.1 else (f148 ((a0.1,a0.2),())).1) - a2.2.1)) + (1:Int))) + (f151 ((f150 ((a0.1,a0.2),(a3,((Go.IntKind.wrap .i64 ((Go.IntKind.wrap .i64 ((if (a2.2.2.1 > (f148 ((a0.1,a0.2),())).1) then a2.2.2.1 else (f148 ((a0.1,a0.2),())).1) - a2.2.1)) + (1:Int))),())))).1,())).1)) - (1:Int))) > a2.2.2.2.1)) then
  (bif (p149 (a1,(a3,(a0.1,())))) then
  (some ((f149 (a1,(a3,(a0.1,())))).1,((20:Int),())))
  else none)
  else bif a0.1 then
  (bif (decide ((0:Int) ≤ (Go.IntKind.wrap .i64 (a2.1 - (1:Int))))) then
  (bif (!(f150 ((a0.1,a0.2),(a3,((Go.IntKind.wrap .i64 ((Go.IntKind.wrap .i64 ((if (a2.2.2.1 > (f148 ((a0.1,a0.2),())).1) then a2.2.2.1 else (f148 ((a0.1,a0.2),())).1) - a2.2.1)) + (1:Int))),())))).2.1) then
  (some ((Vx.orI Go.IntKind.u64 (Vx.shlI Go.IntKind.u64 (Go.IntKind.wrap .u64 (Go.IntKind.wrap .i64 ((Go.IntKind.wrap .i64 ((Go.IntKind.wrap .i64 ((if (a2.2.2.1 > (f148 ((a0.1,a0.2),())).1) then a2.2.2.1 else (f148 ((a0.1,a0.2),())).1) - a2.2.1)) + (1:Int))) - (Go.IntKind.wrap .i64 ((Go.IntKind.wrap .i64 (a2.2.2.1 - a2.2.1)) + (1:Int)))))) (Go.IntKind.wrap .i64 (a2.2.1 - (1:Int)))) (Vx.shlI Go.IntKind.u64 (1:Int) (Go.IntKind.wrap .i64 (a2.1 - (1:Int))))),((0:Int),())))
  else bif (p152 ((a0.1,a0.2),((a2.1,a2.2),(a3,(f148 ((a0.1,a0.2),())))))) then
  (bif (f152 ((a0.1,a0.2),((a2.1,a2.2),(a3,(f148 ((a0.1,a0.2),())))))).1 then
  (some ((Vx.orI Go.IntKind.u64 (Vx.shlI Go.IntKind.u64 (Go.IntKind.wrap .u64 (Go.IntKind.wrap .i64 ((Go.IntKind.wrap .i64 ((Go.IntKind.wrap .i64 ((if (a2.2.2.1 > (f148 ((a0.1,a0.2),())).1) then a2.2.2.1 else (f148 ((a0.1,a0.2),())).1) - a2.2.1)) + (1:Int))) - (Go.IntKind.wrap .i64 ((Go.IntKind.wrap .i64 (a2.2.2.1 - a2.2.1)) + (1:Int)))))) (Go.IntKind.wrap .i64 (a2.2.1 - (1:Int)))) (Vx.shlI Go.IntKind.u64 (1:Int) (Go.IntKind.wrap .i64 (a2.1 - (1:Int))))),((24:Int),())))
  else some ((Vx.orI Go.IntKind.u64 (Vx.shlI Go.IntKind.u64 (Go.IntKind.wrap .u64 (Go.IntKind.wrap .i64 ((Go.IntKind.wrap .i64 ((Go.IntKind.wrap .i64 ((if (a2.2.2.1 > (f148 ((a0.1,a0.2),())).1) then a2.2.2.1 else (f148 ((a0.1,a0.2),())).1) - a2.2.1)) + (1:Int))) - (Go.IntKind.wrap .i64 ((Go.IntKind.wrap .i64 (a2.2.2.1 - a2.2.1)) + (1:Int)))))) (Go.IntKind.wrap .i64 (a2.2.1 - (1:Int)))) (Vx.shlI Go.IntKind.u64 (1:Int) (Go.IntKind.wrap .i64 (a2.1 - (1:Int))))),((16:Int),())))
  else none)
  else none)
  else bif (!(f150 ((a0.1,a0.2),(a3,((Go.IntKind.wrap .i64 ((Go.IntKind.wrap .i64 ((if (a2.2.2.1 > (f148 ((a0.1,a0.2),())).1) then a2.2.2.1 else (f148 ((a0.1,a0.2),())).1) - a2.2.1)) + (1:Int))),())))).2.1) then
  (some ((Vx.shlI Go.IntKind.u64 (Go.IntKind.wrap .u64 (Go.IntKind.wrap .i64 ((Go.IntKind.wrap .i64 ((Go.IntKind.wrap .i64 ((if (a2.2.2.1 > (f148 ((a0.1,a0.2),())).1) then a2.2.2.1 else (f148 ((a0.1,a0.2),())).1) - a2.2.1)) + (1:Int))) - (Go.IntKind.wrap .i64 ((Go.IntKind.wrap .i64 (a2.2.2.1 - a2.2.1)) + (1:Int)))))) (Go.IntKind.wrap .i64 (a2.2.1 - (1:Int)))),((0:Int),())))
  else bif (p152 ((a0.1,a0.2),((a2.1,a2.2),(a3,(f148 ((a0.1,a0.2),())))))) then
  (bif (f152 ((a0.1,a0.2),((a2.1,a2.2),(a3,(f148 ((a0.1,a0.2),())))))).1 then
  (some ((Vx.shlI Go.IntKind.u64 (Go.IntKind.wrap .u64 (Go.IntKind.wrap .i64 ((Go.IntKind.wrap .i64 ((Go.IntKind.wrap .i64 ((if (a2.2.2.1 > (f148 ((a0.1,a0.2),())).1) then a2.2.2.1 else (f148 ((a0.1,a0.2),())).1) - a2.2.1)) + (1:Int))) - (Go.IntKind.wrap .i64 ((Go.IntKind.wrap .i64 (a2.2.2.1 - a2.2.1)) + (1:Int)))))) (Go.IntKind.wrap .i64 (a2.2.1 - (1:Int)))),((24:Int),())))
  else some ((Vx.shlI Go.IntKind.u64 (Go.IntKind.wrap .u64 (Go.IntKind.wrap .i64 ((Go.IntKind.wrap .i64 ((Go.IntKind.wrap .i64 ((if (a2.2.2.1 > (f148 ((a0.1,a0.2),())).1) then a2.2.2.1 else (f148 ((a0.1,a0.2),())).1) - a2.2.1)) + (1:Int))) - (Go.IntKind.wrap .i64 ((Go.IntKind.wrap .i64 (a2.2.2.1 - a2.2.1)) + (1:Int)))))) (Go.IntKind.wrap .i64 (a2.2.1 - (1:Int)))),((16:Int),())))
  else none)
  else none)
  else none)
  else none)
  else none
theorem r107 (p148:DenS I148 → Bool) (f148:DenS I148 → DenS O148) (p150:DenS I150 → Bool) (f150:DenS I150 → DenS O150) (p151:DenS I151 → Bool) (f151:DenS I151 → DenS O151) (p149:DenS I149 → Bool) (f149:DenS I149 → DenS O149) (p152:DenS I152 → Bool) (f152:DenS I152 → DenS O152) (a0:Den (.pair (.bool) (.pair (.slice (.int .u64)) (.pair (.int .i64) (.pair (.bool) (.unit)))))) (a1:Den (.int .i64)) (a2:Den (.pair (.int .i64) (.pair (.int .i64) (.pair (.int .i64) (.pair (.int .i64) (.unit)))))) (a3:Den (.int .i64)) :
    run { P:=Go.Proofs.Tryz.prog,sums:=[(100,⟨I148,O148,p148,f148⟩),(102,⟨I150,O150,p150,f150⟩),(60,⟨I151,O151,p151,f151⟩),(101,⟨I149,O149,p149,f149⟩),(103,⟨I152,O152,p152,f152⟩)],loops:=[],globs:=G1 } 9 62 Go.Proofs.Tryz.f62 I107 O107 (a0,a1,a2,a3,()) = t107 p148 f148 p150 f150 p151 f151 p149 f149 p152 f152 a0 a1 a2 a3:=by kernel_rfl
noncomputable def T107 (x:DenS I107):Option (DenS O107):=t107 S148.pre S148.F S150.pre S150.F S151.pre S151.F S149.pre S149.F S152.pre S152.F x.1 x.2.1 x.2.2.1 x.2.2.2.1
noncomputable def C107:Cfg:={ P:=Go.Proofs.Tryz.prog,sums:=[(100,S148),(102,S150),(60,S151),(101,S149),(103,S152)],loops:=[],globs:=G1 }
noncomputable def S107:Sum:=sumOf I107 O107 T107 (DenS.dflt O107)
theorem S107_sound:Sound Go.Proofs.Tryz.prog G1 62 S107 :=
  fn_sound C107 9 62 Go.Proofs.Tryz.f62 mixedOk (by kernel_rfl) (by kernel_rfl) (by kernel_rfl) ⟨S148_sound,⟨S150_sound,⟨S151_sound,⟨S149_sound,⟨S152_sound,trivial⟩⟩⟩⟩⟩ trivial I107 O107 T107 _ (fun x=>r107 S148.pre S148.F S150.pre S150.F S151.pre S151.F S149.pre S149.F S152.pre S152.F x.1 x.2.1 x.2.2.1 x.2.2.2.1)
abbrev I122:Sig:=[(false,.int .i64),(false,.int .i64),(false,.bool),(true,.pair (.int .u64) (.pair (.int .u64) (.unit))),(false,.int .i64),(false,.bool)]
abbrev O122:Sig:=[(false,.int .u64),(false,.int .i64),(false,.int .i64)]
noncomputable def t122 (p105:DenS I105 → Bool) (f105:DenS I105 → DenS O105) (p102:DenS I102 → Bool) (f102:DenS I102 → DenS O102) (p151:DenS I151 → Bool) (f151:DenS I151 → DenS O151) (p156:DenS I156 → Bool) (f156:DenS I156 → DenS O156) (p107:DenS I107 → Bool) (f107:DenS I107 → DenS O107) (a0:Den (.int .i64)) (a1:Den (.int .i64)) (a2:Den (.bool)) (a3:Den (.pair (.int .u64) (.pair (.int .u64) (.unit)))) (a4:Den (.int .i64)) (a5:Den (.bool)):Option (DenS O122) :=
  bif (p105 (a0,(a1,()))) then
  (bif ((f105 (a0,(a1,()))).2.1 != (0:Int)) then
  (some ((0:Int),((0:Int),(f105 (a0,(a1,()))).2)))
  else bif (p102 ((a3.2.1 :: (a3.1 :: [])),())) then
  (bif ((decide (a4 < (-(40000:Int)))) || (decide (a4 > (40000:Int)))) then
  (some ((0:Int),((0:Int),((30:Int),()))))
  else bif ((p151 (f102 ((a3.2.1 :: (a3.1 :: [])),()))) || (!a5)) then
  (bif (a5 && (decide ((f151 (f102 ((a3.2.1 :: (a3.1 :: [])),()))).1 < (Go.IntKind.wrap .i64 ((f105 (a0,(a1,()))).1.2.1 + (2:Int)))))) then
  (some ((0:Int),((0:Int),((7:Int),()))))
  else bif (((f102 ((a3.2.1 :: (a3.1 :: [])),())).1.length:Int) == (0:Int)) then
  (bif (p156 (a0,(a2,()))) then
  (some (f156 (a0,(a2,()))))
  else none)
  else bif (p107 ((a2,((f102 ((a3.2.1 :: (a3.1 :: [])),())).1,(a4,(a5,())))),(a0,((f105 (a0,(a1,()))).1,(a1,()))))) then
  (some ((f107 ((a2,((f102 ((a3.2.1 :: (a3.1 :: [])),())).1,(a4,(a5,())))),(a0,((f105 (a0,(a1,()))).1,(a1,()))))).1,((f107 ((a2,((f102 ((a3.2.1 :: (a3.1 :: [])),())).1,(a4,(a5,())))),(a0,((f105 (a0,(a1,()))).1,(a1,()))))).2.1,((0:Int),()))))
  else none)
  else none)
  else none)
  else none
theorem r122 (p105:DenS I105 → Bool) (f105:DenS I105 → DenS O105) (p102:DenS I102 → Bool) (f102:DenS I102 → DenS O102) (p151:DenS I151 → Bool) (f151:DenS I151 → DenS O151) (p156:DenS I156 → Bool) (f156:DenS I156 → DenS O156) (p107:DenS I107 → Bool) (f107:DenS I107 → DenS O107) (a0:Den (.int .i64)) (a1:Den (.int .i64)) (a2:Den (.bool)) (a3:Den (.pair (.int .u64) (.pair (.int .u64) (.unit)))) (a4:Den (.int .i64)) (a5:Den (.bool)) :
    run { P:=Go.Proofs.Tryz.prog,sums:=[(58,⟨I105,O105,p105,f105⟩),(59,⟨I102,O102,p102,f102⟩),(60,⟨I151,O151,p151,f151⟩),(61,⟨I156,O156,p156,f156⟩),(62,⟨I107,O107,p107,f107⟩)],loops:=[],globs:=G1 } 9 20 Go.Proofs.Tryz.f20 I122 O122 (a0,a1,a2,a3,a4,a5,()) = t122 p105 f105 p102 f102 p151 f151 p156 f156 p107 f107 a0 a1 a2 a3 a4 a5:=by kernel_rfl
noncomputable def T122 (x:DenS I122):Option (DenS O122):=t122 S105.pre S105.F S102.pre S102.F S151.pre S151.F S156.pre S156.F S107.pre S107.F x.1 x.2.1 x.2.2.1 x.2.2.2.1 x.2.2.2.2.1 x.2.2.2.2.2.1
noncomputable def C122:Cfg:={ P:=Go.Proofs.Tryz.prog,sums:=[(58,S105),(59,S102),(60,S151),(61,S156),(62,S107)],loops:=[],globs:=G1 }
noncomputable def S122:Sum:=sumOf I122 O122 T122 (DenS.dflt O122)
theorem S122_sound:Sound Go.Proofs.Tryz.prog G1 20 S122 :=
  fn_sound C122 9 20 Go.Proofs.Tryz.f20 mixedOk (by kernel_rfl) (by kernel_rfl) (by kernel_rfl) ⟨S105_sound,⟨S102_sound,⟨S151_sound,⟨S156_sound,⟨S107_sound,trivial⟩⟩⟩⟩⟩ trivial I122 O122 T122 _ (fun x=>r122 S105.pre S105.F S102.pre S102.F S151.pre S151.F S156.pre S156.F S107.pre S107.F x.1 x.2.1 x.2.2.1 x.2.2.2.1 x.2.2.2.2.1 x.2.2.2.2.2.1)
abbrev I318:Sig:=[(false,.int .i64),(false,.int .i64),(false,.int .u64)]
abbrev O318:Sig:=[(false,.int .u64),(false,.int .i64),(false,.int .i64)]
noncomputable def t318 (p311:DenS I311 → Bool) (f311:DenS I311 → DenS O311) (p65:DenS I65 → Bool) (f65:DenS I65 → DenS O65) (p312:DenS I312 → Bool) (f312:DenS I312 → DenS O312) (p313:DenS I313 → Bool) (f313:DenS I313 → DenS O313) (p314:DenS I314 → Bool) (f314:DenS I314 → DenS O314) (p119:DenS I119 → Bool) (f119:DenS I119 → DenS O119) (p317:DenS I317 → Bool) (f317:DenS I317 → DenS O317) (p122:DenS I122 → Bool) (f122:DenS I122 → DenS O122) (a0:Den (.int .i64)) (a1:Den (.int .i64)) (a2:Den (.int .u64)):Option (DenS O318) :=
  let e16_:=(a0,((f311 (a0,(a1,((a2 :: []),())))).1,(a2,())))
  let e15_:=(f313 e16_)
  let e14_:=((0:Int),(e15_.1,()))
  let e13_:=(e14_,())
  let e12_:=(Go.IntKind.wrap .i64 ((126:Int) - (f314 e13_).1))
  let e11_:=(Go.IntKind.wrap .i64 (e12_ + (1:Int)))
  let e8_:=(e14_,(e11_,()))
  let e7_:=(f317 (f119 e8_))
  let e1_:=(a0,(a1,(false,(((0:Int),(e7_.1,())),((Vx.quoI Go.IntKind.i64 (Go.IntKind.wrap .i64 (e15_.2.1 - e11_)) (2:Int)),((!e7_.2.1),()))))))
  let e10_:=(e14_,(e12_,()))
  let e9_:=(f317 (f119 e10_))
  let e2_:=(a0,(a1,(false,(((0:Int),(e9_.1,())),((Vx.quoI Go.IntKind.i64 (Go.IntKind.wrap .i64 (e15_.2.1 - e12_)) (2:Int)),((!e9_.2.1),()))))))
  let e3_:=e8_
  let e4_:=e10_
  let e5_:=e13_
  let e6_:=e16_
  bif (p311 (a0,(a1,((a2 :: []),())))) then
  (bif ((f311 (a0,(a1,((a2 :: []),())))).2.1 != (0:Int)) then
  (some ((0:Int),((0:Int),(f311 (a0,(a1,((a2 :: []),())))).2)))
  else bif (p65 (a0,(a2,()))) then
  (bif (p312 (a0,((f65 (a0,(a2,()))).1,()))) then
  (bif (f312 (a0,((f65 (a0,(a2,()))).1,()))).2.2.1 then
  (some ((f312 (a0,((f65 (a0,(a2,()))).1,()))).1,((f312 (a0,((f65 (a0,(a2,()))).1,()))).2.1,((0:Int),()))))
  else bif ((((f65 (a0,(a2,()))).1 == (9:Int)) || ((f65 (a0,(a2,()))).1 == (6:Int))) || ((f65 (a0,(a2,()))).1 == (5:Int))) then
  (some (a2,((0:Int),((0:Int),()))))
  else bif (p313 e6_) then
  (bif (p314 e5_) then
  (bif ((Int.tmod (Go.IntKind.wrap .i64 ((f313 e6_).2.1 - (Go.IntKind.wrap .i64 ((126:Int) - (f314 e5_).1)))) (2:Int)) != (0:Int)) then
  (bif (p119 e3_) then
  (bif (p317 (f119 e3_)) then
  (bif (p122 e1_) then
  (some (f122 e1_))
  else none)
  else none)
  else none)
  else bif (p119 e4_) then
  (bif (p317 (f119 e4_)) then
  (bif (p122 e2_) then
  (some (f122 e2_))
  else none)
  else none)
  else none)
  else none)
  else none)
  else none)
  else none)
  else none
theorem r318 (p311:DenS I311 → Bool) (f311:DenS I311 → DenS O311) (p65:DenS I65 → Bool) (f65:DenS I65 → DenS O65) (p312:DenS I312 → Bool) (f312:DenS I312 → DenS O312) (p313:DenS I313 → Bool) (f313:DenS I313 → DenS O313) (p314:DenS I314 → Bool) (f314:DenS I314 → DenS O314) (p119:DenS I119 → Bool) (f119:DenS I119 → DenS O119) (p317:DenS I317 → Bool) (f317:DenS I317 → DenS O317) (p122:DenS I122 → Bool) (f122:DenS I122 → DenS O122) (a0:Den (.int .i64)) (a1:Den (.int .i64)) (a2:Den (.int .u64)) :
    run { P:=Go.Proofs.Tryz.prog,sums:=[(13,⟨I311,O311,p311,f311⟩),(14,⟨I65,O65,p65,f65⟩),(15,⟨I312,O312,p312,f312⟩),(16,⟨I313,O313,p313,f313⟩),(17,⟨I314,O314,p314,f314⟩),(19,⟨I119,O119,p119,f119⟩),(18,⟨I317,O317,p317,f317⟩),(20,⟨I122,O122,p122,f122⟩)],loops:=[],globs:=G1 } 9 6 Go.Proofs.Tryz.f6 I318 O318 (a0,a1,a2,()) = t318 p311 f311 p65 f65 p312 f312 p313 f313 p314 f314 p119 f119 p317 f317 p122 f122 a0 a1 a2:=by kernel_rfl
noncomputable def T318 (x:DenS I318):Option (DenS O318):=t318 S311.pre S311.F S65.pre S65.F S312.pre S312.F S313.pre S313.F S314.pre S314.F S119.pre S119.F S317.pre S317.F S122.pre S122.F x.1 x.2.1 x.2.2.1
noncomputable def C318:Cfg:={ P:=Go.Proofs.Tryz.prog,sums:=[(13,S311),(14,S65),(15,S312),(16,S313),(17,S314),(19,S119),(18,S317),(20,S122)],loops:=[],globs:=G1 }
noncomputable def S318:Sum:=sumOf I318 O318 T318 (DenS.dflt O318)
theorem S318_sound:Sound Go.Proofs.Tryz.prog G1 6 S318 :=
  fn_sound C318 9 6 Go.Proofs.Tryz.f6 mixedOk (by kernel_rfl) (by kernel_rfl) (by kernel_rfl) ⟨S311_sound,⟨S65_sound,⟨S312_sound,⟨S313_sound,⟨S314_sound,⟨S119_sound,⟨S317_sound,⟨S122_sound,trivial⟩⟩⟩⟩⟩⟩⟩⟩ trivial I318 O318 T318 _ (fun x=>r318 S311.pre S311.F S65.pre S65.F S312.pre S312.F S313.pre S313.F S314.pre S314.F S119.pre S119.F S317.pre S317.F S122.pre S122.F x.1 x.2.1 x.2.2.1)
abbrev I131:Sig:=[(false,.int .i64)]
abbrev O131:Sig:=[(true,.pair (.int .i64) (.pair (.int .i64) (.pair (.int .i64) (.pair (.int .i64) (.unit))))),(false,.bool)]
noncomputable def t131 (a0:Den (.int .i64)):Option (DenS O131) :=
  bif (a0 == (0:Int)) then
  (some (((16:Int),((11:Int),((-(14:Int)),((15:Int),())))),(true,())))
  else bif (a0 == (1:Int)) then
  (some (((16:Int),((8:Int),((-(126:Int)),((127:Int),())))),(true,())))
  else bif (a0 == (2:Int)) then
  (some (((32:Int),((24:Int),((-(126:Int)),((127:Int),())))),(true,())))
  else bif (a0 == (3:Int)) then
  (some (((64:Int),((53:Int),((-(1022:Int)),((1023:Int),())))),(true,())))
  else some (((0:Int),((0:Int),((0:Int),((0:Int),())))),(false,()))
theorem r131 (a0:Den (.int .i64)) :
    run { P:=Go.Proofs.Tryz.prog,sums:=[],loops:=[],globs:=G1 } 9 63 Go.Proofs.Tryz.f63 I131 O131 (a0,()) = t131 a0:=by kernel_rfl
noncomputable def T131 (x:DenS I131):Option (DenS O131):=t131 x.1
noncomputable def C131:Cfg:={ P:=Go.Proofs.Tryz.prog,sums:=[],loops:=[],globs:=G1 }
noncomputable def S131:Sum:=sumOf I131 O131 T131 (DenS.dflt O131)
theorem S131_sound:Sound Go.Proofs.Tryz.prog G1 63 S131 :=
  fn_sound C131 9 63 Go.Proofs.Tryz.f63 mixedOk (by kernel_rfl) (by kernel_rfl) (by kernel_rfl) trivial trivial I131 O131 T131 _ (fun x=>r131 x.1)
abbrev I108:Sig:=[(false,.int .i64),(false,.int .u64)]
abbrev O108:Sig:=[(false,.int .i64)]
noncomputable def t108 (p131:DenS I131 → Bool) (f131:DenS I131 → DenS O131) (a0:Den (.int .i64)) (a1:Den (.int .u64)):Option (DenS O108) :=
  bif (p131 (a0,())) then
  (bif (!(f131 (a0,())).2.1) then
  (some ((2:Int),()))
  else bif ((decide ((f131 (a0,())).1.1 < (64:Int))) && ((Vx.shrI Go.IntKind.u64 a1 (Go.IntKind.wrap .u64 (f131 (a0,())).1.1)) != (0:Int))) then
  (some ((4:Int),()))
  else some ((0:Int),()))
  else none
theorem r108 (p131:DenS I131 → Bool) (f131:DenS I131 → DenS O131) (a0:Den (.int .i64)) (a1:Den (.int .u64)) :
    run { P:=Go.Proofs.Tryz.prog,sums:=[(63,⟨I131,O131,p131,f131⟩)],loops:=[],globs:=G1 } 9 64 Go.Proofs.Tryz.f64 I108 O108 (a0,a1,()) = t108 p131 f131 a0 a1:=by kernel_rfl
noncomputable def T108 (x:DenS I108):Option (DenS O108):=t108 S131.pre S131.F x.1 x.2.1
noncomputable def C108:Cfg:={ P:=Go.Proofs.Tryz.prog,sums:=[(63,S131)],loops:=[],globs:=G1 }
noncomputable def S108:Sum:=sumOf I108 O108 T108 (DenS.dflt O108)
theorem S108_sound:Sound Go.Proofs.Tryz.prog G1 64 S108 :=
  fn_sound C108 9 64 Go.Proofs.Tryz.f64 mixedOk (by kernel_rfl) (by kernel_rfl) (by kernel_rfl) ⟨S131_sound,trivial⟩ trivial I108 O108 T108 _ (fun x=>r108 S131.pre S131.F x.1 x.2.1)
abbrev I83:Sig:=[(false,.int .i64),(false,.int .i64),(false,.slice (.int .u64))]
abbrev O83:Sig:=[(false,.int .i64)]
abbrev P83_7:Pat:=⟨38,[(26,.one (.v .i64)),(25,.one (.sl (.int .u64))),(0,.one (.v .i64)),(27,.one (.v .i64))],[]⟩
abbrev A83_7:List (Nat × Shape):=[]
abbrev X83_7:List (Nat × Pat):=[(0,⟨38,[],[]⟩)]
abbrev Q83_7:Option Pat:=(some ⟨38,[(6,.one (.v .i64))],[]⟩)
noncomputable def h83_7 (p131:DenS I131 → Bool) (f131:DenS I131 → DenS O131) (p108:DenS I108 → Bool) (f108:DenS I108 → DenS O108) {R:Type} (L:Pat.D P83_7 → Option R) (e:OutT X83_7 Q83_7 → Option R) (x:Pat.D P83_7):Option R :=
  bif (decide (x.1.2.2.2.1 < x.1.1)) then
  (bif ((decide ((0:Int) ≤ x.1.2.2.2.1)) && (decide (x.1.2.2.2.1 < (x.1.2.1.length:Int)))) then
  (bif (p108 (x.1.2.2.1,((x.1.2.1.getD (Int.toNat x.1.2.2.2.1) (0:Int)),()))) then
  (bif ((f108 (x.1.2.2.1,((x.1.2.1.getD (Int.toNat x.1.2.2.2.1) (0:Int)),()))).1 != (0:Int)) then
  ((e (.inr ((f108 (x.1.2.2.1,((x.1.2.1.getD (Int.toNat x.1.2.2.2.1) (0:Int)),()))),()))))
  else (L ((x.1.1,(x.1.2.1,(x.1.2.2.1,((Go.IntKind.wrap .i64 (x.1.2.2.2.1 + (1:Int))),())))),())))
  else none)
  else none)
  else (e (.inl ((),())))
theorem s83_7 (p131:DenS I131 → Bool) (f131:DenS I131 → DenS O131) (p108:DenS I108 → Bool) (f108:DenS I108 → DenS O108) (w83_7:Pat.D P83_7 → Option (OutT X83_7 Q83_7)) (d:Nat) (R:Type) (L:Pat.D P83_7 → Option R) (e:OutT X83_7 Q83_7 → Option R) (x:Pat.D P83_7) :
    lStep { P:=Go.Proofs.Tryz.prog,sums:=[(63,⟨I131,O131,p131,f131⟩),(64,⟨I108,O108,p108,f108⟩)],loops:=[(21,7,LoopSpec.of P83_7 A83_7 X83_7 Q83_7 w83_7)],globs:=G1 } (d + 2) 21 (bodyOf Go.Proofs.Tryz.f21 7) P83_7 A83_7 X83_7 Q83_7 (R:=R) L e x = h83_7 p131 f131 p108 f108 L e x:=by kernel_rfl
theorem m83_7 (p131:DenS I131 → Bool) (f131:DenS I131 → DenS O131) (p108:DenS I108 → Bool) (f108:DenS I108 → DenS O108):Par fun L e x=>h83_7 p131 f131 p108 f108 L e x:=by
  intro A B rel L L' e e' h0 hL he x
  unfold h83_7
  repeat' (first | exact h0 | exact hL _ | exact he _ | apply rel_cond | (apply rel_obind h0; intro _) | (apply rel_obind2 <;> intro _))
noncomputable def t83 (p131:DenS I131 → Bool) (f131:DenS I131 → DenS O131) (p108:DenS I108 → Bool) (f108:DenS I108 → DenS O108) (w83_7:Pat.D P83_7 → Option (OutT X83_7 Q83_7)) (a0:Den (.int .i64)) (a1:Den (.int .i64)) (a2:Den (.slice (.int .u64))):Option (DenS O83) :=
  bif (p131 (a0,())) then
  (bif (!(f131 (a0,())).2.1) then
  (some ((2:Int),()))
  else bif ((decide (a1 < (0:Int))) || (decide (a1 > (5:Int)))) then
  (some ((3:Int),()))
  else Vx.obind (w83_7 (((a2.length:Int),(a2,(a0,((0:Int),())))),())) fun y3 =>
  Vx.obind2 y3 (fun y4 =>
  some ((0:Int),())) (fun z4 =>
  some z4.1))
  else none
theorem r83 (p131:DenS I131 → Bool) (f131:DenS I131 → DenS O131) (p108:DenS I108 → Bool) (f108:DenS I108 → DenS O108) (w83_7:Pat.D P83_7 → Option (OutT X83_7 Q83_7)) (a0:Den (.int .i64)) (a1:Den (.int .i64)) (a2:Den (.slice (.int .u64))) :
    run { P:=Go.Proofs.Tryz.prog,sums:=[(63,⟨I131,O131,p131,f131⟩),(64,⟨I108,O108,p108,f108⟩)],loops:=[(21,7,LoopSpec.of P83_7 A83_7 X83_7 Q83_7 w83_7)],globs:=G1 } 9 21 Go.Proofs.Tryz.f21 I83 O83 (a0,a1,a2,()) = t83 p131 f131 p108 f108 w83_7 a0 a1 a2:=by kernel_rfl
noncomputable def W83_7:P83_7.D → Option (OutT X83_7 Q83_7):=lfix fun L=>h83_7 S131.pre S131.F S108.pre S108.F L some
noncomputable def T83 (x:DenS I83):Option (DenS O83):=t83 S131.pre S131.F S108.pre S108.F W83_7 x.1 x.2.1 x.2.2.1
noncomputable def C83:Cfg:={ P:=Go.Proofs.Tryz.prog,sums:=[(63,S131),(64,S108)],loops:=[(21,7,LoopSpec.of P83_7 A83_7 X83_7 Q83_7 W83_7)],globs:=G1 }
noncomputable def S83:Sum:=sumOf I83 O83 T83 (DenS.dflt O83)
theorem S83_sound:Sound Go.Proofs.Tryz.prog G1 21 S83 :=
  fn_sound C83 9 21 Go.Proofs.Tryz.f21 mixedOk (by kernel_rfl) (by kernel_rfl) (by kernel_rfl) ⟨S131_sound,⟨S108_sound,trivial⟩⟩ ⟨rfl,fun d=>loopOk_of (fun L e x=>h83_7 S131.pre S131.F S108.pre S108.F L e x) (m83_7 S131.pre S131.F S108.pre S108.F) (fun R L e x=>s83_7 S131.pre S131.F S108.pre S108.F W83_7 d R L e x),trivial⟩ I83 O83 T83 _ (fun x=>r83 S131.pre S131.F S108.pre S108.F W83_7 x.1 x.2.1 x.2.2.1)
abbrev I113:Sig:=[(false,.int .i64),(false,.int .u64)]
abbrev O113:Sig:=[(false,.int .u64),(false,.int .u64),(false,.int .u64),(false,.int .u64)]
noncomputable def t113 (p131:DenS I131 → Bool) (f131:DenS I131 → DenS O131) (a0:Den (.int .i64)) (a1:Den (.int .u64)):Option (DenS O113) :=
  bif (p131 (a0,())) then
  (bif ((Vx.shlI Go.IntKind.u64 (1:Int) (Go.IntKind.wrap .u64 (Go.IntKind.wrap .i64 ((f131 (a0,())).1.2.1 - (1:Int))))) != (0:Int)) then
  (some ((Vx.andI Go.IntKind.u64 (Vx.shrI Go.IntKind.u64 a1 (Go.IntKind.wrap .u64 (Go.IntKind.wrap .i64 ((f131 (a0,())).1.1 - (1:Int))))) (1:Int)),((Vx.andI Go.IntKind.u64 (Vx.shrI Go.IntKind.u64 a1 (Go.IntKind.wrap .u64 (Go.IntKind.wrap .i64 ((f131 (a0,())).1.2.1 - (1:Int))))) (Go.IntKind.wrap .u64 (Go.IntKind.wrap .i64 ((Go.IntKind.wrap .i64 ((2:Int) * (f131 (a0,())).1.2.2.2.1)) + (1:Int))))),((Int.tmod a1 (Vx.shlI Go.IntKind.u64 (1:Int) (Go.IntKind.wrap .u64 (Go.IntKind.wrap .i64 ((f131 (a0,())).1.2.1 - (1:Int)))))),((Go.IntKind.wrap .u64 (Go.IntKind.wrap .i64 ((Go.IntKind.wrap .i64 ((2:Int) * (f131 (a0,())).1.2.2.2.1)) + (1:Int)))),())))))
  else none)
  else none
theorem r113 (p131:DenS I131 → Bool) (f131:DenS I131 → DenS O131) (a0:Den (.int .i64)) (a1:Den (.int .u64)) :
    run { P:=Go.Proofs.Tryz.prog,sums:=[(63,⟨I131,O131,p131,f131⟩)],loops:=[],globs:=G1 } 9 68 Go.Proofs.Tryz.f68 I113 O113 (a0,a1,()) = t113 p131 f131 a0 a1:=by kernel_rfl
noncomputable def T113 (x:DenS I113):Option (DenS O113):=t113 S131.pre S131.F x.1 x.2.1
noncomputable def C113:Cfg:={ P:=Go.Proofs.Tryz.prog,sums:=[(63,S131)],loops:=[],globs:=G1 }
noncomputable def S113:Sum:=sumOf I113 O113 T113 (DenS.dflt O113)
theorem S113_sound:Sound Go.Proofs.Tryz.prog G1 68 S113 :=
  fn_sound C113 9 68 Go.Proofs.Tryz.f68 mixedOk (by kernel_rfl) (by kernel_rfl) (by kernel_rfl) ⟨S131_sound,trivial⟩ trivial I113 O113 T113 _ (fun x=>r113 S131.pre S131.F x.1 x.2.1)
abbrev I109:Sig:=[(false,.int .i64),(false,.int .u64)]
abbrev O109:Sig:=[(false,.bool)]
noncomputable def t109 (p113:DenS I113 → Bool) (f113:DenS I113 → DenS O113) (a0:Den (.int .i64)) (a1:Den (.int .u64)):Option (DenS O109) :=
  bif (p113 (a0,(a1,()))) then
  (some ((((f113 (a0,(a1,()))).2.1 == (f113 (a0,(a1,()))).2.2.2.1) && ((f113 (a0,(a1,()))).2.2.1 != (0:Int))),()))
  else none
theorem r109 (p113:DenS I113 → Bool) (f113:DenS I113 → DenS O113) (a0:Den (.int .i64)) (a1:Den (.int .u64)) :
    run { P:=Go.Proofs.Tryz.prog,sums:=[(68,⟨I113,O113,p113,f113⟩)],loops:=[],globs:=G1 } 9 65 Go.Proofs.Tryz.f65 I109 O109 (a0,a1,()) = t109 p113 f113 a0 a1:=by kernel_rfl
noncomputable def T109 (x:DenS I109):Option (DenS O109):=t109 S113.pre S113.F x.1 x.2.1
noncomputable def C109:Cfg:={ P:=Go.Proofs.Tryz.prog,sums:=[(68,S113)],loops:=[],globs:=G1 }
noncomputable def S109:Sum:=sumOf I109 O109 T109 (DenS.dflt O109)
theorem S109_sound:Sound Go.Proofs.Tryz.prog G1 65 S109 :=
  fn_sound C109 9 65 Go.Proofs.Tryz.f65 mixedOk (by kernel_rfl) (by kernel_rfl) (by kernel_rfl) ⟨S113_sound,trivial⟩ trivial I109 O109 T109 _ (fun x=>r109 S113.pre S113.F x.1 x.2.1)
abbrev I110:Sig:=[(false,.int .i64),(false,.int .u64)]
abbrev O110:Sig:=[(false,.bool)]
noncomputable def t110 (p131:DenS I131 → Bool) (f131:DenS I131 → DenS O131) (p113:DenS I113 → Bool) (f113:DenS I113 → DenS O113) (p109:DenS I109 → Bool) (f109:DenS I109 → DenS O109) (a0:Den (.int .i64)) (a1:Den (.int .u64)):Option (DenS O110) :=
  bif (p131 (a0,())) then
  (bif (p113 (a0,(a1,()))) then
  (bif (p109 (a0,(a1,()))) then
  (some (((f109 (a0,(a1,()))).1 && ((Vx.shrI Go.IntKind.u64 (f113 (a0,(a1,()))).2.2.1 (Go.IntKind.wrap .u64 (Go.IntKind.wrap .i64 ((f131 (a0,())).1.2.1 - (2:Int))))) == (0:Int))),()))
  else none)
  else none)
  else none
theorem r110 (p131:DenS I131 → Bool) (f131:DenS I131 → DenS O131) (p113:DenS I113 → Bool) (f113:DenS I113 → DenS O113) (p109:DenS I109 → Bool) (f109:DenS I109 → DenS O109) (a0:Den (.int .i64)) (a1:Den (.int .u64)) :
    run { P:=Go.Proofs.Tryz.prog,sums:=[(63,⟨I131,O131,p131,f131⟩),(68,⟨I113,O113,p113,f113⟩),(65,⟨I109,O109,p109,f109⟩)],loops:=[],globs:=G1 } 9 66 Go.Proofs.Tryz.f66 I110 O110 (a0,a1,()) = t110 p131 f131 p113 f113 p109 f109 a0 a1:=by kernel_rfl
noncomputable def T110 (x:DenS I110):Option (DenS O110):=t110 S131.pre S131.F S113.pre S113.F S109.pre S109.F x.1 x.2.1
noncomputable def C110:Cfg:={ P:=Go.Proofs.Tryz.prog,sums:=[(63,S131),(68,S113),(65,S109)],loops:=[],globs:=G1 }
noncomputable def S110:Sum:=sumOf I110 O110 T110 (DenS.dflt O110)
theorem S110_sound:Sound Go.Proofs.Tryz.prog G1 66 S110 :=
  fn_sound C110 9 66 Go.Proofs.Tryz.f66 mixedOk (by kernel_rfl) (by kernel_rfl) (by kernel_rfl) ⟨S131_sound,⟨S113_sound,⟨S109_sound,trivial⟩⟩⟩ trivial I110 O110 T110 _ (fun x=>r110 S131.pre S131.F S113.pre S113.F S109.pre S109.F x.1 x.2.1)
abbrev I56:Sig:=[(false,.int .i64),(false,.slice (.int .u64))]
abbrev O56:Sig:=[(false,.bool),(false,.int .i64)]
abbrev P56_3:Pat:=⟨28,[(11,.one (.v .i64)),(10,.one (.sl (.int .u64))),(0,.one (.v .i64)),(12,.one (.v .i64)),(6,.one (.bool)),(7,.one (.v .i64))],[]⟩
abbrev A56_3:List (Nat × Shape):=[]
abbrev X56_3:List (Nat × Pat):=[(0,⟨28,[(6,.one (.bool)),(7,.one (.v .i64))],[]⟩)]
abbrev Q56_3:Option Pat:=none
noncomputable def h56_3 (p109:DenS I109 → Bool) (f109:DenS I109 → DenS O109) (p110:DenS I110 → Bool) (f110:DenS I110 → DenS O110) {R:Type} (L:Pat.D P56_3 → Option R) (e:OutT X56_3 Q56_3 → Option R) (x:Pat.D P56_3):Option R :=
  bif (decide (x.1.2.2.2.1 < x.1.1)) then
  (bif ((decide ((0:Int) ≤ x.1.2.2.2.1)) && (decide (x.1.2.2.2.1 < (x.1.2.1.length:Int)))) then
  (bif ((p109 (x.1.2.2.1,((x.1.2.1.getD (Int.toNat x.1.2.2.2.1) (0:Int)),()))) || (!(bif x.1.2.2.2.2.1 then false else true))) then
  (bif (p110 (x.1.2.2.1,((x.1.2.1.getD (Int.toNat x.1.2.2.2.1) (0:Int)),()))) then
  (bif (f110 (x.1.2.2.1,((x.1.2.1.getD (Int.toNat x.1.2.2.2.1) (0:Int)),()))).1 then
  ((L ((x.1.1,(x.1.2.1,(x.1.2.2.1,((Go.IntKind.wrap .i64 (x.1.2.2.2.1 + (1:Int))),((x.1.2.2.2.2.1 || (f109 (x.1.2.2.1,((x.1.2.1.getD (Int.toNat x.1.2.2.2.1) (0:Int)),()))).1),((1:Int),())))))),())))
  else (L ((x.1.1,(x.1.2.1,(x.1.2.2.1,((Go.IntKind.wrap .i64 (x.1.2.2.2.1 + (1:Int))),((x.1.2.2.2.2.1 || (f109 (x.1.2.2.1,((x.1.2.1.getD (Int.toNat x.1.2.2.2.1) (0:Int)),()))).1),x.1.2.2.2.2.2))))),())))
  else none)
  else none)
  else none)
  else (e (.inl (x.1.2.2.2.2,())))
theorem s56_3 (p109:DenS I109 → Bool) (f109:DenS I109 → DenS O109) (p110:DenS I110 → Bool) (f110:DenS I110 → DenS O110) (w56_3:Pat.D P56_3 → Option (OutT X56_3 Q56_3)) (d:Nat) (R:Type) (L:Pat.D P56_3 → Option R) (e:OutT X56_3 Q56_3 → Option R) (x:Pat.D P56_3) :
    lStep { P:=Go.Proofs.Tryz.prog,sums:=[(65,⟨I109,O109,p109,f109⟩),(66,⟨I110,O110,p110,f110⟩)],loops:=[(22,3,LoopSpec.of P56_3 A56_3 X56_3 Q56_3 w56_3)],globs:=G1 } (d + 2) 22 (bodyOf Go.Proofs.Tryz.f22 3) P56_3 A56_3 X56_3 Q56_3 (R:=R) L e x = h56_3 p109 f109 p110 f110 L e x:=by kernel_rfl
theorem m56_3 (p109:DenS I109 → Bool) (f109:DenS I109 → DenS O109) (p110:DenS I110 → Bool) (f110:DenS I110 → DenS O110):Par fun L e x=>h56_3 p109 f109 p110 f110 L e x:=by
  intro A B rel L L' e e' h0 hL he x
  unfold h56_3
  repeat' (first | exact h0 | exact hL _ | exact he _ | apply rel_cond | (apply rel_obind h0; intro _) | (apply rel_obind2 <;> intro _))
noncomputable def t56 (p109:DenS I109 → Bool) (f109:DenS I109 → DenS O109) (p110:DenS I110 → Bool) (f110:DenS I110 → DenS O110) (w56_3:Pat.D P56_3 → Option (OutT X56_3 Q56_3)) (a0:Den (.int .i64)) (a1:Den (.slice (.int .u64))):Option (DenS O56) :=
  Vx.obind (w56_3 (((a1.length:Int),(a1,(a0,((0:Int),(false,((0:Int),())))))),())) fun y0 =>
  Vx.obind2 y0 (fun y1 =>
  some y1.1) (fun z1 =>
  none)
theorem r56 (p109:DenS I109 → Bool) (f109:DenS I109 → DenS O109) (p110:DenS I110 → Bool) (f110:DenS I110 → DenS O110) (w56_3:Pat.D P56_3 → Option (OutT X56_3 Q56_3)) (a0:Den (.int .i64)) (a1:Den (.slice (.int .u64))) :
    run { P:=Go.Proofs.Tryz.prog,sums:=[(65,⟨I109,O109,p109,f109⟩),(66,⟨I110,O110,p110,f110⟩)],loops:=[(22,3,LoopSpec.of P56_3 A56_3 X56_3 Q56_3 w56_3)],globs:=G1 } 9 22 Go.Proofs.Tryz.f22 I56 O56 (a0,a1,()) = t56 p109 f109 p110 f110 w56_3 a0 a1:=by kernel_rfl
noncomputable def W56_3:P56_3.D → Option (OutT X56_3 Q56_3):=lfix fun L=>h56_3 S109.pre S109.F S110.pre S110.F L some
noncomputable def T56 (x:DenS I56):Option (DenS O56):=t56 S109.pre S109.F S110.pre S110.F W56_3 x.1 x.2.1
noncomputable def C56:Cfg:={ P:=Go.Proofs.Tryz.prog,sums:=[(65,S109),(66,S110)],loops:=[(22,3,LoopSpec.of P56_3 A56_3 X56_3 Q56_3 W56_3)],globs:=G1 }
noncomputable def S56:Sum:=sumOf I56 O56 T56 (DenS.dflt O56)
theorem S56_sound:Sound Go.Proofs.Tryz.prog G1 22 S56 :=
  fn_sound C56 9 22 Go.Proofs.Tryz.f22 mixedOk (by kernel_rfl) (by kernel_rfl) (by kernel_rfl) ⟨S109_sound,⟨S110_sound,trivial⟩⟩ ⟨rfl,fun d=>loopOk_of (fun L e x=>h56_3 S109.pre S109.F S110.pre S110.F L e x) (m56_3 S109.pre S109.F S110.pre S110.F) (fun R L e x=>s56_3 S109.pre S109.F S110.pre S110.F W56_3 d R L e x),trivial⟩ I56 O56 T56 _ (fun x=>r56 S109.pre S109.F S110.pre S110.F W56_3 x.1 x.2.1)
abbrev I59:Sig:=[(false,.int .i64),(false,.int .u64)]
abbrev O59:Sig:=[(false,.int .u64)]
noncomputable def t59 (p113:DenS I113 → Bool) (f113:DenS I113 → DenS O113) (a0:Den (.int .i64)) (a1:Den (.int .u64)):Option (DenS O59) :=
  bif (p113 (a0,(a1,()))) then
  (some ((f113 (a0,(a1,()))).1,()))
  else none
theorem r59 (p113:DenS I113 → Bool) (f113:DenS I113 → DenS O113) (a0:Den (.int .i64)) (a1:Den (.int .u64)) :
    run { P:=Go.Proofs.Tryz.prog,sums:=[(68,⟨I113,O113,p113,f113⟩)],loops:=[],globs:=G1 } 9 45 Go.Proofs.Tryz.f45 I59 O59 (a0,a1,()) = t59 p113 f113 a0 a1:=by kernel_rfl
noncomputable def T59 (x:DenS I59):Option (DenS O59):=t59 S113.pre S113.F x.1 x.2.1
noncomputable def C59:Cfg:={ P:=Go.Proofs.Tryz.prog,sums:=[(68,S113)],loops:=[],globs:=G1 }
noncomputable def S59:Sum:=sumOf I59 O59 T59 (DenS.dflt O59)
theorem S59_sound:Sound Go.Proofs.Tryz.prog G1 45 S59 :=
  fn_sound C59 9 45 Go.Proofs.Tryz.f45 mixedOk (by kernel_rfl) (by kernel_rfl) (by kernel_rfl) ⟨S113_sound,trivial⟩ trivial I59 O59 T59 _ (fun x=>r59 S113.pre S113.F x.1 x.2.1)
abbrev I86:Sig:=[(false,.int .i64),(false,.int .u64)]
abbrev O86:Sig:=[(false,.bool)]
noncomputable def t86 (p113:DenS I113 → Bool) (f113:DenS I113 → DenS O113) (a0:Den (.int .i64)) (a1:Den (.int .u64)):Option (DenS O86) :=
  bif (p113 (a0,(a1,()))) then
  (some ((((f113 (a0,(a1,()))).2.1 == (0:Int)) && ((f113 (a0,(a1,()))).2.2.1 == (0:Int))),()))
  else none
theorem r86 (p113:DenS I113 → Bool) (f113:DenS I113 → DenS O113) (a0:Den (.int .i64)) (a1:Den (.int .u64)) :
    run { P:=Go.Proofs.Tryz.prog,sums:=[(68,⟨I113,O113,p113,f113⟩)],loops:=[],globs:=G1 } 9 25 Go.Proofs.Tryz.f25 I86 O86 (a0,a1,()) = t86 p113 f113 a0 a1:=by kernel_rfl
noncomputable def T86 (x:DenS I86):Option (DenS O86):=t86 S113.pre S113.F x.1 x.2.1
noncomputable def C86:Cfg:={ P:=Go.Proofs.Tryz.prog,sums:=[(68,S113)],loops:=[],globs:=G1 }
noncomputable def S86:Sum:=sumOf I86 O86 T86 (DenS.dflt O86)
theorem S86_sound:Sound Go.Proofs.Tryz.prog G1 25 S86 :=
  fn_sound C86 9 25 Go.Proofs.Tryz.f25 mixedOk (by kernel_rfl) (by kernel_rfl) (by kernel_rfl) ⟨S113_sound,trivial⟩ trivial I86 O86 T86 _ (fun x=>r86 S113.pre S113.F x.1 x.2.1)
abbrev I319:Sig:=[(false,.int .i64),(false,.int .u64)]
abbrev O319:Sig:=[(false,.bool)]
noncomputable def t319 (p59:DenS I59 → Bool) (f59:DenS I59 → DenS O59) (p86:DenS I86 → Bool) (f86:DenS I86 → DenS O86) (a0:Den (.int .i64)) (a1:Den (.int .u64)):Option (DenS O319) :=
  bif (p59 (a0,(a1,()))) then
  (bif ((p86 (a0,(a1,()))) || (!(decide ((f59 (a0,(a1,()))).1 = (1:Int))))) then
  (some ((((f59 (a0,(a1,()))).1 == (1:Int)) && (!(f86 (a0,(a1,()))).1)),()))
  else none)
  else none
theorem r319 (p59:DenS I59 → Bool) (f59:DenS I59 → DenS O59) (p86:DenS I86 → Bool) (f86:DenS I86 → DenS O86) (a0:Den (.int .i64)) (a1:Den (.int .u64)) :
    run { P:=Go.Proofs.Tryz.prog,sums:=[(45,⟨I59,O59,p59,f59⟩),(25,⟨I86,O86,p86,f86⟩)],loops:=[],globs:=G1 } 9 24 Go.Proofs.Tryz.f24 I319 O319 (a0,a1,()) = t319 p59 f59 p86 f86 a0 a1:=by kernel_rfl
noncomputable def T319 (x:DenS I319):Option (DenS O319):=t319 S59.pre S59.F S86.pre S86.F x.1 x.2.1
noncomputable def C319:Cfg:={ P:=Go.Proofs.Tryz.prog,sums:=[(45,S59),(25,S86)],loops:=[],globs:=G1 }
noncomputable def S319:Sum:=sumOf I319 O319 T319 (DenS.dflt O319)
theorem S319_sound:Sound Go.Proofs.Tryz.prog G1 24 S319 :=
  fn_sound C319 9 24 Go.Proofs.Tryz.f24 mixedOk (by kernel_rfl) (by kernel_rfl) (by kernel_rfl) ⟨S59_sound,⟨S86_sound,trivial⟩⟩ trivial I319 O319 T319 _ (fun x=>r319 S59.pre S59.F S86.pre S86.F x.1 x.2.1)
abbrev I132:Sig:=[(false,.int .i64),(false,.int .u64),(false,.int .u64),(false,.int .u64)]
abbrev O132:Sig:=[(false,.int .u64)]
noncomputable def t132 (p131:DenS I131 → Bool) (f131:DenS I131 → DenS O131) (a0:Den (.int .i64)) (a1:Den (.int .u64)) (a2:Den (.int .u64)) (a3:Den (.int .u64)):Option (DenS O132) :=
  bif (p131 (a0,())) then
  (some ((Vx.orI Go.IntKind.u64 (Vx.orI Go.IntKind.u64 (Vx.shlI Go.IntKind.u64 a1 (Go.IntKind.wrap .u64 (Go.IntKind.wrap .i64 ((f131 (a0,())).1.1 - (1:Int))))) (Vx.shlI Go.IntKind.u64 a2 (Go.IntKind.wrap .u64 (Go.IntKind.wrap .i64 ((f131 (a0,())).1.2.1 - (1:Int)))))) a3),()))
  else none
theorem r132 (p131:DenS I131 → Bool) (f131:DenS I131 → DenS O131) (a0:Den (.int .i64)) (a1:Den (.int .u64)) (a2:Den (.int .u64)) (a3:Den (.int .u64)) :
    run { P:=Go.Proofs.Tryz.prog,sums:=[(63,⟨I131,O131,p131,f131⟩)],loops:=[],globs:=G1 } 9 67 Go.Proofs.Tryz.f67 I132 O132 (a0,a1,a2,a3,()) = t132 p131 f131 a0 a1 a2 a3:=by kernel_rfl
noncomputable def T132 (x:DenS I132):Option (DenS O132):=t132 S131.pre S131.F x.1 x.2.1 x.2.2.1 x.2.2.2.1
noncomputable def C132:Cfg:={ P:=Go.Proofs.Tryz.prog,sums:=[(63,S131)],loops:=[],globs:=G1 }
noncomputable def S132:Sum:=sumOf I132 O132 T132 (DenS.dflt O132)
theorem S132_sound:Sound Go.Proofs.Tryz.prog G1 67 S132 :=
  fn_sound C132 9 67 Go.Proofs.Tryz.f67 mixedOk (by kernel_rfl) (by kernel_rfl) (by kernel_rfl) ⟨S131_sound,trivial⟩ trivial I132 O132 T132 _ (fun x=>r132 S131.pre S131.F x.1 x.2.1 x.2.2.1 x.2.2.2.1)
abbrev I84:Sig:=[(false,.int .i64)]
abbrev O84:Sig:=[(false,.int .u64)]
noncomputable def t84 (p131:DenS I131 → Bool) (f131:DenS I131 → DenS O131) (p132:DenS I132 → Bool) (f132:DenS I132 → DenS O132) (a0:Den (.int .i64)):Option (DenS O84) :=
  bif (p131 (a0,())) then
  (bif (p132 (a0,((0:Int),((Go.IntKind.wrap .u64 (Go.IntKind.wrap .i64 ((Go.IntKind.wrap .i64 ((2:Int) * (f131 (a0,())).1.2.2.2.1)) + (1:Int)))),((Vx.shlI Go.IntKind.u64 (1:Int) (Go.IntKind.wrap .u64 (Go.IntKind.wrap .i64 ((f131 (a0,())).1.2.1 - (2:Int))))),()))))) then
  (some (f132 (a0,((0:Int),((Go.IntKind.wrap .u64 (Go.IntKind.wrap .i64 ((Go.IntKind.wrap .i64 ((2:Int) * (f131 (a0,())).1.2.2.2.1)) + (1:Int)))),((Vx.shlI Go.IntKind.u64 (1:Int) (Go.IntKind.wrap .u64 (Go.IntKind.wrap .i64 ((f131 (a0,())).1.2.1 - (2:Int))))),()))))))
  else none)
  else none
theorem r84 (p131:DenS I131 → Bool) (f131:DenS I131 → DenS O131) (p132:DenS I132 → Bool) (f132:DenS I132 → DenS O132) (a0:Den (.int .i64)) :
    run { P:=Go.Proofs.Tryz.prog,sums:=[(63,⟨I131,O131,p131,f131⟩),(67,⟨I132,O132,p132,f132⟩)],loops:=[],globs:=G1 } 9 23 Go.Proofs.Tryz.f23 I84 O84 (a0,()) = t84 p131 f131 p132 f132 a0:=by kernel_rfl
noncomputable def T84 (x:DenS I84):Option (DenS O84):=t84 S131.pre S131.F S132.pre S132.F x.1
noncomputable def C84:Cfg:={ P:=Go.Proofs.Tryz.prog,sums:=[(63,S131),(67,S132)],loops:=[],globs:=G1 }
noncomputable def S84:Sum:=sumOf I84 O84 T84 (DenS.dflt O84)
theorem S84_sound:Sound Go.Proofs.Tryz.prog G1 23 S84 :=
  fn_sound C84 9 23 Go.Proofs.Tryz.f23 mixedOk (by kernel_rfl) (by kernel_rfl) (by kernel_rfl) ⟨S131_sound,⟨S132_sound,trivial⟩⟩ trivial I84 O84 T84 _ (fun x=>r84 S131.pre S131.F S132.pre S132.F x.1)
abbrev I85:Sig:=[(false,.int .i64),(false,.int .u64)]
abbrev O85:Sig:=[(false,.bool)]
noncomputable def t85 (p113:DenS I113 → Bool) (f113:DenS I113 → DenS O113) (a0:Den (.int .i64)) (a1:Den (.int .u64)):Option (DenS O85) :=
  bif (p113 (a0,(a1,()))) then
  (some ((((f113 (a0,(a1,()))).2.1 == (f113 (a0,(a1,()))).2.2.2.1) && ((f113 (a0,(a1,()))).2.2.1 == (0:Int))),()))
  else none
theorem r85 (p113:DenS I113 → Bool) (f113:DenS I113 → DenS O113) (a0:Den (.int .i64)) (a1:Den (.int .u64)) :
    run { P:=Go.Proofs.Tryz.prog,sums:=[(68,⟨I113,O113,p113,f113⟩)],loops:=[],globs:=G1 } 9 26 Go.Proofs.Tryz.f26 I85 O85 (a0,a1,()) = t85 p113 f113 a0 a1:=by kernel_rfl
noncomputable def T85 (x:DenS I85):Option (DenS O85):=t85 S113.pre S113.F x.1 x.2.1
noncomputable def C85:Cfg:={ P:=Go.Proofs.Tryz.prog,sums:=[(68,S113)],loops:=[],globs:=G1 }
noncomputable def S85:Sum:=sumOf I85 O85 T85 (DenS.dflt O85)
theorem S85_sound:Sound Go.Proofs.Tryz.prog G1 26 S85 :=
  fn_sound C85 9 26 Go.Proofs.Tryz.f26 mixedOk (by kernel_rfl) (by kernel_rfl) (by kernel_rfl) ⟨S113_sound,trivial⟩ trivial I85 O85 T85 _ (fun x=>r85 S113.pre S113.F x.1 x.2.1)
abbrev I87:Sig:=[(false,.int .i64),(false,.int .u64)]
abbrev O87:Sig:=[(false,.int .u64),(false,.int .i64)]
noncomputable def t87 (p131:DenS I131 → Bool) (f131:DenS I131 → DenS O131) (p113:DenS I113 → Bool) (f113:DenS I113 → DenS O113) (a0:Den (.int .i64)) (a1:Den (.int .u64)):Option (DenS O87) :=
  bif (p131 (a0,())) then
  (bif (p113 (a0,(a1,()))) then
  (bif ((f113 (a0,(a1,()))).2.1 == (0:Int)) then
  (some ((f113 (a0,(a1,()))).2.2.1,((Go.IntKind.wrap .i64 ((Go.IntKind.wrap .i64 ((f131 (a0,())).1.2.2.1 - (f131 (a0,())).1.2.1)) + (1:Int))),())))
  else some ((Go.IntKind.wrap .u64 ((Vx.shlI Go.IntKind.u64 (1:Int) (Go.IntKind.wrap .u64 (Go.IntKind.wrap .i64 ((f131 (a0,())).1.2.1 - (1:Int))))) + (f113 (a0,(a1,()))).2.2.1)),((Go.IntKind.wrap .i64 ((Go.IntKind.wrap .i64 ((Go.IntKind.wrap .i64 ((Go.IntKind.wrap .i64 ((Go.IntKind.wrap .i64 (f113 (a0,(a1,()))).2.1) - (1:Int))) + (f131 (a0,())).1.2.2.1)) - (f131 (a0,())).1.2.1)) + (1:Int))),())))
  else none)
  else none
theorem r87 (p131:DenS I131 → Bool) (f131:DenS I131 → DenS O131) (p113:DenS I113 → Bool) (f113:DenS I113 → DenS O113) (a0:Den (.int .i64)) (a1:Den (.int .u64)) :
    run { P:=Go.Proofs.Tryz.prog,sums:=[(63,⟨I131,O131,p131,f131⟩),(68,⟨I113,O113,p113,f113⟩)],loops:=[],globs:=G1 } 9 27 Go.Proofs.Tryz.f27 I87 O87 (a0,a1,()) = t87 p131 f131 p113 f113 a0 a1:=by kernel_rfl
noncomputable def T87 (x:DenS I87):Option (DenS O87):=t87 S131.pre S131.F S113.pre S113.F x.1 x.2.1
noncomputable def C87:Cfg:={ P:=Go.Proofs.Tryz.prog,sums:=[(63,S131),(68,S113)],loops:=[],globs:=G1 }
noncomputable def S87:Sum:=sumOf I87 O87 T87 (DenS.dflt O87)
theorem S87_sound:Sound Go.Proofs.Tryz.prog G1 27 S87 :=
  fn_sound C87 9 27 Go.Proofs.Tryz.f27 mixedOk (by kernel_rfl) (by kernel_rfl) (by kernel_rfl) ⟨S131_sound,⟨S113_sound,trivial⟩⟩ trivial I87 O87 T87 _ (fun x=>r87 S131.pre S131.F S113.pre S113.F x.1 x.2.1)
abbrev I163:Sig:=[(false,.slice (.int .u64))]
abbrev O163:Sig:=[(false,.int .i64)]
abbrev P163_2:Pat:=⟨19,[(0,.one (.sl (.int .u64))),(3,.one (.v .i64))],[]⟩
abbrev A163_2:List (Nat × Shape):=[]
abbrev X163_2:List (Nat × Pat):=[(0,⟨19,[(3,.one (.v .i64))],[]⟩)]
abbrev Q163_2:Option Pat:=none
noncomputable def h163_2 {R:Type} (L:Pat.D P163_2 → Option R) (e:OutT X163_2 Q163_2 → Option R) (x:Pat.D P163_2):Option R :=
  bif (((decide ((0:Int) ≤ (Go.IntKind.wrap .i64 (x.1.2.1 - (1:Int))))) && (decide ((Go.IntKind.wrap .i64 (x.1.2.1 - (1:Int))) < (x.1.1.length:Int)))) || (!(decide (x.1.2.1 > (0:Int))))) then
  (bif ((decide (x.1.2.1 > (0:Int))) && ((x.1.1.getD (Int.toNat (Go.IntKind.wrap .i64 (x.1.2.1 - (1:Int)))) (0:Int)) == (0:Int))) then
  ((L ((x.1.1,((Go.IntKind.wrap .i64 (x.1.2.1 - (1:Int))),())),())))
  else (e (.inl (x.1.2,()))))
  else none
theorem s163_2 (w163_2:Pat.D P163_2 → Option (OutT X163_2 Q163_2)) (d:Nat) (R:Type) (L:Pat.D P163_2 → Option R) (e:OutT X163_2 Q163_2 → Option R) (x:Pat.D P163_2) :
    lStep { P:=Go.Proofs.Tryz.prog,sums:=[],loops:=[(92,2,LoopSpec.of P163_2 A163_2 X163_2 Q163_2 w163_2)],globs:=G1 } (d + 2) 92 (bodyOf Go.Proofs.Tryz.f92 2) P163_2 A163_2 X163_2 Q163_2 (R:=R) L e x = h163_2 L e x:=by kernel_rfl
theorem m163_2:Par fun L e x=>h163_2 L e x:=by
  intro A B rel L L' e e' h0 hL he x
  unfold h163_2
  repeat' (first | exact h0 | exact hL _ | exact he _ | apply rel_cond | (apply rel_obind h0; intro _) | (apply rel_obind2 <;> intro _))
noncomputable def t163 (w163_2:Pat.D P163_2 → Option (OutT X163_2 Q163_2)) (a0:Den (.slice (.int .u64))):Option (DenS O163) :=
  Vx.obind (w163_2 ((a0,((a0.length:Int),())),())) fun y0 =>
  Vx.obind2 y0 (fun y1 =>
  some y1.1) (fun z1 =>
  none)
theorem r163 (w163_2:Pat.D P163_2 → Option (OutT X163_2 Q163_2)) (a0:Den (.slice (.int .u64))) :
    run { P:=Go.Proofs.Tryz.prog,sums:=[],loops:=[(92,2,LoopSpec.of P163_2 A163_2 X163_2 Q163_2 w163_2)],globs:=G1 } 9 92 Go.Proofs.Tryz.f92 I163 O163 (a0,()) = t163 w163_2 a0:=by kernel_rfl
noncomputable def W163_2:P163_2.D → Option (OutT X163_2 Q163_2):=lfix fun L=>h163_2 L some
noncomputable def T163 (x:DenS I163):Option (DenS O163):=t163 W163_2 x.1
noncomputable def C163:Cfg:={ P:=Go.Proofs.Tryz.prog,sums:=[],loops:=[(92,2,LoopSpec.of P163_2 A163_2 X163_2 Q163_2 W163_2)],globs:=G1 }
noncomputable def S163:Sum:=sumOf I163 O163 T163 (DenS.dflt O163)
theorem S163_sound:Sound Go.Proofs.Tryz.prog G1 92 S163 :=
  fn_sound C163 9 92 Go.Proofs.Tryz.f92 mixedOk (by kernel_rfl) (by kernel_rfl) (by kernel_rfl) trivial ⟨rfl,fun d=>loopOk_of (fun L e x=>h163_2 L e x) (m163_2) (fun R L e x=>s163_2 W163_2 d R L e x),trivial⟩ I163 O163 T163 _ (fun x=>r163 W163_2 x.1)
abbrev I138:Sig:=[(false,.slice (.int .u64))]
abbrev O138:Sig:=[(false,.int .i64)]
abbrev P138_6:Pat:=⟨26,[(5,.one (.v .u64)),(3,.one (.v .i64)),(4,.one (.v .i64))],[]⟩
abbrev A138_6:List (Nat × Shape):=[]
abbrev X138_6:List (Nat × Pat):=[(0,⟨26,[(3,.one (.v .i64)),(4,.one (.v .i64))],[]⟩)]
abbrev Q138_6:Option Pat:=none
noncomputable def h138_6 (p163:DenS I163 → Bool) (f163:DenS I163 → DenS O163) {R:Type} (L:Pat.D P138_6 → Option R) (e:OutT X138_6 Q138_6 → Option R) (x:Pat.D P138_6):Option R :=
  bif (decide (x.1.1 > (0:Int))) then
  ((L (((Vx.shrI Go.IntKind.u64 x.1.1 (1:Int)),(x.1.2.1,((Go.IntKind.wrap .i64 (x.1.2.2.1 + (1:Int))),()))),())))
  else (e (.inl (x.1.2,())))
theorem s138_6 (p163:DenS I163 → Bool) (f163:DenS I163 → DenS O163) (w138_6:Pat.D P138_6 → Option (OutT X138_6 Q138_6)) (d:Nat) (R:Type) (L:Pat.D P138_6 → Option R) (e:OutT X138_6 Q138_6 → Option R) (x:Pat.D P138_6) :
    lStep { P:=Go.Proofs.Tryz.prog,sums:=[(92,⟨I163,O163,p163,f163⟩)],loops:=[(74,6,LoopSpec.of P138_6 A138_6 X138_6 Q138_6 w138_6)],globs:=G1 } (d + 2) 74 (bodyOf Go.Proofs.Tryz.f74 6) P138_6 A138_6 X138_6 Q138_6 (R:=R) L e x = h138_6 p163 f163 L e x:=by kernel_rfl
theorem m138_6 (p163:DenS I163 → Bool) (f163:DenS I163 → DenS O163):Par fun L e x=>h138_6 p163 f163 L e x:=by
  intro A B rel L L' e e' h0 hL he x
  unfold h138_6
  repeat' (first | exact h0 | exact hL _ | exact he _ | apply rel_cond | (apply rel_obind h0; intro _) | (apply rel_obind2 <;> intro _))
noncomputable def t138 (p163:DenS I163 → Bool) (f163:DenS I163 → DenS O163) (w138_6:Pat.D P138_6 → Option (OutT X138_6 Q138_6)) (a0:Den (.slice (.int .u64))):Option (DenS O138) :=
  bif (p163 (a0,())) then
  (bif ((f163 (a0,())).1 == (0:Int)) then
  (some ((0:Int),()))
  else bif ((decide ((0:Int) ≤ (Go.IntKind.wrap .i64 ((f163 (a0,())).1 - (1:Int))))) && (decide ((Go.IntKind.wrap .i64 ((f163 (a0,())).1 - (1:Int))) < (a0.length:Int)))) then
  (Vx.obind (w138_6 (((a0.getD (Int.toNat (Go.IntKind.wrap .i64 ((f163 (a0,())).1 - (1:Int)))) (0:Int)),((f163 (a0,())).1,((0:Int),()))),())) fun y3 =>
  Vx.obind2 y3 (fun y4 =>
  some ((Go.IntKind.wrap .i64 ((Go.IntKind.wrap .i64 ((64:Int) * (Go.IntKind.wrap .i64 (y4.1.1 - (1:Int))))) + y4.1.2.1)),())) (fun z4 =>
  none))
  else none)
  else none
theorem r138 (p163:DenS I163 → Bool) (f163:DenS I163 → DenS O163) (w138_6:Pat.D P138_6 → Option (OutT X138_6 Q138_6)) (a0:Den (.slice (.int .u64))) :
    run { P:=Go.Proofs.Tryz.prog,sums:=[(92,⟨I163,O163,p163,f163⟩)],loops:=[(74,6,LoopSpec.of P138_6 A138_6 X138_6 Q138_6 w138_6)],globs:=G1 } 9 74 Go.Proofs.Tryz.f74 I138 O138 (a0,()) = t138 p163 f163 w138_6 a0:=by kernel_rfl
noncomputable def W138_6:P138_6.D → Option (OutT X138_6 Q138_6):=lfix fun L=>h138_6 S163.pre S163.F L some
noncomputable def T138 (x:DenS I138):Option (DenS O138):=t138 S163.pre S163.F W138_6 x.1
noncomputable def C138:Cfg:={ P:=Go.Proofs.Tryz.prog,sums:=[(92,S163)],loops:=[(74,6,LoopSpec.of P138_6 A138_6 X138_6 Q138_6 W138_6)],globs:=G1 }
noncomputable def S138:Sum:=sumOf I138 O138 T138 (DenS.dflt O138)
theorem S138_sound:Sound Go.Proofs.Tryz.prog G1 74 S138 :=
  fn_sound C138 9 74 Go.Proofs.Tryz.f74 mixedOk (by kernel_rfl) (by kernel_rfl) (by kernel_rfl) ⟨S163_sound,trivial⟩ ⟨rfl,fun d=>loopOk_of (fun L e x=>h138_6 S163.pre S163.F L e x) (m138_6 S163.pre S163.F) (fun R L e x=>s138_6 S163.pre S163.F W138_6 d R L e x),trivial⟩ I138 O138 T138 _ (fun x=>r138 S163.pre S163.F W138_6 x.1)
abbrev I167:Sig:=[(false,.slice (.int .u64)),(false,.int .i64)]
abbrev O167:Sig:=[(false,.int .u64)]
noncomputable def t167 (a0:Den (.slice (.int .u64))) (a1:Den (.int .i64)):Option (DenS O167) :=
  bif ((decide (a1 < (0:Int))) || (decide ((Vx.quoI Go.IntKind.i64 a1 (64:Int)) ≥ (a0.length:Int)))) then
  (some ((0:Int),()))
  else bif ((decide ((0:Int) ≤ (Vx.quoI Go.IntKind.i64 a1 (64:Int)))) && (decide ((Vx.quoI Go.IntKind.i64 a1 (64:Int)) < (a0.length:Int)))) then
  (some ((Vx.andI Go.IntKind.u64 (Vx.shrI Go.IntKind.u64 (a0.getD (Int.toNat (Vx.quoI Go.IntKind.i64 a1 (64:Int))) (0:Int)) (Go.IntKind.wrap .u64 (Int.tmod a1 (64:Int)))) (1:Int)),()))
  else none
theorem r167 (a0:Den (.slice (.int .u64))) (a1:Den (.int .i64)) :
    run { P:=Go.Proofs.Tryz.prog,sums:=[],loops:=[],globs:=G1 } 9 95 Go.Proofs.Tryz.f95 I167 O167 (a0,a1,()) = t167 a0 a1:=by kernel_rfl
noncomputable def T167 (x:DenS I167):Option (DenS O167):=t167 x.1 x.2.1
noncomputable def C167:Cfg:={ P:=Go.Proofs.Tryz.prog,sums:=[],loops:=[],globs:=G1 }
noncomputable def S167:Sum:=sumOf I167 O167 T167 (DenS.dflt O167)
theorem S167_sound:Sound Go.Proofs.Tryz.prog G1 95 S167 :=
  fn_sound C167 9 95 Go.Proofs.Tryz.f95 mixedOk (by kernel_rfl) (by kernel_rfl) (by kernel_rfl) trivial trivial I167 O167 T167 _ (fun x=>r167 x.1 x.2.1)
abbrev I133:Sig:=[(false,.slice (.int .u64))]
abbrev O133:Sig:=[(false,.slice (.int .u64))]
noncomputable def t133 (p163:DenS I163 → Bool) (f163:DenS I163 → DenS O163) (a0:Den (.slice (.int .u64))):Option (DenS O133) :=
  bif (p163 (a0,())) then
  (bif ((decide ((0:Int) ≤ (f163 (a0,())).1)) && (decide (((f163 (a0,())).1 * (8:Int)) ≤ (140737488355328:Int)))) then
  (some (((a0.take (List.replicate (Int.toNat (f163 (a0,())).1) (0:Int)).length) ++ ((List.replicate (Int.toNat (f163 (a0,())).1) (0:Int)).drop a0.length)),()))
  else none)
  else none
theorem r133 (p163:DenS I163 → Bool) (f163:DenS I163 → DenS O163) (a0:Den (.slice (.int .u64))) :
    run { P:=Go.Proofs.Tryz.prog,sums:=[(92,⟨I163,O163,p163,f163⟩)],loops:=[],globs:=G1 } 9 69 Go.Proofs.Tryz.f69 I133 O133 (a0,()) = t133 p163 f163 a0:=by kernel_rfl
noncomputable def T133 (x:DenS I133):Option (DenS O133):=t133 S163.pre S163.F x.1
noncomputable def C133:Cfg:={ P:=Go.Proofs.Tryz.prog,sums:=[(92,S163)],loops:=[],globs:=G1 }
noncomputable def S133:Sum:=sumOf I133 O133 T133 (DenS.dflt O133)
theorem S133_sound:Sound Go.Proofs.Tryz.prog G1 69 S133 :=
  fn_sound C133 9 69 Go.Proofs.Tryz.f69 mixedOk (by kernel_rfl) (by kernel_rfl) (by kernel_rfl) ⟨S163_sound,trivial⟩ trivial I133 O133 T133 _ (fun x=>r133 S163.pre S163.F x.1)
abbrev I181:Sig:=[(false,.slice (.int .u64)),(false,.int .i64)]
abbrev O181:Sig:=[(false,.slice (.int .u64))]
abbrev P181_4:Pat:=⟨64,[(5,.one (.v .i64)),(0,.one (.sl (.int .u64))),(1,.one (.v .i64)),(7,.one (.v .i64)),(6,.one (.own 0))],[.arr (.int .u64)]⟩
abbrev A181_4:List (Nat × Shape):=[]
abbrev X181_4:List (Nat × Pat):=[(0,⟨64,[(6,.one (.own 0))],[.arr (.int .u64)]⟩)]
abbrev Q181_4:Option Pat:=none
noncomputable def h181_4 (p163:DenS I163 → Bool) (f163:DenS I163 → DenS O163) (p133:DenS I133 → Bool) (f133:DenS I133 → DenS O133) {R:Type} (L:Pat.D P181_4 → Option R) (e:OutT X181_4 Q181_4 → Option R) (x:Pat.D P181_4):Option R :=
  bif (decide (x.1.2.2.2.1 < x.1.1)) then
  (bif ((decide ((0:Int) ≤ (Go.IntKind.wrap .i64 (x.1.2.2.2.1 + (Vx.quoI Go.IntKind.i64 x.1.2.2.1 (64:Int)))))) && (decide ((Go.IntKind.wrap .i64 (x.1.2.2.2.1 + (Vx.quoI Go.IntKind.i64 x.1.2.2.1 (64:Int)))) < (x.2.1.length:Int)))) then
  (bif ((decide ((0:Int) ≤ x.1.2.2.2.1)) && (decide (x.1.2.2.2.1 < (x.1.2.1.length:Int)))) then
  (bif ((decide ((0:Int) ≤ (Go.IntKind.wrap .i64 (x.1.2.2.2.1 + (Vx.quoI Go.IntKind.i64 x.1.2.2.1 (64:Int)))))) && (decide ((Go.IntKind.wrap .i64 (x.1.2.2.2.1 + (Vx.quoI Go.IntKind.i64 x.1.2.2.1 (64:Int)))) < (x.2.1.length:Int)))) then
  (bif (decide ((Int.tmod x.1.2.2.1 (64:Int)) > (0:Int))) then
  (bif ((decide ((0:Int) ≤ x.1.2.2.2.1)) && (decide (x.1.2.2.2.1 < (x.1.2.1.length:Int)))) then
  (bif ((decide ((0:Int) ≤ (Go.IntKind.wrap .i64 ((Go.IntKind.wrap .i64 (x.1.2.2.2.1 + (Vx.quoI Go.IntKind.i64 x.1.2.2.1 (64:Int)))) + (1:Int))))) && (decide ((Go.IntKind.wrap .i64 ((Go.IntKind.wrap .i64 (x.1.2.2.2.1 + (Vx.quoI Go.IntKind.i64 x.1.2.2.1 (64:Int)))) + (1:Int))) < ((x.2.1.set (Int.toNat (Go.IntKind.wrap .i64 (x.1.2.2.2.1 + (Vx.quoI Go.IntKind.i64 x.1.2.2.1 (64:Int))))) (Vx.orI Go.IntKind.u64 (x.2.1.getD (Int.toNat (Go.IntKind.wrap .i64 (x.1.2.2.2.1 + (Vx.quoI Go.IntKind.i64 x.1.2.2.1 (64:Int))))) (0:Int)) (Vx.shlI Go.IntKind.u64 (x.1.2.1.getD (Int.toNat x.1.2.2.2.1) (0:Int)) (Go.IntKind.wrap .u64 (Int.tmod x.1.2.2.1 (64:Int)))))).length:Int)))) then
  ((L ((x.1.1,(x.1.2.1,(x.1.2.2.1,((Go.IntKind.wrap .i64 (x.1.2.2.2.1 + (1:Int))),((),()))))),(((x.2.1.set (Int.toNat (Go.IntKind.wrap .i64 (x.1.2.2.2.1 + (Vx.quoI Go.IntKind.i64 x.1.2.2.1 (64:Int))))) (Vx.orI Go.IntKind.u64 (x.2.1.getD (Int.toNat (Go.IntKind.wrap .i64 (x.1.2.2.2.1 + (Vx.quoI Go.IntKind.i64 x.1.2.2.1 (64:Int))))) (0:Int)) (Vx.shlI Go.IntKind.u64 (x.1.2.1.getD (Int.toNat x.1.2.2.2.1) (0:Int)) (Go.IntKind.wrap .u64 (Int.tmod x.1.2.2.1 (64:Int)))))).set (Int.toNat (Go.IntKind.wrap .i64 ((Go.IntKind.wrap .i64 (x.1.2.2.2.1 + (Vx.quoI Go.IntKind.i64 x.1.2.2.1 (64:Int)))) + (1:Int)))) (Vx.shrI Go.IntKind.u64 (x.1.2.1.getD (Int.toNat x.1.2.2.2.1) (0:Int)) (Go.IntKind.wrap .u64 (Go.IntKind.wrap .i64 ((64:Int) - (Int.tmod x.1.2.2.1 (64:Int))))))),()))))
  else none)
  else none)
  else (L ((x.1.1,(x.1.2.1,(x.1.2.2.1,((Go.IntKind.wrap .i64 (x.1.2.2.2.1 + (1:Int))),((),()))))),((x.2.1.set (Int.toNat (Go.IntKind.wrap .i64 (x.1.2.2.2.1 + (Vx.quoI Go.IntKind.i64 x.1.2.2.1 (64:Int))))) (Vx.orI Go.IntKind.u64 (x.2.1.getD (Int.toNat (Go.IntKind.wrap .i64 (x.1.2.2.2.1 + (Vx.quoI Go.IntKind.i64 x.1.2.2.1 (64:Int))))) (0:Int)) (Vx.shlI Go.IntKind.u64 (x.1.2.1.getD (Int.toNat x.1.2.2.2.1) (0:Int)) (Go.IntKind.wrap .u64 (Int.tmod x.1.2.2.1 (64:Int)))))),()))))
  else none)
  else none)
  else none)
  else (e (.inl (((),()),x.2)))
theorem s181_4 (p163:DenS I163 → Bool) (f163:DenS I163 → DenS O163) (p133:DenS I133 → Bool) (f133:DenS I133 → DenS O133) (w181_4:Pat.D P181_4 → Option (OutT X181_4 Q181_4)) (d:Nat) (R:Type) (L:Pat.D P181_4 → Option R) (e:OutT X181_4 Q181_4 → Option R) (x:Pat.D P181_4) :
    lStep { P:=Go.Proofs.Tryz.prog,sums:=[(92,⟨I163,O163,p163,f163⟩),(69,⟨I133,O133,p133,f133⟩)],loops:=[(90,4,LoopSpec.of P181_4 A181_4 X181_4 Q181_4 w181_4)],globs:=G1 } (d + 2) 90 (bodyOf Go.Proofs.Tryz.f90 4) P181_4 A181_4 X181_4 Q181_4 (R:=R) L e x = h181_4 p163 f163 p133 f133 L e x:=by kernel_rfl
theorem m181_4 (p163:DenS I163 → Bool) (f163:DenS I163 → DenS O163) (p133:DenS I133 → Bool) (f133:DenS I133 → DenS O133):Par fun L e x=>h181_4 p163 f163 p133 f133 L e x:=by
  intro A B rel L L' e e' h0 hL he x
  unfold h181_4
  repeat' (first | exact h0 | exact hL _ | exact he _ | apply rel_cond | (apply rel_obind h0; intro _) | (apply rel_obind2 <;> intro _))
noncomputable def t181 (p163:DenS I163 → Bool) (f163:DenS I163 → DenS O163) (p133:DenS I133 → Bool) (f133:DenS I133 → DenS O133) (w181_4:Pat.D P181_4 → Option (OutT X181_4 Q181_4)) (a0:Den (.slice (.int .u64))) (a1:Den (.int .i64)):Option (DenS O181) :=
  bif (p163 (a0,())) then
  (bif ((decide ((0:Int) ≤ (Go.IntKind.wrap .i64 ((Go.IntKind.wrap .i64 ((f163 (a0,())).1 + (Vx.quoI Go.IntKind.i64 a1 (64:Int)))) + (1:Int))))) && (decide (((Go.IntKind.wrap .i64 ((Go.IntKind.wrap .i64 ((f163 (a0,())).1 + (Vx.quoI Go.IntKind.i64 a1 (64:Int)))) + (1:Int))) * (8:Int)) ≤ (140737488355328:Int)))) then
  (Vx.obind (w181_4 (((f163 (a0,())).1,(a0,(a1,((0:Int),((),()))))),((List.replicate (Int.toNat (Go.IntKind.wrap .i64 ((Go.IntKind.wrap .i64 ((f163 (a0,())).1 + (Vx.quoI Go.IntKind.i64 a1 (64:Int)))) + (1:Int)))) (0:Int)),()))) fun y2 =>
  Vx.obind2 y2 (fun y3 =>
  bif (p133 y3.2) then
  (some (f133 y3.2))
  else none) (fun z3 =>
  none))
  else none)
  else none
theorem r181 (p163:DenS I163 → Bool) (f163:DenS I163 → DenS O163) (p133:DenS I133 → Bool) (f133:DenS I133 → DenS O133) (w181_4:Pat.D P181_4 → Option (OutT X181_4 Q181_4)) (a0:Den (.slice (.int .u64))) (a1:Den (.int .i64)) :
    run { P:=Go.Proofs.Tryz.prog,sums:=[(92,⟨I163,O163,p163,f163⟩),(69,⟨I133,O133,p133,f133⟩)],loops:=[(90,4,LoopSpec.of P181_4 A181_4 X181_4 Q181_4 w181_4)],globs:=G1 } 9 90 Go.Proofs.Tryz.f90 I181 O181 (a0,a1,()) = t181 p163 f163 p133 f133 w181_4 a0 a1:=by kernel_rfl
noncomputable def W181_4:P181_4.D → Option (OutT X181_4 Q181_4):=lfix fun L=>h181_4 S163.pre S163.F S133.pre S133.F L some
noncomputable def T181 (x:DenS I181):Option (DenS O181):=t181 S163.pre S163.F S133.pre S133.F W181_4 x.1 x.2.1
noncomputable def C181:Cfg:={ P:=Go.Proofs.Tryz.prog,sums:=[(92,S163),(69,S133)],loops:=[(90,4,LoopSpec.of P181_4 A181_4 X181_4 Q181_4 W181_4)],globs:=G1 }
noncomputable def S181:Sum:=sumOf I181 O181 T181 (DenS.dflt O181)
theorem S181_sound:Sound Go.Proofs.Tryz.prog G1 90 S181 :=
  fn_sound C181 9 90 Go.Proofs.Tryz.f90 mixedOk (by kernel_rfl) (by kernel_rfl) (by kernel_rfl) ⟨S163_sound,⟨S133_sound,trivial⟩⟩ ⟨rfl,fun d=>loopOk_of (fun L e x=>h181_4 S163.pre S163.F S133.pre S133.F L e x) (m181_4 S163.pre S163.F S133.pre S133.F) (fun R L e x=>s181_4 S163.pre S163.F S133.pre S133.F W181_4 d R L e x),trivial⟩ I181 O181 T181 _ (fun x=>r181 S163.pre S163.F S133.pre S133.F W181_4 x.1 x.2.1)
abbrev I166:Sig:=[(false,.slice (.int .u64)),(false,.slice (.int .u64))]
abbrev O166:Sig:=[(false,.int .i64)]
abbrev P166_8:Pat:=⟨42,[(0,.one (.sl (.int .u64))),(1,.one (.sl (.int .u64))),(7,.one (.v .i64))],[]⟩
abbrev A166_8:List (Nat × Shape):=[]
abbrev X166_8:List (Nat × Pat):=[(0,⟨42,[],[]⟩)]
abbrev Q166_8:Option Pat:=(some ⟨42,[(4,.one (.v .i64))],[]⟩)
noncomputable def h166_8 (p163:DenS I163 → Bool) (f163:DenS I163 → DenS O163) {R:Type} (L:Pat.D P166_8 → Option R) (e:OutT X166_8 Q166_8 → Option R) (x:Pat.D P166_8):Option R :=
  bif (decide (x.1.2.2.1 ≥ (0:Int))) then
  (bif ((decide ((0:Int) ≤ x.1.2.2.1)) && (decide (x.1.2.2.1 < (x.1.1.length:Int)))) then
  (bif ((decide ((0:Int) ≤ x.1.2.2.1)) && (decide (x.1.2.2.1 < (x.1.2.1.length:Int)))) then
  (bif (decide ((x.1.1.getD (Int.toNat x.1.2.2.1) (0:Int)) < (x.1.2.1.getD (Int.toNat x.1.2.2.1) (0:Int)))) then
  ((e (.inr (((-(1:Int)),()),()))))
  else bif ((decide ((0:Int) ≤ x.1.2.2.1)) && (decide (x.1.2.2.1 < (x.1.1.length:Int)))) then
  (bif ((decide ((0:Int) ≤ x.1.2.2.1)) && (decide (x.1.2.2.1 < (x.1.2.1.length:Int)))) then
  (bif (decide ((x.1.1.getD (Int.toNat x.1.2.2.1) (0:Int)) > (x.1.2.1.getD (Int.toNat x.1.2.2.1) (0:Int)))) then
  ((e (.inr (((1:Int),()),()))))
  else (L ((x.1.1,(x.1.2.1,((Go.IntKind.wrap .i64 (x.1.2.2.1 - (1:Int))),()))),())))
  else none)
  else none)
  else none)
  else none)
  else (e (.inl ((),())))
theorem s166_8 (p163:DenS I163 → Bool) (f163:DenS I163 → DenS O163) (w166_8:Pat.D P166_8 → Option (OutT X166_8 Q166_8)) (d:Nat) (R:Type) (L:Pat.D P166_8 → Option R) (e:OutT X166_8 Q166_8 → Option R) (x:Pat.D P166_8) :
    lStep { P:=Go.Proofs.Tryz.prog,sums:=[(92,⟨I163,O163,p163,f163⟩)],loops:=[(49,8,LoopSpec.of P166_8 A166_8 X166_8 Q166_8 w166_8)],globs:=G1 } (d + 2) 49 (bodyOf Go.Proofs.Tryz.f49 8) P166_8 A166_8 X166_8 Q166_8 (R:=R) L e x = h166_8 p163 f163 L e x:=by kernel_rfl
theorem m166_8 (p163:DenS I163 → Bool) (f163:DenS I163 → DenS O163):Par fun L e x=>h166_8 p163 f163 L e x:=by
  intro A B rel L L' e e' h0 hL he x
  unfold h166_8
  repeat' (first | exact h0 | exact hL _ | exact he _ | apply rel_cond | (apply rel_obind h0; intro _) | (apply rel_obind2 <;> intro _))
noncomputable def t166 (p163:DenS I163 → Bool) (f163:DenS I163 → DenS O163) (w166_8:Pat.D P166_8 → Option (OutT X166_8 Q166_8)) (a0:Den (.slice (.int .u64))) (a1:Den (.slice (.int .u64))):Option (DenS O166) :=
  bif (p163 (a0,())) then
  (bif (p163 (a1,())) then
  (bif ((f163 (a0,())).1 != (f163 (a1,())).1) then
  (bif (decide ((f163 (a0,())).1 < (f163 (a1,())).1)) then
  (some ((-(1:Int)),()))
  else some ((1:Int),()))
  else Vx.obind (w166_8 ((a0,(a1,((Go.IntKind.wrap .i64 ((f163 (a1,())).1 - (1:Int))),()))),())) fun y3 =>
  Vx.obind2 y3 (fun y4 =>
  some ((0:Int),())) (fun z4 =>
  some z4.1))
  else none)
  else none
theorem r166 (p163:DenS I163 → Bool) (f163:DenS I163 → DenS O163) (w166_8:Pat.D P166_8 → Option (OutT X166_8 Q166_8)) (a0:Den (.slice (.int .u64))) (a1:Den (.slice (.int .u64))) :
    run { P:=Go.Proofs.Tryz.prog,sums:=[(92,⟨I163,O163,p163,f163⟩)],loops:=[(49,8,LoopSpec.of P166_8 A166_8 X166_8 Q166_8 w166_8)],globs:=G1 } 9 49 Go.Proofs.Tryz.f49 I166 O166 (a0,a1,()) = t166 p163 f163 w166_8 a0 a1:=by kernel_rfl
noncomputable def W166_8:P166_8.D → Option (OutT X166_8 Q166_8):=lfix fun L=>h166_8 S163.pre S163.F L some
noncomputable def T166 (x:DenS I166):Option (DenS O166):=t166 S163.pre S163.F W166_8 x.1 x.2.1
noncomputable def C166:Cfg:={ P:=Go.Proofs.Tryz.prog,sums:=[(92,S163)],loops:=[(49,8,LoopSpec.of P166_8 A166_8 X166_8 Q166_8 W166_8)],globs:=G1 }
noncomputable def S166:Sum:=sumOf I166 O166 T166 (DenS.dflt O166)
theorem S166_sound:Sound Go.Proofs.Tryz.prog G1 49 S166 :=
  fn_sound C166 9 49 Go.Proofs.Tryz.f49 mixedOk (by kernel_rfl) (by kernel_rfl) (by kernel_rfl) ⟨S163_sound,trivial⟩ ⟨rfl,fun d=>loopOk_of (fun L e x=>h166_8 S163.pre S163.F L e x) (m166_8 S163.pre S163.F) (fun R L e x=>s166_8 S163.pre S163.F W166_8 d R L e x),trivial⟩ I166 O166 T166 _ (fun x=>r166 S163.pre S163.F W166_8 x.1 x.2.1)
abbrev I183:Sig:=[(false,.slice (.int .u64)),(false,.int .i64)]
abbrev O183:Sig:=[(false,.int .u64)]
noncomputable def t183 (a0:Den (.slice (.int .u64))) (a1:Den (.int .i64)):Option (DenS O183) :=
  bif (decide (a1 < (a0.length:Int))) then
  (bif ((decide ((0:Int) ≤ a1)) && (decide (a1 < (a0.length:Int)))) then
  (some ((a0.getD (Int.toNat a1) (0:Int)),()))
  else none)
  else some ((0:Int),())
theorem r183 (a0:Den (.slice (.int .u64))) (a1:Den (.int .i64)) :
    run { P:=Go.Proofs.Tryz.prog,sums:=[],loops:=[],globs:=G1 } 9 93 Go.Proofs.Tryz.f93 I183 O183 (a0,a1,()) = t183 a0 a1:=by kernel_rfl
noncomputable def T183 (x:DenS I183):Option (DenS O183):=t183 x.1 x.2.1
noncomputable def C183:Cfg:={ P:=Go.Proofs.Tryz.prog,sums:=[],loops:=[],globs:=G1 }
noncomputable def S183:Sum:=sumOf I183 O183 T183 (DenS.dflt O183)
theorem S183_sound:Sound Go.Proofs.Tryz.prog G1 93 S183 :=
  fn_sound C183 9 93 Go.Proofs.Tryz.f93 mixedOk (by kernel_rfl) (by kernel_rfl) (by kernel_rfl) trivial trivial I183 O183 T183 _ (fun x=>r183 x.1 x.2.1)
abbrev I188:Sig:=[(false,.slice (.int .u64)),(false,.slice (.int .u64))]
abbrev O188:Sig:=[(false,.slice (.int .u64))]
abbrev P188_5:Pat:=⟨49,[(5,.one (.v .i64)),(0,.one (.sl (.int .u64))),(1,.one (.sl (.int .u64))),(7,.one (.v .u64)),(8,.one (.v .i64)),(6,.one (.own 0))],[.arr (.int .u64)]⟩
abbrev A188_5:List (Nat × Shape):=[]
abbrev X188_5:List (Nat × Pat):=[(0,⟨49,[(6,.one (.own 0))],[.arr (.int .u64)]⟩)]
abbrev Q188_5:Option Pat:=none
noncomputable def h188_5 (p163:DenS I163 → Bool) (f163:DenS I163 → DenS O163) (p183:DenS I183 → Bool) (f183:DenS I183 → DenS O183) (p133:DenS I133 → Bool) (f133:DenS I133 → DenS O133) {R:Type} (L:Pat.D P188_5 → Option R) (e:OutT X188_5 Q188_5 → Option R) (x:Pat.D P188_5):Option R :=
  bif (decide (x.1.2.2.2.2.1 < x.1.1)) then
  (bif ((decide ((0:Int) ≤ x.1.2.2.2.2.1)) && (decide (x.1.2.2.2.2.1 < (x.1.2.1.length:Int)))) then
  (bif (p183 (x.1.2.2.1,(x.1.2.2.2.2.1,()))) then
  (bif ((decide ((0:Int) ≤ x.1.2.2.2.2.1)) && (decide (x.1.2.2.2.2.1 < (x.2.1.length:Int)))) then
  (bif ((decide ((x.1.2.1.getD (Int.toNat x.1.2.2.2.2.1) (0:Int)) < (f183 (x.1.2.2.1,(x.1.2.2.2.2.1,()))).1)) || (((x.1.2.1.getD (Int.toNat x.1.2.2.2.2.1) (0:Int)) == (f183 (x.1.2.2.1,(x.1.2.2.2.2.1,()))).1) && (x.1.2.2.2.1 == (1:Int)))) then
  ((L ((x.1.1,(x.1.2.1,(x.1.2.2.1,((1:Int),((Go.IntKind.wrap .i64 (x.1.2.2.2.2.1 + (1:Int))),((),())))))),((x.2.1.set (Int.toNat x.1.2.2.2.2.1) (Go.IntKind.wrap .u64 ((Go.IntKind.wrap .u64 ((x.1.2.1.getD (Int.toNat x.1.2.2.2.2.1) (0:Int)) - (f183 (x.1.2.2.1,(x.1.2.2.2.2.1,()))).1)) - x.1.2.2.2.1))),()))))
  else (L ((x.1.1,(x.1.2.1,(x.1.2.2.1,((0:Int),((Go.IntKind.wrap .i64 (x.1.2.2.2.2.1 + (1:Int))),((),())))))),((x.2.1.set (Int.toNat x.1.2.2.2.2.1) (Go.IntKind.wrap .u64 ((Go.IntKind.wrap .u64 ((x.1.2.1.getD (Int.toNat x.1.2.2.2.2.1) (0:Int)) - (f183 (x.1.2.2.1,(x.1.2.2.2.2.1,()))).1)) - x.1.2.2.2.1))),()))))
  else none)
  else none)
  else none)
  else (e (.inl (((),()),x.2)))
theorem s188_5 (p163:DenS I163 → Bool) (f163:DenS I163 → DenS O163) (p183:DenS I183 → Bool) (f183:DenS I183 → DenS O183) (p133:DenS I133 → Bool) (f133:DenS I133 → DenS O133) (w188_5:Pat.D P188_5 → Option (OutT X188_5 Q188_5)) (d:Nat) (R:Type) (L:Pat.D P188_5 → Option R) (e:OutT X188_5 Q188_5 → Option R) (x:Pat.D P188_5) :
    lStep { P:=Go.Proofs.Tryz.prog,sums:=[(92,⟨I163,O163,p163,f163⟩),(93,⟨I183,O183,p183,f183⟩),(69,⟨I133,O133,p133,f133⟩)],loops:=[(96,5,LoopSpec.of P188_5 A188_5 X188_5 Q188_5 w188_5)],globs:=G1 } (d + 2) 96 (bodyOf Go.Proofs.Tryz.f96 5) P188_5 A188_5 X188_5 Q188_5 (R:=R) L e x = h188_5 p163 f163 p183 f183 p133 f133 L e x:=by kernel_rfl
theorem m188_5 (p163:DenS I163 → Bool) (f163:DenS I163 → DenS O163) (p183:DenS I183 → Bool) (f183:DenS I183 → DenS O183) (p133:DenS I133 → Bool) (f133:DenS I133 → DenS O133):Par fun L e x=>h188_5 p163 f163 p183 f183 p133 f133 L e x:=by
  intro A B rel L L' e e' h0 hL he x
  unfold h188_5
  repeat' (first | exact h0 | exact hL _ | exact he _ | apply rel_cond | (apply rel_obind h0; intro _) | (apply rel_obind2 <;> intro _))
noncomputable def t188 (p163:DenS I163 → Bool) (f163:DenS I163 → DenS O163) (p183:DenS I183 → Bool) (f183:DenS I183 → DenS O183) (p133:DenS I133 → Bool) (f133:DenS I133 → DenS O133) (w188_5:Pat.D P188_5 → Option (OutT X188_5 Q188_5)) (a0:Den (.slice (.int .u64))) (a1:Den (.slice (.int .u64))):Option (DenS O188) :=
  bif (p163 (a0,())) then
  (bif ((decide ((0:Int) ≤ (f163 (a0,())).1)) && (decide (((f163 (a0,())).1 * (8:Int)) ≤ (140737488355328:Int)))) then
  (Vx.obind (w188_5 (((f163 (a0,())).1,(a0,(a1,((0:Int),((0:Int),((),())))))),((List.replicate (Int.toNat (f163 (a0,())).1) (0:Int)),()))) fun y2 =>
  Vx.obind2 y2 (fun y3 =>
  bif (p133 y3.2) then
  (some (f133 y3.2))
  else none) (fun z3 =>
  none))
  else none)
  else none
theorem r188 (p163:DenS I163 → Bool) (f163:DenS I163 → DenS O163) (p183:DenS I183 → Bool) (f183:DenS I183 → DenS O183) (p133:DenS I133 → Bool) (f133:DenS I133 → DenS O133) (w188_5:Pat.D P188_5 → Option (OutT X188_5 Q188_5)) (a0:Den (.slice (.int .u64))) (a1:Den (.slice (.int .u64))) :
    run { P:=Go.Proofs.Tryz.prog,sums:=[(92,⟨I163,O163,p163,f163⟩),(93,⟨I183,O183,p183,f183⟩),(69,⟨I133,O133,p133,f133⟩)],loops:=[(96,5,LoopSpec.of P188_5 A188_5 X188_5 Q188_5 w188_5)],globs:=G1 } 9 96 Go.Proofs.Tryz.f96 I188 O188 (a0,a1,()) = t188 p163 f163 p183 f183 p133 f133 w188_5 a0 a1:=by kernel_rfl
noncomputable def W188_5:P188_5.D → Option (OutT X188_5 Q188_5):=lfix fun L=>h188_5 S163.pre S163.F S183.pre S183.F S133.pre S133.F L some
noncomputable def T188 (x:DenS I188):Option (DenS O188):=t188 S163.pre S163.F S183.pre S183.F S133.pre S133.F W188_5 x.1 x.2.1
noncomputable def C188:Cfg:={ P:=Go.Proofs.Tryz.prog,sums:=[(92,S163),(93,S183),(69,S133)],loops:=[(96,5,LoopSpec.of P188_5 A188_5 X188_5 Q188_5 W188_5)],globs:=G1 }
noncomputable def S188:Sum:=sumOf I188 O188 T188 (DenS.dflt O188)
theorem S188_sound:Sound Go.Proofs.Tryz.prog G1 96 S188 :=
  fn_sound C188 9 96 Go.Proofs.Tryz.f96 mixedOk (by kernel_rfl) (by kernel_rfl) (by kernel_rfl) ⟨S163_sound,⟨S183_sound,⟨S133_sound,trivial⟩⟩⟩ ⟨rfl,fun d=>loopOk_of (fun L e x=>h188_5 S163.pre S163.F S183.pre S183.F S133.pre S133.F L e x) (m188_5 S163.pre S163.F S183.pre S183.F S133.pre S133.F) (fun R L e x=>s188_5 S163.pre S163.F S183.pre S183.F S133.pre S133.F W188_5 d R L e x),trivial⟩ I188 O188 T188 _ (fun x=>r188 S163.pre S163.F S183.pre S183.F S133.pre S133.F W188_5 x.1 x.2.1)
abbrev I168:Sig:=[(false,.slice (.int .u64)),(false,.slice (.int .u64))]
abbrev O168:Sig:=[(false,.slice (.int .u64))]
abbrev P168_7:Pat:=⟨57,[(0,.one (.sl (.int .u64))),(1,.one (.sl (.int .u64))),(8,.one (.v .i64)),(5,.one (.v .i64)),(7,.one (.v .u64)),(6,.one (.own 0))],[.arr (.int .u64)]⟩
abbrev A168_7:List (Nat × Shape):=[]
abbrev X168_7:List (Nat × Pat):=[(0,⟨57,[(5,.one (.v .i64)),(7,.one (.v .u64)),(6,.one (.own 0))],[.arr (.int .u64)]⟩)]
abbrev Q168_7:Option Pat:=none
noncomputable def h168_7 (p163:DenS I163 → Bool) (f163:DenS I163 → DenS O163) (p183:DenS I183 → Bool) (f183:DenS I183 → DenS O183) (p133:DenS I133 → Bool) (f133:DenS I133 → DenS O133) {R:Type} (L:Pat.D P168_7 → Option R) (e:OutT X168_7 Q168_7 → Option R) (x:Pat.D P168_7):Option R :=
  bif (decide (x.1.2.2.1 < x.1.2.2.2.1)) then
  (bif (p183 (x.1.1,(x.1.2.2.1,()))) then
  (bif (p183 (x.1.2.1,(x.1.2.2.1,()))) then
  (bif ((decide ((Go.IntKind.wrap .u64 ((f183 (x.1.1,(x.1.2.2.1,()))).1 + (f183 (x.1.2.1,(x.1.2.2.1,()))).1)) < (f183 (x.1.1,(x.1.2.2.1,()))).1)) || (decide ((Go.IntKind.wrap .u64 ((Go.IntKind.wrap .u64 ((f183 (x.1.1,(x.1.2.2.1,()))).1 + (f183 (x.1.2.1,(x.1.2.2.1,()))).1)) + x.1.2.2.2.2.1)) < (Go.IntKind.wrap .u64 ((f183 (x.1.1,(x.1.2.2.1,()))).1 + (f183 (x.1.2.1,(x.1.2.2.1,()))).1))))) then
  (bif ((decide ((0:Int) ≤ x.1.2.2.1)) && (decide (x.1.2.2.1 < (x.2.1.length:Int)))) then
  ((L ((x.1.1,(x.1.2.1,((Go.IntKind.wrap .i64 (x.1.2.2.1 + (1:Int))),(x.1.2.2.2.1,((1:Int),((),())))))),((x.2.1.set (Int.toNat x.1.2.2.1) (Go.IntKind.wrap .u64 ((Go.IntKind.wrap .u64 ((f183 (x.1.1,(x.1.2.2.1,()))).1 + (f183 (x.1.2.1,(x.1.2.2.1,()))).1)) + x.1.2.2.2.2.1))),()))))
  else none)
  else bif ((decide ((0:Int) ≤ x.1.2.2.1)) && (decide (x.1.2.2.1 < (x.2.1.length:Int)))) then
  ((L ((x.1.1,(x.1.2.1,((Go.IntKind.wrap .i64 (x.1.2.2.1 + (1:Int))),(x.1.2.2.2.1,((0:Int),((),())))))),((x.2.1.set (Int.toNat x.1.2.2.1) (Go.IntKind.wrap .u64 ((Go.IntKind.wrap .u64 ((f183 (x.1.1,(x.1.2.2.1,()))).1 + (f183 (x.1.2.1,(x.1.2.2.1,()))).1)) + x.1.2.2.2.2.1))),()))))
  else none)
  else none)
  else none)
  else (e (.inl ((x.1.2.2.2.1,(x.1.2.2.2.2.1,((),()))),x.2)))
theorem s168_7 (p163:DenS I163 → Bool) (f163:DenS I163 → DenS O163) (p183:DenS I183 → Bool) (f183:DenS I183 → DenS O183) (p133:DenS I133 → Bool) (f133:DenS I133 → DenS O133) (w168_7:Pat.D P168_7 → Option (OutT X168_7 Q168_7)) (d:Nat) (R:Type) (L:Pat.D P168_7 → Option R) (e:OutT X168_7 Q168_7 → Option R) (x:Pat.D P168_7) :
    lStep { P:=Go.Proofs.Tryz.prog,sums:=[(92,⟨I163,O163,p163,f163⟩),(93,⟨I183,O183,p183,f183⟩),(69,⟨I133,O133,p133,f133⟩)],loops:=[(43,7,LoopSpec.of P168_7 A168_7 X168_7 Q168_7 w168_7)],globs:=G1 } (d + 2) 43 (bodyOf Go.Proofs.Tryz.f43 7) P168_7 A168_7 X168_7 Q168_7 (R:=R) L e x = h168_7 p163 f163 p183 f183 p133 f133 L e x:=by kernel_rfl
theorem m168_7 (p163:DenS I163 → Bool) (f163:DenS I163 → DenS O163) (p183:DenS I183 → Bool) (f183:DenS I183 → DenS O183) (p133:DenS I133 → Bool) (f133:DenS I133 → DenS O133):Par fun L e x=>h168_7 p163 f163 p183 f183 p133 f133 L e x:=by
  intro A B rel L L' e e' h0 hL he x
  unfold h168_7
  repeat' (first | exact h0 | exact hL _ | exact he _ | apply rel_cond | (apply rel_obind h0; intro _) | (apply rel_obind2 <;> intro _))
noncomputable def t168 (p163:DenS I163 → Bool) (f163:DenS I163 → DenS O163) (p183:DenS I183 → Bool) (f183:DenS I183 → DenS O183) (p133:DenS I133 → Bool) (f133:DenS I133 → DenS O133) (w168_7:Pat.D P168_7 → Option (OutT X168_7 Q168_7)) (a0:Den (.slice (.int .u64))) (a1:Den (.slice (.int .u64))):Option (DenS O168) :=
  bif (p163 (a0,())) then
  (bif (p163 (a1,())) then
  (bif (decide ((f163 (a1,())).1 > (f163 (a0,())).1)) then
  (bif (p163 (a1,())) then
  (bif ((decide ((0:Int) ≤ (Go.IntKind.wrap .i64 ((f163 (a1,())).1 + (1:Int))))) && (decide (((Go.IntKind.wrap .i64 ((f163 (a1,())).1 + (1:Int))) * (8:Int)) ≤ (140737488355328:Int)))) then
  (Vx.obind (w168_7 ((a0,(a1,((0:Int),((f163 (a1,())).1,((0:Int),((),())))))),((List.replicate (Int.toNat (Go.IntKind.wrap .i64 ((f163 (a1,())).1 + (1:Int)))) (0:Int)),()))) fun y5 =>
  Vx.obind2 y5 (fun y6 =>
  bif ((decide ((0:Int) ≤ y6.1.1)) && (decide (y6.1.1 < (y6.2.1.length:Int)))) then
  (bif (p133 ((y6.2.1.set (Int.toNat y6.1.1) y6.1.2.1),())) then
  (some (f133 ((y6.2.1.set (Int.toNat y6.1.1) y6.1.2.1),())))
  else none)
  else none) (fun z6 =>
  none))
  else none)
  else none)
  else bif ((decide ((0:Int) ≤ (Go.IntKind.wrap .i64 ((f163 (a0,())).1 + (1:Int))))) && (decide (((Go.IntKind.wrap .i64 ((f163 (a0,())).1 + (1:Int))) * (8:Int)) ≤ (140737488355328:Int)))) then
  (Vx.obind (w168_7 ((a0,(a1,((0:Int),((f163 (a0,())).1,((0:Int),((),())))))),((List.replicate (Int.toNat (Go.IntKind.wrap .i64 ((f163 (a0,())).1 + (1:Int)))) (0:Int)),()))) fun y4 =>
  Vx.obind2 y4 (fun y5 =>
  bif ((decide ((0:Int) ≤ y5.1.1)) && (decide (y5.1.1 < (y5.2.1.length:Int)))) then
  (bif (p133 ((y5.2.1.set (Int.toNat y5.1.1) y5.1.2.1),())) then
  (some (f133 ((y5.2.1.set (Int.toNat y5.1.1) y5.1.2.1),())))
  else none)
  else none) (fun z5 =>
  none))
  else none)
  else none)
  else none
theorem r168 (p163:DenS I163 → Bool) (f163:DenS I163 → DenS O163) (p183:DenS I183 → Bool) (f183:DenS I183 → DenS O183) (p133:DenS I133 → Bool) (f133:DenS I133 → DenS O133) (w168_7:Pat.D P168_7 → Option (OutT X168_7 Q168_7)) (a0:Den (.slice (.int .u64))) (a1:Den (.slice (.int .u64))) :
    run { P:=Go.Proofs.Tryz.prog,sums:=[(92,⟨I163,O163,p163,f163⟩),(93,⟨I183,O183,p183,f183⟩),(69,⟨I133,O133,p133,f133⟩)],loops:=[(43,7,LoopSpec.of P168_7 A168_7 X168_7 Q168_7 w168_7)],globs:=G1 } 9 43 Go.Proofs.Tryz.f43 I168 O168 (a0,a1,()) = t168 p163 f163 p183 f183 p133 f133 w168_7 a0 a1:=by kernel_rfl
noncomputable def W168_7:P168_7.D → Option (OutT X168_7 Q168_7):=lfix fun L=>h168_7 S163.pre S163.F S183.pre S183.F S133.pre S133.F L some
noncomputable def T168 (x:DenS I168):Option (DenS O168):=t168 S163.pre S163.F S183.pre S183.F S133.pre S133.F W168_7 x.1 x.2.1
noncomputable def C168:Cfg:={ P:=Go.Proofs.Tryz.prog,sums:=[(92,S163),(93,S183),(69,S133)],loops:=[(43,7,LoopSpec.of P168_7 A168_7 X168_7 Q168_7 W168_7)],globs:=G1 }
noncomputable def S168:Sum:=sumOf I168 O168 T168 (DenS.dflt O168)
theorem S168_sound:Sound Go.Proofs.Tryz.prog G1 43 S168 :=
  fn_sound C168 9 43 Go.Proofs.Tryz.f43 mixedOk (by kernel_rfl) (by kernel_rfl) (by kernel_rfl) ⟨S163_sound,⟨S183_sound,⟨S133_sound,trivial⟩⟩⟩ ⟨rfl,fun d=>loopOk_of (fun L e x=>h168_7 S163.pre S163.F S183.pre S183.F S133.pre S133.F L e x) (m168_7 S163.pre S163.F S183.pre S183.F S133.pre S133.F) (fun R L e x=>s168_7 S163.pre S163.F S183.pre S183.F S133.pre S133.F W168_7 d R L e x),trivial⟩ I168 O168 T168 _ (fun x=>r168 S163.pre S163.F S183.pre S183.F S133.pre S133.F W168_7 x.1 x.2.1)
abbrev I320:Sig:=[(false,.slice (.int .u64))]
abbrev O320:Sig:=[(false,.slice (.int .u64)),(false,.bool),(false,.int .i64)]
abbrev P320_5:Pat:=⟨57,[(0,.one (.sl (.int .u64))),(7,.one (.v .i64)),(5,.one (.sl (.int .u64))),(6,.one (.sl (.int .u64)))],[]⟩
abbrev A320_5:List (Nat × Shape):=[]
abbrev X320_5:List (Nat × Pat):=[(0,⟨57,[(5,.one (.sl (.int .u64))),(6,.one (.sl (.int .u64)))],[]⟩)]
abbrev Q320_5:Option Pat:=none
noncomputable def h320_5 (p163:DenS I163 → Bool) (f163:DenS I163 → DenS O163) (p138:DenS I138 → Bool) (f138:DenS I138 → DenS O138) (p167:DenS I167 → Bool) (f167:DenS I167 → DenS O167) (p181:DenS I181 → Bool) (f181:DenS I181 → DenS O181) (p166:DenS I166 → Bool) (f166:DenS I166 → DenS O166) (p188:DenS I188 → Bool) (f188:DenS I188 → DenS O188) (p168:DenS I168 → Bool) (f168:DenS I168 → DenS O168) {R:Type} (L:Pat.D P320_5 → Option R) (e:OutT X320_5 Q320_5 → Option R) (x:Pat.D P320_5):Option R :=
  let e8_:=(Go.IntKind.wrap .i64 ((2:Int) * x.1.2.1))
  let e6_:=((f181 (x.1.2.2.2.1,((2:Int),()))).1,(((Go.IntKind.wrap .u64 ((Go.IntKind.wrap .u64 ((2:Int) * (f167 (x.1.1,((Go.IntKind.wrap .i64 (e8_ - (1:Int))),()))).1)) + (f167 (x.1.1,((Go.IntKind.wrap .i64 (e8_ - (2:Int))),()))).1)) :: []),()))
  let e7_:=((f181 (x.1.2.2.1,((2:Int),()))).1,(((1:Int) :: []),()))
  let e1_:=((f168 e6_).1,(f168 e7_))
  let e2_:=e6_
  let e3_:=((f181 (x.1.2.2.1,((1:Int),()))).1,(((1:Int) :: []),()))
  let e4_:=e8_
  let e5_:=(Go.IntKind.wrap .i64 (x.1.2.1 - (1:Int)))
  bif (decide (x.1.2.1 > (0:Int))) then
  (bif (p181 (x.1.2.2.2.1,((2:Int),()))) then
  (bif (p167 (x.1.1,((Go.IntKind.wrap .i64 (e4_ - (1:Int))),()))) then
  (bif (p167 (x.1.1,((Go.IntKind.wrap .i64 (e4_ - (2:Int))),()))) then
  (bif (p168 e2_) then
  (bif (p181 (x.1.2.2.1,((2:Int),()))) then
  (bif (p168 e7_) then
  (bif (p181 (x.1.2.2.1,((1:Int),()))) then
  (bif (p166 e1_) then
  (bif (decide ((f166 e1_).1 ≥ (0:Int))) then
  (bif (p188 e1_) then
  (bif (p168 e3_) then
  ((L ((x.1.1,(e5_,((f168 e3_).1,(f188 e1_)))),())))
  else none)
  else none)
  else (L ((x.1.1,(e5_,((f181 (x.1.2.2.1,((1:Int),()))).1,(f168 e2_)))),())))
  else none)
  else none)
  else none)
  else none)
  else none)
  else none)
  else none)
  else none)
  else (e (.inl (x.1.2.2,())))
theorem s320_5 (p163:DenS I163 → Bool) (f163:DenS I163 → DenS O163) (p138:DenS I138 → Bool) (f138:DenS I138 → DenS O138) (p167:DenS I167 → Bool) (f167:DenS I167 → DenS O167) (p181:DenS I181 → Bool) (f181:DenS I181 → DenS O181) (p166:DenS I166 → Bool) (f166:DenS I166 → DenS O166) (p188:DenS I188 → Bool) (f188:DenS I188 → DenS O188) (p168:DenS I168 → Bool) (f168:DenS I168 → DenS O168) (w320_5:Pat.D P320_5 → Option (OutT X320_5 Q320_5)) (d:Nat) (R:Type) (L:Pat.D P320_5 → Option R) (e:OutT X320_5 Q320_5 → Option R) (x:Pat.D P320_5) :
    lStep { P:=Go.Proofs.Tryz.prog,sums:=[(92,⟨I163,O163,p163,f163⟩),(74,⟨I138,O138,p138,f138⟩),(95,⟨I167,O167,p167,f167⟩),(90,⟨I181,O181,p181,f181⟩),(49,⟨I166,O166,p166,f166⟩),(96,⟨I188,O188,p188,f188⟩),(43,⟨I168,O168,p168,f168⟩)],loops:=[(47,5,LoopSpec.of P320_5 A320_5 X320_5 Q320_5 w320_5)],globs:=G1 } (d + 2) 47 (bodyOf Go.Proofs.Tryz.f47 5) P320_5 A320_5 X320_5 Q320_5 (R:=R) L e x = h320_5 p163 f163 p138 f138 p167 f167 p181 f181 p166 f166 p188 f188 p168 f168 L e x:=by kernel_rfl
theorem m320_5 (p163:DenS I163 → Bool) (f163:DenS I163 → DenS O163) (p138:DenS I138 → Bool) (f138:DenS I138 → DenS O138) (p167:DenS I167 → Bool) (f167:DenS I167 → DenS O167) (p181:DenS I181 → Bool) (f181:DenS I181 → DenS O181) (p166:DenS I166 → Bool) (f166:DenS I166 → DenS O166) (p188:DenS I188 → Bool) (f188:DenS I188 → DenS O188) (p168:DenS I168 → Bool) (f168:DenS I168 → DenS O168):Par fun L e x=>h320_5 p163 f163 p138 f138 p167 f167 p181 f181 p166 f166 p188 f188 p168 f168 L e x:=by
  intro A B rel L L' e e' h0 hL he x
  unfold h320_5
  repeat' (first | exact h0 | exact hL _ | exact he _ | apply rel_cond | (apply rel_obind h0; intro _) | (apply rel_obind2 <;> intro _))
noncomputable def t320 (p163:DenS I163 → Bool) (f163:DenS I163 → DenS O163) (p138:DenS I138 → Bool) (f138:DenS I138 → DenS O138) (p167:DenS I167 → Bool) (f167:DenS I167 → DenS O167) (p181:DenS I181 → Bool) (f181:DenS I181 → DenS O181) (p166:DenS I166 → Bool) (f166:DenS I166 → DenS O166) (p188:DenS I188 → Bool) (f188:DenS I188 → DenS O188) (p168:DenS I168 → Bool) (f168:DenS I168 → DenS O168) (w320_5:Pat.D P320_5 → Option (OutT X320_5 Q320_5)) (a0:Den (.slice (.int .u64))):Option (DenS O320) :=
  bif (p163 (a0,())) then
  (bif (decide ((f163 (a0,())).1 > (1024:Int))) then
  (some ([],(false,((5:Int),()))))
  else bif (p138 (a0,())) then
  (Vx.obind (w320_5 ((a0,((Vx.quoI Go.IntKind.i64 (Go.IntKind.wrap .i64 ((f138 (a0,())).1 + (1:Int))) (2:Int)),([],([],())))),())) fun y3 =>
  Vx.obind2 y3 (fun y4 =>
  some (y4.1.1,(((y4.1.2.1.length:Int) == (0:Int)),((0:Int),())))) (fun z4 =>
  none))
  else none)
  else none
theorem r320 (p163:DenS I163 → Bool) (f163:DenS I163 → DenS O163) (p138:DenS I138 → Bool) (f138:DenS I138 → DenS O138) (p167:DenS I167 → Bool) (f167:DenS I167 → DenS O167) (p181:DenS I181 → Bool) (f181:DenS I181 → DenS O181) (p166:DenS I166 → Bool) (f166:DenS I166 → DenS O166) (p188:DenS I188 → Bool) (f188:DenS I188 → DenS O188) (p168:DenS I168 → Bool) (f168:DenS I168 → DenS O168) (w320_5:Pat.D P320_5 → Option (OutT X320_5 Q320_5)) (a0:Den (.slice (.int .u64))) :
    run { P:=Go.Proofs.Tryz.prog,sums:=[(92,⟨I163,O163,p163,f163⟩),(74,⟨I138,O138,p138,f138⟩),(95,⟨I167,O167,p167,f167⟩),(90,⟨I181,O181,p181,f181⟩),(49,⟨I166,O166,p166,f166⟩),(96,⟨I188,O188,p188,f188⟩),(43,⟨I168,O168,p168,f168⟩)],loops:=[(47,5,LoopSpec.of P320_5 A320_5 X320_5 Q320_5 w320_5)],globs:=G1 } 9 47 Go.Proofs.Tryz.f47 I320 O320 (a0,()) = t320 p163 f163 p138 f138 p167 f167 p181 f181 p166 f166 p188 f188 p168 f168 w320_5 a0:=by kernel_rfl
noncomputable def W320_5:P320_5.D → Option (OutT X320_5 Q320_5):=lfix fun L=>h320_5 S163.pre S163.F S138.pre S138.F S167.pre S167.F S181.pre S181.F S166.pre S166.F S188.pre S188.F S168.pre S168.F L some
noncomputable def T320 (x:DenS I320):Option (DenS O320):=t320 S163.pre S163.F S138.pre S138.F S167.pre S167.F S181.pre S181.F S166.pre S166.F S188.pre S188.F S168.pre S168.F W320_5 x.1
noncomputable def C320:Cfg:={ P:=Go.Proofs.Tryz.prog,sums:=[(92,S163),(74,S138),(95,S167),(90,S181),(49,S166),(96,S188),(43,S168)],loops:=[(47,5,LoopSpec.of P320_5 A320_5 X320_5 Q320_5 W320_5)],globs:=G1 }
noncomputable def S320:Sum:=sumOf I320 O320 T320 (DenS.dflt O320)
theorem S320_sound:Sound Go.Proofs.Tryz.prog G1 47 S320 :=
  fn_sound C320 9 47 Go.Proofs.Tryz.f47 mixedOk (by kernel_rfl) (by kernel_rfl) (by kernel_rfl) ⟨S163_sound,⟨S138_sound,⟨S167_sound,⟨S181_sound,⟨S166_sound,⟨S188_sound,⟨S168_sound,trivial⟩⟩⟩⟩⟩⟩⟩ ⟨rfl,fun d=>loopOk_of (fun L e x=>h320_5 S163.pre S163.F S138.pre S138.F S167.pre S167.F S181.pre S181.F S166.pre S166.F S188.pre S188.F S168.pre S168.F L e x) (m320_5 S163.pre S163.F S138.pre S138.F S167.pre S167.F S181.pre S181.F S166.pre S166.F S188.pre S188.F S168.pre S168.F) (fun R L e x=>s320_5 S163.pre S163.F S138.pre S138.F S167.pre S167.F S181.pre S181.F S166.pre S166.F S188.pre S188.F S168.pre S168.F W320_5 d R L e x),trivial⟩ I320 O320 T320 _ (fun x=>r320 S163.pre S163.F S138.pre S138.F S167.pre S167.F S181.pre S181.F S166.pre S166.F S188.pre S188.F S168.pre S168.F W320_5 x.1)
abbrev I164:Sig:=[(false,.slice (.int .u64)),(false,.int .i64)]
abbrev O164:Sig:=[(false,.slice (.int .u64))]
noncomputable def t164 (p181:DenS I181 → Bool) (f181:DenS I181 → DenS O181) (a0:Den (.slice (.int .u64))) (a1:Den (.int .i64)):Option (DenS O164) :=
  bif (p181 (a0,(a1,()))) then
  (some (f181 (a0,(a1,()))))
  else none
theorem r164 (p181:DenS I181 → Bool) (f181:DenS I181 → DenS O181) (a0:Den (.slice (.int .u64))) (a1:Den (.int .i64)) :
    run { P:=Go.Proofs.Tryz.prog,sums:=[(90,⟨I181,O181,p181,f181⟩)],loops:=[],globs:=G1 } 9 41 Go.Proofs.Tryz.f41 I164 O164 (a0,a1,()) = t164 p181 f181 a0 a1:=by kernel_rfl
noncomputable def T164 (x:DenS I164):Option (DenS O164):=t164 S181.pre S181.F x.1 x.2.1
noncomputable def C164:Cfg:={ P:=Go.Proofs.Tryz.prog,sums:=[(90,S181)],loops:=[],globs:=G1 }
noncomputable def S164:Sum:=sumOf I164 O164 T164 (DenS.dflt O164)
theorem S164_sound:Sound Go.Proofs.Tryz.prog G1 41 S164 :=
  fn_sound C164 9 41 Go.Proofs.Tryz.f41 mixedOk (by kernel_rfl) (by kernel_rfl) (by kernel_rfl) ⟨S181_sound,trivial⟩ trivial I164 O164 T164 _ (fun x=>r164 S181.pre S181.F x.1 x.2.1)
abbrev I89:Sig:=[(false,.bool),(false,.slice (.int .u64)),(false,.int .i64)]
abbrev O89:Sig:=[(true,.pair (.bool) (.pair (.slice (.int .u64)) (.pair (.slice (.int .u64)) (.pair (.int .i64) (.unit)))))]
noncomputable def t89 (a0:Den (.bool)) (a1:Den (.slice (.int .u64))) (a2:Den (.int .i64)):Option (DenS O89) :=
  some ((a0,(a1,(((1:Int) :: []),(a2,())))),())
theorem r89 (a0:Den (.bool)) (a1:Den (.slice (.int .u64))) (a2:Den (.int .i64)) :
    run { P:=Go.Proofs.Tryz.prog,sums:=[],loops:=[],globs:=G1 } 9 48 Go.Proofs.Tryz.f48 I89 O89 (a0,a1,a2,()) = t89 a0 a1 a2:=by kernel_rfl
noncomputable def T89 (x:DenS I89):Option (DenS O89):=t89 x.1 x.2.1 x.2.2.1
noncomputable def C89:Cfg:={ P:=Go.Proofs.Tryz.prog,sums:=[],loops:=[],globs:=G1 }
noncomputable def S89:Sum:=sumOf I89 O89 T89 (DenS.dflt O89)
theorem S89_sound:Sound Go.Proofs.Tryz.prog G1 48 S89 :=
  fn_sound C89 9 48 Go.Proofs.Tryz.f48 mixedOk (by kernel_rfl) (by kernel_rfl) (by kernel_rfl) trivial trivial I89 O89 T89 _ (fun x=>r89 x.1 x.2.1 x.2.2.1)
abbrev I114:Sig:=[(false,.int .i64),(false,.int .u64)]
abbrev O114:Sig:=[(false,.int .u64)]
noncomputable def t114 (p132:DenS I132 → Bool) (f132:DenS I132 → DenS O132) (a0:Den (.int .i64)) (a1:Den (.int .u64)):Option (DenS O114) :=
  bif (p132 (a0,(a1,((0:Int),((0:Int),()))))) then
  (some (f132 (a0,(a1,((0:Int),((0:Int),()))))))
  else none
theorem r114 (p132:DenS I132 → Bool) (f132:DenS I132 → DenS O132) (a0:Den (.int .i64)) (a1:Den (.int .u64)) :
    run { P:=Go.Proofs.Tryz.prog,sums:=[(67,⟨I132,O132,p132,f132⟩)],loops:=[],globs:=G1 } 9 40 Go.Proofs.Tryz.f40 I114 O114 (a0,a1,()) = t114 p132 f132 a0 a1:=by kernel_rfl
noncomputable def T114 (x:DenS I114):Option (DenS O114):=t114 S132.pre S132.F x.1 x.2.1
noncomputable def C114:Cfg:={ P:=Go.Proofs.Tryz.prog,sums:=[(67,S132)],loops:=[],globs:=G1 }
noncomputable def S114:Sum:=sumOf I114 O114 T114 (DenS.dflt O114)
theorem S114_sound:Sound Go.Proofs.Tryz.prog G1 40 S114 :=
  fn_sound C114 9 40 Go.Proofs.Tryz.f40 mixedOk (by kernel_rfl) (by kernel_rfl) (by kernel_rfl) ⟨S132_sound,trivial⟩ trivial I114 O114 T114 _ (fun x=>r114 S132.pre S132.F x.1 x.2.1)
abbrev I187:Sig:=[(false,.slice (.int .u64)),(false,.int .i64)]
abbrev O187:Sig:=[(false,.slice (.int .u64))]
abbrev P187_6:Pat:=⟨74,[(5,.one (.v .i64)),(0,.one (.sl (.int .u64))),(1,.one (.v .i64)),(7,.one (.v .i64)),(6,.one (.own 0))],[.arr (.int .u64)]⟩
abbrev A187_6:List (Nat × Shape):=[]
abbrev X187_6:List (Nat × Pat):=[(0,⟨74,[(6,.one (.own 0))],[.arr (.int .u64)]⟩)]
abbrev Q187_6:Option Pat:=none
noncomputable def h187_6 (p138:DenS I138 → Bool) (f138:DenS I138 → DenS O138) (p163:DenS I163 → Bool) (f163:DenS I163 → DenS O163) (p133:DenS I133 → Bool) (f133:DenS I133 → DenS O133) {R:Type} (L:Pat.D P187_6 → Option R) (e:OutT X187_6 Q187_6 → Option R) (x:Pat.D P187_6):Option R :=
  bif (decide (x.1.2.2.2.1 < (x.2.1.length:Int))) then
  (bif ((decide ((0:Int) ≤ (Go.IntKind.wrap .i64 (x.1.2.2.2.1 + (Vx.quoI Go.IntKind.i64 x.1.2.2.1 (64:Int)))))) && (decide ((Go.IntKind.wrap .i64 (x.1.2.2.2.1 + (Vx.quoI Go.IntKind.i64 x.1.2.2.1 (64:Int)))) < (x.1.2.1.length:Int)))) then
  (bif ((decide ((0:Int) ≤ x.1.2.2.2.1)) && (decide (x.1.2.2.2.1 < (x.2.1.length:Int)))) then
  (bif ((decide ((Int.tmod x.1.2.2.1 (64:Int)) > (0:Int))) && (decide ((Go.IntKind.wrap .i64 ((Go.IntKind.wrap .i64 (x.1.2.2.2.1 + (Vx.quoI Go.IntKind.i64 x.1.2.2.1 (64:Int)))) + (1:Int))) < x.1.1))) then
  (bif ((decide ((0:Int) ≤ x.1.2.2.2.1)) && (decide (x.1.2.2.2.1 < ((x.2.1.set (Int.toNat x.1.2.2.2.1) (Vx.shrI Go.IntKind.u64 (x.1.2.1.getD (Int.toNat (Go.IntKind.wrap .i64 (x.1.2.2.2.1 + (Vx.quoI Go.IntKind.i64 x.1.2.2.1 (64:Int))))) (0:Int)) (Go.IntKind.wrap .u64 (Int.tmod x.1.2.2.1 (64:Int))))).length:Int)))) then
  (bif ((decide ((0:Int) ≤ (Go.IntKind.wrap .i64 ((Go.IntKind.wrap .i64 (x.1.2.2.2.1 + (Vx.quoI Go.IntKind.i64 x.1.2.2.1 (64:Int)))) + (1:Int))))) && (decide ((Go.IntKind.wrap .i64 ((Go.IntKind.wrap .i64 (x.1.2.2.2.1 + (Vx.quoI Go.IntKind.i64 x.1.2.2.1 (64:Int)))) + (1:Int))) < (x.1.2.1.length:Int)))) then
  (bif ((decide ((0:Int) ≤ x.1.2.2.2.1)) && (decide (x.1.2.2.2.1 < ((x.2.1.set (Int.toNat x.1.2.2.2.1) (Vx.shrI Go.IntKind.u64 (x.1.2.1.getD (Int.toNat (Go.IntKind.wrap .i64 (x.1.2.2.2.1 + (Vx.quoI Go.IntKind.i64 x.1.2.2.1 (64:Int))))) (0:Int)) (Go.IntKind.wrap .u64 (Int.tmod x.1.2.2.1 (64:Int))))).length:Int)))) then
  ((L ((x.1.1,(x.1.2.1,(x.1.2.2.1,((Go.IntKind.wrap .i64 (x.1.2.2.2.1 + (1:Int))),((),()))))),(((x.2.1.set (Int.toNat x.1.2.2.2.1) (Vx.shrI Go.IntKind.u64 (x.1.2.1.getD (Int.toNat (Go.IntKind.wrap .i64 (x.1.2.2.2.1 + (Vx.quoI Go.IntKind.i64 x.1.2.2.1 (64:Int))))) (0:Int)) (Go.IntKind.wrap .u64 (Int.tmod x.1.2.2.1 (64:Int))))).set (Int.toNat x.1.2.2.2.1) (Vx.orI Go.IntKind.u64 ((x.2.1.set (Int.toNat x.1.2.2.2.1) (Vx.shrI Go.IntKind.u64 (x.1.2.1.getD (Int.toNat (Go.IntKind.wrap .i64 (x.1.2.2.2.1 + (Vx.quoI Go.IntKind.i64 x.1.2.2.1 (64:Int))))) (0:Int)) (Go.IntKind.wrap .u64 (Int.tmod x.1.2.2.1 (64:Int))))).getD (Int.toNat x.1.2.2.2.1) (0:Int)) (Vx.shlI Go.IntKind.u64 (x.1.2.1.getD (Int.toNat (Go.IntKind.wrap .i64 ((Go.IntKind.wrap .i64 (x.1.2.2.2.1 + (Vx.quoI Go.IntKind.i64 x.1.2.2.1 (64:Int)))) + (1:Int)))) (0:Int)) (Go.IntKind.wrap .u64 (Go.IntKind.wrap .i64 ((64:Int) - (Int.tmod x.1.2.2.1 (64:Int)))))))),()))))
  else none)
  else none)
  else none)
  else (L ((x.1.1,(x.1.2.1,(x.1.2.2.1,((Go.IntKind.wrap .i64 (x.1.2.2.2.1 + (1:Int))),((),()))))),((x.2.1.set (Int.toNat x.1.2.2.2.1) (Vx.shrI Go.IntKind.u64 (x.1.2.1.getD (Int.toNat (Go.IntKind.wrap .i64 (x.1.2.2.2.1 + (Vx.quoI Go.IntKind.i64 x.1.2.2.1 (64:Int))))) (0:Int)) (Go.IntKind.wrap .u64 (Int.tmod x.1.2.2.1 (64:Int))))),()))))
  else none)
  else none)
  else (e (.inl (((),()),x.2)))
theorem s187_6 (p138:DenS I138 → Bool) (f138:DenS I138 → DenS O138) (p163:DenS I163 → Bool) (f163:DenS I163 → DenS O163) (p133:DenS I133 → Bool) (f133:DenS I133 → DenS O133) (w187_6:Pat.D P187_6 → Option (OutT X187_6 Q187_6)) (d:Nat) (R:Type) (L:Pat.D P187_6 → Option R) (e:OutT X187_6 Q187_6 → Option R) (x:Pat.D P187_6) :
    lStep { P:=Go.Proofs.Tryz.prog,sums:=[(74,⟨I138,O138,p138,f138⟩),(92,⟨I163,O163,p163,f163⟩),(69,⟨I133,O133,p133,f133⟩)],loops:=[(111,6,LoopSpec.of P187_6 A187_6 X187_6 Q187_6 w187_6)],globs:=G1 } (d + 2) 111 (bodyOf Go.Proofs.Tryz.f111 6) P187_6 A187_6 X187_6 Q187_6 (R:=R) L e x = h187_6 p138 f138 p163 f163 p133 f133 L e x:=by kernel_rfl
theorem m187_6 (p138:DenS I138 → Bool) (f138:DenS I138 → DenS O138) (p163:DenS I163 → Bool) (f163:DenS I163 → DenS O163) (p133:DenS I133 → Bool) (f133:DenS I133 → DenS O133):Par fun L e x=>h187_6 p138 f138 p163 f163 p133 f133 L e x:=by
  intro A B rel L L' e e' h0 hL he x
  unfold h187_6
  repeat' (first | exact h0 | exact hL _ | exact he _ | apply rel_cond | (apply rel_obind h0; intro _) | (apply rel_obind2 <;> intro _))
noncomputable def t187 (p138:DenS I138 → Bool) (f138:DenS I138 → DenS O138) (p163:DenS I163 → Bool) (f163:DenS I163 → DenS O163) (p133:DenS I133 → Bool) (f133:DenS I133 → DenS O133) (w187_6:Pat.D P187_6 → Option (OutT X187_6 Q187_6)) (a0:Den (.slice (.int .u64))) (a1:Den (.int .i64)):Option (DenS O187) :=
  bif (p138 (a0,())) then
  (bif (decide (a1 ≥ (f138 (a0,())).1)) then
  (some ([],()))
  else bif (p163 (a0,())) then
  (bif ((decide ((0:Int) ≤ (Go.IntKind.wrap .i64 ((f163 (a0,())).1 - (Vx.quoI Go.IntKind.i64 a1 (64:Int)))))) && (decide (((Go.IntKind.wrap .i64 ((f163 (a0,())).1 - (Vx.quoI Go.IntKind.i64 a1 (64:Int)))) * (8:Int)) ≤ (140737488355328:Int)))) then
  (Vx.obind (w187_6 (((f163 (a0,())).1,(a0,(a1,((0:Int),((),()))))),((List.replicate (Int.toNat (Go.IntKind.wrap .i64 ((f163 (a0,())).1 - (Vx.quoI Go.IntKind.i64 a1 (64:Int))))) (0:Int)),()))) fun y4 =>
  Vx.obind2 y4 (fun y5 =>
  bif (p133 y5.2) then
  (some (f133 y5.2))
  else none) (fun z5 =>
  none))
  else none)
  else none)
  else none
theorem r187 (p138:DenS I138 → Bool) (f138:DenS I138 → DenS O138) (p163:DenS I163 → Bool) (f163:DenS I163 → DenS O163) (p133:DenS I133 → Bool) (f133:DenS I133 → DenS O133) (w187_6:Pat.D P187_6 → Option (OutT X187_6 Q187_6)) (a0:Den (.slice (.int .u64))) (a1:Den (.int .i64)) :
    run { P:=Go.Proofs.Tryz.prog,sums:=[(74,⟨I138,O138,p138,f138⟩),(92,⟨I163,O163,p163,f163⟩),(69,⟨I133,O133,p133,f133⟩)],loops:=[(111,6,LoopSpec.of P187_6 A187_6 X187_6 Q187_6 w187_6)],globs:=G1 } 9 111 Go.Proofs.Tryz.f111 I187 O187 (a0,a1,()) = t187 p138 f138 p163 f163 p133 f133 w187_6 a0 a1:=by kernel_rfl
noncomputable def W187_6:P187_6.D → Option (OutT X187_6 Q187_6):=lfix fun L=>h187_6 S138.pre S138.F S163.pre S163.F S133.pre S133.F L some
noncomputable def T187 (x:DenS I187):Option (DenS O187):=t187 S138.pre S138.F S163.pre S163.F S133.pre S133.F W187_6 x.1 x.2.1
noncomputable def C187:Cfg:={ P:=Go.Proofs.Tryz.prog,sums:=[(74,S138),(92,S163),(69,S133)],loops:=[(111,6,LoopSpec.of P187_6 A187_6 X187_6 Q187_6 W187_6)],globs:=G1 }
noncomputable def S187:Sum:=sumOf I187 O187 T187 (DenS.dflt O187)
theorem S187_sound:Sound Go.Proofs.Tryz.prog G1 111 S187 :=
  fn_sound C187 9 111 Go.Proofs.Tryz.f111 mixedOk (by kernel_rfl) (by kernel_rfl) (by kernel_rfl) ⟨S138_sound,⟨S163_sound,⟨S133_sound,trivial⟩⟩⟩ ⟨rfl,fun d=>loopOk_of (fun L e x=>h187_6 S138.pre S138.F S163.pre S163.F S133.pre S133.F L e x) (m187_6 S138.pre S138.F S163.pre S163.F S133.pre S133.F) (fun R L e x=>s187_6 S138.pre S138.F S163.pre S163.F S133.pre S133.F W187_6 d R L e x),trivial⟩ I187 O187 T187 _ (fun x=>r187 S138.pre S138.F S163.pre S163.F S133.pre S133.F W187_6 x.1 x.2.1)
abbrev I182:Sig:=[(false,.slice (.int .u64)),(false,.slice (.int .u64))]
abbrev O182:Sig:=[(false,.slice (.int .u64)),(false,.slice (.int .u64))]
abbrev P182_8:Pat:=⟨69,[(0,.one (.sl (.int .u64))),(1,.one (.sl (.int .u64))),(10,.one (.v .i64)),(8,.one (.own 0)),(9,.one (.sl (.int .u64)))],[.arr (.int .u64)]⟩
abbrev A182_8:List (Nat × Shape):=[]
abbrev X182_8:List (Nat × Pat):=[(0,⟨69,[(8,.one (.own 0)),(9,.one (.sl (.int .u64)))],[.arr (.int .u64)]⟩)]
abbrev Q182_8:Option Pat:=none
noncomputable def h182_8 (p138:DenS I138 → Bool) (f138:DenS I138 → DenS O138) (p163:DenS I163 → Bool) (f163:DenS I163 → DenS O163) (p187:DenS I187 → Bool) (f187:DenS I187 → DenS O187) (p181:DenS I181 → Bool) (f181:DenS I181 → DenS O181) (p167:DenS I167 → Bool) (f167:DenS I167 → DenS O167) (p168:DenS I168 → Bool) (f168:DenS I168 → DenS O168) (p166:DenS I166 → Bool) (f166:DenS I166 → DenS O166) (p188:DenS I188 → Bool) (f188:DenS I188 → DenS O188) (p133:DenS I133 → Bool) (f133:DenS I133 → DenS O133) {R:Type} (L:Pat.D P182_8 → Option R) (e:OutT X182_8 Q182_8 → Option R) (x:Pat.D P182_8):Option R :=
  bif (decide (x.1.2.2.1 ≥ (0:Int))) then
  (bif (p181 (x.1.2.2.2.2.1,((1:Int),()))) then
  (bif (p167 (x.1.1,(x.1.2.2.1,()))) then
  (bif ((f167 (x.1.1,(x.1.2.2.1,()))).1 == (1:Int)) then
  (bif (p168 ((f181 (x.1.2.2.2.2.1,((1:Int),()))).1,(((1:Int) :: []),()))) then
  (bif (p166 ((f168 ((f181 (x.1.2.2.2.2.1,((1:Int),()))).1,(((1:Int) :: []),()))).1,(x.1.2.1,()))) then
  (bif (decide ((f166 ((f168 ((f181 (x.1.2.2.2.2.1,((1:Int),()))).1,(((1:Int) :: []),()))).1,(x.1.2.1,()))).1 ≥ (0:Int))) then
  (bif (p188 ((f168 ((f181 (x.1.2.2.2.2.1,((1:Int),()))).1,(((1:Int) :: []),()))).1,(x.1.2.1,()))) then
  (bif ((decide ((0:Int) ≤ (Vx.quoI Go.IntKind.i64 x.1.2.2.1 (64:Int)))) && (decide ((Vx.quoI Go.IntKind.i64 x.1.2.2.1 (64:Int)) < (x.2.1.length:Int)))) then
  (bif ((decide ((0:Int) ≤ (Vx.quoI Go.IntKind.i64 x.1.2.2.1 (64:Int)))) && (decide ((Vx.quoI Go.IntKind.i64 x.1.2.2.1 (64:Int)) < (x.2.1.length:Int)))) then
  ((L ((x.1.1,(x.1.2.1,((Go.IntKind.wrap .i64 (x.1.2.2.1 - (1:Int))),((),(f188 ((f168 ((f181 (x.1.2.2.2.2.1,((1:Int),()))).1,(((1:Int) :: []),()))).1,(x.1.2.1,()))))))),((x.2.1.set (Int.toNat (Vx.quoI Go.IntKind.i64 x.1.2.2.1 (64:Int))) (Vx.orI Go.IntKind.u64 (x.2.1.getD (Int.toNat (Vx.quoI Go.IntKind.i64 x.1.2.2.1 (64:Int))) (0:Int)) (Vx.shlI Go.IntKind.u64 (1:Int) (Go.IntKind.wrap .u64 (Int.tmod x.1.2.2.1 (64:Int)))))),()))))
  else none)
  else none)
  else none)
  else (L ((x.1.1,(x.1.2.1,((Go.IntKind.wrap .i64 (x.1.2.2.1 - (1:Int))),((),(f168 ((f181 (x.1.2.2.2.2.1,((1:Int),()))).1,(((1:Int) :: []),()))))))),x.2)))
  else none)
  else none)
  else bif (p166 ((f181 (x.1.2.2.2.2.1,((1:Int),()))).1,(x.1.2.1,()))) then
  (bif (decide ((f166 ((f181 (x.1.2.2.2.2.1,((1:Int),()))).1,(x.1.2.1,()))).1 ≥ (0:Int))) then
  (bif (p188 ((f181 (x.1.2.2.2.2.1,((1:Int),()))).1,(x.1.2.1,()))) then
  (bif ((decide ((0:Int) ≤ (Vx.quoI Go.IntKind.i64 x.1.2.2.1 (64:Int)))) && (decide ((Vx.quoI Go.IntKind.i64 x.1.2.2.1 (64:Int)) < (x.2.1.length:Int)))) then
  (bif ((decide ((0:Int) ≤ (Vx.quoI Go.IntKind.i64 x.1.2.2.1 (64:Int)))) && (decide ((Vx.quoI Go.IntKind.i64 x.1.2.2.1 (64:Int)) < (x.2.1.length:Int)))) then
  ((L ((x.1.1,(x.1.2.1,((Go.IntKind.wrap .i64 (x.1.2.2.1 - (1:Int))),((),(f188 ((f181 (x.1.2.2.2.2.1,((1:Int),()))).1,(x.1.2.1,()))))))),((x.2.1.set (Int.toNat (Vx.quoI Go.IntKind.i64 x.1.2.2.1 (64:Int))) (Vx.orI Go.IntKind.u64 (x.2.1.getD (Int.toNat (Vx.quoI Go.IntKind.i64 x.1.2.2.1 (64:Int))) (0:Int)) (Vx.shlI Go.IntKind.u64 (1:Int) (Go.IntKind.wrap .u64 (Int.tmod x.1.2.2.1 (64:Int)))))),()))))
  else none)
  else none)
  else none)
  else (L ((x.1.1,(x.1.2.1,((Go.IntKind.wrap .i64 (x.1.2.2.1 - (1:Int))),((),(f181 (x.1.2.2.2.2.1,((1:Int),()))))))),x.2)))
  else none)
  else none)
  else none)
  else (e (.inl (((),x.1.2.2.2.2),x.2)))
theorem s182_8 (p138:DenS I138 → Bool) (f138:DenS I138 → DenS O138) (p163:DenS I163 → Bool) (f163:DenS I163 → DenS O163) (p187:DenS I187 → Bool) (f187:DenS I187 → DenS O187) (p181:DenS I181 → Bool) (f181:DenS I181 → DenS O181) (p167:DenS I167 → Bool) (f167:DenS I167 → DenS O167) (p168:DenS I168 → Bool) (f168:DenS I168 → DenS O168) (p166:DenS I166 → Bool) (f166:DenS I166 → DenS O166) (p188:DenS I188 → Bool) (f188:DenS I188 → DenS O188) (p133:DenS I133 → Bool) (f133:DenS I133 → DenS O133) (w182_8:Pat.D P182_8 → Option (OutT X182_8 Q182_8)) (d:Nat) (R:Type) (L:Pat.D P182_8 → Option R) (e:OutT X182_8 Q182_8 → Option R) (x:Pat.D P182_8) :
    lStep { P:=Go.Proofs.Tryz.prog,sums:=[(74,⟨I138,O138,p138,f138⟩),(92,⟨I163,O163,p163,f163⟩),(111,⟨I187,O187,p187,f187⟩),(90,⟨I181,O181,p181,f181⟩),(95,⟨I167,O167,p167,f167⟩),(43,⟨I168,O168,p168,f168⟩),(49,⟨I166,O166,p166,f166⟩),(96,⟨I188,O188,p188,f188⟩),(69,⟨I133,O133,p133,f133⟩)],loops:=[(94,8,LoopSpec.of P182_8 A182_8 X182_8 Q182_8 w182_8)],globs:=G1 } (d + 2) 94 (bodyOf Go.Proofs.Tryz.f94 8) P182_8 A182_8 X182_8 Q182_8 (R:=R) L e x = h182_8 p138 f138 p163 f163 p187 f187 p181 f181 p167 f167 p168 f168 p166 f166 p188 f188 p133 f133 L e x:=by kernel_rfl
theorem m182_8 (p138:DenS I138 → Bool) (f138:DenS I138 → DenS O138) (p163:DenS I163 → Bool) (f163:DenS I163 → DenS O163) (p187:DenS I187 → Bool) (f187:DenS I187 → DenS O187) (p181:DenS I181 → Bool) (f181:DenS I181 → DenS O181) (p167:DenS I167 → Bool) (f167:DenS I167 → DenS O167) (p168:DenS I168 → Bool) (f168:DenS I168 → DenS O168) (p166:DenS I166 → Bool) (f166:DenS I166 → DenS O166) (p188:DenS I188 → Bool) (f188:DenS I188 → DenS O188) (p133:DenS I133 → Bool) (f133:DenS I133 → DenS O133):Par fun L e x=>h182_8 p138 f138 p163 f163 p187 f187 p181 f181 p167 f167 p168 f168 p166 f166 p188 f188 p133 f133 L e x:=by
  intro A B rel L L' e e' h0 hL he x
  unfold h182_8
  repeat' (first | exact h0 | exact hL _ | exact he _ | apply rel_cond | (apply rel_obind h0; intro _) | (apply rel_obind2 <;> intro _))
noncomputable def t182 (p138:DenS I138 → Bool) (f138:DenS I138 → DenS O138) (p163:DenS I163 → Bool) (f163:DenS I163 → DenS O163) (p187:DenS I187 → Bool) (f187:DenS I187 → DenS O187) (p181:DenS I181 → Bool) (f181:DenS I181 → DenS O181) (p167:DenS I167 → Bool) (f167:DenS I167 → DenS O167) (p168:DenS I168 → Bool) (f168:DenS I168 → DenS O168) (p166:DenS I166 → Bool) (f166:DenS I166 → DenS O166) (p188:DenS I188 → Bool) (f188:DenS I188 → DenS O188) (p133:DenS I133 → Bool) (f133:DenS I133 → DenS O133) (w182_8:Pat.D P182_8 → Option (OutT X182_8 Q182_8)) (a0:Den (.slice (.int .u64))) (a1:Den (.slice (.int .u64))):Option (DenS O182) :=
  bif (p138 (a0,())) then
  (bif (p138 (a1,())) then
  (bif (decide ((f138 (a0,())).1 < (f138 (a1,())).1)) then
  (bif (p133 (a0,())) then
  (some ([],(f133 (a0,()))))
  else none)
  else bif (p163 (a0,())) then
  (bif ((decide ((0:Int) ≤ (f163 (a0,())).1)) && (decide (((f163 (a0,())).1 * (8:Int)) ≤ (140737488355328:Int)))) then
  (bif (p187 (a0,((Go.IntKind.wrap .i64 ((Go.IntKind.wrap .i64 ((f138 (a0,())).1 - (f138 (a1,())).1)) + (1:Int))),()))) then
  (Vx.obind (w182_8 ((a0,(a1,((Go.IntKind.wrap .i64 ((f138 (a0,())).1 - (f138 (a1,())).1)),((),(f187 (a0,((Go.IntKind.wrap .i64 ((Go.IntKind.wrap .i64 ((f138 (a0,())).1 - (f138 (a1,())).1)) + (1:Int))),()))))))),((List.replicate (Int.toNat (f163 (a0,())).1) (0:Int)),()))) fun y6 =>
  Vx.obind2 y6 (fun y7 =>
  bif (p133 y7.2) then
  (some ((f133 y7.2).1,y7.1.2))
  else none) (fun z7 =>
  none))
  else none)
  else none)
  else none)
  else none)
  else none
theorem r182 (p138:DenS I138 → Bool) (f138:DenS I138 → DenS O138) (p163:DenS I163 → Bool) (f163:DenS I163 → DenS O163) (p187:DenS I187 → Bool) (f187:DenS I187 → DenS O187) (p181:DenS I181 → Bool) (f181:DenS I181 → DenS O181) (p167:DenS I167 → Bool) (f167:DenS I167 → DenS O167) (p168:DenS I168 → Bool) (f168:DenS I168 → DenS O168) (p166:DenS I166 → Bool) (f166:DenS I166 → DenS O166) (p188:DenS I188 → Bool) (f188:DenS I188 → DenS O188) (p133:DenS I133 → Bool) (f133:DenS I133 → DenS O133) (w182_8:Pat.D P182_8 → Option (OutT X182_8 Q182_8)) (a0:Den (.slice (.int .u64))) (a1:Den (.slice (.int .u64))) :
    run { P:=Go.Proofs.Tryz.prog,sums:=[(74,⟨I138,O138,p138,f138⟩),(92,⟨I163,O163,p163,f163⟩),(111,⟨I187,O187,p187,f187⟩),(90,⟨I181,O181,p181,f181⟩),(95,⟨I167,O167,p167,f167⟩),(43,⟨I168,O168,p168,f168⟩),(49,⟨I166,O166,p166,f166⟩),(96,⟨I188,O188,p188,f188⟩),(69,⟨I133,O133,p133,f133⟩)],loops:=[(94,8,LoopSpec.of P182_8 A182_8 X182_8 Q182_8 w182_8)],globs:=G1 } 9 94 Go.Proofs.Tryz.f94 I182 O182 (a0,a1,()) = t182 p138 f138 p163 f163 p187 f187 p181 f181 p167 f167 p168 f168 p166 f166 p188 f188 p133 f133 w182_8 a0 a1:=by kernel_rfl
noncomputable def W182_8:P182_8.D → Option (OutT X182_8 Q182_8):=lfix fun L=>h182_8 S138.pre S138.F S163.pre S163.F S187.pre S187.F S181.pre S181.F S167.pre S167.F S168.pre S168.F S166.pre S166.F S188.pre S188.F S133.pre S133.F L some
noncomputable def T182 (x:DenS I182):Option (DenS O182):=t182 S138.pre S138.F S163.pre S163.F S187.pre S187.F S181.pre S181.F S167.pre S167.F S168.pre S168.F S166.pre S166.F S188.pre S188.F S133.pre S133.F W182_8 x.1 x.2.1
noncomputable def C182:Cfg:={ P:=Go.Proofs.Tryz.prog,sums:=[(74,S138),(92,S163),(111,S187),(90,S181),(95,S167),(43,S168),(49,S166),(96,S188),(69,S133)],loops:=[(94,8,LoopSpec.of P182_8 A182_8 X182_8 Q182_8 W182_8)],globs:=G1 }
noncomputable def S182:Sum:=sumOf I182 O182 T182 (DenS.dflt O182)
theorem S182_sound:Sound Go.Proofs.Tryz.prog G1 94 S182 :=
  fn_sound C182 9 94 Go.Proofs.Tryz.f94 mixedOk (by kernel_rfl) (by kernel_rfl) (by kernel_rfl) ⟨S138_sound,⟨S163_sound,⟨S187_sound,⟨S181_sound,⟨S167_sound,⟨S168_sound,⟨S166_sound,⟨S188_sound,⟨S133_sound,trivial⟩⟩⟩⟩⟩⟩⟩⟩⟩ ⟨rfl,fun d=>loopOk_of (fun L e x=>h182_8 S138.pre S138.F S163.pre S163.F S187.pre S187.F S181.pre S181.F S167.pre S167.F S168.pre S168.F S166.pre S166.F S188.pre S188.F S133.pre S133.F L e x) (m182_8 S138.pre S138.F S163.pre S163.F S187.pre S187.F S181.pre S181.F S167.pre S167.F S168.pre S168.F S166.pre S166.F S188.pre S188.F S133.pre S133.F) (fun R L e x=>s182_8 S138.pre S138.F S163.pre S163.F S187.pre S187.F S181.pre S181.F S167.pre S167.F S168.pre S168.F S166.pre S166.F S188.pre S188.F S133.pre S133.F W182_8 d R L e x),trivial⟩ I182 O182 T182 _ (fun x=>r182 S138.pre S138.F S163.pre S163.F S187.pre S187.F S181.pre S181.F S167.pre S167.F S168.pre S168.F S166.pre S166.F S188.pre S188.F S133.pre S133.F W182_8 x.1 x.2.1)
abbrev I165:Sig:=[(false,.slice (.int .u64)),(false,.slice (.int .u64))]
abbrev O165:Sig:=[(false,.slice (.int .u64)),(false,.slice (.int .u64))]
noncomputable def t165 (p182:DenS I182 → Bool) (f182:DenS I182 → DenS O182) (a0:Den (.slice (.int .u64))) (a1:Den (.slice (.int .u64))):Option (DenS O165) :=
  bif (p182 (a0,(a1,()))) then
  (some (f182 (a0,(a1,()))))
  else none
theorem r165 (p182:DenS I182 → Bool) (f182:DenS I182 → DenS O182) (a0:Den (.slice (.int .u64))) (a1:Den (.slice (.int .u64))) :
    run { P:=Go.Proofs.Tryz.prog,sums:=[(94,⟨I182,O182,p182,f182⟩)],loops:=[],globs:=G1 } 9 46 Go.Proofs.Tryz.f46 I165 O165 (a0,a1,()) = t165 p182 f182 a0 a1:=by kernel_rfl
noncomputable def T165 (x:DenS I165):Option (DenS O165):=t165 S182.pre S182.F x.1 x.2.1
noncomputable def C165:Cfg:={ P:=Go.Proofs.Tryz.prog,sums:=[(94,S182)],loops:=[],globs:=G1 }
noncomputable def S165:Sum:=sumOf I165 O165 T165 (DenS.dflt O165)
theorem S165_sound:Sound Go.Proofs.Tryz.prog G1 46 S165 :=
  fn_sound C165 9 46 Go.Proofs.Tryz.f46 mixedOk (by kernel_rfl) (by kernel_rfl) (by kernel_rfl) ⟨S182_sound,trivial⟩ trivial I165 O165 T165 _ (fun x=>r165 S182.pre S182.F x.1 x.2.1)
abbrev I136:Sig:=[(true,.pair (.bool) (.pair (.slice (.int .u64)) (.pair (.slice (.int .u64)) (.pair (.int .i64) (.unit))))),(false,.int .i64)]
abbrev O136:Sig:=[(false,.slice (.int .u64)),(false,.int .i64)]
noncomputable def t136 (p165:DenS I165 → Bool) (f165:DenS I165 → DenS O165) (p164:DenS I164 → Bool) (f164:DenS I164 → DenS O164) (p166:DenS I166 → Bool) (f166:DenS I166 → DenS O166) (a0:Den (.pair (.bool) (.pair (.slice (.int .u64)) (.pair (.slice (.int .u64)) (.pair (.int .i64) (.unit)))))) (a1:Den (.int .i64)):Option (DenS O136) :=
  bif (decide (a0.2.2.2.1 ≥ a1)) then
  (bif (p164 (a0.2.1,((Go.IntKind.wrap .i64 (a0.2.2.2.1 - a1)),()))) then
  (bif (p165 ((f164 (a0.2.1,((Go.IntKind.wrap .i64 (a0.2.2.2.1 - a1)),()))).1,(a0.2.2.1,()))) then
  (bif (((f165 ((f164 (a0.2.1,((Go.IntKind.wrap .i64 (a0.2.2.2.1 - a1)),()))).1,(a0.2.2.1,()))).2.1.length:Int) == (0:Int)) then
  (some ((f165 ((f164 (a0.2.1,((Go.IntKind.wrap .i64 (a0.2.2.2.1 - a1)),()))).1,(a0.2.2.1,()))).1,((0:Int),())))
  else bif (p164 ((f165 ((f164 (a0.2.1,((Go.IntKind.wrap .i64 (a0.2.2.2.1 - a1)),()))).1,(a0.2.2.1,()))).2.1,((1:Int),()))) then
  (bif (p166 ((f164 ((f165 ((f164 (a0.2.1,((Go.IntKind.wrap .i64 (a0.2.2.2.1 - a1)),()))).1,(a0.2.2.1,()))).2.1,((1:Int),()))).1,(a0.2.2.1,()))) then
  (some ((f165 ((f164 (a0.2.1,((Go.IntKind.wrap .i64 (a0.2.2.2.1 - a1)),()))).1,(a0.2.2.1,()))).1,((Go.IntKind.wrap .i64 ((2:Int) + (f166 ((f164 ((f165 ((f164 (a0.2.1,((Go.IntKind.wrap .i64 (a0.2.2.2.1 - a1)),()))).1,(a0.2.2.1,()))).2.1,((1:Int),()))).1,(a0.2.2.1,()))).1)),())))
  else none)
  else none)
  else none)
  else none)
  else bif (p164 (a0.2.2.1,((Go.IntKind.wrap .i64 (a1 - a0.2.2.2.1)),()))) then
  (bif (p165 (a0.2.1,(f164 (a0.2.2.1,((Go.IntKind.wrap .i64 (a1 - a0.2.2.2.1)),()))))) then
  (bif (((f165 (a0.2.1,(f164 (a0.2.2.1,((Go.IntKind.wrap .i64 (a1 - a0.2.2.2.1)),()))))).2.1.length:Int) == (0:Int)) then
  (some ((f165 (a0.2.1,(f164 (a0.2.2.1,((Go.IntKind.wrap .i64 (a1 - a0.2.2.2.1)),()))))).1,((0:Int),())))
  else bif (p164 ((f165 (a0.2.1,(f164 (a0.2.2.1,((Go.IntKind.wrap .i64 (a1 - a0.2.2.2.1)),()))))).2.1,((1:Int),()))) then
  (bif (p166 ((f164 ((f165 (a0.2.1,(f164 (a0.2.2.1,((Go.IntKind.wrap .i64 (a1 - a0.2.2.2.1)),()))))).2.1,((1:Int),()))).1,(f164 (a0.2.2.1,((Go.IntKind.wrap .i64 (a1 - a0.2.2.2.1)),()))))) then
  (some ((f165 (a0.2.1,(f164 (a0.2.2.1,((Go.IntKind.wrap .i64 (a1 - a0.2.2.2.1)),()))))).1,((Go.IntKind.wrap .i64 ((2:Int) + (f166 ((f164 ((f165 (a0.2.1,(f164 (a0.2.2.1,((Go.IntKind.wrap .i64 (a1 - a0.2.2.2.1)),()))))).2.1,((1:Int),()))).1,(f164 (a0.2.2.1,((Go.IntKind.wrap .i64 (a1 - a0.2.2.2.1)),()))))).1)),())))
  else none)
  else none)
  else none)
  else none
theorem r136 (p165:DenS I165 → Bool) (f165:DenS I165 → DenS O165) (p164:DenS I164 → Bool) (f164:DenS I164 → DenS O164) (p166:DenS I166 → Bool) (f166:DenS I166 → DenS O166) (a0:Den (.pair (.bool) (.pair (.slice (.int .u64)) (.pair (.slice (.int .u64)) (.pair (.int .i64) (.unit)))))) (a1:Den (.int .i64)) :
    run { P:=Go.Proofs.Tryz.prog,sums:=[(46,⟨I165,O165,p165,f165⟩),(41,⟨I164,O164,p164,f164⟩),(49,⟨I166,O166,p166,f166⟩)],loops:=[],globs:=G1 } 9 72 Go.Proofs.Tryz.f72 I136 O136 (a0,a1,()) = t136 p165 f165 p164 f164 p166 f166 a0 a1:=by kernel_rfl
noncomputable def T136 (x:DenS I136):Option (DenS O136):=t136 S165.pre S165.F S164.pre S164.F S166.pre S166.F x.1 x.2.1
noncomputable def C136:Cfg:={ P:=Go.Proofs.Tryz.prog,sums:=[(46,S165),(41,S164),(49,S166)],loops:=[],globs:=G1 }
noncomputable def S136:Sum:=sumOf I136 O136 T136 (DenS.dflt O136)
theorem S136_sound:Sound Go.Proofs.Tryz.prog G1 72 S136 :=
  fn_sound C136 9 72 Go.Proofs.Tryz.f72 mixedOk (by kernel_rfl) (by kernel_rfl) (by kernel_rfl) ⟨S165_sound,⟨S164_sound,⟨S166_sound,trivial⟩⟩⟩ trivial I136 O136 T136 _ (fun x=>r136 S165.pre S165.F S164.pre S164.F S166.pre S166.F x.1 x.2.1)
abbrev I135:Sig:=[(true,.pair (.bool) (.pair (.slice (.int .u64)) (.pair (.slice (.int .u64)) (.pair (.int .i64) (.unit)))))]
abbrev O135:Sig:=[(false,.int .i64)]
noncomputable def t135 (p138:DenS I138 → Bool) (f138:DenS I138 → DenS O138) (p136:DenS I136 → Bool) (f136:DenS I136 → DenS O136) (a0:Den (.pair (.bool) (.pair (.slice (.int .u64)) (.pair (.slice (.int .u64)) (.pair (.int .i64) (.unit)))))):Option (DenS O135) :=
  bif (p138 (a0.2.1,())) then
  (bif (p138 (a0.2.2.1,())) then
  (bif (p136 ((a0.1,a0.2),((Go.IntKind.wrap .i64 ((Go.IntKind.wrap .i64 ((f138 (a0.2.1,())).1 - (f138 (a0.2.2.1,())).1)) + a0.2.2.2.1)),()))) then
  (bif (((f136 ((a0.1,a0.2),((Go.IntKind.wrap .i64 ((Go.IntKind.wrap .i64 ((f138 (a0.2.1,())).1 - (f138 (a0.2.2.1,())).1)) + a0.2.2.2.1)),()))).1.length:Int) == (0:Int)) then
  (some ((Go.IntKind.wrap .i64 ((Go.IntKind.wrap .i64 ((Go.IntKind.wrap .i64 ((f138 (a0.2.1,())).1 - (f138 (a0.2.2.1,())).1)) + a0.2.2.2.1)) - (1:Int))),()))
  else some ((Go.IntKind.wrap .i64 ((Go.IntKind.wrap .i64 ((f138 (a0.2.1,())).1 - (f138 (a0.2.2.1,())).1)) + a0.2.2.2.1)),()))
  else none)
  else none)
  else none
theorem r135 (p138:DenS I138 → Bool) (f138:DenS I138 → DenS O138) (p136:DenS I136 → Bool) (f136:DenS I136 → DenS O136) (a0:Den (.pair (.bool) (.pair (.slice (.int .u64)) (.pair (.slice (.int .u64)) (.pair (.int .i64) (.unit)))))) :
    run { P:=Go.Proofs.Tryz.prog,sums:=[(74,⟨I138,O138,p138,f138⟩),(72,⟨I136,O136,p136,f136⟩)],loops:=[],globs:=G1 } 9 71 Go.Proofs.Tryz.f71 I135 O135 (a0,()) = t135 p138 f138 p136 f136 a0:=by kernel_rfl
noncomputable def T135 (x:DenS I135):Option (DenS O135):=t135 S138.pre S138.F S136.pre S136.F x.1
noncomputable def C135:Cfg:={ P:=Go.Proofs.Tryz.prog,sums:=[(74,S138),(72,S136)],loops:=[],globs:=G1 }
noncomputable def S135:Sum:=sumOf I135 O135 T135 (DenS.dflt O135)
theorem S135_sound:Sound Go.Proofs.Tryz.prog G1 71 S135 :=
  fn_sound C135 9 71 Go.Proofs.Tryz.f71 mixedOk (by kernel_rfl) (by kernel_rfl) (by kernel_rfl) ⟨S138_sound,⟨S136_sound,trivial⟩⟩ trivial I135 O135 T135 _ (fun x=>r135 S138.pre S138.F S136.pre S136.F x.1)
abbrev I169:Sig:=[(false,.int .i64),(false,.int .u64)]
abbrev O169:Sig:=[(false,.int .u64)]
noncomputable def t169 (p131:DenS I131 → Bool) (f131:DenS I131 → DenS O131) (p132:DenS I132 → Bool) (f132:DenS I132 → DenS O132) (a0:Den (.int .i64)) (a1:Den (.int .u64)):Option (DenS O169) :=
  bif (p131 (a0,())) then
  (bif (p132 (a0,(a1,((Go.IntKind.wrap .u64 (Go.IntKind.wrap .i64 ((Go.IntKind.wrap .i64 ((2:Int) * (f131 (a0,())).1.2.2.2.1)) + (1:Int)))),((0:Int),()))))) then
  (some (f132 (a0,(a1,((Go.IntKind.wrap .u64 (Go.IntKind.wrap .i64 ((Go.IntKind.wrap .i64 ((2:Int) * (f131 (a0,())).1.2.2.2.1)) + (1:Int)))),((0:Int),()))))))
  else none)
  else none
theorem r169 (p131:DenS I131 → Bool) (f131:DenS I131 → DenS O131) (p132:DenS I132 → Bool) (f132:DenS I132 → DenS O132) (a0:Den (.int .i64)) (a1:Den (.int .u64)) :
    run { P:=Go.Proofs.Tryz.prog,sums:=[(63,⟨I131,O131,p131,f131⟩),(67,⟨I132,O132,p132,f132⟩)],loops:=[],globs:=G1 } 9 39 Go.Proofs.Tryz.f39 I169 O169 (a0,a1,()) = t169 p131 f131 p132 f132 a0 a1:=by kernel_rfl
noncomputable def T169 (x:DenS I169):Option (DenS O169):=t169 S131.pre S131.F S132.pre S132.F x.1 x.2.1
noncomputable def C169:Cfg:={ P:=Go.Proofs.Tryz.prog,sums:=[(63,S131),(67,S132)],loops:=[],globs:=G1 }
noncomputable def S169:Sum:=sumOf I169 O169 T169 (DenS.dflt O169)
theorem S169_sound:Sound Go.Proofs.Tryz.prog G1 39 S169 :=
  fn_sound C169 9 39 Go.Proofs.Tryz.f39 mixedOk (by kernel_rfl) (by kernel_rfl) (by kernel_rfl) ⟨S131_sound,⟨S132_sound,trivial⟩⟩ trivial I169 O169 T169 _ (fun x=>r169 S131.pre S131.F S132.pre S132.F x.1 x.2.1)
abbrev I134:Sig:=[(false,.bool)]
abbrev O134:Sig:=[(false,.int .u64)]
noncomputable def t134 (a0:Den (.bool)):Option (DenS O134) :=
  bif a0 then
  (some ((1:Int),()))
  else some ((0:Int),())
theorem r134 (a0:Den (.bool)) :
    run { P:=Go.Proofs.Tryz.prog,sums:=[],loops:=[],globs:=G1 } 9 70 Go.Proofs.Tryz.f70 I134 O134 (a0,()) = t134 a0:=by kernel_rfl
noncomputable def T134 (x:DenS I134):Option (DenS O134):=t134 x.1
noncomputable def C134:Cfg:={ P:=Go.Proofs.Tryz.prog,sums:=[],loops:=[],globs:=G1 }
noncomputable def S134:Sum:=sumOf I134 O134 T134 (DenS.dflt O134)
theorem S134_sound:Sound Go.Proofs.Tryz.prog G1 70 S134 :=
  fn_sound C134 9 70 Go.Proofs.Tryz.f70 mixedOk (by kernel_rfl) (by kernel_rfl) (by kernel_rfl) trivial trivial I134 O134 T134 _ (fun x=>r134 x.1)
abbrev I170:Sig:=[(false,.int .i64),(false,.int .u64)]
abbrev O170:Sig:=[(false,.int .u64)]
noncomputable def t170 (p131:DenS I131 → Bool) (f131:DenS I131 → DenS O131) (p132:DenS I132 → Bool) (f132:DenS I132 → DenS O132) (a0:Den (.int .i64)) (a1:Den (.int .u64)):Option (DenS O170) :=
  bif (p131 (a0,())) then
  (bif (p132 (a0,(a1,((Go.IntKind.wrap .u64 (Go.IntKind.wrap .i64 ((2:Int) * (f131 (a0,())).1.2.2.2.1))),((Go.IntKind.wrap .u64 ((Vx.shlI Go.IntKind.u64 (1:Int) (Go.IntKind.wrap .u64 (Go.IntKind.wrap .i64 ((f131 (a0,())).1.2.1 - (1:Int))))) - (1:Int))),()))))) then
  (some (f132 (a0,(a1,((Go.IntKind.wrap .u64 (Go.IntKind.wrap .i64 ((2:Int) * (f131 (a0,())).1.2.2.2.1))),((Go.IntKind.wrap .u64 ((Vx.shlI Go.IntKind.u64 (1:Int) (Go.IntKind.wrap .u64 (Go.IntKind.wrap .i64 ((f131 (a0,())).1.2.1 - (1:Int))))) - (1:Int))),()))))))
  else none)
  else none
theorem r170 (p131:DenS I131 → Bool) (f131:DenS I131 → DenS O131) (p132:DenS I132 → Bool) (f132:DenS I132 → DenS O132) (a0:Den (.int .i64)) (a1:Den (.int .u64)) :
    run { P:=Go.Proofs.Tryz.prog,sums:=[(63,⟨I131,O131,p131,f131⟩),(67,⟨I132,O132,p132,f132⟩)],loops:=[],globs:=G1 } 9 104 Go.Proofs.Tryz.f104 I170 O170 (a0,a1,()) = t170 p131 f131 p132 f132 a0 a1:=by kernel_rfl
noncomputable def T170 (x:DenS I170):Option (DenS O170):=t170 S131.pre S131.F S132.pre S132.F x.1 x.2.1
noncomputable def C170:Cfg:={ P:=Go.Proofs.Tryz.prog,sums:=[(63,S131),(67,S132)],loops:=[],globs:=G1 }
noncomputable def S170:Sum:=sumOf I170 O170 T170 (DenS.dflt O170)
theorem S170_sound:Sound Go.Proofs.Tryz.prog G1 104 S170 :=
  fn_sound C170 9 104 Go.Proofs.Tryz.f104 mixedOk (by kernel_rfl) (by kernel_rfl) (by kernel_rfl) ⟨S131_sound,⟨S132_sound,trivial⟩⟩ trivial I170 O170 T170 _ (fun x=>r170 S131.pre S131.F S132.pre S132.F x.1 x.2.1)
abbrev I139:Sig:=[(false,.int .i64),(false,.int .i64),(false,.bool)]
abbrev O139:Sig:=[(false,.int .u64)]
noncomputable def t139 (p169:DenS I169 → Bool) (f169:DenS I169 → DenS O169) (p134:DenS I134 → Bool) (f134:DenS I134 → DenS O134) (p170:DenS I170 → Bool) (f170:DenS I170 → DenS O170) (a0:Den (.int .i64)) (a1:Den (.int .i64)) (a2:Den (.bool)):Option (DenS O139) :=
  bif ((((a1 == (0:Int)) || (a1 == (1:Int))) || ((a1 == (3:Int)) && (!a2))) || ((a1 == (4:Int)) && a2)) then
  (bif (p134 (a2,())) then
  (bif (p169 (a0,(f134 (a2,())))) then
  (some (f169 (a0,(f134 (a2,())))))
  else none)
  else none)
  else bif (p134 (a2,())) then
  (bif (p170 (a0,(f134 (a2,())))) then
  (some (f170 (a0,(f134 (a2,())))))
  else none)
  else none
theorem r139 (p169:DenS I169 → Bool) (f169:DenS I169 → DenS O169) (p134:DenS I134 → Bool) (f134:DenS I134 → DenS O134) (p170:DenS I170 → Bool) (f170:DenS I170 → DenS O170) (a0:Den (.int .i64)) (a1:Den (.int .i64)) (a2:Den (.bool)) :
    run { P:=Go.Proofs.Tryz.prog,sums:=[(39,⟨I169,O169,p169,f169⟩),(70,⟨I134,O134,p134,f134⟩),(104,⟨I170,O170,p170,f170⟩)],loops:=[],globs:=G1 } 9 75 Go.Proofs.Tryz.f75 I139 O139 (a0,a1,a2,()) = t139 p169 f169 p134 f134 p170 f170 a0 a1 a2:=by kernel_rfl
noncomputable def T139 (x:DenS I139):Option (DenS O139):=t139 S169.pre S169.F S134.pre S134.F S170.pre S170.F x.1 x.2.1 x.2.2.1
noncomputable def C139:Cfg:={ P:=Go.Proofs.Tryz.prog,sums:=[(39,S169),(70,S134),(104,S170)],loops:=[],globs:=G1 }
noncomputable def S139:Sum:=sumOf I139 O139 T139 (DenS.dflt O139)
theorem S139_sound:Sound Go.Proofs.Tryz.prog G1 75 S139 :=
  fn_sound C139 9 75 Go.Proofs.Tryz.f75 mixedOk (by kernel_rfl) (by kernel_rfl) (by kernel_rfl) ⟨S169_sound,⟨S134_sound,⟨S170_sound,trivial⟩⟩⟩ trivial I139 O139 T139 _ (fun x=>r139 S169.pre S169.F S134.pre S134.F S170.pre S170.F x.1 x.2.1 x.2.2.1)
abbrev I137:Sig:=[(false,.int .i64),(false,.bool),(false,.slice (.int .u64)),(false,.int .i64)]
abbrev O137:Sig:=[(false,.slice (.int .u64))]
noncomputable def t137 (p167:DenS I167 → Bool) (f167:DenS I167 → DenS O167) (p168:DenS I168 → Bool) (f168:DenS I168 → DenS O168) (a0:Den (.int .i64)) (a1:Den (.bool)) (a2:Den (.slice (.int .u64))) (a3:Den (.int .i64)):Option (DenS O137) :=
  bif (p167 (a2,((0:Int),()))) then
  (bif (a0 == (0:Int)) then
  (bif ((decide (a3 > (0:Int))) && ((a3 == (3:Int)) || ((a3 == (2:Int)) && ((f167 (a2,((0:Int),()))).1 == (1:Int))))) then
  (bif (p168 (a2,(((1:Int) :: []),()))) then
  (some (f168 (a2,(((1:Int) :: []),()))))
  else none)
  else some (a2,()))
  else bif (a0 == (1:Int)) then
  (bif ((decide (a3 > (0:Int))) && (decide (a3 ≥ (2:Int)))) then
  (bif (p168 (a2,(((1:Int) :: []),()))) then
  (some (f168 (a2,(((1:Int) :: []),()))))
  else none)
  else some (a2,()))
  else bif (a0 == (3:Int)) then
  (bif ((decide (a3 > (0:Int))) && (!a1)) then
  (bif (p168 (a2,(((1:Int) :: []),()))) then
  (some (f168 (a2,(((1:Int) :: []),()))))
  else none)
  else some (a2,()))
  else bif (a0 == (4:Int)) then
  (bif ((decide (a3 > (0:Int))) && a1) then
  (bif (p168 (a2,(((1:Int) :: []),()))) then
  (some (f168 (a2,(((1:Int) :: []),()))))
  else none)
  else some (a2,()))
  else bif (a0 == (5:Int)) then
  (bif ((decide (a3 > (0:Int))) && (!((f167 (a2,((0:Int),()))).1 == (1:Int)))) then
  (bif (p168 (a2,(((1:Int) :: []),()))) then
  (some (f168 (a2,(((1:Int) :: []),()))))
  else none)
  else some (a2,()))
  else bif ((decide (a3 > (0:Int))) && false) then
  (bif (p168 (a2,(((1:Int) :: []),()))) then
  (some (f168 (a2,(((1:Int) :: []),()))))
  else none)
  else some (a2,()))
  else none
theorem r137 (p167:DenS I167 → Bool) (f167:DenS I167 → DenS O167) (p168:DenS I168 → Bool) (f168:DenS I168 → DenS O168) (a0:Den (.int .i64)) (a1:Den (.bool)) (a2:Den (.slice (.int .u64))) (a3:Den (.int .i64)) :
    run { P:=Go.Proofs.Tryz.prog,sums:=[(95,⟨I167,O167,p167,f167⟩),(43,⟨I168,O168,p168,f168⟩)],loops:=[],globs:=G1 } 9 73 Go.Proofs.Tryz.f73 I137 O137 (a0,a1,a2,a3,()) = t137 p167 f167 p168 f168 a0 a1 a2 a3:=by kernel_rfl
noncomputable def T137 (x:DenS I137):Option (DenS O137):=t137 S167.pre S167.F S168.pre S168.F x.1 x.2.1 x.2.2.1 x.2.2.2.1
noncomputable def C137:Cfg:={ P:=Go.Proofs.Tryz.prog,sums:=[(95,S167),(43,S168)],loops:=[],globs:=G1 }
noncomputable def S137:Sum:=sumOf I137 O137 T137 (DenS.dflt O137)
theorem S137_sound:Sound Go.Proofs.Tryz.prog G1 73 S137 :=
  fn_sound C137 9 73 Go.Proofs.Tryz.f73 mixedOk (by kernel_rfl) (by kernel_rfl) (by kernel_rfl) ⟨S167_sound,⟨S168_sound,trivial⟩⟩ trivial I137 O137 T137 _ (fun x=>r137 S167.pre S167.F S168.pre S168.F x.1 x.2.1 x.2.2.1 x.2.2.2.1)
end Vx
