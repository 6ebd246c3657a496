/- Part 6 of the proof. What is proved: symbolic execution of the functions, proved sound; what each function of the program computes, and that every run ends with it; what these functions compute, in plain numbers. Conditions: each theorem bears its own. -/
import Derived.Test.YtblmecpfokfjpaaGreatDoorVxG5
import Derived.IntWalk
set_option linter.all false
set_option exponentiation.threshold 1000000
namespace Vx
open Go Go.Proofs
abbrev I88:Sig:=[(false,.int .i64),(false,.int .i64),(true,.pair (.bool) (.pair (.slice (.int .u64)) (.pair (.slice (.int .u64)) (.pair (.int .i64) (.unit)))))]
abbrev O88:Sig:=[(false,.int .u64),(false,.int .i64)]
noncomputable def t88 (p133:DenS I133 → Bool) (f133:DenS I133 → DenS O133) (p114:DenS I114 → Bool) (f114:DenS I114 → DenS O114) (p131:DenS I131 → Bool) (f131:DenS I131 → DenS O131) (p135:DenS I135 → Bool) (f135:DenS I135 → DenS O135) (p139:DenS I139 → Bool) (f139:DenS I139 → DenS O139) (p136:DenS I136 → Bool) (f136:DenS I136 → DenS O136) (p137:DenS I137 → Bool) (f137:DenS I137 → DenS O137) (p138:DenS I138 → Bool) (f138:DenS I138 → DenS O138) (p134:DenS I134 → Bool) (f134:DenS I134 → DenS O134) (p132:DenS I132 → Bool) (f132:DenS I132 → DenS O132) (a0:Den (.int .i64)) (a1:Den (.int .i64)) (a2:Den (.pair (.bool) (.pair (.slice (.int .u64)) (.pair (.slice (.int .u64)) (.pair (.int .i64) (.unit)))))):Option (DenS O88) :=
  bif (p133 (a2.2.1,())) then
  (bif (((f133 (a2.2.1,())).1.length:Int) == (0:Int)) then
  (bif (p134 (a2.1,())) then
  (bif (p114 (a0,(f134 (a2.1,())))) then
  (some ((f114 (a0,(f134 (a2.1,())))).1,((0:Int),())))
  else none)
  else none)
  else bif (p131 (a0,())) then
  (bif (p135 ((a2.1,a2.2),())) then
  (bif (decide ((Go.IntKind.wrap .i64 ((Go.IntKind.wrap .i64 ((f135 ((a2.1,a2.2),())).1 - (f131 (a0,())).1.2.1)) + (1:Int))) < (Go.IntKind.wrap .i64 ((Go.IntKind.wrap .i64 ((f131 (a0,())).1.2.2.1 - (f131 (a0,())).1.2.1)) + (1:Int))))) then
  (bif (p136 ((a2.1,a2.2),((Go.IntKind.wrap .i64 ((Go.IntKind.wrap .i64 ((f131 (a0,())).1.2.2.1 - (f131 (a0,())).1.2.1)) + (1:Int))),()))) then
  (bif (p137 (a1,(a2.1,(f136 ((a2.1,a2.2),((Go.IntKind.wrap .i64 ((Go.IntKind.wrap .i64 ((f131 (a0,())).1.2.2.1 - (f131 (a0,())).1.2.1)) + (1:Int))),())))))) then
  (bif (p138 (f137 (a1,(a2.1,(f136 ((a2.1,a2.2),((Go.IntKind.wrap .i64 ((Go.IntKind.wrap .i64 ((f131 (a0,())).1.2.2.1 - (f131 (a0,())).1.2.1)) + (1:Int))),()))))))) then
  (bif (decide ((Go.IntKind.wrap .i64 ((f138 (f137 (a1,(a2.1,(f136 ((a2.1,a2.2),((Go.IntKind.wrap .i64 ((Go.IntKind.wrap .i64 ((f131 (a0,())).1.2.2.1 - (f131 (a0,())).1.2.1)) + (1:Int))),()))))))).1 + (Go.IntKind.wrap .i64 ((Go.IntKind.wrap .i64 ((f131 (a0,())).1.2.2.1 - (f131 (a0,())).1.2.1)) + (1:Int))))) > (Go.IntKind.wrap .i64 ((f131 (a0,())).1.2.2.2.1 + (1:Int))))) then
  (bif (p139 (a0,(a1,(a2.1,())))) then
  (some ((f139 (a0,(a1,(a2.1,())))).1,((20:Int),())))
  else none)
  else bif (decide ((f136 ((a2.1,a2.2),((Go.IntKind.wrap .i64 ((Go.IntKind.wrap .i64 ((f131 (a0,())).1.2.2.1 - (f131 (a0,())).1.2.1)) + (1:Int))),()))).2.1 > (0:Int))) then
  (bif (p136 ((a2.1,a2.2),((Go.IntKind.wrap .i64 ((Go.IntKind.wrap .i64 ((f135 ((a2.1,a2.2),())).1 - (f131 (a0,())).1.2.1)) + (1:Int))),()))) then
  (bif (p137 (a1,(a2.1,(f136 ((a2.1,a2.2),((Go.IntKind.wrap .i64 ((Go.IntKind.wrap .i64 ((f135 ((a2.1,a2.2),())).1 - (f131 (a0,())).1.2.1)) + (1:Int))),())))))) then
  (bif (p138 (f137 (a1,(a2.1,(f136 ((a2.1,a2.2),((Go.IntKind.wrap .i64 ((Go.IntKind.wrap .i64 ((f135 ((a2.1,a2.2),())).1 - (f131 (a0,())).1.2.1)) + (1:Int))),()))))))) then
  (bif (decide ((Go.IntKind.wrap .i64 ((Go.IntKind.wrap .i64 ((Go.IntKind.wrap .i64 ((f138 (f137 (a1,(a2.1,(f136 ((a2.1,a2.2),((Go.IntKind.wrap .i64 ((Go.IntKind.wrap .i64 ((f135 ((a2.1,a2.2),())).1 - (f131 (a0,())).1.2.1)) + (1:Int))),()))))))).1 + (f135 ((a2.1,a2.2),())).1)) - (f131 (a0,())).1.2.1)) + (1:Int))) ≤ (f131 (a0,())).1.2.2.1)) then
  (bif (decide (((f137 (a1,(a2.1,(f136 ((a2.1,a2.2),((Go.IntKind.wrap .i64 ((Go.IntKind.wrap .i64 ((f131 (a0,())).1.2.2.1 - (f131 (a0,())).1.2.1)) + (1:Int))),())))))).1.length:Int) > (0:Int))) then
  (bif (decide ((0:Int) < ((f137 (a1,(a2.1,(f136 ((a2.1,a2.2),((Go.IntKind.wrap .i64 ((Go.IntKind.wrap .i64 ((f131 (a0,())).1.2.2.1 - (f131 (a0,())).1.2.1)) + (1:Int))),())))))).1.length:Int))) then
  (bif (p134 (a2.1,())) then
  (bif (p132 (a0,((f134 (a2.1,())).1,((0:Int),((0:Int),()))))) then
  (some ((Vx.orI Go.IntKind.u64 (f132 (a0,((f134 (a2.1,())).1,((0:Int),((0:Int),()))))).1 (Go.IntKind.wrap .u64 ((Vx.shlI Go.IntKind.u64 (Go.IntKind.wrap .u64 (Go.IntKind.wrap .i64 ((Go.IntKind.wrap .i64 ((Go.IntKind.wrap .i64 ((f131 (a0,())).1.2.2.1 - (f131 (a0,())).1.2.1)) + (1:Int))) - (Go.IntKind.wrap .i64 ((Go.IntKind.wrap .i64 ((f131 (a0,())).1.2.2.1 - (f131 (a0,())).1.2.1)) + (1:Int)))))) (Go.IntKind.wrap .u64 (Go.IntKind.wrap .i64 ((f131 (a0,())).1.2.1 - (1:Int))))) + ((f137 (a1,(a2.1,(f136 ((a2.1,a2.2),((Go.IntKind.wrap .i64 ((Go.IntKind.wrap .i64 ((f131 (a0,())).1.2.2.1 - (f131 (a0,())).1.2.1)) + (1:Int))),())))))).1.getD (Int.toNat (0:Int)) (0:Int))))),((24:Int),())))
  else none)
  else none)
  else none)
  else bif (p134 (a2.1,())) then
  (bif (p132 (a0,((f134 (a2.1,())).1,((0:Int),((0:Int),()))))) then
  (some ((Vx.orI Go.IntKind.u64 (f132 (a0,((f134 (a2.1,())).1,((0:Int),((0:Int),()))))).1 (Go.IntKind.wrap .u64 ((Vx.shlI Go.IntKind.u64 (Go.IntKind.wrap .u64 (Go.IntKind.wrap .i64 ((Go.IntKind.wrap .i64 ((Go.IntKind.wrap .i64 ((f131 (a0,())).1.2.2.1 - (f131 (a0,())).1.2.1)) + (1:Int))) - (Go.IntKind.wrap .i64 ((Go.IntKind.wrap .i64 ((f131 (a0,())).1.2.2.1 - (f131 (a0,())).1.2.1)) + (1:Int)))))) (Go.IntKind.wrap .u64 (Go.IntKind.wrap .i64 ((f131 (a0,())).1.2.1 - (1:Int))))) + (0:Int)))),((24:Int),())))
  else none)
  else none)
  else bif (decide (((f137 (a1,(a2.1,(f136 ((a2.1,a2.2),((Go.IntKind.wrap .i64 ((Go.IntKind.wrap .i64 ((f131 (a0,())).1.2.2.1 - (f131 (a0,())).1.2.1)) + (1:Int))),())))))).1.length:Int) > (0:Int))) then
  (bif (decide ((0:Int) < ((f137 (a1,(a2.1,(f136 ((a2.1,a2.2),((Go.IntKind.wrap .i64 ((Go.IntKind.wrap .i64 ((f131 (a0,())).1.2.2.1 - (f131 (a0,())).1.2.1)) + (1:Int))),())))))).1.length:Int))) then
  (bif (p134 (a2.1,())) then
  (bif (p132 (a0,((f134 (a2.1,())).1,((0:Int),((0:Int),()))))) then
  (some ((Vx.orI Go.IntKind.u64 (f132 (a0,((f134 (a2.1,())).1,((0:Int),((0:Int),()))))).1 (Go.IntKind.wrap .u64 ((Vx.shlI Go.IntKind.u64 (Go.IntKind.wrap .u64 (Go.IntKind.wrap .i64 ((Go.IntKind.wrap .i64 ((Go.IntKind.wrap .i64 ((f131 (a0,())).1.2.2.1 - (f131 (a0,())).1.2.1)) + (1:Int))) - (Go.IntKind.wrap .i64 ((Go.IntKind.wrap .i64 ((f131 (a0,())).1.2.2.1 - (f131 (a0,())).1.2.1)) + (1:Int)))))) (Go.IntKind.wrap .u64 (Go.IntKind.wrap .i64 ((f131 (a0,())).1.2.1 - (1:Int))))) + ((f137 (a1,(a2.1,(f136 ((a2.1,a2.2),((Go.IntKind.wrap .i64 ((Go.IntKind.wrap .i64 ((f131 (a0,())).1.2.2.1 - (f131 (a0,())).1.2.1)) + (1:Int))),())))))).1.getD (Int.toNat (0:Int)) (0:Int))))),((16:Int),())))
  else none)
  else none)
  else none)
  else bif (p134 (a2.1,())) then
  (bif (p132 (a0,((f134 (a2.1,())).1,((0:Int),((0:Int),()))))) then
  (some ((Vx.orI Go.IntKind.u64 (f132 (a0,((f134 (a2.1,())).1,((0:Int),((0:Int),()))))).1 (Go.IntKind.wrap .u64 ((Vx.shlI Go.IntKind.u64 (Go.IntKind.wrap .u64 (Go.IntKind.wrap .i64 ((Go.IntKind.wrap .i64 ((Go.IntKind.wrap .i64 ((f131 (a0,())).1.2.2.1 - (f131 (a0,())).1.2.1)) + (1:Int))) - (Go.IntKind.wrap .i64 ((Go.IntKind.wrap .i64 ((f131 (a0,())).1.2.2.1 - (f131 (a0,())).1.2.1)) + (1:Int)))))) (Go.IntKind.wrap .u64 (Go.IntKind.wrap .i64 ((f131 (a0,())).1.2.1 - (1:Int))))) + (0:Int)))),((16:Int),())))
  else none)
  else none)
  else none)
  else none)
  else none)
  else bif (decide (((f137 (a1,(a2.1,(f136 ((a2.1,a2.2),((Go.IntKind.wrap .i64 ((Go.IntKind.wrap .i64 ((f131 (a0,())).1.2.2.1 - (f131 (a0,())).1.2.1)) + (1:Int))),())))))).1.length:Int) > (0:Int))) then
  (bif (decide ((0:Int) < ((f137 (a1,(a2.1,(f136 ((a2.1,a2.2),((Go.IntKind.wrap .i64 ((Go.IntKind.wrap .i64 ((f131 (a0,())).1.2.2.1 - (f131 (a0,())).1.2.1)) + (1:Int))),())))))).1.length:Int))) then
  (bif (p134 (a2.1,())) then
  (bif (p132 (a0,((f134 (a2.1,())).1,((0:Int),((0:Int),()))))) then
  (some ((Vx.orI Go.IntKind.u64 (f132 (a0,((f134 (a2.1,())).1,((0:Int),((0:Int),()))))).1 (Go.IntKind.wrap .u64 ((Vx.shlI Go.IntKind.u64 (Go.IntKind.wrap .u64 (Go.IntKind.wrap .i64 ((Go.IntKind.wrap .i64 ((Go.IntKind.wrap .i64 ((f131 (a0,())).1.2.2.1 - (f131 (a0,())).1.2.1)) + (1:Int))) - (Go.IntKind.wrap .i64 ((Go.IntKind.wrap .i64 ((f131 (a0,())).1.2.2.1 - (f131 (a0,())).1.2.1)) + (1:Int)))))) (Go.IntKind.wrap .u64 (Go.IntKind.wrap .i64 ((f131 (a0,())).1.2.1 - (1:Int))))) + ((f137 (a1,(a2.1,(f136 ((a2.1,a2.2),((Go.IntKind.wrap .i64 ((Go.IntKind.wrap .i64 ((f131 (a0,())).1.2.2.1 - (f131 (a0,())).1.2.1)) + (1:Int))),())))))).1.getD (Int.toNat (0:Int)) (0:Int))))),((0:Int),())))
  else none)
  else none)
  else none)
  else bif (p134 (a2.1,())) then
  (bif (p132 (a0,((f134 (a2.1,())).1,((0:Int),((0:Int),()))))) then
  (some ((Vx.orI Go.IntKind.u64 (f132 (a0,((f134 (a2.1,())).1,((0:Int),((0:Int),()))))).1 (Go.IntKind.wrap .u64 ((Vx.shlI Go.IntKind.u64 (Go.IntKind.wrap .u64 (Go.IntKind.wrap .i64 ((Go.IntKind.wrap .i64 ((Go.IntKind.wrap .i64 ((f131 (a0,())).1.2.2.1 - (f131 (a0,())).1.2.1)) + (1:Int))) - (Go.IntKind.wrap .i64 ((Go.IntKind.wrap .i64 ((f131 (a0,())).1.2.2.1 - (f131 (a0,())).1.2.1)) + (1:Int)))))) (Go.IntKind.wrap .u64 (Go.IntKind.wrap .i64 ((f131 (a0,())).1.2.1 - (1:Int))))) + (0:Int)))),((0:Int),())))
  else none)
  else none)
  else none)
  else none)
  else none)
  else bif (p136 ((a2.1,a2.2),((Go.IntKind.wrap .i64 ((Go.IntKind.wrap .i64 ((f135 ((a2.1,a2.2),())).1 - (f131 (a0,())).1.2.1)) + (1:Int))),()))) then
  (bif (p137 (a1,(a2.1,(f136 ((a2.1,a2.2),((Go.IntKind.wrap .i64 ((Go.IntKind.wrap .i64 ((f135 ((a2.1,a2.2),())).1 - (f131 (a0,())).1.2.1)) + (1:Int))),())))))) then
  (bif (p138 (f137 (a1,(a2.1,(f136 ((a2.1,a2.2),((Go.IntKind.wrap .i64 ((Go.IntKind.wrap .i64 ((f135 ((a2.1,a2.2),())).1 - (f131 (a0,())).1.2.1)) + (1:Int))),()))))))) then
  (bif (decide ((Go.IntKind.wrap .i64 ((f138 (f137 (a1,(a2.1,(f136 ((a2.1,a2.2),((Go.IntKind.wrap .i64 ((Go.IntKind.wrap .i64 ((f135 ((a2.1,a2.2),())).1 - (f131 (a0,())).1.2.1)) + (1:Int))),()))))))).1 + (Go.IntKind.wrap .i64 ((Go.IntKind.wrap .i64 ((f135 ((a2.1,a2.2),())).1 - (f131 (a0,())).1.2.1)) + (1:Int))))) > (Go.IntKind.wrap .i64 ((f131 (a0,())).1.2.2.2.1 + (1:Int))))) then
  (bif (p139 (a0,(a1,(a2.1,())))) then
  (some ((f139 (a0,(a1,(a2.1,())))).1,((20:Int),())))
  else none)
  else bif (decide ((f136 ((a2.1,a2.2),((Go.IntKind.wrap .i64 ((Go.IntKind.wrap .i64 ((f135 ((a2.1,a2.2),())).1 - (f131 (a0,())).1.2.1)) + (1:Int))),()))).2.1 > (0:Int))) then
  (bif (p136 ((a2.1,a2.2),((Go.IntKind.wrap .i64 ((Go.IntKind.wrap .i64 ((f135 ((a2.1,a2.2),())).1 - (f131 (a0,())).1.2.1)) + (1:Int))),()))) then
  (bif (p137 (a1,(a2.1,(f136 ((a2.1,a2.2),((Go.IntKind.wrap .i64 ((Go.IntKind.wrap .i64 ((f135 ((a2.1,a2.2),())).1 - (f131 (a0,())).1.2.1)) + (1:Int))),())))))) then
  (bif (p138 (f137 (a1,(a2.1,(f136 ((a2.1,a2.2),((Go.IntKind.wrap .i64 ((Go.IntKind.wrap .i64 ((f135 ((a2.1,a2.2),())).1 - (f131 (a0,())).1.2.1)) + (1:Int))),()))))))) then
  (bif (decide ((Go.IntKind.wrap .i64 ((Go.IntKind.wrap .i64 ((Go.IntKind.wrap .i64 ((f138 (f137 (a1,(a2.1,(f136 ((a2.1,a2.2),((Go.IntKind.wrap .i64 ((Go.IntKind.wrap .i64 ((f135 ((a2.1,a2.2),())).1 - (f131 (a0,())).1.2.1)) + (1:Int))),()))))))).1 + (f135 ((a2.1,a2.2),())).1)) - (f131 (a0,())).1.2.1)) + (1:Int))) ≤ (f131 (a0,())).1.2.2.1)) then
  (bif (decide (((f137 (a1,(a2.1,(f136 ((a2.1,a2.2),((Go.IntKind.wrap .i64 ((Go.IntKind.wrap .i64 ((f135 ((a2.1,a2.2),())).1 - (f131 (a0,())).1.2.1)) + (1:Int))),())))))).1.length:Int) > (0:Int))) then
  (bif (decide ((0:Int) < ((f137 (a1,(a2.1,(f136 ((a2.1,a2.2),((Go.IntKind.wrap .i64 ((Go.IntKind.wrap .i64 ((f135 ((a2.1,a2.2),())).1 - (f131 (a0,())).1.2.1)) + (1:Int))),())))))).1.length:Int))) then
  (bif (p134 (a2.1,())) then
  (bif (p132 (a0,((f134 (a2.1,())).1,((0:Int),((0:Int),()))))) then
  (some ((Vx.orI Go.IntKind.u64 (f132 (a0,((f134 (a2.1,())).1,((0:Int),((0:Int),()))))).1 (Go.IntKind.wrap .u64 ((Vx.shlI Go.IntKind.u64 (Go.IntKind.wrap .u64 (Go.IntKind.wrap .i64 ((Go.IntKind.wrap .i64 ((Go.IntKind.wrap .i64 ((f135 ((a2.1,a2.2),())).1 - (f131 (a0,())).1.2.1)) + (1:Int))) - (Go.IntKind.wrap .i64 ((Go.IntKind.wrap .i64 ((f131 (a0,())).1.2.2.1 - (f131 (a0,())).1.2.1)) + (1:Int)))))) (Go.IntKind.wrap .u64 (Go.IntKind.wrap .i64 ((f131 (a0,())).1.2.1 - (1:Int))))) + ((f137 (a1,(a2.1,(f136 ((a2.1,a2.2),((Go.IntKind.wrap .i64 ((Go.IntKind.wrap .i64 ((f135 ((a2.1,a2.2),())).1 - (f131 (a0,())).1.2.1)) + (1:Int))),())))))).1.getD (Int.toNat (0:Int)) (0:Int))))),((24:Int),())))
  else none)
  else none)
  else none)
  else bif (p134 (a2.1,())) then
  (bif (p132 (a0,((f134 (a2.1,())).1,((0:Int),((0:Int),()))))) then
  (some ((Vx.orI Go.IntKind.u64 (f132 (a0,((f134 (a2.1,())).1,((0:Int),((0:Int),()))))).1 (Go.IntKind.wrap .u64 ((Vx.shlI Go.IntKind.u64 (Go.IntKind.wrap .u64 (Go.IntKind.wrap .i64 ((Go.IntKind.wrap .i64 ((Go.IntKind.wrap .i64 ((f135 ((a2.1,a2.2),())).1 - (f131 (a0,())).1.2.1)) + (1:Int))) - (Go.IntKind.wrap .i64 ((Go.IntKind.wrap .i64 ((f131 (a0,())).1.2.2.1 - (f131 (a0,())).1.2.1)) + (1:Int)))))) (Go.IntKind.wrap .u64 (Go.IntKind.wrap .i64 ((f131 (a0,())).1.2.1 - (1:Int))))) + (0:Int)))),((24:Int),())))
  else none)
  else none)
  else bif (decide (((f137 (a1,(a2.1,(f136 ((a2.1,a2.2),((Go.IntKind.wrap .i64 ((Go.IntKind.wrap .i64 ((f135 ((a2.1,a2.2),())).1 - (f131 (a0,())).1.2.1)) + (1:Int))),())))))).1.length:Int) > (0:Int))) then
  (bif (decide ((0:Int) < ((f137 (a1,(a2.1,(f136 ((a2.1,a2.2),((Go.IntKind.wrap .i64 ((Go.IntKind.wrap .i64 ((f135 ((a2.1,a2.2),())).1 - (f131 (a0,())).1.2.1)) + (1:Int))),())))))).1.length:Int))) then
  (bif (p134 (a2.1,())) then
  (bif (p132 (a0,((f134 (a2.1,())).1,((0:Int),((0:Int),()))))) then
  (some ((Vx.orI Go.IntKind.u64 (f132 (a0,((f134 (a2.1,())).1,((0:Int),((0:Int),()))))).1 (Go.IntKind.wrap .u64 ((Vx.shlI Go.IntKind.u64 (Go.IntKind.wrap .u64 (Go.IntKind.wrap .i64 ((Go.IntKind.wrap .i64 ((Go.IntKind.wrap .i64 ((f135 ((a2.1,a2.2),())).1 - (f131 (a0,())).1.2.1)) + (1:Int))) - (Go.IntKind.wrap .i64 ((Go.IntKind.wrap .i64 ((f131 (a0,())).1.2.2.1 - (f131 (a0,())).1.2.1)) + (1:Int)))))) (Go.IntKind.wrap .u64 (Go.IntKind.wrap .i64 ((f131 (a0,())).1.2.1 - (1:Int))))) + ((f137 (a1,(a2.1,(f136 ((a2.1,a2.2),((Go.IntKind.wrap .i64 ((Go.IntKind.wrap .i64 ((f135 ((a2.1,a2.2),())).1 - (f131 (a0,())).1.2.1)) + (1:Int))),())))))).1.getD (Int.toNat (0:Int)) (0:Int))))),((16:Int),())))
  else none)
  else none)
  else none)
  else bif (p134 (a2.1,())) then
  (bif (p132 (a0,((f134 (a2.1,())).1,((0:Int),((0:Int),()))))) then
  (some ((Vx.orI Go.IntKind.u64 (f132 (a0,((f134 (a2.1,())).1,((0:Int),((0:Int),()))))).1 (Go.IntKind.wrap .u64 ((Vx.shlI Go.IntKind.u64 (Go.IntKind.wrap .u64 (Go.IntKind.wrap .i64 ((Go.IntKind.wrap .i64 ((Go.IntKind.wrap .i64 ((f135 ((a2.1,a2.2),())).1 - (f131 (a0,())).1.2.1)) + (1:Int))) - (Go.IntKind.wrap .i64 ((Go.IntKind.wrap .i64 ((f131 (a0,())).1.2.2.1 - (f131 (a0,())).1.2.1)) + (1:Int)))))) (Go.IntKind.wrap .u64 (Go.IntKind.wrap .i64 ((f131 (a0,())).1.2.1 - (1:Int))))) + (0:Int)))),((16:Int),())))
  else none)
  else none)
  else none)
  else none)
  else none)
  else bif (decide (((f137 (a1,(a2.1,(f136 ((a2.1,a2.2),((Go.IntKind.wrap .i64 ((Go.IntKind.wrap .i64 ((f135 ((a2.1,a2.2),())).1 - (f131 (a0,())).1.2.1)) + (1:Int))),())))))).1.length:Int) > (0:Int))) then
  (bif (decide ((0:Int) < ((f137 (a1,(a2.1,(f136 ((a2.1,a2.2),((Go.IntKind.wrap .i64 ((Go.IntKind.wrap .i64 ((f135 ((a2.1,a2.2),())).1 - (f131 (a0,())).1.2.1)) + (1:Int))),())))))).1.length:Int))) then
  (bif (p134 (a2.1,())) then
  (bif (p132 (a0,((f134 (a2.1,())).1,((0:Int),((0:Int),()))))) then
  (some ((Vx.orI Go.IntKind.u64 (f132 (a0,((f134 (a2.1,())).1,((0:Int),((0:Int),()))))).1 (Go.IntKind.wrap .u64 ((Vx.shlI Go.IntKind.u64 (Go.IntKind.wrap .u64 (Go.IntKind.wrap .i64 ((Go.IntKind.wrap .i64 ((Go.IntKind.wrap .i64 ((f135 ((a2.1,a2.2),())).1 - (f131 (a0,())).1.2.1)) + (1:Int))) - (Go.IntKind.wrap .i64 ((Go.IntKind.wrap .i64 ((f131 (a0,())).1.2.2.1 - (f131 (a0,())).1.2.1)) + (1:Int)))))) (Go.IntKind.wrap .u64 (Go.IntKind.wrap .i64 ((f131 (a0,())).1.2.1 - (1:Int))))) + ((f137 (a1,(a2.1,(f136 ((a2.1,a2.2),((Go.IntKind.wrap .i64 ((Go.IntKind.wrap .i64 ((f135 ((a2.1,a2.2),())).1 - (f131 (a0,())).1.2.1)) + (1:Int))),())))))).1.getD (Int.toNat (0:Int)) (0:Int))))),((0:Int),())))
  else none)
  else none)
  else none)
  else bif (p134 (a2.1,())) then
  (bif (p132 (a0,((f134 (a2.1,())).1,((0:Int),((0:Int),()))))) then
  (some ((Vx.orI Go.IntKind.u64 (f132 (a0,((f134 (a2.1,())).1,((0:Int),((0:Int),()))))).1 (Go.IntKind.wrap .u64 ((Vx.shlI Go.IntKind.u64 (Go.IntKind.wrap .u64 (Go.IntKind.wrap .i64 ((Go.IntKind.wrap .i64 ((Go.IntKind.wrap .i64 ((f135 ((a2.1,a2.2),())).1 - (f131 (a0,())).1.2.1)) + (1:Int))) - (Go.IntKind.wrap .i64 ((Go.IntKind.wrap .i64 ((f131 (a0,())).1.2.2.1 - (f131 (a0,())).1.2.1)) + (1:Int)))))) (Go.IntKind.wrap .u64 (Go.IntKind.wrap .i64 ((f131 (a0,())).1.2.1 - (1:Int))))) + (0:Int)))),((0:Int),())))
  else none)
  else none)
  else none)
  else none)
  else none)
  else none)
  else none)
  else none
theorem r88 (p133:DenS I133 → Bool) (f133:DenS I133 → DenS O133) (p114:DenS I114 → Bool) (f114:DenS I114 → DenS O114) (p131:DenS I131 → Bool) (f131:DenS I131 → DenS O131) (p135:DenS I135 → Bool) (f135:DenS I135 → DenS O135) (p139:DenS I139 → Bool) (f139:DenS I139 → DenS O139) (p136:DenS I136 → Bool) (f136:DenS I136 → DenS O136) (p137:DenS I137 → Bool) (f137:DenS I137 → DenS O137) (p138:DenS I138 → Bool) (f138:DenS I138 → DenS O138) (p134:DenS I134 → Bool) (f134:DenS I134 → DenS O134) (p132:DenS I132 → Bool) (f132:DenS I132 → DenS O132) (a0:Den (.int .i64)) (a1:Den (.int .i64)) (a2:Den (.pair (.bool) (.pair (.slice (.int .u64)) (.pair (.slice (.int .u64)) (.pair (.int .i64) (.unit)))))) :
    run { P:=Go.Proofs.Tryz.prog,sums:=[(69,⟨I133,O133,p133,f133⟩),(40,⟨I114,O114,p114,f114⟩),(63,⟨I131,O131,p131,f131⟩),(71,⟨I135,O135,p135,f135⟩),(75,⟨I139,O139,p139,f139⟩),(72,⟨I136,O136,p136,f136⟩),(73,⟨I137,O137,p137,f137⟩),(74,⟨I138,O138,p138,f138⟩),(70,⟨I134,O134,p134,f134⟩),(67,⟨I132,O132,p132,f132⟩)],loops:=[],globs:=G1 } 9 28 Go.Proofs.Tryz.f28 I88 O88 (a0,a1,a2,()) = t88 p133 f133 p114 f114 p131 f131 p135 f135 p139 f139 p136 f136 p137 f137 p138 f138 p134 f134 p132 f132 a0 a1 a2:=by kernel_rfl
noncomputable def T88 (x:DenS I88):Option (DenS O88):=t88 S133.pre S133.F S114.pre S114.F S131.pre S131.F S135.pre S135.F S139.pre S139.F S136.pre S136.F S137.pre S137.F S138.pre S138.F S134.pre S134.F S132.pre S132.F x.1 x.2.1 x.2.2.1
noncomputable def C88:Cfg:={ P:=Go.Proofs.Tryz.prog,sums:=[(69,S133),(40,S114),(63,S131),(71,S135),(75,S139),(72,S136),(73,S137),(74,S138),(70,S134),(67,S132)],loops:=[],globs:=G1 }
noncomputable def S88:Sum:=sumOf I88 O88 T88 (DenS.dflt O88)
theorem S88_sound:Sound Go.Proofs.Tryz.prog G1 28 S88 :=
  fn_sound C88 9 28 Go.Proofs.Tryz.f28 mixedOk (by kernel_rfl) (by kernel_rfl) (by kernel_rfl) ⟨S133_sound,⟨S114_sound,⟨S131_sound,⟨S135_sound,⟨S139_sound,⟨S136_sound,⟨S137_sound,⟨S138_sound,⟨S134_sound,⟨S132_sound,trivial⟩⟩⟩⟩⟩⟩⟩⟩⟩⟩ trivial I88 O88 T88 _ (fun x=>r88 S133.pre S133.F S114.pre S114.F S131.pre S131.F S135.pre S135.F S139.pre S139.F S136.pre S136.F S137.pre S137.F S138.pre S138.F S134.pre S134.F S132.pre S132.F x.1 x.2.1 x.2.2.1)
abbrev I323:Sig:=[(false,.int .i64)]
abbrev O323:Sig:=[(false,.bool)]
noncomputable def t323 (a0:Den (.int .i64)):Option (DenS O323) :=
  some (((a0 == (2:Int)) || (a0 == (9:Int))),())
theorem r323 (a0:Den (.int .i64)) :
    run { P:=Go.Proofs.Tryz.prog,sums:=[],loops:=[],globs:=G1 } 9 30 Go.Proofs.Tryz.f30 I323 O323 (a0,()) = t323 a0:=by kernel_rfl
noncomputable def T323 (x:DenS I323):Option (DenS O323):=t323 x.1
noncomputable def C323:Cfg:={ P:=Go.Proofs.Tryz.prog,sums:=[],loops:=[],globs:=G1 }
noncomputable def S323:Sum:=sumOf I323 O323 T323 (DenS.dflt O323)
theorem S323_sound:Sound Go.Proofs.Tryz.prog G1 30 S323 :=
  fn_sound C323 9 30 Go.Proofs.Tryz.f30 mixedOk (by kernel_rfl) (by kernel_rfl) (by kernel_rfl) trivial trivial I323 O323 T323 _ (fun x=>r323 x.1)
abbrev I324:Sig:=[(false,.slice (.int .u64)),(false,.slice (.int .u64))]
abbrev O324:Sig:=[(false,.slice (.int .u64))]
abbrev P324_4:Pat:=⟨84,[(25,.one (.v .i64)),(24,.one (.sl (.int .u64))),(1,.one (.sl (.int .u64))),(26,.one (.v .i64)),(5,.one (.own 0))],[.arr (.int .u64)]⟩
abbrev A324_4:List (Nat × Shape):=[]
abbrev X324_4:List (Nat × Pat):=[(0,⟨84,[(5,.one (.own 0))],[.arr (.int .u64)]⟩)]
abbrev Q324_4:Option Pat:=none
abbrev P324_8:Pat:=⟨84,[(32,.one (.v .i64)),(31,.one (.sl (.int .u64))),(7,.one (.v .u64)),(33,.one (.v .i64)),(6,.one (.v .i64)),(8,.one (.v .u64)),(26,.one (.v .i64)),(25,.one (.v .i64)),(24,.one (.sl (.int .u64))),(1,.one (.sl (.int .u64))),(5,.one (.own 0))],[.arr (.int .u64)]⟩
abbrev A324_8:List (Nat × Shape):=[]
abbrev X324_8:List (Nat × Pat):=[(2,⟨84,[(6,.one (.v .i64)),(8,.one (.v .u64)),(26,.one (.v .i64)),(25,.one (.v .i64)),(24,.one (.sl (.int .u64))),(1,.one (.sl (.int .u64))),(5,.one (.own 0))],[.arr (.int .u64)]⟩)]
abbrev Q324_8:Option Pat:=none
noncomputable def h324_8 (p315:DenS I315 → Bool) (f315:DenS I315 → DenS O315) (p155:DenS I155 → Bool) (f155:DenS I155 → DenS O155) (p173:DenS I173 → Bool) (f173:DenS I173 → DenS O173) {R:Type} (L:Pat.D P324_8 → Option R) (e:OutT X324_8 Q324_8 → Option R) (x:Pat.D P324_8):Option R :=
  let e10_:=(x.1.2.2.1,((x.1.2.1.getD (Int.toNat x.1.2.2.2.1) (0:Int)),()))
  let e8_:=(f315 e10_)
  let e11_:=(Go.IntKind.wrap .i64 (x.1.2.2.2.2.1 + x.1.2.2.2.1))
  let e9_:=(Int.toNat e11_)
  let e7_:=(f155 (e8_.2.1,((x.2.1.getD e9_ (0:Int)),((0:Int),()))))
  let e1_:=(f155 (e7_.1,(x.1.2.2.2.2.2.1,((0:Int),()))))
  let e2_:=e7_
  let e3_:=((decide ((0:Int) ≤ e11_)) && (decide (e11_ < (x.2.1.length:Int))))
  let e4_:=(x.1.2.2.2.2.2.2.1,(x.1.2.2.2.2.2.2.2.1,(x.1.2.2.2.2.2.2.2.2.1,(x.1.2.2.2.2.2.2.2.2.2.1,((),())))))
  let e5_:=e8_
  let e6_:=e9_
  bif (decide (x.1.2.2.2.1 < x.1.1)) then
  (bif ((decide ((0:Int) ≤ x.1.2.2.2.1)) && (decide (x.1.2.2.2.1 < (x.1.2.1.length:Int)))) then
  (bif (p315 e10_) then
  (bif e3_ then
  (bif (p155 (e5_.2.1,((x.2.1.getD e6_ (0:Int)),((0:Int),())))) then
  (bif (p155 (e2_.1,(x.1.2.2.2.2.2.1,((0:Int),())))) then
  (bif e3_ then
  ((L ((x.1.1,(x.1.2.1,(x.1.2.2.1,((Go.IntKind.wrap .i64 (x.1.2.2.2.1 + (1:Int))),(x.1.2.2.2.2.1,((Go.IntKind.wrap .u64 ((Go.IntKind.wrap .u64 (e5_.1 + e2_.2.1)) + e1_.2.1)),e4_)))))),((x.2.1.set e6_ e1_.1),()))))
  else none)
  else none)
  else none)
  else none)
  else none)
  else none)
  else (e (.inl ((x.1.2.2.2.2.1,(x.1.2.2.2.2.2.1,e4_)),x.2)))
theorem s324_8 (p315:DenS I315 → Bool) (f315:DenS I315 → DenS O315) (p155:DenS I155 → Bool) (f155:DenS I155 → DenS O155) (p173:DenS I173 → Bool) (f173:DenS I173 → DenS O173) (w324_4:Pat.D P324_4 → Option (OutT X324_4 Q324_4)) (w324_8:Pat.D P324_8 → Option (OutT X324_8 Q324_8)) (d:Nat) (R:Type) (L:Pat.D P324_8 → Option R) (e:OutT X324_8 Q324_8 → Option R) (x:Pat.D P324_8) :
    lStep { P:=Go.Proofs.Tryz.prog,sums:=[(97,⟨I315,O315,p315,f315⟩),(81,⟨I155,O155,p155,f155⟩),(80,⟨I173,O173,p173,f173⟩)],loops:=[(88,4,LoopSpec.of P324_4 A324_4 X324_4 Q324_4 w324_4),(88,8,LoopSpec.of P324_8 A324_8 X324_8 Q324_8 w324_8)],globs:=G1 } (d + 2) 88 (bodyOf Go.Proofs.Tryz.f88 8) P324_8 A324_8 X324_8 Q324_8 (R:=R) L e x = h324_8 p315 f315 p155 f155 p173 f173 L e x:=by kernel_rfl
theorem m324_8 (p315:DenS I315 → Bool) (f315:DenS I315 → DenS O315) (p155:DenS I155 → Bool) (f155:DenS I155 → DenS O155) (p173:DenS I173 → Bool) (f173:DenS I173 → DenS O173):Par fun L e x=>h324_8 p315 f315 p155 f155 p173 f173 L e x:=by
  intro A B rel L L' e e' h0 hL he x
  unfold h324_8
  repeat' (first | exact h0 | exact hL _ | exact he _ | apply rel_cond | (apply rel_obind h0; intro _) | (apply rel_obind2 <;> intro _))
noncomputable def h324_4 (p315:DenS I315 → Bool) (f315:DenS I315 → DenS O315) (p155:DenS I155 → Bool) (f155:DenS I155 → DenS O155) (p173:DenS I173 → Bool) (f173:DenS I173 → DenS O173) (w324_8:Pat.D P324_8 → Option (OutT X324_8 Q324_8)) {R:Type} (L:Pat.D P324_4 → Option R) (e:OutT X324_4 Q324_4 → Option R) (x:Pat.D P324_4):Option R :=
  bif (decide (x.1.2.2.2.1 < x.1.1)) then
  (bif ((decide ((0:Int) ≤ x.1.2.2.2.1)) && (decide (x.1.2.2.2.1 < (x.1.2.1.length:Int)))) then
  (Vx.obind (w324_8 (((x.1.2.2.1.length:Int),(x.1.2.2.1,((x.1.2.1.getD (Int.toNat x.1.2.2.2.1) (0:Int)),((0:Int),(x.1.2.2.2.1,((0:Int),(x.1.2.2.2.1,(x.1.1,(x.1.2.1,(x.1.2.2.1,((),()))))))))))),x.2)) fun y2 =>
  Vx.obind2 y2 (fun y3 =>
  bif ((decide ((0:Int) ≤ (Go.IntKind.wrap .i64 (y3.1.1 + (y3.1.2.2.2.2.2.1.length:Int))))) && (decide ((Go.IntKind.wrap .i64 (y3.1.1 + (y3.1.2.2.2.2.2.1.length:Int))) < (y3.2.1.length:Int)))) then
  ((L ((y3.1.2.2.2.1,(y3.1.2.2.2.2.1,(y3.1.2.2.2.2.2.1,((Go.IntKind.wrap .i64 (y3.1.2.2.1 + (1:Int))),((),()))))),((y3.2.1.set (Int.toNat (Go.IntKind.wrap .i64 (y3.1.1 + (y3.1.2.2.2.2.2.1.length:Int)))) y3.1.2.1),()))))
  else none) (fun z3 =>
  none))
  else none)
  else (e (.inl (((),()),x.2)))
theorem s324_4 (p315:DenS I315 → Bool) (f315:DenS I315 → DenS O315) (p155:DenS I155 → Bool) (f155:DenS I155 → DenS O155) (p173:DenS I173 → Bool) (f173:DenS I173 → DenS O173) (w324_4:Pat.D P324_4 → Option (OutT X324_4 Q324_4)) (w324_8:Pat.D P324_8 → Option (OutT X324_8 Q324_8)) (d:Nat) (R:Type) (L:Pat.D P324_4 → Option R) (e:OutT X324_4 Q324_4 → Option R) (x:Pat.D P324_4) :
    lStep { P:=Go.Proofs.Tryz.prog,sums:=[(97,⟨I315,O315,p315,f315⟩),(81,⟨I155,O155,p155,f155⟩),(80,⟨I173,O173,p173,f173⟩)],loops:=[(88,4,LoopSpec.of P324_4 A324_4 X324_4 Q324_4 w324_4),(88,8,LoopSpec.of P324_8 A324_8 X324_8 Q324_8 w324_8)],globs:=G1 } (d + 2) 88 (bodyOf Go.Proofs.Tryz.f88 4) P324_4 A324_4 X324_4 Q324_4 (R:=R) L e x = h324_4 p315 f315 p155 f155 p173 f173 w324_8 L e x:=by kernel_rfl
theorem m324_4 (p315:DenS I315 → Bool) (f315:DenS I315 → DenS O315) (p155:DenS I155 → Bool) (f155:DenS I155 → DenS O155) (p173:DenS I173 → Bool) (f173:DenS I173 → DenS O173) (w324_8:Pat.D P324_8 → Option (OutT X324_8 Q324_8)):Par fun L e x=>h324_4 p315 f315 p155 f155 p173 f173 w324_8 L e x:=by
  intro A B rel L L' e e' h0 hL he x
  unfold h324_4
  repeat' (first | exact h0 | exact hL _ | exact he _ | apply rel_cond | (apply rel_obind h0; intro _) | (apply rel_obind2 <;> intro _))
noncomputable def t324 (p315:DenS I315 → Bool) (f315:DenS I315 → DenS O315) (p155:DenS I155 → Bool) (f155:DenS I155 → DenS O155) (p173:DenS I173 → Bool) (f173:DenS I173 → DenS O173) (w324_4:Pat.D P324_4 → Option (OutT X324_4 Q324_4)) (w324_8:Pat.D P324_8 → Option (OutT X324_8 Q324_8)) (a0:Den (.slice (.int .u64))) (a1:Den (.slice (.int .u64))):Option (DenS O324) :=
  let e1_:=(Go.IntKind.wrap .i64 (((f173 (a0,())).1.length:Int) + ((f173 (a1,())).1.length:Int)))
  bif (p173 (a0,())) then
  (bif (p173 (a1,())) then
  (bif ((decide ((0:Int) ≤ e1_)) && (decide ((e1_ * (8:Int)) ≤ (140737488355328:Int)))) then
  (Vx.obind (w324_4 ((((f173 (a0,())).1.length:Int),((f173 (a0,())).1,((f173 (a1,())).1,((0:Int),((),()))))),((List.replicate (Int.toNat e1_) (0:Int)),()))) fun y3 =>
  Vx.obind2 y3 (fun y4 =>
  bif (p173 y4.2) then
  (some (f173 y4.2))
  else none) (fun z4 =>
  none))
  else none)
  else none)
  else none
theorem r324 (p315:DenS I315 → Bool) (f315:DenS I315 → DenS O315) (p155:DenS I155 → Bool) (f155:DenS I155 → DenS O155) (p173:DenS I173 → Bool) (f173:DenS I173 → DenS O173) (w324_4:Pat.D P324_4 → Option (OutT X324_4 Q324_4)) (w324_8:Pat.D P324_8 → Option (OutT X324_8 Q324_8)) (a0:Den (.slice (.int .u64))) (a1:Den (.slice (.int .u64))) :
    run { P:=Go.Proofs.Tryz.prog,sums:=[(97,⟨I315,O315,p315,f315⟩),(81,⟨I155,O155,p155,f155⟩),(80,⟨I173,O173,p173,f173⟩)],loops:=[(88,4,LoopSpec.of P324_4 A324_4 X324_4 Q324_4 w324_4),(88,8,LoopSpec.of P324_8 A324_8 X324_8 Q324_8 w324_8)],globs:=G1 } 9 88 Go.Proofs.Tryz.f88 I324 O324 (a0,a1,()) = t324 p315 f315 p155 f155 p173 f173 w324_4 w324_8 a0 a1:=by kernel_rfl
noncomputable def W324_8:P324_8.D → Option (OutT X324_8 Q324_8):=lfix fun L=>h324_8 S315.pre S315.F S155.pre S155.F S173.pre S173.F L some
noncomputable def W324_4:P324_4.D → Option (OutT X324_4 Q324_4):=lfix fun L=>h324_4 S315.pre S315.F S155.pre S155.F S173.pre S173.F W324_8 L some
noncomputable def T324 (x:DenS I324):Option (DenS O324):=t324 S315.pre S315.F S155.pre S155.F S173.pre S173.F W324_4 W324_8 x.1 x.2.1
noncomputable def C324:Cfg:={ P:=Go.Proofs.Tryz.prog,sums:=[(97,S315),(81,S155),(80,S173)],loops:=[(88,4,LoopSpec.of P324_4 A324_4 X324_4 Q324_4 W324_4),(88,8,LoopSpec.of P324_8 A324_8 X324_8 Q324_8 W324_8)],globs:=G1 }
noncomputable def S324:Sum:=sumOf I324 O324 T324 (DenS.dflt O324)
theorem S324_sound:Sound Go.Proofs.Tryz.prog G1 88 S324 :=
  fn_sound C324 9 88 Go.Proofs.Tryz.f88 mixedOk (by kernel_rfl) (by kernel_rfl) (by kernel_rfl) ⟨S315_sound,⟨S155_sound,⟨S173_sound,trivial⟩⟩⟩ ⟨rfl,fun d=>loopOk_of (fun L e x=>h324_4 S315.pre S315.F S155.pre S155.F S173.pre S173.F W324_8 L e x) (m324_4 S315.pre S315.F S155.pre S155.F S173.pre S173.F W324_8) (fun R L e x=>s324_4 S315.pre S315.F S155.pre S155.F S173.pre S173.F W324_4 W324_8 d R L e x),⟨rfl,fun d=>loopOk_of (fun L e x=>h324_8 S315.pre S315.F S155.pre S155.F S173.pre S173.F L e x) (m324_8 S315.pre S315.F S155.pre S155.F S173.pre S173.F) (fun R L e x=>s324_8 S315.pre S315.F S155.pre S155.F S173.pre S173.F W324_4 W324_8 d R L e x),trivial⟩⟩ I324 O324 T324 _ (fun x=>r324 S315.pre S315.F S155.pre S155.F S173.pre S173.F W324_4 W324_8 x.1 x.2.1)
abbrev I325:Sig:=[(false,.slice (.int .u64)),(false,.slice (.int .u64))]
abbrev O325:Sig:=[(false,.slice (.int .u64)),(false,.int .i64)]
noncomputable def t325 (p324:DenS I324 → Bool) (f324:DenS I324 → DenS O324) (p185:DenS I185 → Bool) (f185:DenS I185 → DenS O185) (a0:Den (.slice (.int .u64))) (a1:Den (.slice (.int .u64))):Option (DenS O325) :=
  bif (p185 ((a0 :: (a1 :: [])),())) then
  (bif (f185 ((a0 :: (a1 :: [])),())).1 then
  (some ([],((5:Int),())))
  else bif (p324 (a0,(a1,()))) then
  (bif (p185 (((f324 (a0,(a1,()))).1 :: []),())) then
  (bif (f185 (((f324 (a0,(a1,()))).1 :: []),())).1 then
  (some ([],((5:Int),())))
  else some ((f324 (a0,(a1,()))).1,((0:Int),())))
  else none)
  else none)
  else none
theorem r325 (p324:DenS I324 → Bool) (f324:DenS I324 → DenS O324) (p185:DenS I185 → Bool) (f185:DenS I185 → DenS O185) (a0:Den (.slice (.int .u64))) (a1:Den (.slice (.int .u64))) :
    run { P:=Go.Proofs.Tryz.prog,sums:=[(88,⟨I324,O324,p324,f324⟩),(83,⟨I185,O185,p185,f185⟩)],loops:=[],globs:=G1 } 9 82 Go.Proofs.Tryz.f82 I325 O325 (a0,a1,()) = t325 p324 f324 p185 f185 a0 a1:=by kernel_rfl
noncomputable def T325 (x:DenS I325):Option (DenS O325):=t325 S324.pre S324.F S185.pre S185.F x.1 x.2.1
noncomputable def C325:Cfg:={ P:=Go.Proofs.Tryz.prog,sums:=[(88,S324),(83,S185)],loops:=[],globs:=G1 }
noncomputable def S325:Sum:=sumOf I325 O325 T325 (DenS.dflt O325)
theorem S325_sound:Sound Go.Proofs.Tryz.prog G1 82 S325 :=
  fn_sound C325 9 82 Go.Proofs.Tryz.f82 mixedOk (by kernel_rfl) (by kernel_rfl) (by kernel_rfl) ⟨S324_sound,⟨S185_sound,trivial⟩⟩ trivial I325 O325 T325 _ (fun x=>r325 S324.pre S324.F S185.pre S185.F x.1 x.2.1)
abbrev I326:Sig:=[(false,.int .u64),(false,.int .i64)]
abbrev O326:Sig:=[(false,.slice (.int .u64))]
noncomputable def t326 (p325:DenS I325 → Bool) (f325:DenS I325 → DenS O325) (p176:DenS I176 → Bool) (f176:DenS I176 → DenS O176) (a0:Den (.int .u64)) (a1:Den (.int .i64)):Option (DenS O326) :=
  let e1_:=((f325 ((a0 :: []),((a0 :: []),()))).1,((Go.IntKind.wrap .i64 ((2:Int) * a1)),()))
  bif (a0 == (0:Int)) then
  (some ([],()))
  else bif (p325 ((a0 :: []),((a0 :: []),()))) then
  (bif (p176 e1_) then
  (some ((f176 e1_).1,()))
  else none)
  else none
theorem r326 (p325:DenS I325 → Bool) (f325:DenS I325 → DenS O325) (p176:DenS I176 → Bool) (f176:DenS I176 → DenS O176) (a0:Den (.int .u64)) (a1:Den (.int .i64)) :
    run { P:=Go.Proofs.Tryz.prog,sums:=[(82,⟨I325,O325,p325,f325⟩),(36,⟨I176,O176,p176,f176⟩)],loops:=[],globs:=G1 } 9 35 Go.Proofs.Tryz.f35 I326 O326 (a0,a1,()) = t326 p325 f325 p176 f176 a0 a1:=by kernel_rfl
noncomputable def T326 (x:DenS I326):Option (DenS O326):=t326 S325.pre S325.F S176.pre S176.F x.1 x.2.1
noncomputable def C326:Cfg:={ P:=Go.Proofs.Tryz.prog,sums:=[(82,S325),(36,S176)],loops:=[],globs:=G1 }
noncomputable def S326:Sum:=sumOf I326 O326 T326 (DenS.dflt O326)
theorem S326_sound:Sound Go.Proofs.Tryz.prog G1 35 S326 :=
  fn_sound C326 9 35 Go.Proofs.Tryz.f35 mixedOk (by kernel_rfl) (by kernel_rfl) (by kernel_rfl) ⟨S325_sound,⟨S176_sound,trivial⟩⟩ trivial I326 O326 T326 _ (fun x=>r326 S325.pre S325.F S176.pre S176.F x.1 x.2.1)
abbrev I1146:Sig:=[(false,.slice (.int .u64))]
abbrev O1146:Sig:=[(true,.slice (.int .u64))]
noncomputable def t1146 (p173:DenS I173 → Bool) (f173:DenS I173 → DenS O173) (a0:Den (.slice (.int .u64))):Option (DenS O1146) :=
  bif (p173 (a0,())) then
  (bif ((decide ((0:Int) ≤ ((f173 (a0,())).1.length:Int))) && (decide ((((f173 (a0,())).1.length:Int) * (8:Int)) ≤ (140737488355328:Int)))) then
  (some ((((f173 (a0,())).1.take (List.replicate (Int.toNat ((f173 (a0,())).1.length:Int)) (0:Int)).length) ++ ((List.replicate (Int.toNat ((f173 (a0,())).1.length:Int)) (0:Int)).drop (f173 (a0,())).1.length)),()))
  else none)
  else none
theorem r1146 (p173:DenS I173 → Bool) (f173:DenS I173 → DenS O173) (a0:Den (.slice (.int .u64))) :
    run { P:=Go.Proofs.Tryz.prog,sums:=[(80,⟨I173,O173,p173,f173⟩)],loops:=[],globs:=G1,keep:=true } 9 99 Go.Proofs.Tryz.f99 I1146 O1146 (a0,()) = t1146 p173 f173 a0:=by kernel_rfl
noncomputable def T1146 (x:DenS I1146):Option (DenS O1146):=t1146 S173.pre S173.F x.1
noncomputable def C1146:Cfg:={ P:=Go.Proofs.Tryz.prog,sums:=[(80,S173)],loops:=[],globs:=G1,keep:=true }
noncomputable def S1146:Sum:=sumOf I1146 O1146 T1146 (DenS.dflt O1146)
theorem S1146_sound:Sound Go.Proofs.Tryz.prog G1 99 S1146 :=
  fn_sound C1146 9 99 Go.Proofs.Tryz.f99 mixedOk (by kernel_rfl) (by kernel_rfl) (by kernel_rfl) ⟨S173_sound,trivial⟩ trivial I1146 O1146 T1146 _ (fun x=>r1146 S173.pre S173.F x.1)
abbrev I327:Sig:=[(false,.int .u64)]
abbrev O327:Sig:=[(false,.int .i64)]
noncomputable def t327 (p178:DenS I178 → Bool) (f178:DenS I178 → DenS O178) (a0:Den (.int .u64)):Option (DenS O327) :=
  bif (p178 (a0,())) then
  (some ((Go.IntKind.wrap .i64 ((64:Int) - (f178 (a0,())).1)),()))
  else none
theorem r327 (p178:DenS I178 → Bool) (f178:DenS I178 → DenS O178) (a0:Den (.int .u64)) :
    run { P:=Go.Proofs.Tryz.prog,sums:=[(55,⟨I178,O178,p178,f178⟩)],loops:=[],globs:=G1 } 9 107 Go.Proofs.Tryz.f107 I327 O327 (a0,()) = t327 p178 f178 a0:=by kernel_rfl
noncomputable def T327 (x:DenS I327):Option (DenS O327):=t327 S178.pre S178.F x.1
noncomputable def C327:Cfg:={ P:=Go.Proofs.Tryz.prog,sums:=[(55,S178)],loops:=[],globs:=G1 }
noncomputable def S327:Sum:=sumOf I327 O327 T327 (DenS.dflt O327)
theorem S327_sound:Sound Go.Proofs.Tryz.prog G1 107 S327 :=
  fn_sound C327 9 107 Go.Proofs.Tryz.f107 mixedOk (by kernel_rfl) (by kernel_rfl) (by kernel_rfl) ⟨S178_sound,trivial⟩ trivial I327 O327 T327 _ (fun x=>r327 S178.pre S178.F x.1)
abbrev I328:Sig:=[(false,.int .u64),(false,.int .u64),(false,.int .u64)]
abbrev O328:Sig:=[(false,.int .u64),(false,.int .u64)]
abbrev P328_17:Pat:=⟨135,[(16,.one (.v .u64)),(11,.one (.v .u64)),(13,.one (.v .u64)),(10,.one (.v .u64)),(9,.one (.v .u64)),(15,.one (.v .u64)),(14,.one (.v .u64)),(2,.one (.v .u64)),(8,.one (.v .u64))],[]⟩
abbrev A328_17:List (Nat × Shape):=[]
abbrev X328_17:List (Nat × Pat):=[(0,⟨135,[(11,.one (.v .u64)),(13,.one (.v .u64)),(10,.one (.v .u64)),(9,.one (.v .u64)),(15,.one (.v .u64)),(14,.one (.v .u64)),(2,.one (.v .u64)),(8,.one (.v .u64))],[]⟩)]
abbrev Q328_17:Option Pat:=none
abbrev P328_24:Pat:=⟨135,[(10,.one (.v .u64)),(16,.one (.v .u64)),(9,.one (.v .u64)),(15,.one (.v .u64)),(17,.one (.v .u64)),(14,.one (.v .u64)),(18,.one (.v .u64)),(2,.one (.v .u64)),(8,.one (.v .u64))],[]⟩
abbrev A328_24:List (Nat × Shape):=[]
abbrev X328_24:List (Nat × Pat):=[(2,⟨135,[(15,.one (.v .u64)),(17,.one (.v .u64)),(14,.one (.v .u64)),(18,.one (.v .u64)),(2,.one (.v .u64)),(8,.one (.v .u64))],[]⟩)]
abbrev Q328_24:Option Pat:=none
noncomputable def h328_24 (p327:DenS I327 → Bool) (f327:DenS I327 → DenS O327) {R:Type} (L:Pat.D P328_24 → Option R) (e:OutT X328_24 Q328_24 → Option R) (x:Pat.D P328_24):Option R :=
  let e1_:=(x.1.2.2.2.1,(x.1.2.2.2.2.1,(x.1.2.2.2.2.2.1,((Go.IntKind.wrap .u64 (x.1.2.2.2.2.2.2.1 - (1:Int))),x.1.2.2.2.2.2.2.2))))
  let e2_:=(Go.IntKind.wrap .u64 (x.1.2.1 + x.1.2.2.1))
  bif ((decide (x.1.2.2.2.2.2.2.1 ≥ (4294967296:Int))) || (decide ((Go.IntKind.wrap .u64 (x.1.2.2.2.2.2.2.1 * x.1.1)) > (Go.IntKind.wrap .u64 ((Go.IntKind.wrap .u64 ((4294967296:Int) * x.1.2.1)) + x.1.2.2.2.2.2.1))))) then
  (bif (decide (e2_ ≥ (4294967296:Int))) then
  ((e (.inl (e1_,()))))
  else (L ((x.1.1,(e2_,(x.1.2.2.1,e1_))),())))
  else (e (.inl (x.1.2.2.2,())))
theorem s328_24 (p327:DenS I327 → Bool) (f327:DenS I327 → DenS O327) (w328_17:Pat.D P328_17 → Option (OutT X328_17 Q328_17)) (w328_24:Pat.D P328_24 → Option (OutT X328_24 Q328_24)) (d:Nat) (R:Type) (L:Pat.D P328_24 → Option R) (e:OutT X328_24 Q328_24 → Option R) (x:Pat.D P328_24) :
    lStep { P:=Go.Proofs.Tryz.prog,sums:=[(107,⟨I327,O327,p327,f327⟩)],loops:=[(115,17,LoopSpec.of P328_17 A328_17 X328_17 Q328_17 w328_17),(115,24,LoopSpec.of P328_24 A328_24 X328_24 Q328_24 w328_24)],globs:=G1 } (d + 2) 115 (bodyOf Go.Proofs.Tryz.f115 24) P328_24 A328_24 X328_24 Q328_24 (R:=R) L e x = h328_24 p327 f327 L e x:=by kernel_rfl
theorem m328_24 (p327:DenS I327 → Bool) (f327:DenS I327 → DenS O327):Par fun L e x=>h328_24 p327 f327 L e x:=by
  intro A B rel L L' e e' h0 hL he x
  unfold h328_24
  repeat' (first | exact h0 | exact hL _ | exact he _ | apply rel_cond | (apply rel_obind h0; intro _) | (apply rel_obind2 <;> intro _))
noncomputable def h328_17 (p327:DenS I327 → Bool) (f327:DenS I327 → DenS O327) {R:Type} (L:Pat.D P328_17 → Option R) (e:OutT X328_17 Q328_17 → Option R) (x:Pat.D P328_17):Option R :=
  let e1_:=(x.1.2.1,(x.1.2.2.1,(x.1.2.2.2.1,(x.1.2.2.2.2.1,((Go.IntKind.wrap .u64 (x.1.2.2.2.2.2.1 - (1:Int))),x.1.2.2.2.2.2.2)))))
  let e2_:=(Go.IntKind.wrap .u64 (x.1.1 + x.1.2.2.2.2.1))
  bif ((decide (x.1.2.2.2.2.2.1 ≥ (4294967296:Int))) || (decide ((Go.IntKind.wrap .u64 (x.1.2.2.2.2.2.1 * x.1.2.2.2.1)) > (Go.IntKind.wrap .u64 ((Go.IntKind.wrap .u64 ((4294967296:Int) * x.1.1)) + x.1.2.2.1))))) then
  (bif (decide (e2_ ≥ (4294967296:Int))) then
  ((e (.inl (e1_,()))))
  else (L ((e2_,e1_),())))
  else (e (.inl (x.1.2,())))
theorem s328_17 (p327:DenS I327 → Bool) (f327:DenS I327 → DenS O327) (w328_17:Pat.D P328_17 → Option (OutT X328_17 Q328_17)) (w328_24:Pat.D P328_24 → Option (OutT X328_24 Q328_24)) (d:Nat) (R:Type) (L:Pat.D P328_17 → Option R) (e:OutT X328_17 Q328_17 → Option R) (x:Pat.D P328_17) :
    lStep { P:=Go.Proofs.Tryz.prog,sums:=[(107,⟨I327,O327,p327,f327⟩)],loops:=[(115,17,LoopSpec.of P328_17 A328_17 X328_17 Q328_17 w328_17),(115,24,LoopSpec.of P328_24 A328_24 X328_24 Q328_24 w328_24)],globs:=G1 } (d + 2) 115 (bodyOf Go.Proofs.Tryz.f115 17) P328_17 A328_17 X328_17 Q328_17 (R:=R) L e x = h328_17 p327 f327 L e x:=by kernel_rfl
theorem m328_17 (p327:DenS I327 → Bool) (f327:DenS I327 → DenS O327):Par fun L e x=>h328_17 p327 f327 L e x:=by
  intro A B rel L L' e e' h0 hL he x
  unfold h328_17
  repeat' (first | exact h0 | exact hL _ | exact he _ | apply rel_cond | (apply rel_obind h0; intro _) | (apply rel_obind2 <;> intro _))
noncomputable def t328 (p327:DenS I327 → Bool) (f327:DenS I327 → DenS O327) (w328_17:Pat.D P328_17 → Option (OutT X328_17 Q328_17)) (w328_24:Pat.D P328_24 → Option (OutT X328_24 Q328_24)) (a0:Den (.int .u64)) (a1:Den (.int .u64)) (a2:Den (.int .u64)):Option (DenS O328) :=
  let e9_:=(Go.IntKind.wrap .u64 (f327 (a2,())).1)
  let e6_:=(Vx.orI Go.IntKind.u64 (Vx.shlI Go.IntKind.u64 a0 e9_) (Vx.shrI Go.IntKind.u64 a1 (Go.IntKind.wrap .u64 ((64:Int) - e9_))))
  let e8_:=(Vx.shlI Go.IntKind.u64 a2 e9_)
  let e7_:=(Vx.shrI Go.IntKind.u64 e8_ (32:Int))
  let e1_:=(Vx.quoI Go.IntKind.u64 e6_ e7_)
  let e2_:=e6_
  let e3_:=e7_
  let e4_:=(Vx.shlI Go.IntKind.u64 a1 e9_)
  let e5_:=e8_
  bif (a2 == (0:Int)) then
    (none)
  else bif (decide (a2 ≤ a0)) then
    (none)
  else bif (a0 == (0:Int)) then
  (bif (a2 != (0:Int)) then
  (bif (a2 != (0:Int)) then
  (some ((Vx.quoI Go.IntKind.u64 a1 a2),((Int.tmod a1 a2),())))
  else none)
  else none)
  else bif (p327 (a2,())) then
  (bif (e3_ != (0:Int)) then
  (Vx.obind (w328_17 (((Go.IntKind.wrap .u64 (e2_ - (Go.IntKind.wrap .u64 (e1_ * e3_)))),(e2_,((Vx.shrI Go.IntKind.u64 e4_ (32:Int)),((Vx.andI Go.IntKind.u64 e5_ (4294967295:Int)),(e3_,(e1_,((Vx.andI Go.IntKind.u64 e4_ (4294967295:Int)),(e5_,(e9_,()))))))))),())) fun y5 =>
  Vx.obind2 y5 (fun y6 =>
  bif (y6.1.2.2.2.1 != (0:Int)) then
  (Vx.obind (w328_24 ((y6.1.2.2.1,((Go.IntKind.wrap .u64 ((Go.IntKind.wrap .u64 ((Go.IntKind.wrap .u64 ((Go.IntKind.wrap .u64 (y6.1.1 * (4294967296:Int))) + y6.1.2.1)) - (Go.IntKind.wrap .u64 (y6.1.2.2.2.2.1 * y6.1.2.2.2.2.2.2.1)))) - (Go.IntKind.wrap .u64 ((Vx.quoI Go.IntKind.u64 (Go.IntKind.wrap .u64 ((Go.IntKind.wrap .u64 ((Go.IntKind.wrap .u64 (y6.1.1 * (4294967296:Int))) + y6.1.2.1)) - (Go.IntKind.wrap .u64 (y6.1.2.2.2.2.1 * y6.1.2.2.2.2.2.2.1)))) y6.1.2.2.2.1) * y6.1.2.2.2.1)))),(y6.1.2.2.2.1,(y6.1.2.2.2.2.1,((Go.IntKind.wrap .u64 ((Go.IntKind.wrap .u64 ((Go.IntKind.wrap .u64 (y6.1.1 * (4294967296:Int))) + y6.1.2.1)) - (Go.IntKind.wrap .u64 (y6.1.2.2.2.2.1 * y6.1.2.2.2.2.2.2.1)))),(y6.1.2.2.2.2.2.1,((Vx.quoI Go.IntKind.u64 (Go.IntKind.wrap .u64 ((Go.IntKind.wrap .u64 ((Go.IntKind.wrap .u64 (y6.1.1 * (4294967296:Int))) + y6.1.2.1)) - (Go.IntKind.wrap .u64 (y6.1.2.2.2.2.1 * y6.1.2.2.2.2.2.2.1)))) y6.1.2.2.2.1),y6.1.2.2.2.2.2.2))))))),())) fun y8 =>
  Vx.obind2 y8 (fun y9 =>
  some ((Go.IntKind.wrap .u64 ((Go.IntKind.wrap .u64 (y9.1.1 * (4294967296:Int))) + y9.1.2.2.2.1)),((Vx.shrI Go.IntKind.u64 (Go.IntKind.wrap .u64 ((Go.IntKind.wrap .u64 ((Go.IntKind.wrap .u64 (y9.1.2.1 * (4294967296:Int))) + y9.1.2.2.1)) - (Go.IntKind.wrap .u64 (y9.1.2.2.2.1 * y9.1.2.2.2.2.1)))) y9.1.2.2.2.2.2.1),()))) (fun z9 =>
  none))
  else none) (fun z6 =>
  none))
  else none)
  else none
theorem r328 (p327:DenS I327 → Bool) (f327:DenS I327 → DenS O327) (w328_17:Pat.D P328_17 → Option (OutT X328_17 Q328_17)) (w328_24:Pat.D P328_24 → Option (OutT X328_24 Q328_24)) (a0:Den (.int .u64)) (a1:Den (.int .u64)) (a2:Den (.int .u64)) :
    run { P:=Go.Proofs.Tryz.prog,sums:=[(107,⟨I327,O327,p327,f327⟩)],loops:=[(115,17,LoopSpec.of P328_17 A328_17 X328_17 Q328_17 w328_17),(115,24,LoopSpec.of P328_24 A328_24 X328_24 Q328_24 w328_24)],globs:=G1 } 9 115 Go.Proofs.Tryz.f115 I328 O328 (a0,a1,a2,()) = t328 p327 f327 w328_17 w328_24 a0 a1 a2:=by kernel_rfl
noncomputable def W328_24:P328_24.D → Option (OutT X328_24 Q328_24):=lfix fun L=>h328_24 S327.pre S327.F L some
noncomputable def W328_17:P328_17.D → Option (OutT X328_17 Q328_17):=lfix fun L=>h328_17 S327.pre S327.F L some
noncomputable def T328 (x:DenS I328):Option (DenS O328):=t328 S327.pre S327.F W328_17 W328_24 x.1 x.2.1 x.2.2.1
noncomputable def C328:Cfg:={ P:=Go.Proofs.Tryz.prog,sums:=[(107,S327)],loops:=[(115,17,LoopSpec.of P328_17 A328_17 X328_17 Q328_17 W328_17),(115,24,LoopSpec.of P328_24 A328_24 X328_24 Q328_24 W328_24)],globs:=G1 }
noncomputable def S328:Sum:=sumOf I328 O328 T328 (DenS.dflt O328)
theorem S328_sound:Sound Go.Proofs.Tryz.prog G1 115 S328 :=
  fn_sound C328 9 115 Go.Proofs.Tryz.f115 mixedOk (by kernel_rfl) (by kernel_rfl) (by kernel_rfl) ⟨S327_sound,trivial⟩ ⟨rfl,fun d=>loopOk_of (fun L e x=>h328_17 S327.pre S327.F L e x) (m328_17 S327.pre S327.F) (fun R L e x=>s328_17 S327.pre S327.F W328_17 W328_24 d R L e x),⟨rfl,fun d=>loopOk_of (fun L e x=>h328_24 S327.pre S327.F L e x) (m328_24 S327.pre S327.F) (fun R L e x=>s328_24 S327.pre S327.F W328_17 W328_24 d R L e x),trivial⟩⟩ I328 O328 T328 _ (fun x=>r328 S327.pre S327.F W328_17 W328_24 x.1 x.2.1 x.2.2.1)
abbrev I1329:Sig:=[(true,.slice (.int .u64)),(false,.int .u64)]
abbrev O1329:Sig:=[(false,.slice (.int .u64)),(false,.int .u64)]
abbrev P1329_3:Pat:=⟨31,[(1,.one (.v .u64)),(7,.one (.v .i64)),(0,.one (.own 0)),(6,.one (.v .u64))],[.arr (.int .u64)]⟩
abbrev A1329_3:List (Nat × Shape):=[]
abbrev X1329_3:List (Nat × Pat):=[(0,⟨31,[(0,.one (.own 0)),(6,.one (.v .u64))],[.arr (.int .u64)]⟩)]
abbrev Q1329_3:Option Pat:=none
noncomputable def h1329_3 (p328:DenS I328 → Bool) (f328:DenS I328 → DenS O328) (p173:DenS I173 → Bool) (f173:DenS I173 → DenS O173) {R:Type} (L:Pat.D P1329_3 → Option R) (e:OutT X1329_3 Q1329_3 → Option R) (x:Pat.D P1329_3):Option R :=
  let e3_:=(x.1.2.2.2.1,((x.2.1.getD (Int.toNat x.1.2.1) (0:Int)),(x.1.1,())))
  let e1_:=(f328 e3_)
  let e2_:=((decide ((0:Int) ≤ x.1.2.1)) && (decide (x.1.2.1 < (x.2.1.length:Int))))
  bif (decide (x.1.2.1 ≥ (0:Int))) then
  (bif e2_ then
  (bif (p328 e3_) then
  (bif e2_ then
  ((L ((x.1.1,((Go.IntKind.wrap .i64 (x.1.2.1 - (1:Int))),((),e1_.2))),((x.2.1.set (Int.toNat x.1.2.1) e1_.1),()))))
  else none)
  else none)
  else none)
  else (e (.inl (((),x.1.2.2.2),x.2)))
theorem s1329_3 (p328:DenS I328 → Bool) (f328:DenS I328 → DenS O328) (p173:DenS I173 → Bool) (f173:DenS I173 → DenS O173) (w1329_3:Pat.D P1329_3 → Option (OutT X1329_3 Q1329_3)) (d:Nat) (R:Type) (L:Pat.D P1329_3 → Option R) (e:OutT X1329_3 Q1329_3 → Option R) (x:Pat.D P1329_3) :
    lStep { P:=Go.Proofs.Tryz.prog,sums:=[(115,⟨I328,O328,p328,f328⟩),(80,⟨I173,O173,p173,f173⟩)],loops:=[(106,3,LoopSpec.of P1329_3 A1329_3 X1329_3 Q1329_3 w1329_3)],globs:=G1,keep:=true } (d + 2) 106 (bodyOf Go.Proofs.Tryz.f106 3) P1329_3 A1329_3 X1329_3 Q1329_3 (R:=R) L e x = h1329_3 p328 f328 p173 f173 L e x:=by kernel_rfl
theorem m1329_3 (p328:DenS I328 → Bool) (f328:DenS I328 → DenS O328) (p173:DenS I173 → Bool) (f173:DenS I173 → DenS O173):Par fun L e x=>h1329_3 p328 f328 p173 f173 L e x:=by
  intro A B rel L L' e e' h0 hL he x
  unfold h1329_3
  repeat' (first | exact h0 | exact hL _ | exact he _ | apply rel_cond | (apply rel_obind h0; intro _) | (apply rel_obind2 <;> intro _))
noncomputable def t1329 (p328:DenS I328 → Bool) (f328:DenS I328 → DenS O328) (p173:DenS I173 → Bool) (f173:DenS I173 → DenS O173) (w1329_3:Pat.D P1329_3 → Option (OutT X1329_3 Q1329_3)) (a0:Den (.slice (.int .u64))) (a1:Den (.int .u64)):Option (DenS O1329) :=
  Vx.obind (w1329_3 ((a1,((Go.IntKind.wrap .i64 ((a0.length:Int) - (1:Int))),((),((0:Int),())))),(a0,()))) fun y0 =>
  Vx.obind2 y0 (fun y1 =>
  bif (p173 y1.2) then
  (some ((f173 y1.2).1,y1.1.2))
  else none) (fun z1 =>
  none)
theorem r1329 (p328:DenS I328 → Bool) (f328:DenS I328 → DenS O328) (p173:DenS I173 → Bool) (f173:DenS I173 → DenS O173) (w1329_3:Pat.D P1329_3 → Option (OutT X1329_3 Q1329_3)) (a0:Den (.slice (.int .u64))) (a1:Den (.int .u64)) :
    run { P:=Go.Proofs.Tryz.prog,sums:=[(115,⟨I328,O328,p328,f328⟩),(80,⟨I173,O173,p173,f173⟩)],loops:=[(106,3,LoopSpec.of P1329_3 A1329_3 X1329_3 Q1329_3 w1329_3)],globs:=G1,keep:=true } 9 106 Go.Proofs.Tryz.f106 I1329 O1329 (a0,a1,()) = t1329 p328 f328 p173 f173 w1329_3 a0 a1:=by kernel_rfl
noncomputable def W1329_3:P1329_3.D → Option (OutT X1329_3 Q1329_3):=lfix fun L=>h1329_3 S328.pre S328.F S173.pre S173.F L some
noncomputable def T1329 (x:DenS I1329):Option (DenS O1329):=t1329 S328.pre S328.F S173.pre S173.F W1329_3 x.1 x.2.1
noncomputable def C1329:Cfg:={ P:=Go.Proofs.Tryz.prog,sums:=[(115,S328),(80,S173)],loops:=[(106,3,LoopSpec.of P1329_3 A1329_3 X1329_3 Q1329_3 W1329_3)],globs:=G1,keep:=true }
noncomputable def S1329:Sum:=sumOf I1329 O1329 T1329 (DenS.dflt O1329)
theorem S1329_sound:Sound Go.Proofs.Tryz.prog G1 106 S1329 :=
  fn_sound C1329 9 106 Go.Proofs.Tryz.f106 mixedOk (by kernel_rfl) (by kernel_rfl) (by kernel_rfl) ⟨S328_sound,⟨S173_sound,trivial⟩⟩ ⟨rfl,fun d=>loopOk_of (fun L e x=>h1329_3 S328.pre S328.F S173.pre S173.F L e x) (m1329_3 S328.pre S328.F S173.pre S173.F) (fun R L e x=>s1329_3 S328.pre S328.F S173.pre S173.F W1329_3 d R L e x),trivial⟩ I1329 O1329 T1329 _ (fun x=>r1329 S328.pre S328.F S173.pre S173.F W1329_3 x.1 x.2.1)
abbrev I144:Sig:=[(false,.slice (.int .u64)),(false,.slice (.int .u64))]
abbrev O144:Sig:=[(false,.int .i64)]
abbrev P144_7:Pat:=⟨49,[(0,.one (.sl (.int .u64))),(1,.one (.sl (.int .u64))),(5,.one (.v .i64))],[]⟩
abbrev A144_7:List (Nat × Shape):=[]
abbrev X144_7:List (Nat × Pat):=[(1,⟨49,[],[]⟩)]
abbrev Q144_7:Option Pat:=(some ⟨49,[(4,.one (.v .i64))],[]⟩)
noncomputable def h144_7 (p173:DenS I173 → Bool) (f173:DenS I173 → DenS O173) {R:Type} (L:Pat.D P144_7 → Option R) (e:OutT X144_7 Q144_7 → Option R) (x:Pat.D P144_7):Option R :=
  bif (decide (x.1.2.2.1 ≥ (0:Int))) then
  (bif ((decide ((0:Int) ≤ x.1.2.2.1)) && (decide (x.1.2.2.1 < (x.1.1.length:Int)))) then
  (bif ((decide ((0:Int) ≤ x.1.2.2.1)) && (decide (x.1.2.2.1 < (x.1.2.1.length:Int)))) then
  (bif (decide ((x.1.1.getD (Int.toNat x.1.2.2.1) (0:Int)) < (x.1.2.1.getD (Int.toNat x.1.2.2.1) (0:Int)))) then
  ((e (.inr (((-(1:Int)),()),()))))
  else bif ((decide ((0:Int) ≤ x.1.2.2.1)) && (decide (x.1.2.2.1 < (x.1.1.length:Int)))) then
  (bif ((decide ((0:Int) ≤ x.1.2.2.1)) && (decide (x.1.2.2.1 < (x.1.2.1.length:Int)))) then
  (bif (decide ((x.1.1.getD (Int.toNat x.1.2.2.1) (0:Int)) > (x.1.2.1.getD (Int.toNat x.1.2.2.1) (0:Int)))) then
  ((e (.inr (((1:Int),()),()))))
  else (L ((x.1.1,(x.1.2.1,((Go.IntKind.wrap .i64 (x.1.2.2.1 - (1:Int))),()))),())))
  else none)
  else none)
  else none)
  else none)
  else (e (.inl ((),())))
theorem s144_7 (p173:DenS I173 → Bool) (f173:DenS I173 → DenS O173) (w144_7:Pat.D P144_7 → Option (OutT X144_7 Q144_7)) (d:Nat) (R:Type) (L:Pat.D P144_7 → Option R) (e:OutT X144_7 Q144_7 → Option R) (x:Pat.D P144_7) :
    lStep { P:=Go.Proofs.Tryz.prog,sums:=[(80,⟨I173,O173,p173,f173⟩)],loops:=[(87,7,LoopSpec.of P144_7 A144_7 X144_7 Q144_7 w144_7)],globs:=G1 } (d + 2) 87 (bodyOf Go.Proofs.Tryz.f87 7) P144_7 A144_7 X144_7 Q144_7 (R:=R) L e x = h144_7 p173 f173 L e x:=by kernel_rfl
theorem m144_7 (p173:DenS I173 → Bool) (f173:DenS I173 → DenS O173):Par fun L e x=>h144_7 p173 f173 L e x:=by
  intro A B rel L L' e e' h0 hL he x
  unfold h144_7
  repeat' (first | exact h0 | exact hL _ | exact he _ | apply rel_cond | (apply rel_obind h0; intro _) | (apply rel_obind2 <;> intro _))
noncomputable def t144 (p173:DenS I173 → Bool) (f173:DenS I173 → DenS O173) (w144_7:Pat.D P144_7 → Option (OutT X144_7 Q144_7)) (a0:Den (.slice (.int .u64))) (a1:Den (.slice (.int .u64))):Option (DenS O144) :=
  bif (p173 (a0,())) then
  (bif (p173 (a1,())) then
  (bif (decide (((f173 (a0,())).1.length:Int) < ((f173 (a1,())).1.length:Int))) then
  (some ((-(1:Int)),()))
  else bif (decide (((f173 (a0,())).1.length:Int) > ((f173 (a1,())).1.length:Int))) then
  (some ((1:Int),()))
  else Vx.obind (w144_7 (((f173 (a0,())).1,((f173 (a1,())).1,((Go.IntKind.wrap .i64 (((f173 (a0,())).1.length:Int) - (1:Int))),()))),())) fun y4 =>
  Vx.obind2 y4 (fun y5 =>
  some ((0:Int),())) (fun z5 =>
  some z5.1))
  else none)
  else none
theorem r144 (p173:DenS I173 → Bool) (f173:DenS I173 → DenS O173) (w144_7:Pat.D P144_7 → Option (OutT X144_7 Q144_7)) (a0:Den (.slice (.int .u64))) (a1:Den (.slice (.int .u64))) :
    run { P:=Go.Proofs.Tryz.prog,sums:=[(80,⟨I173,O173,p173,f173⟩)],loops:=[(87,7,LoopSpec.of P144_7 A144_7 X144_7 Q144_7 w144_7)],globs:=G1 } 9 87 Go.Proofs.Tryz.f87 I144 O144 (a0,a1,()) = t144 p173 f173 w144_7 a0 a1:=by kernel_rfl
noncomputable def W144_7:P144_7.D → Option (OutT X144_7 Q144_7):=lfix fun L=>h144_7 S173.pre S173.F L some
noncomputable def T144 (x:DenS I144):Option (DenS O144):=t144 S173.pre S173.F W144_7 x.1 x.2.1
noncomputable def C144:Cfg:={ P:=Go.Proofs.Tryz.prog,sums:=[(80,S173)],loops:=[(87,7,LoopSpec.of P144_7 A144_7 X144_7 Q144_7 W144_7)],globs:=G1 }
noncomputable def S144:Sum:=sumOf I144 O144 T144 (DenS.dflt O144)
theorem S144_sound:Sound Go.Proofs.Tryz.prog G1 87 S144 :=
  fn_sound C144 9 87 Go.Proofs.Tryz.f87 mixedOk (by kernel_rfl) (by kernel_rfl) (by kernel_rfl) ⟨S173_sound,trivial⟩ ⟨rfl,fun d=>loopOk_of (fun L e x=>h144_7 S173.pre S173.F L e x) (m144_7 S173.pre S173.F) (fun R L e x=>s144_7 S173.pre S173.F W144_7 d R L e x),trivial⟩ I144 O144 T144 _ (fun x=>r144 S173.pre S173.F W144_7 x.1 x.2.1)
abbrev I329:Sig:=[(false,.slice (.int .u64)),(false,.int .u64)]
abbrev O329:Sig:=[(false,.slice (.int .u64)),(false,.int .u64)]
abbrev P329_3:Pat:=⟨31,[(1,.one (.v .u64)),(7,.one (.v .i64)),(0,.one (.sl (.int .u64))),(6,.one (.v .u64))],[]⟩
abbrev A329_3:List (Nat × Shape):=[]
abbrev X329_3:List (Nat × Pat):=[(0,⟨31,[(0,.one (.sl (.int .u64))),(6,.one (.v .u64))],[]⟩)]
abbrev Q329_3:Option Pat:=none
noncomputable def h329_3 (p328:DenS I328 → Bool) (f328:DenS I328 → DenS O328) (p173:DenS I173 → Bool) (f173:DenS I173 → DenS O173) {R:Type} (L:Pat.D P329_3 → Option R) (e:OutT X329_3 Q329_3 → Option R) (x:Pat.D P329_3):Option R :=
  let e1_:=((decide ((0:Int) ≤ x.1.2.1)) && (decide (x.1.2.1 < (x.1.2.2.1.length:Int))))
  bif (decide (x.1.2.1 ≥ (0:Int))) then
  (bif e1_ then
  (bif (p328 (x.1.2.2.2.1,((x.1.2.2.1.getD (Int.toNat x.1.2.1) (0:Int)),(x.1.1,())))) then
  (bif e1_ then
          (none)
  else none)
  else none)
  else none)
  else (e (.inl (x.1.2.2,())))
theorem s329_3 (p328:DenS I328 → Bool) (f328:DenS I328 → DenS O328) (p173:DenS I173 → Bool) (f173:DenS I173 → DenS O173) (w329_3:Pat.D P329_3 → Option (OutT X329_3 Q329_3)) (d:Nat) (R:Type) (L:Pat.D P329_3 → Option R) (e:OutT X329_3 Q329_3 → Option R) (x:Pat.D P329_3) :
    lStep { P:=Go.Proofs.Tryz.prog,sums:=[(115,⟨I328,O328,p328,f328⟩),(80,⟨I173,O173,p173,f173⟩)],loops:=[(106,3,LoopSpec.of P329_3 A329_3 X329_3 Q329_3 w329_3)],globs:=G1 } (d + 2) 106 (bodyOf Go.Proofs.Tryz.f106 3) P329_3 A329_3 X329_3 Q329_3 (R:=R) L e x = h329_3 p328 f328 p173 f173 L e x:=by kernel_rfl
theorem m329_3 (p328:DenS I328 → Bool) (f328:DenS I328 → DenS O328) (p173:DenS I173 → Bool) (f173:DenS I173 → DenS O173):Par fun L e x=>h329_3 p328 f328 p173 f173 L e x:=by
  intro A B rel L L' e e' h0 hL he x
  unfold h329_3
  repeat' (first | exact h0 | exact hL _ | exact he _ | apply rel_cond | (apply rel_obind h0; intro _) | (apply rel_obind2 <;> intro _))
noncomputable def t329 (p328:DenS I328 → Bool) (f328:DenS I328 → DenS O328) (p173:DenS I173 → Bool) (f173:DenS I173 → DenS O173) (w329_3:Pat.D P329_3 → Option (OutT X329_3 Q329_3)) (a0:Den (.slice (.int .u64))) (a1:Den (.int .u64)):Option (DenS O329) :=
  Vx.obind (w329_3 ((a1,((Go.IntKind.wrap .i64 ((a0.length:Int) - (1:Int))),(a0,((0:Int),())))),())) fun y0 =>
  Vx.obind2 y0 (fun y1 =>
  bif (p173 (y1.1.1,())) then
  (some ((f173 (y1.1.1,())).1,y1.1.2))
  else none) (fun z1 =>
  none)
theorem r329 (p328:DenS I328 → Bool) (f328:DenS I328 → DenS O328) (p173:DenS I173 → Bool) (f173:DenS I173 → DenS O173) (w329_3:Pat.D P329_3 → Option (OutT X329_3 Q329_3)) (a0:Den (.slice (.int .u64))) (a1:Den (.int .u64)) :
    run { P:=Go.Proofs.Tryz.prog,sums:=[(115,⟨I328,O328,p328,f328⟩),(80,⟨I173,O173,p173,f173⟩)],loops:=[(106,3,LoopSpec.of P329_3 A329_3 X329_3 Q329_3 w329_3)],globs:=G1 } 9 106 Go.Proofs.Tryz.f106 I329 O329 (a0,a1,()) = t329 p328 f328 p173 f173 w329_3 a0 a1:=by kernel_rfl
noncomputable def W329_3:P329_3.D → Option (OutT X329_3 Q329_3):=lfix fun L=>h329_3 S328.pre S328.F S173.pre S173.F L some
noncomputable def T329 (x:DenS I329):Option (DenS O329):=t329 S328.pre S328.F S173.pre S173.F W329_3 x.1 x.2.1
noncomputable def C329:Cfg:={ P:=Go.Proofs.Tryz.prog,sums:=[(115,S328),(80,S173)],loops:=[(106,3,LoopSpec.of P329_3 A329_3 X329_3 Q329_3 W329_3)],globs:=G1 }
noncomputable def S329:Sum:=sumOf I329 O329 T329 (DenS.dflt O329)
theorem S329_sound:Sound Go.Proofs.Tryz.prog G1 106 S329 :=
  fn_sound C329 9 106 Go.Proofs.Tryz.f106 mixedOk (by kernel_rfl) (by kernel_rfl) (by kernel_rfl) ⟨S328_sound,⟨S173_sound,trivial⟩⟩ ⟨rfl,fun d=>loopOk_of (fun L e x=>h329_3 S328.pre S328.F S173.pre S173.F L e x) (m329_3 S328.pre S328.F S173.pre S173.F) (fun R L e x=>s329_3 S328.pre S328.F S173.pre S173.F W329_3 d R L e x),trivial⟩ I329 O329 T329 _ (fun x=>r329 S328.pre S328.F S173.pre S173.F W329_3 x.1 x.2.1)
abbrev I157:Sig:=sig3
abbrev O157:Sig:=sig2
noncomputable def S157:Sum:=subSum
theorem S157_sound:Sound Go.Proofs.Tryz.prog G1 121 S157:=sub_sound Go.Proofs.Tryz.func121 (by kernel_rfl) (by kernel_rfl) (by kernel_rfl) (by kernel_rfl)
abbrev I330:Sig:=[(false,.slice (.int .u64)),(false,.int .u64)]
abbrev O330:Sig:=[(false,.bool)]
abbrev K330:LK:=.win (.int .u64)
abbrev P330_3:Pat:=⟨68,[(16,.one (.v .i64)),(15,.one (.sl (.int .u64))),(2,.one (.v .u64)),(17,.one (.v .i64)),(1,.one (.sl (.int .u64))),(0,.one (.sub 0)),(7,.one (.v .u64)),(8,.one (.v .u64))],[.arr (.int .u64)]⟩
abbrev A330_3:List (Nat × Shape):=[]
abbrev X330_3:List (Nat × Pat):=[(0,⟨68,[(1,.one (.sl (.int .u64))),(0,.one (.sub 0)),(7,.one (.v .u64)),(8,.one (.v .u64))],[.arr (.int .u64)]⟩)]
abbrev Q330_3:Option Pat:=none
noncomputable def h330_3 (p315:DenS I315 → Bool) (f315:DenS I315 → DenS O315) (p155:DenS I155 → Bool) (f155:DenS I155 → DenS O155) (p157:DenS I157 → Bool) (f157:DenS I157 → DenS O157) {R:Type} (L:Pat.D P330_3 → Option R) (e:OutT X330_3 Q330_3 → Option R) (x:Pat.D P330_3):Option R :=
  let e7_:=(x.2.1.getD (x.1.2.2.2.2.2.1.1 + (Int.toNat x.1.2.2.2.1)) (0:Int))
  let e8_:=(x.1.2.2.1,((x.1.2.1.getD (Int.toNat x.1.2.2.2.1) (0:Int)),()))
  let e6_:=(f315 e8_)
  let e5_:=(f155 (e6_.2.1,(x.1.2.2.2.2.2.2.1,((0:Int),()))))
  let e1_:=(f157 (e7_,(e5_.1,x.1.2.2.2.2.2.2.2)))
  let e2_:=e5_
  let e3_:=((decide ((0:Int) ≤ x.1.2.2.2.1)) && (decide (x.1.2.2.2.1 < (x.1.2.2.2.2.2.1.2:Int))))
  let e4_:=e6_
  bif (decide (x.1.2.2.2.1 < x.1.1)) then
  (bif ((decide ((0:Int) ≤ x.1.2.2.2.1)) && (decide (x.1.2.2.2.1 < (x.1.2.1.length:Int)))) then
  (bif (p315 e8_) then
  (bif (p155 (e4_.2.1,(x.1.2.2.2.2.2.2.1,((0:Int),())))) then
  (bif e3_ then
  (bif (p157 (e7_,(e2_.1,x.1.2.2.2.2.2.2.2))) then
  (bif e3_ then
  ((L ((x.1.1,(x.1.2.1,(x.1.2.2.1,((Go.IntKind.wrap .i64 (x.1.2.2.2.1 + (1:Int))),(x.1.2.2.2.2.1,(x.1.2.2.2.2.2.1,((Go.IntKind.wrap .u64 (e4_.1 + e2_.2.1)),e1_.2))))))),((x.2.1.set (x.1.2.2.2.2.2.1.1 + (Int.toNat x.1.2.2.2.1)) e1_.1),()))))
  else none)
  else none)
  else none)
  else none)
  else none)
  else none)
  else (e (.inl (x.1.2.2.2.2,x.2)))
theorem s330_3 (p315:DenS I315 → Bool) (f315:DenS I315 → DenS O315) (p155:DenS I155 → Bool) (f155:DenS I155 → DenS O155) (p157:DenS I157 → Bool) (f157:DenS I157 → DenS O157) (w330_3:Pat.D P330_3 → Option (OutT X330_3 Q330_3)) (d:Nat) (R:Type) (L:Pat.D P330_3 → Option R) (e:OutT X330_3 Q330_3 → Option R) (x:Pat.D P330_3) :
    lStep { P:=Go.Proofs.Tryz.prog,sums:=[(97,⟨I315,O315,p315,f315⟩),(81,⟨I155,O155,p155,f155⟩),(121,⟨I157,O157,p157,f157⟩)],loops:=[(116,3,LoopSpec.of P330_3 A330_3 X330_3 Q330_3 w330_3 1)],globs:=G1 } (d + 2) 116 (bodyOf Go.Proofs.Tryz.f116 3) P330_3 A330_3 X330_3 Q330_3 (R:=R) L e x 1 = h330_3 p315 f315 p155 f155 p157 f157 L e x:=by kernel_rfl
theorem m330_3 (p315:DenS I315 → Bool) (f315:DenS I315 → DenS O315) (p155:DenS I155 → Bool) (f155:DenS I155 → DenS O155) (p157:DenS I157 → Bool) (f157:DenS I157 → DenS O157):Par fun L e x=>h330_3 p315 f315 p155 f155 p157 f157 L e x:=by
  intro A B rel L L' e e' h0 hL he x
  unfold h330_3
  repeat' (first | exact h0 | exact hL _ | exact he _ | apply rel_cond | (apply rel_obind h0; intro _) | (apply rel_obind2 <;> intro _))
noncomputable def t330 (p315:DenS I315 → Bool) (f315:DenS I315 → DenS O315) (p155:DenS I155 → Bool) (f155:DenS I155 → DenS O155) (p157:DenS I157 → Bool) (f157:DenS I157 → DenS O157) (w330_3:Pat.D P330_3 → Option (OutT X330_3 Q330_3)) (l0:LK.D (.win (.int .u64))) (a0:Den (.slice (.int .u64))) (a1:Den (.int .u64)):Option (LK.B K330 × DenS O330) :=
  Vx.obind (w330_3 (((a0.length:Int),(a0,(a1,((0:Int),(a0,(l0.2,((0:Int),((0:Int),())))))))),(l0.1,()))) fun y0 =>
  Vx.obind2 y0 (fun y1 =>
  bif ((decide ((0:Int) ≤ (y1.1.1.length:Int))) && (decide ((y1.1.1.length:Int) < (y1.1.2.1.2:Int)))) then
  (bif (p157 ((y1.2.1.getD (y1.1.2.1.1 + (Int.toNat (y1.1.1.length:Int))) (0:Int)),y1.1.2.2)) then
  (bif ((decide ((0:Int) ≤ (y1.1.1.length:Int))) && (decide ((y1.1.1.length:Int) < (y1.1.2.1.2:Int)))) then
  (some ((y1.2.1.set (y1.1.2.1.1 + (Int.toNat (y1.1.1.length:Int))) (f157 ((y1.2.1.getD (y1.1.2.1.1 + (Int.toNat (y1.1.1.length:Int))) (0:Int)),y1.1.2.2)).1),(((f157 ((y1.2.1.getD (y1.1.2.1.1 + (Int.toNat (y1.1.1.length:Int))) (0:Int)),y1.1.2.2)).2.1 != (0:Int)),())))
  else none)
  else none)
  else none) (fun z1 =>
  none)
theorem r330 (p315:DenS I315 → Bool) (f315:DenS I315 → DenS O315) (p155:DenS I155 → Bool) (f155:DenS I155 → DenS O155) (p157:DenS I157 → Bool) (f157:DenS I157 → DenS O157) (w330_3:Pat.D P330_3 → Option (OutT X330_3 Q330_3)) (l0:LK.D (.win (.int .u64))) (a0:Den (.slice (.int .u64))) (a1:Den (.int .u64)) :
    runL { P:=Go.Proofs.Tryz.prog,sums:=[(97,⟨I315,O315,p315,f315⟩),(81,⟨I155,O155,p155,f155⟩),(121,⟨I157,O157,p157,f157⟩)],loops:=[(116,3,LoopSpec.of P330_3 A330_3 X330_3 Q330_3 w330_3 1)],globs:=G1 } 9 116 Go.Proofs.Tryz.f116 (K330) I330 O330 (l0,(a0,a1,())) = t330 p315 f315 p155 f155 p157 f157 w330_3 l0 a0 a1:=by kernel_rfl
noncomputable def W330_3:P330_3.D → Option (OutT X330_3 Q330_3):=lfix fun L=>h330_3 S315.pre S315.F S155.pre S155.F S157.pre S157.F L some
noncomputable def T330 (x:LK.D K330 × DenS I330):Option (LK.B K330 × DenS O330):=t330 S315.pre S315.F S155.pre S155.F S157.pre S157.F W330_3 x.1 x.2.1 x.2.2.1
noncomputable def C330:Cfg:={ P:=Go.Proofs.Tryz.prog,sums:=[(97,S315),(81,S155),(121,S157)],loops:=[(116,3,LoopSpec.of P330_3 A330_3 X330_3 Q330_3 W330_3 1)],globs:=G1 }
noncomputable def S330:SumL:=sumOfL K330 I330 O330 T330 (LK.dflt K330,DenS.dflt O330)
theorem S330_sound:SoundL Go.Proofs.Tryz.prog G1 116 S330 :=
  fn_soundL C330 9 116 Go.Proofs.Tryz.f116 mixedOk (by kernel_rfl) (by kernel_rfl) (by kernel_rfl) ⟨S315_sound,⟨S155_sound,⟨S157_sound,trivial⟩⟩⟩ ⟨rfl,fun d=>loopOk_of (fun L e x=>h330_3 S315.pre S315.F S155.pre S155.F S157.pre S157.F L e x) (m330_3 S315.pre S315.F S155.pre S155.F S157.pre S157.F) (fun R L e x=>s330_3 S315.pre S315.F S155.pre S155.F S157.pre S157.F W330_3 d R L e x),trivial⟩ K330 I330 O330 T330 _ (fun x=>r330 S315.pre S315.F S155.pre S155.F S157.pre S157.F W330_3 x.1 x.2.1 x.2.2.1)
abbrev I331:Sig:=[(false,.slice (.int .u64))]
abbrev O331:Sig:=[(false,.bool)]
abbrev K331:LK:=.win (.int .u64)
abbrev P331_3:Pat:=⟨46,[(10,.one (.v .i64)),(9,.one (.sl (.int .u64))),(11,.one (.v .i64)),(1,.one (.sl (.int .u64))),(0,.one (.sub 0)),(5,.one (.v .u64))],[.arr (.int .u64)]⟩
abbrev A331_3:List (Nat × Shape):=[]
abbrev X331_3:List (Nat × Pat):=[(0,⟨46,[(1,.one (.sl (.int .u64))),(0,.one (.sub 0)),(5,.one (.v .u64))],[.arr (.int .u64)]⟩)]
abbrev Q331_3:Option Pat:=none
noncomputable def h331_3 (p155:DenS I155 → Bool) (f155:DenS I155 → DenS O155) {R:Type} (L:Pat.D P331_3 → Option R) (e:OutT X331_3 Q331_3 → Option R) (x:Pat.D P331_3):Option R :=
  let e3_:=((x.2.1.getD (x.1.2.2.2.2.1.1 + (Int.toNat x.1.2.2.1)) (0:Int)),((x.1.2.1.getD (Int.toNat x.1.2.2.1) (0:Int)),x.1.2.2.2.2.2))
  let e1_:=(f155 e3_)
  let e2_:=((decide ((0:Int) ≤ x.1.2.2.1)) && (decide (x.1.2.2.1 < (x.1.2.2.2.2.1.2:Int))))
  bif (decide (x.1.2.2.1 < x.1.1)) then
  (bif ((decide ((0:Int) ≤ x.1.2.2.1)) && (decide (x.1.2.2.1 < (x.1.2.1.length:Int)))) then
  (bif e2_ then
  (bif (p155 e3_) then
  (bif e2_ then
  ((L ((x.1.1,(x.1.2.1,((Go.IntKind.wrap .i64 (x.1.2.2.1 + (1:Int))),(x.1.2.2.2.1,(x.1.2.2.2.2.1,e1_.2))))),((x.2.1.set (x.1.2.2.2.2.1.1 + (Int.toNat x.1.2.2.1)) e1_.1),()))))
  else none)
  else none)
  else none)
  else none)
  else (e (.inl (x.1.2.2.2,x.2)))
theorem s331_3 (p155:DenS I155 → Bool) (f155:DenS I155 → DenS O155) (w331_3:Pat.D P331_3 → Option (OutT X331_3 Q331_3)) (d:Nat) (R:Type) (L:Pat.D P331_3 → Option R) (e:OutT X331_3 Q331_3 → Option R) (x:Pat.D P331_3) :
    lStep { P:=Go.Proofs.Tryz.prog,sums:=[(81,⟨I155,O155,p155,f155⟩)],loops:=[(117,3,LoopSpec.of P331_3 A331_3 X331_3 Q331_3 w331_3 1)],globs:=G1 } (d + 2) 117 (bodyOf Go.Proofs.Tryz.f117 3) P331_3 A331_3 X331_3 Q331_3 (R:=R) L e x 1 = h331_3 p155 f155 L e x:=by kernel_rfl
theorem m331_3 (p155:DenS I155 → Bool) (f155:DenS I155 → DenS O155):Par fun L e x=>h331_3 p155 f155 L e x:=by
  intro A B rel L L' e e' h0 hL he x
  unfold h331_3
  repeat' (first | exact h0 | exact hL _ | exact he _ | apply rel_cond | (apply rel_obind h0; intro _) | (apply rel_obind2 <;> intro _))
noncomputable def t331 (p155:DenS I155 → Bool) (f155:DenS I155 → DenS O155) (w331_3:Pat.D P331_3 → Option (OutT X331_3 Q331_3)) (l0:LK.D (.win (.int .u64))) (a0:Den (.slice (.int .u64))):Option (LK.B K331 × DenS O331) :=
  Vx.obind (w331_3 (((a0.length:Int),(a0,((0:Int),(a0,(l0.2,((0:Int),())))))),(l0.1,()))) fun y0 =>
  Vx.obind2 y0 (fun y1 =>
  bif ((decide ((0:Int) ≤ (y1.1.1.length:Int))) && (decide ((y1.1.1.length:Int) < (y1.1.2.1.2:Int)))) then
  (bif (p155 ((y1.2.1.getD (y1.1.2.1.1 + (Int.toNat (y1.1.1.length:Int))) (0:Int)),((0:Int),y1.1.2.2))) then
  (bif ((decide ((0:Int) ≤ (y1.1.1.length:Int))) && (decide ((y1.1.1.length:Int) < (y1.1.2.1.2:Int)))) then
  (some ((y1.2.1.set (y1.1.2.1.1 + (Int.toNat (y1.1.1.length:Int))) (f155 ((y1.2.1.getD (y1.1.2.1.1 + (Int.toNat (y1.1.1.length:Int))) (0:Int)),((0:Int),y1.1.2.2))).1),(((f155 ((y1.2.1.getD (y1.1.2.1.1 + (Int.toNat (y1.1.1.length:Int))) (0:Int)),((0:Int),y1.1.2.2))).2.1 != (0:Int)),())))
  else none)
  else none)
  else none) (fun z1 =>
  none)
theorem r331 (p155:DenS I155 → Bool) (f155:DenS I155 → DenS O155) (w331_3:Pat.D P331_3 → Option (OutT X331_3 Q331_3)) (l0:LK.D (.win (.int .u64))) (a0:Den (.slice (.int .u64))) :
    runL { P:=Go.Proofs.Tryz.prog,sums:=[(81,⟨I155,O155,p155,f155⟩)],loops:=[(117,3,LoopSpec.of P331_3 A331_3 X331_3 Q331_3 w331_3 1)],globs:=G1 } 9 117 Go.Proofs.Tryz.f117 (K331) I331 O331 (l0,(a0,())) = t331 p155 f155 w331_3 l0 a0:=by kernel_rfl
noncomputable def W331_3:P331_3.D → Option (OutT X331_3 Q331_3):=lfix fun L=>h331_3 S155.pre S155.F L some
noncomputable def T331 (x:LK.D K331 × DenS I331):Option (LK.B K331 × DenS O331):=t331 S155.pre S155.F W331_3 x.1 x.2.1
noncomputable def C331:Cfg:={ P:=Go.Proofs.Tryz.prog,sums:=[(81,S155)],loops:=[(117,3,LoopSpec.of P331_3 A331_3 X331_3 Q331_3 W331_3 1)],globs:=G1 }
noncomputable def S331:SumL:=sumOfL K331 I331 O331 T331 (LK.dflt K331,DenS.dflt O331)
theorem S331_sound:SoundL Go.Proofs.Tryz.prog G1 117 S331 :=
  fn_soundL C331 9 117 Go.Proofs.Tryz.f117 mixedOk (by kernel_rfl) (by kernel_rfl) (by kernel_rfl) ⟨S155_sound,trivial⟩ ⟨rfl,fun d=>loopOk_of (fun L e x=>h331_3 S155.pre S155.F L e x) (m331_3 S155.pre S155.F) (fun R L e x=>s331_3 S155.pre S155.F W331_3 d R L e x),trivial⟩ K331 I331 O331 T331 _ (fun x=>r331 S155.pre S155.F W331_3 x.1 x.2.1)
abbrev I332:Sig:=[(false,.slice (.int .u64))]
abbrev O332:Sig:=[(false,.int .u64)]
abbrev K332:LK:=.win (.int .u64)
abbrev P332_6:Pat:=⟨92,[(6,.one (.v .u64)),(7,.one (.v .u64)),(5,.one (.v .i64)),(0,.one (.sub 0)),(1,.one (.sl (.int .u64)))],[.arr (.int .u64)]⟩
abbrev A332_6:List (Nat × Shape):=[]
abbrev X332_6:List (Nat × Pat):=[(0,⟨92,[(0,.one (.sub 0)),(1,.one (.sl (.int .u64))),(6,.one (.v .u64))],[.arr (.int .u64)]⟩)]
abbrev Q332_6:Option Pat:=none
abbrev P332_13:Pat:=⟨92,[(6,.one (.v .u64)),(0,.one (.sub 0)),(1,.one (.sl (.int .u64)))],[.arr (.int .u64)]⟩
abbrev A332_13:List (Nat × Shape):=[]
abbrev X332_13:List (Nat × Pat):=[(2,⟨92,[(6,.one (.v .u64))],[.arr (.int .u64)]⟩)]
abbrev Q332_13:Option Pat:=none
noncomputable def h332_13 (p328:DenS I328 → Bool) (f328:DenS I328 → DenS O328) (p315:DenS I315 → Bool) (f315:DenS I315 → DenS O315) (p155:DenS I155 → Bool) (f155:DenS I155 → DenS O155) (p330:LK.D K330 × DenS I330 → Bool) (f330:LK.D K330 × DenS I330 → LK.B K330 × DenS O330) (p331:LK.D K331 × DenS I331 → Bool) (f331:LK.D K331 × DenS I331 → LK.B K331 × DenS O331) {R:Type} (L:Pat.D P332_13 → Option R) (e:OutT X332_13 Q332_13 → Option R) (x:Pat.D P332_13):Option R :=
  let e1_:=(Go.IntKind.wrap .u64 (x.1.1 - (1:Int)))
  bif (p331 ((x.2.1,x.1.2.1),x.1.2.2)) then
  (bif (f331 ((x.2.1,x.1.2.1),x.1.2.2)).2.1 then
  ((e (.inl ((e1_,()),((f331 ((x.2.1,x.1.2.1),x.1.2.2)).1,())))))
  else (L ((e1_,x.1.2),((f331 ((x.2.1,x.1.2.1),x.1.2.2)).1,()))))
  else none
theorem s332_13 (p328:DenS I328 → Bool) (f328:DenS I328 → DenS O328) (p315:DenS I315 → Bool) (f315:DenS I315 → DenS O315) (p155:DenS I155 → Bool) (f155:DenS I155 → DenS O155) (p330:LK.D K330 × DenS I330 → Bool) (f330:LK.D K330 × DenS I330 → LK.B K330 × DenS O330) (p331:LK.D K331 × DenS I331 → Bool) (f331:LK.D K331 × DenS I331 → LK.B K331 × DenS O331) (w332_6:Pat.D P332_6 → Option (OutT X332_6 Q332_6)) (w332_13:Pat.D P332_13 → Option (OutT X332_13 Q332_13)) (d:Nat) (R:Type) (L:Pat.D P332_13 → Option R) (e:OutT X332_13 Q332_13 → Option R) (x:Pat.D P332_13) :
    lStep { P:=Go.Proofs.Tryz.prog,sums:=[(115,⟨I328,O328,p328,f328⟩),(97,⟨I315,O315,p315,f315⟩),(81,⟨I155,O155,p155,f155⟩)],loops:=[(108,6,LoopSpec.of P332_6 A332_6 X332_6 Q332_6 w332_6 1),(108,13,LoopSpec.of P332_13 A332_13 X332_13 Q332_13 w332_13 1)],globs:=G1,lsums:=[(116,⟨K330,I330,O330,p330,f330⟩),(117,⟨K331,I331,O331,p331,f331⟩)] } (d + 2) 108 (bodyOf Go.Proofs.Tryz.f108 13) P332_13 A332_13 X332_13 Q332_13 (R:=R) L e x 1 = h332_13 p328 f328 p315 f315 p155 f155 p330 f330 p331 f331 L e x:=by kernel_rfl
theorem m332_13 (p328:DenS I328 → Bool) (f328:DenS I328 → DenS O328) (p315:DenS I315 → Bool) (f315:DenS I315 → DenS O315) (p155:DenS I155 → Bool) (f155:DenS I155 → DenS O155) (p330:LK.D K330 × DenS I330 → Bool) (f330:LK.D K330 × DenS I330 → LK.B K330 × DenS O330) (p331:LK.D K331 × DenS I331 → Bool) (f331:LK.D K331 × DenS I331 → LK.B K331 × DenS O331):Par fun L e x=>h332_13 p328 f328 p315 f315 p155 f155 p330 f330 p331 f331 L e x:=by
  intro A B rel L L' e e' h0 hL he x
  unfold h332_13
  repeat' (first | exact h0 | exact hL _ | exact he _ | apply rel_cond | (apply rel_obind h0; intro _) | (apply rel_obind2 <;> intro _))
noncomputable def h332_6 (p328:DenS I328 → Bool) (f328:DenS I328 → DenS O328) (p315:DenS I315 → Bool) (f315:DenS I315 → DenS O315) (p155:DenS I155 → Bool) (f155:DenS I155 → DenS O155) (p330:LK.D K330 × DenS I330 → Bool) (f330:LK.D K330 × DenS I330 → LK.B K330 × DenS O330) (p331:LK.D K331 × DenS I331 → Bool) (f331:LK.D K331 × DenS I331 → LK.B K331 × DenS O331) {R:Type} (L:Pat.D P332_6 → Option R) (e:OutT X332_6 Q332_6 → Option R) (x:Pat.D P332_6):Option R :=
  let e11_:=(Go.IntKind.wrap .i64 (x.1.2.2.1 - (2:Int)))
  let e10_:=(Int.toNat e11_)
  let e9_:=(f315 (x.1.1,((x.1.2.2.2.2.1.getD e10_ (0:Int)),())))
  let e1_:=(decide (e9_.1 < x.1.2.1))
  let e12_:=(Go.IntKind.wrap .i64 (x.1.2.2.1 - (1:Int)))
  let e2_:=(f155 (x.1.2.1,((x.1.2.2.2.2.1.getD (Int.toNat e12_) (0:Int)),((0:Int),()))))
  let e3_:=e9_
  let e4_:=(decide ((0:Int) ≤ e11_))
  let e5_:=e10_
  let e6_:=e12_
  let e7_:=e11_
  let e8_:=(Go.IntKind.wrap .u64 (x.1.1 - (1:Int)))
  bif (e4_ && (decide (e7_ < (x.1.2.2.2.2.1.length:Int)))) then
  (bif (p315 (x.1.1,((x.1.2.2.2.2.1.getD e5_ (0:Int)),()))) then
  (bif ((e4_ && (decide (e7_ < (x.1.2.2.2.1.2:Int)))) || (!((bif e1_ then false else true) && (decide (e3_.1 = x.1.2.1))))) then
  (bif (e1_ || ((e3_.1 == x.1.2.1) && (decide (e3_.2.1 ≤ (x.2.1.getD (x.1.2.2.2.1.1 + e5_) (0:Int)))))) then
  ((e (.inl ((x.1.2.2.2.1,(x.1.2.2.2.2.1,(x.1.1,()))),x.2))))
  else bif ((decide ((0:Int) ≤ e6_)) && (decide (e6_ < (x.1.2.2.2.2.1.length:Int)))) then
  (bif (p155 (x.1.2.1,((x.1.2.2.2.2.1.getD (Int.toNat e6_) (0:Int)),((0:Int),())))) then
  (bif (e2_.2.1 != (0:Int)) then
  ((e (.inl ((x.1.2.2.2.1,(x.1.2.2.2.2.1,(e8_,()))),x.2))))
  else (L ((e8_,(e2_.1,x.1.2.2)),x.2)))
  else none)
  else none)
  else none)
  else none)
  else none
theorem s332_6 (p328:DenS I328 → Bool) (f328:DenS I328 → DenS O328) (p315:DenS I315 → Bool) (f315:DenS I315 → DenS O315) (p155:DenS I155 → Bool) (f155:DenS I155 → DenS O155) (p330:LK.D K330 × DenS I330 → Bool) (f330:LK.D K330 × DenS I330 → LK.B K330 × DenS O330) (p331:LK.D K331 × DenS I331 → Bool) (f331:LK.D K331 × DenS I331 → LK.B K331 × DenS O331) (w332_6:Pat.D P332_6 → Option (OutT X332_6 Q332_6)) (w332_13:Pat.D P332_13 → Option (OutT X332_13 Q332_13)) (d:Nat) (R:Type) (L:Pat.D P332_6 → Option R) (e:OutT X332_6 Q332_6 → Option R) (x:Pat.D P332_6) :
    lStep { P:=Go.Proofs.Tryz.prog,sums:=[(115,⟨I328,O328,p328,f328⟩),(97,⟨I315,O315,p315,f315⟩),(81,⟨I155,O155,p155,f155⟩)],loops:=[(108,6,LoopSpec.of P332_6 A332_6 X332_6 Q332_6 w332_6 1),(108,13,LoopSpec.of P332_13 A332_13 X332_13 Q332_13 w332_13 1)],globs:=G1,lsums:=[(116,⟨K330,I330,O330,p330,f330⟩),(117,⟨K331,I331,O331,p331,f331⟩)] } (d + 2) 108 (bodyOf Go.Proofs.Tryz.f108 6) P332_6 A332_6 X332_6 Q332_6 (R:=R) L e x 1 = h332_6 p328 f328 p315 f315 p155 f155 p330 f330 p331 f331 L e x:=by kernel_rfl
theorem m332_6 (p328:DenS I328 → Bool) (f328:DenS I328 → DenS O328) (p315:DenS I315 → Bool) (f315:DenS I315 → DenS O315) (p155:DenS I155 → Bool) (f155:DenS I155 → DenS O155) (p330:LK.D K330 × DenS I330 → Bool) (f330:LK.D K330 × DenS I330 → LK.B K330 × DenS O330) (p331:LK.D K331 × DenS I331 → Bool) (f331:LK.D K331 × DenS I331 → LK.B K331 × DenS O331):Par fun L e x=>h332_6 p328 f328 p315 f315 p155 f155 p330 f330 p331 f331 L e x:=by
  intro A B rel L L' e e' h0 hL he x
  unfold h332_6
  repeat' (first | exact h0 | exact hL _ | exact he _ | apply rel_cond | (apply rel_obind h0; intro _) | (apply rel_obind2 <;> intro _))
noncomputable def t332 (p328:DenS I328 → Bool) (f328:DenS I328 → DenS O328) (p315:DenS I315 → Bool) (f315:DenS I315 → DenS O315) (p155:DenS I155 → Bool) (f155:DenS I155 → DenS O155) (p330:LK.D K330 × DenS I330 → Bool) (f330:LK.D K330 × DenS I330 → LK.B K330 × DenS O330) (p331:LK.D K331 × DenS I331 → Bool) (f331:LK.D K331 × DenS I331 → LK.B K331 × DenS O331) (w332_6:Pat.D P332_6 → Option (OutT X332_6 Q332_6)) (w332_13:Pat.D P332_13 → Option (OutT X332_13 Q332_13)) (l0:LK.D (.win (.int .u64))) (a0:Den (.slice (.int .u64))):Option (LK.B K332 × DenS O332) :=
  let e11_:=(l0.1.getD (l0.2.1 + (Int.toNat (a0.length:Int))) (0:Int))
  let e10_:=(Go.IntKind.wrap .i64 ((a0.length:Int) - (1:Int)))
  let e9_:=(Int.toNat e10_)
  let e8_:=(a0.getD e9_ (0:Int))
  let e1_:=(f328 (e11_,((l0.1.getD (l0.2.1 + e9_) (0:Int)),(e8_,()))))
  let e2_:=((decide ((0:Int) ≤ e10_)) && (decide (e10_ < (a0.length:Int))))
  let e3_:=e8_
  let e4_:=((decide ((0:Int) ≤ (a0.length:Int))) && (decide ((a0.length:Int) < (l0.2.2:Int))))
  let e5_:=e10_
  let e12_:=((l0.1,l0.2),(a0,((18446744073709551615:Int),())))
  let e6_:=(f330 e12_)
  let e7_:=e11_
  bif e4_ then
  (bif e2_ then
  (bif (decide (e7_ < e3_)) then
  (bif e4_ then
  (bif ((decide ((0:Int) ≤ e5_)) && (decide (e5_ < (l0.2.2:Int)))) then
  (bif e2_ then
  (bif (p328 (e7_,((l0.1.getD (l0.2.1 + (Int.toNat e5_)) (0:Int)),(e3_,())))) then
  (Vx.obind (w332_6 ((e1_.1,(e1_.2.1,((a0.length:Int),(l0.2,(a0,()))))),(l0.1,()))) fun y7 =>
  Vx.obind2 y7 (fun y8 =>
  bif (p330 ((y8.2.1,y8.1.1),y8.1.2)) then
  (bif (f330 ((y8.2.1,y8.1.1),y8.1.2)).2.1 then
  (Vx.obind (w332_13 ((y8.1.2.2.1,(y8.1.1,(y8.1.2.1,()))),((f330 ((y8.2.1,y8.1.1),y8.1.2)).1,()))) fun y11 =>
  Vx.obind2 y11 (fun y12 =>
  some (y12.2.1,y12.1)) (fun z12 =>
  none))
  else some ((f330 ((y8.2.1,y8.1.1),y8.1.2)).1,y8.1.2.2))
  else none) (fun z8 =>
  none))
  else none)
  else none)
  else none)
  else none)
  else bif (p330 e12_) then
  (bif e6_.2.1 then
  (Vx.obind (w332_13 (((18446744073709551615:Int),(l0.2,(a0,()))),(e6_.1,()))) fun y5 =>
  Vx.obind2 y5 (fun y6 =>
  some (y6.2.1,y6.1)) (fun z6 =>
  none))
  else some (e6_.1,((18446744073709551615:Int),())))
  else none)
  else none)
  else none
theorem r332 (p328:DenS I328 → Bool) (f328:DenS I328 → DenS O328) (p315:DenS I315 → Bool) (f315:DenS I315 → DenS O315) (p155:DenS I155 → Bool) (f155:DenS I155 → DenS O155) (p330:LK.D K330 × DenS I330 → Bool) (f330:LK.D K330 × DenS I330 → LK.B K330 × DenS O330) (p331:LK.D K331 × DenS I331 → Bool) (f331:LK.D K331 × DenS I331 → LK.B K331 × DenS O331) (w332_6:Pat.D P332_6 → Option (OutT X332_6 Q332_6)) (w332_13:Pat.D P332_13 → Option (OutT X332_13 Q332_13)) (l0:LK.D (.win (.int .u64))) (a0:Den (.slice (.int .u64))) :
    runL { P:=Go.Proofs.Tryz.prog,sums:=[(115,⟨I328,O328,p328,f328⟩),(97,⟨I315,O315,p315,f315⟩),(81,⟨I155,O155,p155,f155⟩)],loops:=[(108,6,LoopSpec.of P332_6 A332_6 X332_6 Q332_6 w332_6 1),(108,13,LoopSpec.of P332_13 A332_13 X332_13 Q332_13 w332_13 1)],globs:=G1,lsums:=[(116,⟨K330,I330,O330,p330,f330⟩),(117,⟨K331,I331,O331,p331,f331⟩)] } 9 108 Go.Proofs.Tryz.f108 (K332) I332 O332 (l0,(a0,())) = t332 p328 f328 p315 f315 p155 f155 p330 f330 p331 f331 w332_6 w332_13 l0 a0:=by kernel_rfl
noncomputable def W332_13:P332_13.D → Option (OutT X332_13 Q332_13):=lfix fun L=>h332_13 S328.pre S328.F S315.pre S315.F S155.pre S155.F S330.pre S330.F S331.pre S331.F L some
noncomputable def W332_6:P332_6.D → Option (OutT X332_6 Q332_6):=lfix fun L=>h332_6 S328.pre S328.F S315.pre S315.F S155.pre S155.F S330.pre S330.F S331.pre S331.F L some
noncomputable def T332 (x:LK.D K332 × DenS I332):Option (LK.B K332 × DenS O332):=t332 S328.pre S328.F S315.pre S315.F S155.pre S155.F S330.pre S330.F S331.pre S331.F W332_6 W332_13 x.1 x.2.1
noncomputable def C332:Cfg:={ P:=Go.Proofs.Tryz.prog,sums:=[(115,S328),(97,S315),(81,S155)],loops:=[(108,6,LoopSpec.of P332_6 A332_6 X332_6 Q332_6 W332_6 1),(108,13,LoopSpec.of P332_13 A332_13 X332_13 Q332_13 W332_13 1)],globs:=G1,lsums:=[(116,S330),(117,S331)] }
noncomputable def S332:SumL:=sumOfL K332 I332 O332 T332 (LK.dflt K332,DenS.dflt O332)
theorem S332_sound:SoundL Go.Proofs.Tryz.prog G1 108 S332 :=
  fn_soundL C332 9 108 Go.Proofs.Tryz.f108 mixedOk (by kernel_rfl) (by kernel_rfl) (by kernel_rfl) ⟨S328_sound,⟨S315_sound,⟨S155_sound,trivial⟩⟩⟩ ⟨rfl,fun d=>loopOk_of (fun L e x=>h332_6 S328.pre S328.F S315.pre S315.F S155.pre S155.F S330.pre S330.F S331.pre S331.F L e x) (m332_6 S328.pre S328.F S315.pre S315.F S155.pre S155.F S330.pre S330.F S331.pre S331.F) (fun R L e x=>s332_6 S328.pre S328.F S315.pre S315.F S155.pre S155.F S330.pre S330.F S331.pre S331.F W332_6 W332_13 d R L e x),⟨rfl,fun d=>loopOk_of (fun L e x=>h332_13 S328.pre S328.F S315.pre S315.F S155.pre S155.F S330.pre S330.F S331.pre S331.F L e x) (m332_13 S328.pre S328.F S315.pre S315.F S155.pre S155.F S330.pre S330.F S331.pre S331.F) (fun R L e x=>s332_13 S328.pre S328.F S315.pre S315.F S155.pre S155.F S330.pre S330.F S331.pre S331.F W332_6 W332_13 d R L e x),trivial⟩⟩ K332 I332 O332 T332 _ (fun x=>r332 S328.pre S328.F S315.pre S315.F S155.pre S155.F S330.pre S330.F S331.pre S331.F W332_6 W332_13 x.1 x.2.1) (hls:=⟨S330_sound,⟨S331_sound,trivial⟩⟩)
abbrev I333:Sig:=[(false,.slice (.int .u64)),(false,.slice (.int .u64))]
abbrev O333:Sig:=[(false,.slice (.int .u64)),(false,.slice (.int .u64))]
abbrev P333_14:Pat:=⟨91,[(9,.one (.sl (.int .u64))),(12,.one (.v .i64)),(4,.one (.own 1)),(10,.one (.own 0)),(11,.one (.v .i64)),(8,.one (.v .i64))],[.arr (.int .u64),.arr (.int .u64)]⟩
abbrev A333_14:List (Nat × Shape):=[]
abbrev X333_14:List (Nat × Pat):=[(0,⟨91,[(4,.one (.own 1)),(10,.one (.own 0)),(11,.one (.v .i64)),(8,.one (.v .i64))],[.arr (.int .u64),.arr (.int .u64)]⟩)]
abbrev Q333_14:Option Pat:=none
noncomputable def h333_14 (p1146:DenS I1146 → Bool) (f1146:DenS I1146 → DenS O1146) (p1329:DenS I1329 → Bool) (f1329:DenS I1329 → DenS O1329) (p144:DenS I144 → Bool) (f144:DenS I144 → DenS O144) (p146:DenS I146 → Bool) (f146:DenS I146 → DenS O146) (p329:DenS I329 → Bool) (f329:DenS I329 → DenS O329) (p327:DenS I327 → Bool) (f327:DenS I327 → DenS O327) (p186:DenS I186 → Bool) (f186:DenS I186 → DenS O186) (p332:LK.D K332 × DenS I332 → Bool) (f332:LK.D K332 × DenS I332 → LK.B K332 × DenS O332) (p173:DenS I173 → Bool) (f173:DenS I173 → DenS O173) (p171:DenS I171 → Bool) (f171:DenS I171 → DenS O171) {R:Type} (L:Pat.D P333_14 → Option R) (e:OutT X333_14 Q333_14 → Option R) (x:Pat.D P333_14):Option R :=
  let e3_:=(Go.IntKind.wrap .i64 ((Go.IntKind.wrap .i64 (x.1.2.1 + x.1.2.2.2.2.1)) + (1:Int)))
  let e1_:=(f332 ((x.2.1,((Int.toNat x.1.2.1),((Int.toNat e3_) - (Int.toNat x.1.2.1)))),(x.1.1,())))
  let e2_:=e3_
  bif (decide (x.1.2.1 ≥ (0:Int))) then
  (bif (((decide ((0:Int) ≤ x.1.2.1)) && (decide (x.1.2.1 ≤ e2_))) && (decide (e2_ ≤ (x.2.1.length:Int)))) then
  (bif (p332 ((x.2.1,((Int.toNat x.1.2.1),((Int.toNat e2_) - (Int.toNat x.1.2.1)))),(x.1.1,()))) then
  (bif ((decide ((0:Int) ≤ x.1.2.1)) && (decide (x.1.2.1 < (x.2.2.1.length:Int)))) then
  ((L ((x.1.1,((Go.IntKind.wrap .i64 (x.1.2.1 - (1:Int))),((),((),x.1.2.2.2.2)))),(e1_.1,((x.2.2.1.set (Int.toNat x.1.2.1) e1_.2.1),())))))
  else none)
  else none)
  else none)
  else (e (.inl (((),((),x.1.2.2.2.2)),x.2)))
theorem s333_14 (p1146:DenS I1146 → Bool) (f1146:DenS I1146 → DenS O1146) (p1329:DenS I1329 → Bool) (f1329:DenS I1329 → DenS O1329) (p144:DenS I144 → Bool) (f144:DenS I144 → DenS O144) (p146:DenS I146 → Bool) (f146:DenS I146 → DenS O146) (p329:DenS I329 → Bool) (f329:DenS I329 → DenS O329) (p327:DenS I327 → Bool) (f327:DenS I327 → DenS O327) (p186:DenS I186 → Bool) (f186:DenS I186 → DenS O186) (p332:LK.D K332 × DenS I332 → Bool) (f332:LK.D K332 × DenS I332 → LK.B K332 × DenS O332) (p173:DenS I173 → Bool) (f173:DenS I173 → DenS O173) (p171:DenS I171 → Bool) (f171:DenS I171 → DenS O171) (w333_14:Pat.D P333_14 → Option (OutT X333_14 Q333_14)) (d:Nat) (R:Type) (L:Pat.D P333_14 → Option R) (e:OutT X333_14 Q333_14 → Option R) (x:Pat.D P333_14) :
    lStep { P:=Go.Proofs.Tryz.prog,sums:=[(99,⟨I1146,O1146,p1146,f1146⟩),(106,⟨I1329,O1329,p1329,f1329⟩),(87,⟨I144,O144,p144,f144⟩),(99,⟨I146,O146,p146,f146⟩),(106,⟨I329,O329,p329,f329⟩),(107,⟨I327,O327,p327,f327⟩),(84,⟨I186,O186,p186,f186⟩),(80,⟨I173,O173,p173,f173⟩),(86,⟨I171,O171,p171,f171⟩)],loops:=[(85,14,LoopSpec.of P333_14 A333_14 X333_14 Q333_14 w333_14)],globs:=G1,cut:=true,lsums:=[(108,⟨K332,I332,O332,p332,f332⟩)] } (d + 2) 85 (bodyOf Go.Proofs.Tryz.f85 14) P333_14 A333_14 X333_14 Q333_14 (R:=R) L e x = h333_14 p1146 f1146 p1329 f1329 p144 f144 p146 f146 p329 f329 p327 f327 p186 f186 p332 f332 p173 f173 p171 f171 L e x:=by kernel_rfl
theorem m333_14 (p1146:DenS I1146 → Bool) (f1146:DenS I1146 → DenS O1146) (p1329:DenS I1329 → Bool) (f1329:DenS I1329 → DenS O1329) (p144:DenS I144 → Bool) (f144:DenS I144 → DenS O144) (p146:DenS I146 → Bool) (f146:DenS I146 → DenS O146) (p329:DenS I329 → Bool) (f329:DenS I329 → DenS O329) (p327:DenS I327 → Bool) (f327:DenS I327 → DenS O327) (p186:DenS I186 → Bool) (f186:DenS I186 → DenS O186) (p332:LK.D K332 × DenS I332 → Bool) (f332:LK.D K332 × DenS I332 → LK.B K332 × DenS O332) (p173:DenS I173 → Bool) (f173:DenS I173 → DenS O173) (p171:DenS I171 → Bool) (f171:DenS I171 → DenS O171):Par fun L e x=>h333_14 p1146 f1146 p1329 f1329 p144 f144 p146 f146 p329 f329 p327 f327 p186 f186 p332 f332 p173 f173 p171 f171 L e x:=by
  intro A B rel L L' e e' h0 hL he x
  unfold h333_14
  repeat' (first | exact h0 | exact hL _ | exact he _ | apply rel_cond | (apply rel_obind h0; intro _) | (apply rel_obind2 <;> intro _))
noncomputable def t333 (p1146:DenS I1146 → Bool) (f1146:DenS I1146 → DenS O1146) (p1329:DenS I1329 → Bool) (f1329:DenS I1329 → DenS O1329) (p144:DenS I144 → Bool) (f144:DenS I144 → DenS O144) (p146:DenS I146 → Bool) (f146:DenS I146 → DenS O146) (p329:DenS I329 → Bool) (f329:DenS I329 → DenS O329) (p327:DenS I327 → Bool) (f327:DenS I327 → DenS O327) (p186:DenS I186 → Bool) (f186:DenS I186 → DenS O186) (p332:LK.D K332 × DenS I332 → Bool) (f332:LK.D K332 × DenS I332 → LK.B K332 × DenS O332) (p173:DenS I173 → Bool) (f173:DenS I173 → DenS O173) (p171:DenS I171 → Bool) (f171:DenS I171 → DenS O171) (w333_14:Pat.D P333_14 → Option (OutT X333_14 Q333_14)) (a0:Den (.slice (.int .u64))) (a1:Den (.slice (.int .u64))):Option (DenS O333) :=
  let e17_:=(Go.IntKind.wrap .i64 (((f173 (a1,())).1.length:Int) - (1:Int)))
  let e14_:=(f327 (((f173 (a1,())).1.getD (Int.toNat e17_) (0:Int)),()))
  let e12_:=(f186 ((f173 (a0,())).1,e14_))
  let e18_:=(Go.IntKind.wrap .i64 (((f173 (a0,())).1.length:Int) + (1:Int)))
  let e15_:=(List.replicate (Int.toNat e18_) (0:Int))
  let e13_:=(f186 ((f173 (a1,())).1,e14_))
  let e11_:=(Go.IntKind.wrap .i64 ((((e12_.1.take e15_.length) ++ (e15_.drop e12_.1.length)).length:Int) - (e13_.1.length:Int)))
  let e1_:=(List.replicate (Int.toNat e11_) (0:Int))
  let e2_:=e11_
  let e3_:=e13_
  let e4_:=e12_
  let e5_:=e14_
  let e6_:=e15_
  let e16_:=((f1146 (f173 (a0,()))).1,(((f173 (a1,())).1.getD (Int.toNat (0:Int)) (0:Int)),()))
  let e7_:=(((f1329 e16_).2.1 :: []),())
  let e8_:=e16_
  let e9_:=e17_
  let e10_:=e18_
  bif (p173 (a0,())) then
  (bif (p173 (a1,())) then
  (bif (p144 ((f173 (a0,())).1,(f173 (a1,())))) then
  (bif (decide ((f144 ((f173 (a0,())).1,(f173 (a1,())))).1 < (0:Int))) then
  (bif (p1146 (f173 (a0,()))) then
  (some ([],(f1146 (f173 (a0,())))))
  else none)
  else bif (((f173 (a1,())).1.length:Int) == (1:Int)) then
  (bif (p1146 (f173 (a0,()))) then
  (bif (decide ((0:Int) < ((f173 (a1,())).1.length:Int))) then
  (bif (p1329 e8_) then
  (bif (p173 e7_) then
  (some ((f1329 e8_).1,(f173 e7_)))
  else none)
  else none)
  else none)
  else none)
  else bif ((decide ((0:Int) ≤ e9_)) && (decide (e9_ < ((f173 (a1,())).1.length:Int)))) then
  (bif (p327 (((f173 (a1,())).1.getD (Int.toNat e9_) (0:Int)),())) then
  (bif (p186 ((f173 (a1,())).1,e5_)) then
  (bif ((decide ((0:Int) ≤ e10_)) && (decide ((e10_ * (8:Int)) ≤ (140737488355328:Int)))) then
  (bif (p186 ((f173 (a0,())).1,e5_)) then
  (bif ((decide ((0:Int) ≤ e2_)) && (decide ((e2_ * (8:Int)) ≤ (140737488355328:Int)))) then
  (Vx.obind (w333_14 ((e3_.1,((Go.IntKind.wrap .i64 ((e1_.length:Int) - (1:Int))),((),((),((e3_.1.length:Int),e5_))))),(((e4_.1.take e6_.length) ++ (e6_.drop e4_.1.length)),(e1_,())))) fun y11 =>
  Vx.obind2 y11 (fun y12 =>
  bif (p173 y12.2.2) then
  (bif ((decide ((0:Int) ≤ y12.1.2.2.1)) && (decide (y12.1.2.2.1 ≤ (y12.2.1.length:Int)))) then
  (bif (p171 (((y12.2.1.take (Int.toNat y12.1.2.2.1)).drop (Int.toNat (0:Int))),y12.1.2.2.2)) then
  (some ((f173 y12.2.2).1,(f171 (((y12.2.1.take (Int.toNat y12.1.2.2.1)).drop (Int.toNat (0:Int))),y12.1.2.2.2))))
  else none)
  else none)
  else none) (fun z12 =>
  none))
  else none)
  else none)
  else none)
  else none)
  else none)
  else none)
  else none)
  else none)
  else none
theorem r333 (p1146:DenS I1146 → Bool) (f1146:DenS I1146 → DenS O1146) (p1329:DenS I1329 → Bool) (f1329:DenS I1329 → DenS O1329) (p144:DenS I144 → Bool) (f144:DenS I144 → DenS O144) (p146:DenS I146 → Bool) (f146:DenS I146 → DenS O146) (p329:DenS I329 → Bool) (f329:DenS I329 → DenS O329) (p327:DenS I327 → Bool) (f327:DenS I327 → DenS O327) (p186:DenS I186 → Bool) (f186:DenS I186 → DenS O186) (p332:LK.D K332 × DenS I332 → Bool) (f332:LK.D K332 × DenS I332 → LK.B K332 × DenS O332) (p173:DenS I173 → Bool) (f173:DenS I173 → DenS O173) (p171:DenS I171 → Bool) (f171:DenS I171 → DenS O171) (w333_14:Pat.D P333_14 → Option (OutT X333_14 Q333_14)) (a0:Den (.slice (.int .u64))) (a1:Den (.slice (.int .u64))) :
    run { P:=Go.Proofs.Tryz.prog,sums:=[(99,⟨I1146,O1146,p1146,f1146⟩),(106,⟨I1329,O1329,p1329,f1329⟩),(87,⟨I144,O144,p144,f144⟩),(99,⟨I146,O146,p146,f146⟩),(106,⟨I329,O329,p329,f329⟩),(107,⟨I327,O327,p327,f327⟩),(84,⟨I186,O186,p186,f186⟩),(80,⟨I173,O173,p173,f173⟩),(86,⟨I171,O171,p171,f171⟩)],loops:=[(85,14,LoopSpec.of P333_14 A333_14 X333_14 Q333_14 w333_14)],globs:=G1,cut:=true,lsums:=[(108,⟨K332,I332,O332,p332,f332⟩)] } 9 85 Go.Proofs.Tryz.f85 I333 O333 (a0,a1,()) = t333 p1146 f1146 p1329 f1329 p144 f144 p146 f146 p329 f329 p327 f327 p186 f186 p332 f332 p173 f173 p171 f171 w333_14 a0 a1:=by kernel_rfl
noncomputable def W333_14:P333_14.D → Option (OutT X333_14 Q333_14):=lfix fun L=>h333_14 S1146.pre S1146.F S1329.pre S1329.F S144.pre S144.F S146.pre S146.F S329.pre S329.F S327.pre S327.F S186.pre S186.F S332.pre S332.F S173.pre S173.F S171.pre S171.F L some
noncomputable def T333 (x:DenS I333):Option (DenS O333):=t333 S1146.pre S1146.F S1329.pre S1329.F S144.pre S144.F S146.pre S146.F S329.pre S329.F S327.pre S327.F S186.pre S186.F S332.pre S332.F S173.pre S173.F S171.pre S171.F W333_14 x.1 x.2.1
noncomputable def C333:Cfg:={ P:=Go.Proofs.Tryz.prog,sums:=[(99,S1146),(106,S1329),(87,S144),(99,S146),(106,S329),(107,S327),(84,S186),(80,S173),(86,S171)],loops:=[(85,14,LoopSpec.of P333_14 A333_14 X333_14 Q333_14 W333_14)],globs:=G1,cut:=true,lsums:=[(108,S332)] }
noncomputable def S333:Sum:=sumOf I333 O333 T333 (DenS.dflt O333)
theorem S333_sound:Sound Go.Proofs.Tryz.prog G1 85 S333 :=
  fn_sound C333 9 85 Go.Proofs.Tryz.f85 mixedOk (by kernel_rfl) (by kernel_rfl) (by kernel_rfl) ⟨S1146_sound,⟨S1329_sound,⟨S144_sound,⟨S146_sound,⟨S329_sound,⟨S327_sound,⟨S186_sound,⟨S173_sound,⟨S171_sound,trivial⟩⟩⟩⟩⟩⟩⟩⟩⟩ ⟨rfl,fun d=>loopOk_of (fun L e x=>h333_14 S1146.pre S1146.F S1329.pre S1329.F S144.pre S144.F S146.pre S146.F S329.pre S329.F S327.pre S327.F S186.pre S186.F S332.pre S332.F S173.pre S173.F S171.pre S171.F L e x) (m333_14 S1146.pre S1146.F S1329.pre S1329.F S144.pre S144.F S146.pre S146.F S329.pre S329.F S327.pre S327.F S186.pre S186.F S332.pre S332.F S173.pre S173.F S171.pre S171.F) (fun R L e x=>s333_14 S1146.pre S1146.F S1329.pre S1329.F S144.pre S144.F S146.pre S146.F S329.pre S329.F S327.pre S327.F S186.pre S186.F S332.pre S332.F S173.pre S173.F S171.pre S171.F W333_14 d R L e x),trivial⟩ I333 O333 T333 _ (fun x=>r333 S1146.pre S1146.F S1329.pre S1329.F S144.pre S144.F S146.pre S146.F S329.pre S329.F S327.pre S327.F S186.pre S186.F S332.pre S332.F S173.pre S173.F S171.pre S171.F W333_14 x.1 x.2.1) (hls:=⟨S332_sound,trivial⟩)
abbrev I334:Sig:=[(false,.slice (.int .u64))]
abbrev O334:Sig:=[(false,.slice (.int .u64)),(false,.bool),(false,.int .i64)]
abbrev P334_7:Pat:=⟨45,[(5,.one (.sl (.int .u64))),(0,.one (.sl (.int .u64)))],[]⟩
abbrev A334_7:List (Nat × Shape):=[]
abbrev X334_7:List (Nat × Pat):=[(0,⟨45,[(5,.one (.sl (.int .u64))),(0,.one (.sl (.int .u64)))],[]⟩)]
abbrev Q334_7:Option Pat:=none
noncomputable def h334_7 (p185:DenS I185 → Bool) (f185:DenS I185 → DenS O185) (p173:DenS I173 → Bool) (f173:DenS I173 → DenS O173) (p151:DenS I151 → Bool) (f151:DenS I151 → DenS O151) (p186:DenS I186 → Bool) (f186:DenS I186 → DenS O186) (p333:DenS I333 → Bool) (f333:DenS I333 → DenS O333) (p143:DenS I143 → Bool) (f143:DenS I143 → DenS O143) (p171:DenS I171 → Bool) (f171:DenS I171 → DenS O171) (p324:DenS I324 → Bool) (f324:DenS I324 → DenS O324) (p144:DenS I144 → Bool) (f144:DenS I144 → DenS O144) {R:Type} (L:Pat.D P334_7 → Option R) (e:OutT X334_7 Q334_7 → Option R) (x:Pat.D P334_7):Option R :=
  let e4_:=(x.1.1,((f333 (x.1.2.1,(x.1.1,()))).1,()))
  let e3_:=((f143 e4_).1,((1:Int),()))
  let e1_:=((f171 e3_).1,(x.1.1,()))
  let e2_:=e3_
  bif (p333 (x.1.2.1,(x.1.1,()))) then
  (bif (p143 e4_) then
  (bif (p171 e2_) then
  (bif (p144 e1_) then
  (bif (decide ((f144 e1_).1 ≥ (0:Int))) then
  ((e (.inl (x.1,()))))
  else (L (((f171 e2_).1,x.1.2),())))
  else none)
  else none)
  else none)
  else none
theorem s334_7 (p185:DenS I185 → Bool) (f185:DenS I185 → DenS O185) (p173:DenS I173 → Bool) (f173:DenS I173 → DenS O173) (p151:DenS I151 → Bool) (f151:DenS I151 → DenS O151) (p186:DenS I186 → Bool) (f186:DenS I186 → DenS O186) (p333:DenS I333 → Bool) (f333:DenS I333 → DenS O333) (p143:DenS I143 → Bool) (f143:DenS I143 → DenS O143) (p171:DenS I171 → Bool) (f171:DenS I171 → DenS O171) (p324:DenS I324 → Bool) (f324:DenS I324 → DenS O324) (p144:DenS I144 → Bool) (f144:DenS I144 → DenS O144) (w334_7:Pat.D P334_7 → Option (OutT X334_7 Q334_7)) (d:Nat) (R:Type) (L:Pat.D P334_7 → Option R) (e:OutT X334_7 Q334_7 → Option R) (x:Pat.D P334_7) :
    lStep { P:=Go.Proofs.Tryz.prog,sums:=[(83,⟨I185,O185,p185,f185⟩),(80,⟨I173,O173,p173,f173⟩),(60,⟨I151,O151,p151,f151⟩),(84,⟨I186,O186,p186,f186⟩),(85,⟨I333,O333,p333,f333⟩),(34,⟨I143,O143,p143,f143⟩),(86,⟨I171,O171,p171,f171⟩),(88,⟨I324,O324,p324,f324⟩),(87,⟨I144,O144,p144,f144⟩)],loops:=[(37,7,LoopSpec.of P334_7 A334_7 X334_7 Q334_7 w334_7)],globs:=G1 } (d + 2) 37 (bodyOf Go.Proofs.Tryz.f37 7) P334_7 A334_7 X334_7 Q334_7 (R:=R) L e x = h334_7 p185 f185 p173 f173 p151 f151 p186 f186 p333 f333 p143 f143 p171 f171 p324 f324 p144 f144 L e x:=by kernel_rfl
theorem m334_7 (p185:DenS I185 → Bool) (f185:DenS I185 → DenS O185) (p173:DenS I173 → Bool) (f173:DenS I173 → DenS O173) (p151:DenS I151 → Bool) (f151:DenS I151 → DenS O151) (p186:DenS I186 → Bool) (f186:DenS I186 → DenS O186) (p333:DenS I333 → Bool) (f333:DenS I333 → DenS O333) (p143:DenS I143 → Bool) (f143:DenS I143 → DenS O143) (p171:DenS I171 → Bool) (f171:DenS I171 → DenS O171) (p324:DenS I324 → Bool) (f324:DenS I324 → DenS O324) (p144:DenS I144 → Bool) (f144:DenS I144 → DenS O144):Par fun L e x=>h334_7 p185 f185 p173 f173 p151 f151 p186 f186 p333 f333 p143 f143 p171 f171 p324 f324 p144 f144 L e x:=by
  intro A B rel L L' e e' h0 hL he x
  unfold h334_7
  repeat' (first | exact h0 | exact hL _ | exact he _ | apply rel_cond | (apply rel_obind h0; intro _) | (apply rel_obind2 <;> intro _))
noncomputable def t334 (p185:DenS I185 → Bool) (f185:DenS I185 → DenS O185) (p173:DenS I173 → Bool) (f173:DenS I173 → DenS O173) (p151:DenS I151 → Bool) (f151:DenS I151 → DenS O151) (p186:DenS I186 → Bool) (f186:DenS I186 → DenS O186) (p333:DenS I333 → Bool) (f333:DenS I333 → DenS O333) (p143:DenS I143 → Bool) (f143:DenS I143 → DenS O143) (p171:DenS I171 → Bool) (f171:DenS I171 → DenS O171) (p324:DenS I324 → Bool) (f324:DenS I324 → DenS O324) (p144:DenS I144 → Bool) (f144:DenS I144 → DenS O144) (w334_7:Pat.D P334_7 → Option (OutT X334_7 Q334_7)) (a0:Den (.slice (.int .u64))):Option (DenS O334) :=
  let e1_:=(((1:Int) :: []),((Vx.quoI Go.IntKind.i64 (Go.IntKind.wrap .i64 ((f151 (f173 (a0,()))).1 + (1:Int))) (2:Int)),()))
  bif (p185 ((a0 :: []),())) then
  (bif (f185 ((a0 :: []),())).1 then
  (some ([],(false,((5:Int),()))))
  else bif (p173 (a0,())) then
  (bif (((f173 (a0,())).1.length:Int) == (0:Int)) then
  (some ([],(true,((0:Int),()))))
  else bif (p151 (f173 (a0,()))) then
  (bif (p186 e1_) then
  (Vx.obind (w334_7 (((f186 e1_).1,(f173 (a0,()))),())) fun y6 =>
  Vx.obind2 y6 (fun y7 =>
  bif (p324 (y7.1.1,(y7.1.1,()))) then
  (bif (p144 ((f324 (y7.1.1,(y7.1.1,()))).1,y7.1.2)) then
  (some (y7.1.1,(((f144 ((f324 (y7.1.1,(y7.1.1,()))).1,y7.1.2)).1 == (0:Int)),((0:Int),()))))
  else none)
  else none) (fun z7 =>
  none))
  else none)
  else none)
  else none)
  else none
theorem r334 (p185:DenS I185 → Bool) (f185:DenS I185 → DenS O185) (p173:DenS I173 → Bool) (f173:DenS I173 → DenS O173) (p151:DenS I151 → Bool) (f151:DenS I151 → DenS O151) (p186:DenS I186 → Bool) (f186:DenS I186 → DenS O186) (p333:DenS I333 → Bool) (f333:DenS I333 → DenS O333) (p143:DenS I143 → Bool) (f143:DenS I143 → DenS O143) (p171:DenS I171 → Bool) (f171:DenS I171 → DenS O171) (p324:DenS I324 → Bool) (f324:DenS I324 → DenS O324) (p144:DenS I144 → Bool) (f144:DenS I144 → DenS O144) (w334_7:Pat.D P334_7 → Option (OutT X334_7 Q334_7)) (a0:Den (.slice (.int .u64))) :
    run { P:=Go.Proofs.Tryz.prog,sums:=[(83,⟨I185,O185,p185,f185⟩),(80,⟨I173,O173,p173,f173⟩),(60,⟨I151,O151,p151,f151⟩),(84,⟨I186,O186,p186,f186⟩),(85,⟨I333,O333,p333,f333⟩),(34,⟨I143,O143,p143,f143⟩),(86,⟨I171,O171,p171,f171⟩),(88,⟨I324,O324,p324,f324⟩),(87,⟨I144,O144,p144,f144⟩)],loops:=[(37,7,LoopSpec.of P334_7 A334_7 X334_7 Q334_7 w334_7)],globs:=G1 } 9 37 Go.Proofs.Tryz.f37 I334 O334 (a0,()) = t334 p185 f185 p173 f173 p151 f151 p186 f186 p333 f333 p143 f143 p171 f171 p324 f324 p144 f144 w334_7 a0:=by kernel_rfl
noncomputable def W334_7:P334_7.D → Option (OutT X334_7 Q334_7):=lfix fun L=>h334_7 S185.pre S185.F S173.pre S173.F S151.pre S151.F S186.pre S186.F S333.pre S333.F S143.pre S143.F S171.pre S171.F S324.pre S324.F S144.pre S144.F L some
noncomputable def T334 (x:DenS I334):Option (DenS O334):=t334 S185.pre S185.F S173.pre S173.F S151.pre S151.F S186.pre S186.F S333.pre S333.F S143.pre S143.F S171.pre S171.F S324.pre S324.F S144.pre S144.F W334_7 x.1
noncomputable def C334:Cfg:={ P:=Go.Proofs.Tryz.prog,sums:=[(83,S185),(80,S173),(60,S151),(84,S186),(85,S333),(34,S143),(86,S171),(88,S324),(87,S144)],loops:=[(37,7,LoopSpec.of P334_7 A334_7 X334_7 Q334_7 W334_7)],globs:=G1 }
noncomputable def S334:Sum:=sumOf I334 O334 T334 (DenS.dflt O334)
theorem S334_sound:Sound Go.Proofs.Tryz.prog G1 37 S334 :=
  fn_sound C334 9 37 Go.Proofs.Tryz.f37 mixedOk (by kernel_rfl) (by kernel_rfl) (by kernel_rfl) ⟨S185_sound,⟨S173_sound,⟨S151_sound,⟨S186_sound,⟨S333_sound,⟨S143_sound,⟨S171_sound,⟨S324_sound,⟨S144_sound,trivial⟩⟩⟩⟩⟩⟩⟩⟩⟩ ⟨rfl,fun d=>loopOk_of (fun L e x=>h334_7 S185.pre S185.F S173.pre S173.F S151.pre S151.F S186.pre S186.F S333.pre S333.F S143.pre S143.F S171.pre S171.F S324.pre S324.F S144.pre S144.F L e x) (m334_7 S185.pre S185.F S173.pre S173.F S151.pre S151.F S186.pre S186.F S333.pre S333.F S143.pre S143.F S171.pre S171.F S324.pre S324.F S144.pre S144.F) (fun R L e x=>s334_7 S185.pre S185.F S173.pre S173.F S151.pre S151.F S186.pre S186.F S333.pre S333.F S143.pre S143.F S171.pre S171.F S324.pre S324.F S144.pre S144.F W334_7 d R L e x),trivial⟩ I334 O334 T334 _ (fun x=>r334 S185.pre S185.F S173.pre S173.F S151.pre S151.F S186.pre S186.F S333.pre S333.F S143.pre S143.F S171.pre S171.F S324.pre S324.F S144.pre S144.F W334_7 x.1)
abbrev I335:Sig:=[(false,.int .i64),(false,.int .i64),(false,.slice (.int .u64)),(false,.int .i64),(false,.bool)]
abbrev O335:Sig:=[(false,.int .u64),(false,.int .i64),(false,.int .i64)]
noncomputable def t335 (p151:DenS I151 → Bool) (f151:DenS I151 → DenS O151) (p141:DenS I141 → Bool) (f141:DenS I141 → DenS O141) (p176:DenS I176 → Bool) (f176:DenS I176 → DenS O176) (p144:DenS I144 → Bool) (f144:DenS I144 → DenS O144) (p122:DenS I122 → Bool) (f122:DenS I122 → DenS O122) (a0:Den (.int .i64)) (a1:Den (.int .i64)) (a2:Den (.slice (.int .u64))) (a3:Den (.int .i64)) (a4:Den (.bool)):Option (DenS O335) :=
  let e13_:=(((0:Int) :: ((0:Int) :: [])).take (0:Nat))
  let e12_:=(Go.IntKind.wrap .i64 ((f151 (a2,())).1 - (128:Int)))
  let e11_:=(e12_,())
  let e10_:=(f141 (a2,e11_))
  let e7_:=((e13_ ++ (e10_.1.take ((0:Int) :: ((0:Int) :: [])).length)) ++ (((0:Int) :: ((0:Int) :: [])).drop ((0:Nat) + (min e10_.1.length ((0:Int) :: ((0:Int) :: [])).length))))
  let e9_:=(e10_.1,e11_)
  let e1_:=(a0,(a1,(false,(((e7_.getD (Int.toNat (1:Int)) (0:Int)),((e7_.getD (Int.toNat (0:Int)) (0:Int)),())),((Go.IntKind.wrap .i64 (a3 + e12_)),((a4 || ((f144 ((f176 e9_).1,(a2,()))).1 != (0:Int))),()))))))
  let e8_:=((e13_ ++ (a2.take ((0:Int) :: ((0:Int) :: [])).length)) ++ (((0:Int) :: ((0:Int) :: [])).drop ((0:Nat) + (min a2.length ((0:Int) :: ((0:Int) :: [])).length))))
  let e2_:=(a0,(a1,(false,(((e8_.getD (Int.toNat (1:Int)) (0:Int)),((e8_.getD (Int.toNat (0:Int)) (0:Int)),())),(a3,(a4,()))))))
  let e3_:=(e7_.length:Int)
  let e4_:=(e8_.length:Int)
  let e5_:=e9_
  let e6_:=e12_
  bif (p151 (a2,())) then
  (bif (decide (e6_ > (0:Int))) then
  (bif (p141 (a2,(e6_,()))) then
  (bif (p176 e5_) then
  (bif ((p144 ((f176 e5_).1,(a2,()))) || (!(bif a4 then false else true))) then
  (bif (decide ((1:Int) < e3_)) then
  (bif (decide ((0:Int) < e3_)) then
  (bif (p122 e1_) then
  (some (f122 e1_))
  else none)
  else none)
  else none)
  else none)
  else none)
  else none)
  else bif (decide ((1:Int) < e4_)) then
  (bif (decide ((0:Int) < e4_)) then
  (bif (p122 e2_) then
  (some (f122 e2_))
  else none)
  else none)
  else none)
  else none
theorem r335 (p151:DenS I151 → Bool) (f151:DenS I151 → DenS O151) (p141:DenS I141 → Bool) (f141:DenS I141 → DenS O141) (p176:DenS I176 → Bool) (f176:DenS I176 → DenS O176) (p144:DenS I144 → Bool) (f144:DenS I144 → DenS O144) (p122:DenS I122 → Bool) (f122:DenS I122 → DenS O122) (a0:Den (.int .i64)) (a1:Den (.int .i64)) (a2:Den (.slice (.int .u64))) (a3:Den (.int .i64)) (a4:Den (.bool)) :
    run { P:=Go.Proofs.Tryz.prog,sums:=[(60,⟨I151,O151,p151,f151⟩),(89,⟨I141,O141,p141,f141⟩),(36,⟨I176,O176,p176,f176⟩),(87,⟨I144,O144,p144,f144⟩),(20,⟨I122,O122,p122,f122⟩)],loops:=[],globs:=G1 } 9 38 Go.Proofs.Tryz.f38 I335 O335 (a0,a1,a2,a3,a4,()) = t335 p151 f151 p141 f141 p176 f176 p144 f144 p122 f122 a0 a1 a2 a3 a4:=by kernel_rfl
noncomputable def T335 (x:DenS I335):Option (DenS O335):=t335 S151.pre S151.F S141.pre S141.F S176.pre S176.F S144.pre S144.F S122.pre S122.F x.1 x.2.1 x.2.2.1 x.2.2.2.1 x.2.2.2.2.1
noncomputable def C335:Cfg:={ P:=Go.Proofs.Tryz.prog,sums:=[(60,S151),(89,S141),(36,S176),(87,S144),(20,S122)],loops:=[],globs:=G1 }
noncomputable def S335:Sum:=sumOf I335 O335 T335 (DenS.dflt O335)
theorem S335_sound:Sound Go.Proofs.Tryz.prog G1 38 S335 :=
  fn_sound C335 9 38 Go.Proofs.Tryz.f38 mixedOk (by kernel_rfl) (by kernel_rfl) (by kernel_rfl) ⟨S151_sound,⟨S141_sound,⟨S176_sound,⟨S144_sound,⟨S122_sound,trivial⟩⟩⟩⟩⟩ trivial I335 O335 T335 _ (fun x=>r335 S151.pre S151.F S141.pre S141.F S176.pre S176.F S144.pre S144.F S122.pre S122.F x.1 x.2.1 x.2.2.1 x.2.2.2.1 x.2.2.2.2.1)
abbrev I336:Sig:=[(false,.int .i64),(false,.int .i64),(false,.int .u64),(false,.int .u64)]
abbrev O336:Sig:=[(false,.int .u64),(false,.int .i64),(false,.int .i64)]
noncomputable def t336 (p311:DenS I311 → Bool) (f311:DenS I311 → DenS O311) (p65:DenS I65 → Bool) (f65:DenS I65 → DenS O65) (p323:DenS I323 → Bool) (f323:DenS I323 → DenS O323) (p97:DenS I97 → Bool) (f97:DenS I97 → DenS O97) (p70:DenS I70 → Bool) (f70:DenS I70 → DenS O70) (p313:DenS I313 → Bool) (f313:DenS I313 → DenS O313) (p118:DenS I118 → Bool) (f118:DenS I118 → DenS O118) (p326:DenS I326 → Bool) (f326:DenS I326 → DenS O326) (p143:DenS I143 → Bool) (f143:DenS I143 → DenS O143) (p176:DenS I176 → Bool) (f176:DenS I176 → DenS O176) (p334:DenS I334 → Bool) (f334:DenS I334 → DenS O334) (p335:DenS I335 → Bool) (f335:DenS I335 → DenS O335) (a0:Den (.int .i64)) (a1:Den (.int .i64)) (a2:Den (.int .u64)) (a3:Den (.int .u64)):Option (DenS O336) :=
  let e37_:=(a0,((f311 (a0,(a1,((a2 :: (a3 :: [])),())))).1,(a2,())))
  let e35_:=(f313 e37_)
  let e36_:=(a0,((f311 (a0,(a1,((a2 :: (a3 :: [])),())))).1,(a3,())))
  let e34_:=(f313 e36_)
  let e29_:=(if (e34_.2.1 < e35_.2.1) then e34_.2.1 else e35_.2.1)
  let e27_:=(e35_.1,((Go.IntKind.wrap .i64 (e35_.2.1 - e29_)),()))
  let e28_:=(e34_.1,((Go.IntKind.wrap .i64 (e34_.2.1 - e29_)),()))
  let e20_:=((f143 ((f326 e27_).1,(f326 e28_))).1,((128:Int),()))
  let e19_:=(f334 ((f176 e20_).1,()))
  let e1_:=(a0,(a1,(e19_.1,((Go.IntKind.wrap .i64 (e29_ - (64:Int))),((!e19_.2.1),())))))
  let e30_:=(e35_.1,((Go.IntKind.wrap .i64 (e35_.2.1 - e35_.2.1)),()))
  let e31_:=(e34_.1,((Go.IntKind.wrap .i64 (e34_.2.1 - e35_.2.1)),()))
  let e26_:=((f326 e30_).1,(f326 e31_))
  let e24_:=((f143 e26_).1,((128:Int),()))
  let e23_:=((f176 e24_).1,())
  let e22_:=(f334 e23_)
  let e18_:=(a0,(a1,(e22_.1,((Go.IntKind.wrap .i64 (e35_.2.1 - (64:Int))),((!e22_.2.1),())))))
  let e2_:=(p335 e18_)
  let e3_:=(f335 e18_)
  let e32_:=(e35_.1,((Go.IntKind.wrap .i64 (e35_.2.1 - e34_.2.1)),()))
  let e33_:=(e34_.1,((Go.IntKind.wrap .i64 (e34_.2.1 - e34_.2.1)),()))
  let e25_:=((f143 ((f326 e32_).1,(f326 e33_))).1,((128:Int),()))
  let e21_:=(f334 ((f176 e25_).1,()))
  let e4_:=(a0,(a1,(e21_.1,((Go.IntKind.wrap .i64 (e34_.2.1 - (64:Int))),((!e21_.2.1),())))))
  let e5_:=e20_
  let e6_:=(p334 e23_)
  let e7_:=(p176 e24_)
  let e8_:=e25_
  let e9_:=(p143 e26_)
  let e10_:=e27_
  let e11_:=e28_
  let e12_:=(p326 e30_)
  let e13_:=(p326 e31_)
  let e14_:=e32_
  let e15_:=e33_
  let e16_:=(e34_.1 == (0:Int))
  let e17_:=(e35_.1 == (0:Int))
  bif (p311 (a0,(a1,((a2 :: (a3 :: [])),())))) then
  (bif ((f311 (a0,(a1,((a2 :: (a3 :: [])),())))).2.1 != (0:Int)) then
  (some ((0:Int),((0:Int),(f311 (a0,(a1,((a2 :: (a3 :: [])),())))).2)))
  else bif (p65 (a0,(a2,()))) then
  (bif (p65 (a0,(a3,()))) then
  (bif (((f65 (a0,(a2,()))).1 == (0:Int)) || ((f65 (a0,(a3,()))).1 == (0:Int))) then
  (bif (p70 (a0,())) then
  (some ((f70 (a0,())).1,((1:Int),(f70 (a0,())).2)))
  else none)
  else bif (p323 ((f65 (a0,(a2,()))).1,())) then
  (bif ((p323 ((f65 (a0,(a3,()))).1,())) || (!(bif (f323 ((f65 (a0,(a2,()))).1,())).1 then false else true))) then
  (bif ((f323 ((f65 (a0,(a2,()))).1,())).1 || (f323 ((f65 (a0,(a3,()))).1,())).1) then
  (bif (p97 (a0,(false,()))) then
  (some ((f97 (a0,(false,()))).1,((0:Int),(f97 (a0,(false,()))).2)))
  else none)
  else bif (((f65 (a0,(a2,()))).1 == (1:Int)) || ((f65 (a0,(a3,()))).1 == (1:Int))) then
  (bif (p70 (a0,())) then
  (some ((f70 (a0,())).1,((0:Int),(f70 (a0,())).2)))
  else none)
  else bif (p313 e37_) then
  (bif (p313 e36_) then
  (bif (e17_ && e16_) then
  (bif (p118 (a0,(false,()))) then
  (some ((f118 (a0,(false,()))).1,((0:Int),(f118 (a0,(false,()))).2)))
  else none)
  else bif e17_ then
  (bif e16_ then
  (bif e12_ then
  (bif e13_ then
  (bif e9_ then
  (bif e7_ then
  (bif e6_ then
  (bif e2_ then
  (some e3_)
  else none)
  else none)
  else none)
  else none)
  else none)
  else none)
  else bif (p326 e14_) then
  (bif (p326 e15_) then
  (bif (p143 ((f326 e14_).1,(f326 e15_))) then
  (bif (p176 e8_) then
  (bif (p334 ((f176 e8_).1,())) then
  (bif (p335 e4_) then
  (some (f335 e4_))
  else none)
  else none)
  else none)
  else none)
  else none)
  else none)
  else bif e16_ then
  (bif e12_ then
  (bif e13_ then
  (bif e9_ then
  (bif e7_ then
  (bif e6_ then
  (bif e2_ then
  (some e3_)
  else none)
  else none)
  else none)
  else none)
  else none)
  else none)
  else bif (p326 e10_) then
  (bif (p326 e11_) then
  (bif (p143 ((f326 e10_).1,(f326 e11_))) then
  (bif (p176 e5_) then
  (bif (p334 ((f176 e5_).1,())) then
  (bif (p335 e1_) then
  (some (f335 e1_))
  else none)
  else none)
  else none)
  else none)
  else none)
  else none)
  else none)
  else none)
  else none)
  else none)
  else none)
  else none)
  else none
theorem r336 (p311:DenS I311 → Bool) (f311:DenS I311 → DenS O311) (p65:DenS I65 → Bool) (f65:DenS I65 → DenS O65) (p323:DenS I323 → Bool) (f323:DenS I323 → DenS O323) (p97:DenS I97 → Bool) (f97:DenS I97 → DenS O97) (p70:DenS I70 → Bool) (f70:DenS I70 → DenS O70) (p313:DenS I313 → Bool) (f313:DenS I313 → DenS O313) (p118:DenS I118 → Bool) (f118:DenS I118 → DenS O118) (p326:DenS I326 → Bool) (f326:DenS I326 → DenS O326) (p143:DenS I143 → Bool) (f143:DenS I143 → DenS O143) (p176:DenS I176 → Bool) (f176:DenS I176 → DenS O176) (p334:DenS I334 → Bool) (f334:DenS I334 → DenS O334) (p335:DenS I335 → Bool) (f335:DenS I335 → DenS O335) (a0:Den (.int .i64)) (a1:Den (.int .i64)) (a2:Den (.int .u64)) (a3:Den (.int .u64)) :
    run { P:=Go.Proofs.Tryz.prog,sums:=[(13,⟨I311,O311,p311,f311⟩),(14,⟨I65,O65,p65,f65⟩),(30,⟨I323,O323,p323,f323⟩),(32,⟨I97,O97,p97,f97⟩),(31,⟨I70,O70,p70,f70⟩),(16,⟨I313,O313,p313,f313⟩),(33,⟨I118,O118,p118,f118⟩),(35,⟨I326,O326,p326,f326⟩),(34,⟨I143,O143,p143,f143⟩),(36,⟨I176,O176,p176,f176⟩),(37,⟨I334,O334,p334,f334⟩),(38,⟨I335,O335,p335,f335⟩)],loops:=[],globs:=G1 } 9 9 Go.Proofs.Tryz.f9 I336 O336 (a0,a1,a2,a3,()) = t336 p311 f311 p65 f65 p323 f323 p97 f97 p70 f70 p313 f313 p118 f118 p326 f326 p143 f143 p176 f176 p334 f334 p335 f335 a0 a1 a2 a3:=by kernel_rfl
noncomputable def T336 (x:DenS I336):Option (DenS O336):=t336 S311.pre S311.F S65.pre S65.F S323.pre S323.F S97.pre S97.F S70.pre S70.F S313.pre S313.F S118.pre S118.F S326.pre S326.F S143.pre S143.F S176.pre S176.F S334.pre S334.F S335.pre S335.F x.1 x.2.1 x.2.2.1 x.2.2.2.1
noncomputable def C336:Cfg:={ P:=Go.Proofs.Tryz.prog,sums:=[(13,S311),(14,S65),(30,S323),(32,S97),(31,S70),(16,S313),(33,S118),(35,S326),(34,S143),(36,S176),(37,S334),(38,S335)],loops:=[],globs:=G1 }
noncomputable def S336:Sum:=sumOf I336 O336 T336 (DenS.dflt O336)
theorem S336_sound:Sound Go.Proofs.Tryz.prog G1 9 S336 :=
  fn_sound C336 9 9 Go.Proofs.Tryz.f9 mixedOk (by kernel_rfl) (by kernel_rfl) (by kernel_rfl) ⟨S311_sound,⟨S65_sound,⟨S323_sound,⟨S97_sound,⟨S70_sound,⟨S313_sound,⟨S118_sound,⟨S326_sound,⟨S143_sound,⟨S176_sound,⟨S334_sound,⟨S335_sound,trivial⟩⟩⟩⟩⟩⟩⟩⟩⟩⟩⟩⟩ trivial I336 O336 T336 _ (fun x=>r336 S311.pre S311.F S65.pre S65.F S323.pre S323.F S97.pre S97.F S70.pre S70.F S313.pre S313.F S118.pre S118.F S326.pre S326.F S143.pre S143.F S176.pre S176.F S334.pre S334.F S335.pre S335.F x.1 x.2.1 x.2.2.1 x.2.2.2.1)
abbrev I337:Sig:=[]
abbrev O337:Sig:=[(false,.bool)]
noncomputable def t337 (p318:DenS I318 → Bool) (f318:DenS I318 → DenS O318) (p336:DenS I336 → Bool) (f336:DenS I336 → DenS O336):Option (DenS O337) :=
  let e3_:=((0:Int),((0:Int),((16896:Int),((50176:Int),()))))
  let e1_:=(f336 e3_)
  let e2_:=(f318 ((0:Int),((0:Int),((16384:Int),()))))
  bif (p318 ((0:Int),((0:Int),((16384:Int),())))) then
  (bif (p336 e3_) then
  (some (((((((e2_.1 == (15784:Int)) && (e2_.2.1 == (16:Int))) && (e2_.2.2.1 == (0:Int))) && (e1_.1 == (17664:Int))) && (e1_.2.1 == (0:Int))) && (e1_.2.2.1 == (0:Int))),()))
  else none)
  else none
theorem r337 (p318:DenS I318 → Bool) (f318:DenS I318 → DenS O318) (p336:DenS I336 → Bool) (f336:DenS I336 → DenS O336) :
    run { P:=Go.Proofs.Tryz.prog,sums:=[(6,⟨I318,O318,p318,f318⟩),(9,⟨I336,O336,p336,f336⟩)],loops:=[],globs:=G1 } 9 8 Go.Proofs.Tryz.f8 I337 O337 (()) = t337 p318 f318 p336 f336:=by kernel_rfl
noncomputable def T337 (x:DenS I337):Option (DenS O337):=t337 S318.pre S318.F S336.pre S336.F
noncomputable def C337:Cfg:={ P:=Go.Proofs.Tryz.prog,sums:=[(6,S318),(9,S336)],loops:=[],globs:=G1 }
noncomputable def S337:Sum:=sumOf I337 O337 T337 (DenS.dflt O337)
theorem S337_sound:Sound Go.Proofs.Tryz.prog G1 8 S337 :=
  fn_sound C337 9 8 Go.Proofs.Tryz.f8 mixedOk (by kernel_rfl) (by kernel_rfl) (by kernel_rfl) ⟨S318_sound,⟨S336_sound,trivial⟩⟩ trivial I337 O337 T337 _ (fun x=>r337 S318.pre S318.F S336.pre S336.F)
abbrev I339:Sig:=[(false,.slice (.int .u64))]
abbrev O339:Sig:=[(false,.slice (.int .u64))]
abbrev P339_4:Pat:=⟨36,[(3,.one (.v .i64)),(0,.one (.sl (.int .u64))),(5,.one (.v .i64)),(4,.one (.own 0))],[.arr (.int .u64)]⟩
abbrev A339_4:List (Nat × Shape):=[]
abbrev X339_4:List (Nat × Pat):=[(0,⟨36,[(4,.one (.own 0))],[.arr (.int .u64)]⟩)]
abbrev Q339_4:Option Pat:=none
noncomputable def h339_4 (p163:DenS I163 → Bool) (f163:DenS I163 → DenS O163) {R:Type} (L:Pat.D P339_4 → Option R) (e:OutT X339_4 Q339_4 → Option R) (x:Pat.D P339_4):Option R :=
  let e5_:=(Go.IntKind.wrap .i64 ((2:Int) * x.1.2.2.1))
  let e6_:=(x.1.2.1.getD (Int.toNat x.1.2.2.1) (0:Int))
  let e1_:=(x.2.1.set (Int.toNat e5_) (Vx.andI Go.IntKind.u64 e6_ (4294967295:Int)))
  let e2_:=(Go.IntKind.wrap .i64 (e5_ + (1:Int)))
  let e3_:=((decide ((0:Int) ≤ x.1.2.2.1)) && (decide (x.1.2.2.1 < (x.1.2.1.length:Int))))
  let e4_:=e5_
  bif (decide (x.1.2.2.1 < x.1.1)) then
  (bif e3_ then
  (bif ((decide ((0:Int) ≤ e4_)) && (decide (e4_ < (x.2.1.length:Int)))) then
  (bif e3_ then
  (bif ((decide ((0:Int) ≤ e2_)) && (decide (e2_ < (e1_.length:Int)))) then
  ((L ((x.1.1,(x.1.2.1,((Go.IntKind.wrap .i64 (x.1.2.2.1 + (1:Int))),((),())))),((e1_.set (Int.toNat e2_) (Vx.shrI Go.IntKind.u64 e6_ (32:Int))),()))))
  else none)
  else none)
  else none)
  else none)
  else (e (.inl (((),()),x.2)))
theorem s339_4 (p163:DenS I163 → Bool) (f163:DenS I163 → DenS O163) (w339_4:Pat.D P339_4 → Option (OutT X339_4 Q339_4)) (d:Nat) (R:Type) (L:Pat.D P339_4 → Option R) (e:OutT X339_4 Q339_4 → Option R) (x:Pat.D P339_4) :
    lStep { P:=Go.Proofs.Tryz.prog,sums:=[(92,⟨I163,O163,p163,f163⟩)],loops:=[(109,4,LoopSpec.of P339_4 A339_4 X339_4 Q339_4 w339_4)],globs:=G1 } (d + 2) 109 (bodyOf Go.Proofs.Tryz.f109 4) P339_4 A339_4 X339_4 Q339_4 (R:=R) L e x = h339_4 p163 f163 L e x:=by kernel_rfl
theorem m339_4 (p163:DenS I163 → Bool) (f163:DenS I163 → DenS O163):Par fun L e x=>h339_4 p163 f163 L e x:=by
  intro A B rel L L' e e' h0 hL he x
  unfold h339_4
  repeat' (first | exact h0 | exact hL _ | exact he _ | apply rel_cond | (apply rel_obind h0; intro _) | (apply rel_obind2 <;> intro _))
noncomputable def t339 (p163:DenS I163 → Bool) (f163:DenS I163 → DenS O163) (w339_4:Pat.D P339_4 → Option (OutT X339_4 Q339_4)) (a0:Den (.slice (.int .u64))):Option (DenS O339) :=
  let e1_:=(Go.IntKind.wrap .i64 ((2:Int) * (f163 (a0,())).1))
  bif (p163 (a0,())) then
  (bif ((decide ((0:Int) ≤ e1_)) && (decide ((e1_ * (8:Int)) ≤ (140737488355328:Int)))) then
  (Vx.obind (w339_4 (((f163 (a0,())).1,(a0,((0:Int),((),())))),((List.replicate (Int.toNat e1_) (0:Int)),()))) fun y2 =>
  Vx.obind2 y2 (fun y3 =>
  some y3.2) (fun z3 =>
  none))
  else none)
  else none
theorem r339 (p163:DenS I163 → Bool) (f163:DenS I163 → DenS O163) (w339_4:Pat.D P339_4 → Option (OutT X339_4 Q339_4)) (a0:Den (.slice (.int .u64))) :
    run { P:=Go.Proofs.Tryz.prog,sums:=[(92,⟨I163,O163,p163,f163⟩)],loops:=[(109,4,LoopSpec.of P339_4 A339_4 X339_4 Q339_4 w339_4)],globs:=G1 } 9 109 Go.Proofs.Tryz.f109 I339 O339 (a0,()) = t339 p163 f163 w339_4 a0:=by kernel_rfl
noncomputable def W339_4:P339_4.D → Option (OutT X339_4 Q339_4):=lfix fun L=>h339_4 S163.pre S163.F L some
noncomputable def T339 (x:DenS I339):Option (DenS O339):=t339 S163.pre S163.F W339_4 x.1
noncomputable def C339:Cfg:={ P:=Go.Proofs.Tryz.prog,sums:=[(92,S163)],loops:=[(109,4,LoopSpec.of P339_4 A339_4 X339_4 Q339_4 W339_4)],globs:=G1 }
noncomputable def S339:Sum:=sumOf I339 O339 T339 (DenS.dflt O339)
theorem S339_sound:Sound Go.Proofs.Tryz.prog G1 109 S339 :=
  fn_sound C339 9 109 Go.Proofs.Tryz.f109 mixedOk (by kernel_rfl) (by kernel_rfl) (by kernel_rfl) ⟨S163_sound,trivial⟩ ⟨rfl,fun d=>loopOk_of (fun L e x=>h339_4 S163.pre S163.F L e x) (m339_4 S163.pre S163.F) (fun R L e x=>s339_4 S163.pre S163.F W339_4 d R L e x),trivial⟩ I339 O339 T339 _ (fun x=>r339 S163.pre S163.F W339_4 x.1)
abbrev I340:Sig:=[(false,.slice (.int .u64))]
abbrev O340:Sig:=[(false,.slice (.int .u64))]
abbrev P340_3:Pat:=⟨37,[(0,.one (.sl (.int .u64))),(4,.one (.v .i64)),(3,.one (.own 0))],[.arr (.int .u64)]⟩
abbrev A340_3:List (Nat × Shape):=[]
abbrev X340_3:List (Nat × Pat):=[(0,⟨37,[(3,.one (.own 0))],[.arr (.int .u64)]⟩)]
abbrev Q340_3:Option Pat:=none
noncomputable def h340_3 (p133:DenS I133 → Bool) (f133:DenS I133 → DenS O133) {R:Type} (L:Pat.D P340_3 → Option R) (e:OutT X340_3 Q340_3 → Option R) (x:Pat.D P340_3):Option R :=
  let e1_:=((decide ((0:Int) ≤ (Vx.quoI Go.IntKind.i64 x.1.2.1 (2:Int)))) && (decide ((Vx.quoI Go.IntKind.i64 x.1.2.1 (2:Int)) < (x.2.1.length:Int))))
  let e2_:=(Int.toNat (Vx.quoI Go.IntKind.i64 x.1.2.1 (2:Int)))
  bif (decide (x.1.2.1 < (x.1.1.length:Int))) then
  (bif e1_ then
  (bif ((decide ((0:Int) ≤ x.1.2.1)) && (decide (x.1.2.1 < (x.1.1.length:Int)))) then
  (bif e1_ then
  ((L ((x.1.1,((Go.IntKind.wrap .i64 (x.1.2.1 + (1:Int))),((),()))),((x.2.1.set e2_ (Vx.orI Go.IntKind.u64 (x.2.1.getD e2_ (0:Int)) (Vx.shlI Go.IntKind.u64 (x.1.1.getD (Int.toNat x.1.2.1) (0:Int)) (Go.IntKind.wrap .u64 (Go.IntKind.wrap .i64 ((32:Int) * (Int.tmod x.1.2.1 (2:Int)))))))),()))))
  else none)
  else none)
  else none)
  else (e (.inl (((),()),x.2)))
theorem s340_3 (p133:DenS I133 → Bool) (f133:DenS I133 → DenS O133) (w340_3:Pat.D P340_3 → Option (OutT X340_3 Q340_3)) (d:Nat) (R:Type) (L:Pat.D P340_3 → Option R) (e:OutT X340_3 Q340_3 → Option R) (x:Pat.D P340_3) :
    lStep { P:=Go.Proofs.Tryz.prog,sums:=[(69,⟨I133,O133,p133,f133⟩)],loops:=[(110,3,LoopSpec.of P340_3 A340_3 X340_3 Q340_3 w340_3)],globs:=G1 } (d + 2) 110 (bodyOf Go.Proofs.Tryz.f110 3) P340_3 A340_3 X340_3 Q340_3 (R:=R) L e x = h340_3 p133 f133 L e x:=by kernel_rfl
theorem m340_3 (p133:DenS I133 → Bool) (f133:DenS I133 → DenS O133):Par fun L e x=>h340_3 p133 f133 L e x:=by
  intro A B rel L L' e e' h0 hL he x
  unfold h340_3
  repeat' (first | exact h0 | exact hL _ | exact he _ | apply rel_cond | (apply rel_obind h0; intro _) | (apply rel_obind2 <;> intro _))
noncomputable def t340 (p133:DenS I133 → Bool) (f133:DenS I133 → DenS O133) (w340_3:Pat.D P340_3 → Option (OutT X340_3 Q340_3)) (a0:Den (.slice (.int .u64))):Option (DenS O340) :=
  let e1_:=(Vx.quoI Go.IntKind.i64 (Go.IntKind.wrap .i64 ((a0.length:Int) + (1:Int))) (2:Int))
  bif ((decide ((0:Int) ≤ e1_)) && (decide ((e1_ * (8:Int)) ≤ (140737488355328:Int)))) then
  (Vx.obind (w340_3 ((a0,((0:Int),((),()))),((List.replicate (Int.toNat e1_) (0:Int)),()))) fun y1 =>
  Vx.obind2 y1 (fun y2 =>
  bif (p133 y2.2) then
  (some (f133 y2.2))
  else none) (fun z2 =>
  none))
  else none
theorem r340 (p133:DenS I133 → Bool) (f133:DenS I133 → DenS O133) (w340_3:Pat.D P340_3 → Option (OutT X340_3 Q340_3)) (a0:Den (.slice (.int .u64))) :
    run { P:=Go.Proofs.Tryz.prog,sums:=[(69,⟨I133,O133,p133,f133⟩)],loops:=[(110,3,LoopSpec.of P340_3 A340_3 X340_3 Q340_3 w340_3)],globs:=G1 } 9 110 Go.Proofs.Tryz.f110 I340 O340 (a0,()) = t340 p133 f133 w340_3 a0:=by kernel_rfl
noncomputable def W340_3:P340_3.D → Option (OutT X340_3 Q340_3):=lfix fun L=>h340_3 S133.pre S133.F L some
noncomputable def T340 (x:DenS I340):Option (DenS O340):=t340 S133.pre S133.F W340_3 x.1
noncomputable def C340:Cfg:={ P:=Go.Proofs.Tryz.prog,sums:=[(69,S133)],loops:=[(110,3,LoopSpec.of P340_3 A340_3 X340_3 Q340_3 W340_3)],globs:=G1 }
noncomputable def S340:Sum:=sumOf I340 O340 T340 (DenS.dflt O340)
theorem S340_sound:Sound Go.Proofs.Tryz.prog G1 110 S340 :=
  fn_sound C340 9 110 Go.Proofs.Tryz.f110 mixedOk (by kernel_rfl) (by kernel_rfl) (by kernel_rfl) ⟨S133_sound,trivial⟩ ⟨rfl,fun d=>loopOk_of (fun L e x=>h340_3 S133.pre S133.F L e x) (m340_3 S133.pre S133.F) (fun R L e x=>s340_3 S133.pre S133.F W340_3 d R L e x),trivial⟩ I340 O340 T340 _ (fun x=>r340 S133.pre S133.F W340_3 x.1)
end Vx
namespace Vx
open Go Go.Proofs
abbrev I341:Sig:=[(false,.slice (.int .u64)),(false,.slice (.int .u64))]
abbrev O341:Sig:=[(false,.slice (.int .u64))]
abbrev P341_5:Pat:=⟨73,[(5,.one (.sl (.int .u64))),(6,.one (.sl (.int .u64))),(8,.one (.v .i64)),(7,.one (.own 0))],[.arr (.int .u64)]⟩
abbrev A341_5:List (Nat × Shape):=[]
abbrev X341_5:List (Nat × Pat):=[(0,⟨73,[(7,.one (.own 0))],[.arr (.int .u64)]⟩)]
abbrev Q341_5:Option Pat:=none
abbrev P341_9:Pat:=⟨73,[(10,.one (.v .i64)),(9,.one (.v .u64)),(8,.one (.v .i64)),(5,.one (.sl (.int .u64))),(6,.one (.sl (.int .u64))),(7,.one (.own 0))],[.arr (.int .u64)]⟩
abbrev A341_9:List (Nat × Shape):=[]
abbrev X341_9:List (Nat × Pat):=[(2,⟨73,[(9,.one (.v .u64)),(8,.one (.v .i64)),(5,.one (.sl (.int .u64))),(6,.one (.sl (.int .u64))),(7,.one (.own 0))],[.arr (.int .u64)]⟩)]
abbrev Q341_9:Option Pat:=none
noncomputable def h341_9 (p339:DenS I339 → Bool) (f339:DenS I339 → DenS O339) (p340:DenS I340 → Bool) (f340:DenS I340 → DenS O340) {R:Type} (L:Pat.D P341_9 → Option R) (e:OutT X341_9 Q341_9 → Option R) (x:Pat.D P341_9):Option R :=
  let e6_:=(Go.IntKind.wrap .i64 (x.1.2.2.1 + x.1.1))
  let e5_:=(Int.toNat e6_)
  let e1_:=(Go.IntKind.wrap .u64 ((Go.IntKind.wrap .u64 ((Go.IntKind.wrap .u64 ((x.1.2.2.2.1.getD (Int.toNat x.1.2.2.1) (0:Int)) * (x.1.2.2.2.2.1.getD (Int.toNat x.1.1) (0:Int)))) + (x.2.1.getD e5_ (0:Int)))) + x.1.2.1))
  let e2_:=((decide ((0:Int) ≤ e6_)) && (decide (e6_ < (x.2.1.length:Int))))
  let e3_:=(x.1.2.2.1,(x.1.2.2.2.1,(x.1.2.2.2.2.1,((),()))))
  let e4_:=(decide (x.1.1 < (x.1.2.2.2.2.1.length:Int)))
  bif e4_ then
  (bif ((decide ((0:Int) ≤ x.1.2.2.1)) && (decide (x.1.2.2.1 < (x.1.2.2.2.1.length:Int)))) then
  (bif ((decide ((0:Int) ≤ x.1.1)) && e4_) then
  (bif e2_ then
  (bif e2_ then
  ((L (((Go.IntKind.wrap .i64 (x.1.1 + (1:Int))),((Vx.shrI Go.IntKind.u64 e1_ (32:Int)),e3_)),((x.2.1.set e5_ (Vx.andI Go.IntKind.u64 e1_ (4294967295:Int))),()))))
  else none)
  else none)
  else none)
  else none)
  else (e (.inl ((x.1.2.1,e3_),x.2)))
theorem s341_9 (p339:DenS I339 → Bool) (f339:DenS I339 → DenS O339) (p340:DenS I340 → Bool) (f340:DenS I340 → DenS O340) (w341_5:Pat.D P341_5 → Option (OutT X341_5 Q341_5)) (w341_9:Pat.D P341_9 → Option (OutT X341_9 Q341_9)) (d:Nat) (R:Type) (L:Pat.D P341_9 → Option R) (e:OutT X341_9 Q341_9 → Option R) (x:Pat.D P341_9) :
    lStep { P:=Go.Proofs.Tryz.prog,sums:=[(109,⟨I339,O339,p339,f339⟩),(110,⟨I340,O340,p340,f340⟩)],loops:=[(91,5,LoopSpec.of P341_5 A341_5 X341_5 Q341_5 w341_5),(91,9,LoopSpec.of P341_9 A341_9 X341_9 Q341_9 w341_9)],globs:=G1 } (d + 2) 91 (bodyOf Go.Proofs.Tryz.f91 9) P341_9 A341_9 X341_9 Q341_9 (R:=R) L e x = h341_9 p339 f339 p340 f340 L e x:=by kernel_rfl
theorem m341_9 (p339:DenS I339 → Bool) (f339:DenS I339 → DenS O339) (p340:DenS I340 → Bool) (f340:DenS I340 → DenS O340):Par fun L e x=>h341_9 p339 f339 p340 f340 L e x:=by
  intro A B rel L L' e e' h0 hL he x
  unfold h341_9
  repeat' (first | exact h0 | exact hL _ | exact he _ | apply rel_cond | (apply rel_obind h0; intro _) | (apply rel_obind2 <;> intro _))
noncomputable def h341_5 (p339:DenS I339 → Bool) (f339:DenS I339 → DenS O339) (p340:DenS I340 → Bool) (f340:DenS I340 → DenS O340) (w341_9:Pat.D P341_9 → Option (OutT X341_9 Q341_9)) {R:Type} (L:Pat.D P341_5 → Option R) (e:OutT X341_5 Q341_5 → Option R) (x:Pat.D P341_5):Option R :=
  bif (decide (x.1.2.2.1 < (x.1.1.length:Int))) then
  (Vx.obind (w341_9 (((0:Int),((0:Int),(x.1.2.2.1,(x.1.1,(x.1.2.1,((),())))))),x.2)) fun y1 =>
  Vx.obind2 y1 (fun y2 =>
  bif (decide ((y2.1.2.2.2.1.length:Int) > (0:Int))) then
  (bif ((decide ((0:Int) ≤ (Go.IntKind.wrap .i64 (y2.1.2.1 + (y2.1.2.2.2.1.length:Int))))) && (decide ((Go.IntKind.wrap .i64 (y2.1.2.1 + (y2.1.2.2.2.1.length:Int))) < (y2.2.1.length:Int)))) then
  ((L ((y2.1.2.2.1,(y2.1.2.2.2.1,((Go.IntKind.wrap .i64 (y2.1.2.1 + (1:Int))),((),())))),((y2.2.1.set (Int.toNat (Go.IntKind.wrap .i64 (y2.1.2.1 + (y2.1.2.2.2.1.length:Int)))) y2.1.1),()))))
  else none)
  else (L ((y2.1.2.2.1,(y2.1.2.2.2.1,((Go.IntKind.wrap .i64 (y2.1.2.1 + (1:Int))),((),())))),y2.2))) (fun z2 =>
  none))
  else (e (.inl (((),()),x.2)))
theorem s341_5 (p339:DenS I339 → Bool) (f339:DenS I339 → DenS O339) (p340:DenS I340 → Bool) (f340:DenS I340 → DenS O340) (w341_5:Pat.D P341_5 → Option (OutT X341_5 Q341_5)) (w341_9:Pat.D P341_9 → Option (OutT X341_9 Q341_9)) (d:Nat) (R:Type) (L:Pat.D P341_5 → Option R) (e:OutT X341_5 Q341_5 → Option R) (x:Pat.D P341_5) :
    lStep { P:=Go.Proofs.Tryz.prog,sums:=[(109,⟨I339,O339,p339,f339⟩),(110,⟨I340,O340,p340,f340⟩)],loops:=[(91,5,LoopSpec.of P341_5 A341_5 X341_5 Q341_5 w341_5),(91,9,LoopSpec.of P341_9 A341_9 X341_9 Q341_9 w341_9)],globs:=G1 } (d + 2) 91 (bodyOf Go.Proofs.Tryz.f91 5) P341_5 A341_5 X341_5 Q341_5 (R:=R) L e x = h341_5 p339 f339 p340 f340 w341_9 L e x:=by kernel_rfl
theorem m341_5 (p339:DenS I339 → Bool) (f339:DenS I339 → DenS O339) (p340:DenS I340 → Bool) (f340:DenS I340 → DenS O340) (w341_9:Pat.D P341_9 → Option (OutT X341_9 Q341_9)):Par fun L e x=>h341_5 p339 f339 p340 f340 w341_9 L e x:=by
  intro A B rel L L' e e' h0 hL he x
  unfold h341_5
  repeat' (first | exact h0 | exact hL _ | exact he _ | apply rel_cond | (apply rel_obind h0; intro _) | (apply rel_obind2 <;> intro _))
noncomputable def t341 (p339:DenS I339 → Bool) (f339:DenS I339 → DenS O339) (p340:DenS I340 → Bool) (f340:DenS I340 → DenS O340) (w341_5:Pat.D P341_5 → Option (OutT X341_5 Q341_5)) (w341_9:Pat.D P341_9 → Option (OutT X341_9 Q341_9)) (a0:Den (.slice (.int .u64))) (a1:Den (.slice (.int .u64))):Option (DenS O341) :=
  let e1_:=(Go.IntKind.wrap .i64 (((f339 (a0,())).1.length:Int) + ((f339 (a1,())).1.length:Int)))
  bif (p339 (a0,())) then
  (bif (p339 (a1,())) then
  (bif ((decide ((0:Int) ≤ e1_)) && (decide ((e1_ * (8:Int)) ≤ (140737488355328:Int)))) then
  (Vx.obind (w341_5 (((f339 (a0,())).1,((f339 (a1,())).1,((0:Int),((),())))),((List.replicate (Int.toNat e1_) (0:Int)),()))) fun y3 =>
  Vx.obind2 y3 (fun y4 =>
  bif (p340 y4.2) then
  (some (f340 y4.2))
  else none) (fun z4 =>
  none))
  else none)
  else none)
  else none
theorem r341 (p339:DenS I339 → Bool) (f339:DenS I339 → DenS O339) (p340:DenS I340 → Bool) (f340:DenS I340 → DenS O340) (w341_5:Pat.D P341_5 → Option (OutT X341_5 Q341_5)) (w341_9:Pat.D P341_9 → Option (OutT X341_9 Q341_9)) (a0:Den (.slice (.int .u64))) (a1:Den (.slice (.int .u64))) :
    run { P:=Go.Proofs.Tryz.prog,sums:=[(109,⟨I339,O339,p339,f339⟩),(110,⟨I340,O340,p340,f340⟩)],loops:=[(91,5,LoopSpec.of P341_5 A341_5 X341_5 Q341_5 w341_5),(91,9,LoopSpec.of P341_9 A341_9 X341_9 Q341_9 w341_9)],globs:=G1 } 9 91 Go.Proofs.Tryz.f91 I341 O341 (a0,a1,()) = t341 p339 f339 p340 f340 w341_5 w341_9 a0 a1:=by kernel_rfl
noncomputable def W341_9:P341_9.D → Option (OutT X341_9 Q341_9):=lfix fun L=>h341_9 S339.pre S339.F S340.pre S340.F L some
noncomputable def W341_5:P341_5.D → Option (OutT X341_5 Q341_5):=lfix fun L=>h341_5 S339.pre S339.F S340.pre S340.F W341_9 L some
noncomputable def T341 (x:DenS I341):Option (DenS O341):=t341 S339.pre S339.F S340.pre S340.F W341_5 W341_9 x.1 x.2.1
noncomputable def C341:Cfg:={ P:=Go.Proofs.Tryz.prog,sums:=[(109,S339),(110,S340)],loops:=[(91,5,LoopSpec.of P341_5 A341_5 X341_5 Q341_5 W341_5),(91,9,LoopSpec.of P341_9 A341_9 X341_9 Q341_9 W341_9)],globs:=G1 }
noncomputable def S341:Sum:=sumOf I341 O341 T341 (DenS.dflt O341)
theorem S341_sound:Sound Go.Proofs.Tryz.prog G1 91 S341 :=
  fn_sound C341 9 91 Go.Proofs.Tryz.f91 mixedOk (by kernel_rfl) (by kernel_rfl) (by kernel_rfl) ⟨S339_sound,⟨S340_sound,trivial⟩⟩ ⟨rfl,fun d=>loopOk_of (fun L e x=>h341_5 S339.pre S339.F S340.pre S340.F W341_9 L e x) (m341_5 S339.pre S339.F S340.pre S340.F W341_9) (fun R L e x=>s341_5 S339.pre S339.F S340.pre S340.F W341_5 W341_9 d R L e x),⟨rfl,fun d=>loopOk_of (fun L e x=>h341_9 S339.pre S339.F S340.pre S340.F L e x) (m341_9 S339.pre S339.F S340.pre S340.F) (fun R L e x=>s341_9 S339.pre S339.F S340.pre S340.F W341_5 W341_9 d R L e x),trivial⟩⟩ I341 O341 T341 _ (fun x=>r341 S339.pre S339.F S340.pre S340.F W341_5 W341_9 x.1 x.2.1)
abbrev I342:Sig:=[(false,.slice (.int .u64)),(false,.slice (.int .u64))]
abbrev O342:Sig:=[(false,.slice (.int .u64))]
noncomputable def t342 (p341:DenS I341 → Bool) (f341:DenS I341 → DenS O341) (a0:Den (.slice (.int .u64))) (a1:Den (.slice (.int .u64))):Option (DenS O342) :=
  bif (p341 (a0,(a1,()))) then
  (some (f341 (a0,(a1,()))))
  else none
theorem r342 (p341:DenS I341 → Bool) (f341:DenS I341 → DenS O341) (a0:Den (.slice (.int .u64))) (a1:Den (.slice (.int .u64))) :
    run { P:=Go.Proofs.Tryz.prog,sums:=[(91,⟨I341,O341,p341,f341⟩)],loops:=[],globs:=G1 } 9 42 Go.Proofs.Tryz.f42 I342 O342 (a0,a1,()) = t342 p341 f341 a0 a1:=by kernel_rfl
noncomputable def T342 (x:DenS I342):Option (DenS O342):=t342 S341.pre S341.F x.1 x.2.1
noncomputable def C342:Cfg:={ P:=Go.Proofs.Tryz.prog,sums:=[(91,S341)],loops:=[],globs:=G1 }
noncomputable def S342:Sum:=sumOf I342 O342 T342 (DenS.dflt O342)
theorem S342_sound:Sound Go.Proofs.Tryz.prog G1 42 S342 :=
  fn_sound C342 9 42 Go.Proofs.Tryz.f42 mixedOk (by kernel_rfl) (by kernel_rfl) (by kernel_rfl) ⟨S341_sound,trivial⟩ trivial I342 O342 T342 _ (fun x=>r342 S341.pre S341.F x.1 x.2.1)
abbrev I345:Sig:=[(false,.slice (.int .u64)),(false,.slice (.int .u64))]
abbrev O345:Sig:=[(false,.slice (.int .u64)),(false,.slice (.int .u64)),(false,.int .i64)]
noncomputable def t345 (p185:DenS I185 → Bool) (f185:DenS I185 → DenS O185) (p173:DenS I173 → Bool) (f173:DenS I173 → DenS O173) (p333:DenS I333 → Bool) (f333:DenS I333 → DenS O333) (a0:Den (.slice (.int .u64))) (a1:Den (.slice (.int .u64))):Option (DenS O345) :=
  bif (p185 ((a0 :: (a1 :: [])),())) then
  (bif (f185 ((a0 :: (a1 :: [])),())).1 then
  (some ([],([],((5:Int),()))))
  else bif (p173 (a1,())) then
  (bif (((f173 (a1,())).1.length:Int) == (0:Int)) then
  (some ([],([],((10:Int),()))))
  else bif (p333 (a0,(a1,()))) then
  (some ((f333 (a0,(a1,()))).1,((f333 (a0,(a1,()))).2.1,((0:Int),()))))
  else none)
  else none)
  else none
theorem r345 (p185:DenS I185 → Bool) (f185:DenS I185 → DenS O185) (p173:DenS I173 → Bool) (f173:DenS I173 → DenS O173) (p333:DenS I333 → Bool) (f333:DenS I333 → DenS O333) (a0:Den (.slice (.int .u64))) (a1:Den (.slice (.int .u64))) :
    run { P:=Go.Proofs.Tryz.prog,sums:=[(83,⟨I185,O185,p185,f185⟩),(80,⟨I173,O173,p173,f173⟩),(85,⟨I333,O333,p333,f333⟩)],loops:=[],globs:=G1 } 9 44 Go.Proofs.Tryz.f44 I345 O345 (a0,a1,()) = t345 p185 f185 p173 f173 p333 f333 a0 a1:=by kernel_rfl
noncomputable def T345 (x:DenS I345):Option (DenS O345):=t345 S185.pre S185.F S173.pre S173.F S333.pre S333.F x.1 x.2.1
noncomputable def C345:Cfg:={ P:=Go.Proofs.Tryz.prog,sums:=[(83,S185),(80,S173),(85,S333)],loops:=[],globs:=G1 }
noncomputable def S345:Sum:=sumOf I345 O345 T345 (DenS.dflt O345)
theorem S345_sound:Sound Go.Proofs.Tryz.prog G1 44 S345 :=
  fn_sound C345 9 44 Go.Proofs.Tryz.f44 mixedOk (by kernel_rfl) (by kernel_rfl) (by kernel_rfl) ⟨S185_sound,⟨S173_sound,⟨S333_sound,trivial⟩⟩⟩ trivial I345 O345 T345 _ (fun x=>r345 S185.pre S185.F S173.pre S173.F S333.pre S333.F x.1 x.2.1)
abbrev I346:Sig:=[(false,.int .i64),(false,.int .i64),(false,.int .u64)]
abbrev O346:Sig:=[(false,.int .u64),(false,.int .i64),(false,.int .i64)]
noncomputable def t346 (p311:DenS I311 → Bool) (f311:DenS I311 → DenS O311) (p65:DenS I65 → Bool) (f65:DenS I65 → DenS O65) (p312:DenS I312 → Bool) (f312:DenS I312 → DenS O312) (p118:DenS I118 → Bool) (f118:DenS I118 → DenS O118) (p97:DenS I97 → Bool) (f97:DenS I97 → DenS O97) (p313:DenS I313 → Bool) (f313:DenS I313 → DenS O313) (p176:DenS I176 → Bool) (f176:DenS I176 → DenS O176) (p345:DenS I345 → Bool) (f345:DenS I345 → DenS O345) (p334:DenS I334 → Bool) (f334:DenS I334 → DenS O334) (p335:DenS I335 → Bool) (f335:DenS I335 → DenS O335) (a0:Den (.int .i64)) (a1:Den (.int .i64)) (a2:Den (.int .u64)):Option (DenS O346) :=
  let e25_:=(a0,((f311 (a0,(a1,((a2 :: []),())))).1,(a2,())))
  let e23_:=(f313 e25_)
  let e18_:=((f176 (((1:Int) :: []),((240:Int),()))).1,(((Go.IntKind.wrap .u64 ((2:Int) * e23_.1)) :: []),()))
  let e17_:=(f345 e18_)
  let e16_:=(e17_.1,())
  let e15_:=(f334 e16_)
  let e13_:=(a0,(a1,(e15_.1,((Go.IntKind.wrap .i64 ((-(120:Int)) - (Vx.quoI Go.IntKind.i64 (Go.IntKind.wrap .i64 (e23_.2.1 - (1:Int))) (2:Int)))),(((!e15_.2.1) || (decide ((e17_.2.1.length:Int) > (0:Int)))),())))))
  let e1_:=(p335 e13_)
  let e2_:=(f335 e13_)
  let e22_:=((f176 (((1:Int) :: []),((240:Int),()))).1,((e23_.1 :: []),()))
  let e21_:=(f345 e22_)
  let e20_:=(e21_.1,())
  let e19_:=(f334 e20_)
  let e14_:=(a0,(a1,(e19_.1,((Go.IntKind.wrap .i64 ((-(120:Int)) - (Vx.quoI Go.IntKind.i64 e23_.2.1 (2:Int)))),(((!e19_.2.1) || (decide ((e21_.2.1.length:Int) > (0:Int)))),())))))
  let e3_:=(p335 e14_)
  let e4_:=(f335 e14_)
  let e5_:=(p334 e16_)
  let e6_:=(p345 e18_)
  let e7_:=(p334 e20_)
  let e8_:=(p345 e22_)
  let e26_:=(a0,(((f65 (a0,(a2,()))).1 == (5:Int)),()))
  let e24_:=(f97 e26_)
  let e9_:=(e24_.1,((2:Int),e24_.2))
  let e10_:=((Int.tmod e23_.2.1 (2:Int)) != (0:Int))
  let e11_:=(p313 e25_)
  let e12_:=(p97 e26_)
  bif (p311 (a0,(a1,((a2 :: []),())))) then
  (bif ((f311 (a0,(a1,((a2 :: []),())))).2.1 != (0:Int)) then
  (some ((0:Int),((0:Int),(f311 (a0,(a1,((a2 :: []),())))).2)))
  else bif (p65 (a0,(a2,()))) then
  (bif (p312 (a0,((f65 (a0,(a2,()))).1,()))) then
  (bif (f312 (a0,((f65 (a0,(a2,()))).1,()))).2.2.1 then
  (some ((f312 (a0,((f65 (a0,(a2,()))).1,()))).1,((f312 (a0,((f65 (a0,(a2,()))).1,()))).2.1,((0:Int),()))))
  else bif ((f65 (a0,(a2,()))).1 == (9:Int)) then
  (bif (p118 (a0,(false,()))) then
  (some ((f118 (a0,(false,()))).1,((0:Int),(f118 (a0,(false,()))).2)))
  else none)
  else bif ((f65 (a0,(a2,()))).1 == (6:Int)) then
  (bif ((f65 (a0,(a2,()))).1 == (6:Int)) then
  (bif e12_ then
  (some e9_)
  else none)
  else bif e11_ then
  (bif e10_ then
  (bif (p176 (((1:Int) :: []),((240:Int),()))) then
  (bif e6_ then
  (bif e5_ then
  (bif e1_ then
  (some e2_)
  else none)
  else none)
  else none)
  else none)
  else bif (p176 (((1:Int) :: []),((240:Int),()))) then
  (bif e8_ then
  (bif e7_ then
  (bif e3_ then
  (some e4_)
  else none)
  else none)
  else none)
  else none)
  else none)
  else bif ((f65 (a0,(a2,()))).1 == (5:Int)) then
  (bif e12_ then
  (some e9_)
  else none)
  else bif e11_ then
  (bif e10_ then
  (bif (p176 (((1:Int) :: []),((240:Int),()))) then
  (bif e6_ then
  (bif e5_ then
  (bif e1_ then
  (some e2_)
  else none)
  else none)
  else none)
  else none)
  else bif (p176 (((1:Int) :: []),((240:Int),()))) then
  (bif e8_ then
  (bif e7_ then
  (bif e3_ then
  (some e4_)
  else none)
  else none)
  else none)
  else none)
  else none)
  else none)
  else none)
  else none
theorem r346 (p311:DenS I311 → Bool) (f311:DenS I311 → DenS O311) (p65:DenS I65 → Bool) (f65:DenS I65 → DenS O65) (p312:DenS I312 → Bool) (f312:DenS I312 → DenS O312) (p118:DenS I118 → Bool) (f118:DenS I118 → DenS O118) (p97:DenS I97 → Bool) (f97:DenS I97 → DenS O97) (p313:DenS I313 → Bool) (f313:DenS I313 → DenS O313) (p176:DenS I176 → Bool) (f176:DenS I176 → DenS O176) (p345:DenS I345 → Bool) (f345:DenS I345 → DenS O345) (p334:DenS I334 → Bool) (f334:DenS I334 → DenS O334) (p335:DenS I335 → Bool) (f335:DenS I335 → DenS O335) (a0:Den (.int .i64)) (a1:Den (.int .i64)) (a2:Den (.int .u64)) :
    run { P:=Go.Proofs.Tryz.prog,sums:=[(13,⟨I311,O311,p311,f311⟩),(14,⟨I65,O65,p65,f65⟩),(15,⟨I312,O312,p312,f312⟩),(33,⟨I118,O118,p118,f118⟩),(32,⟨I97,O97,p97,f97⟩),(16,⟨I313,O313,p313,f313⟩),(36,⟨I176,O176,p176,f176⟩),(44,⟨I345,O345,p345,f345⟩),(37,⟨I334,O334,p334,f334⟩),(38,⟨I335,O335,p335,f335⟩)],loops:=[],globs:=G1 } 9 11 Go.Proofs.Tryz.f11 I346 O346 (a0,a1,a2,()) = t346 p311 f311 p65 f65 p312 f312 p118 f118 p97 f97 p313 f313 p176 f176 p345 f345 p334 f334 p335 f335 a0 a1 a2:=by kernel_rfl
noncomputable def T346 (x:DenS I346):Option (DenS O346):=t346 S311.pre S311.F S65.pre S65.F S312.pre S312.F S118.pre S118.F S97.pre S97.F S313.pre S313.F S176.pre S176.F S345.pre S345.F S334.pre S334.F S335.pre S335.F x.1 x.2.1 x.2.2.1
noncomputable def C346:Cfg:={ P:=Go.Proofs.Tryz.prog,sums:=[(13,S311),(14,S65),(15,S312),(33,S118),(32,S97),(16,S313),(36,S176),(44,S345),(37,S334),(38,S335)],loops:=[],globs:=G1 }
noncomputable def S346:Sum:=sumOf I346 O346 T346 (DenS.dflt O346)
theorem S346_sound:Sound Go.Proofs.Tryz.prog G1 11 S346 :=
  fn_sound C346 9 11 Go.Proofs.Tryz.f11 mixedOk (by kernel_rfl) (by kernel_rfl) (by kernel_rfl) ⟨S311_sound,⟨S65_sound,⟨S312_sound,⟨S118_sound,⟨S97_sound,⟨S313_sound,⟨S176_sound,⟨S345_sound,⟨S334_sound,⟨S335_sound,trivial⟩⟩⟩⟩⟩⟩⟩⟩⟩⟩ trivial I346 O346 T346 _ (fun x=>r346 S311.pre S311.F S65.pre S65.F S312.pre S312.F S118.pre S118.F S97.pre S97.F S313.pre S313.F S176.pre S176.F S345.pre S345.F S334.pre S334.F S335.pre S335.F x.1 x.2.1 x.2.2.1)
abbrev I347:Sig:=[(false,.int .i64),(false,.int .i64),(false,.int .u64)]
abbrev O347:Sig:=[(false,.int .u64),(false,.int .i64),(false,.int .i64)]
noncomputable def t347 (p83:DenS I83 → Bool) (f83:DenS I83 → DenS O83) (p56:DenS I56 → Bool) (f56:DenS I56 → DenS O56) (p319:DenS I319 → Bool) (f319:DenS I319 → DenS O319) (p84:DenS I84 → Bool) (f84:DenS I84 → DenS O84) (p86:DenS I86 → Bool) (f86:DenS I86 → DenS O86) (p59:DenS I59 → Bool) (f59:DenS I59 → DenS O59) (p169:DenS I169 → Bool) (f169:DenS I169 → DenS O169) (p85:DenS I85 → Bool) (f85:DenS I85 → DenS O85) (p114:DenS I114 → Bool) (f114:DenS I114 → DenS O114) (p87:DenS I87 → Bool) (f87:DenS I87 → DenS O87) (p165:DenS I165 → Bool) (f165:DenS I165 → DenS O165) (p320:DenS I320 → Bool) (f320:DenS I320 → DenS O320) (p342:DenS I342 → Bool) (f342:DenS I342 → DenS O342) (p166:DenS I166 → Bool) (f166:DenS I166 → DenS O166) (p164:DenS I164 → Bool) (f164:DenS I164 → DenS O164) (p168:DenS I168 → Bool) (f168:DenS I168 → DenS O168) (p89:DenS I89 → Bool) (f89:DenS I89 → DenS O89) (p88:DenS I88 → Bool) (f88:DenS I88 → DenS O88) (a0:Den (.int .i64)) (a1:Den (.int .i64)) (a2:Den (.int .u64)):Option (DenS O347) :=
  let e31_:=(((Go.IntKind.wrap .u64 ((f87 (a0,(a2,()))).1 * (2:Int))) :: []),())
  let e27_:=((f164 (((1:Int) :: []),((400:Int),()))).1,e31_)
  let e25_:=(f320 ((f165 e27_).1,()))
  let e24_:=(e25_.1,((1:Int),()))
  let e23_:=(Go.IntKind.wrap .i64 ((Vx.quoI Go.IntKind.i64 (Go.IntKind.wrap .i64 ((0:Int) - (Go.IntKind.wrap .i64 ((f87 (a0,(a2,()))).2.1 - (1:Int))))) (2:Int)) - (200:Int)))
  let e17_:=(false,((f168 ((f164 e24_).1,(((1:Int) :: []),()))).1,((Go.IntKind.wrap .i64 (e23_ - (1:Int))),())))
  let e1_:=(f88 (a0,(a1,(f89 e17_))))
  let e2_:=e17_
  let e20_:=(e25_.1,(e25_.1,()))
  let e3_:=((f342 ((f342 e20_).1,e31_)).1,(f164 (((1:Int) :: []),((400:Int),()))))
  let e30_:=((f164 (((1:Int) :: []),((400:Int),()))).1,(((f87 (a0,(a2,()))).1 :: []),()))
  let e29_:=(f320 ((f165 e30_).1,()))
  let e28_:=(e29_.1,((1:Int),()))
  let e26_:=(Go.IntKind.wrap .i64 ((Vx.quoI Go.IntKind.i64 (Go.IntKind.wrap .i64 ((0:Int) - (f87 (a0,(a2,()))).2.1)) (2:Int)) - (200:Int)))
  let e18_:=(false,((f168 ((f164 e28_).1,(((1:Int) :: []),()))).1,((Go.IntKind.wrap .i64 (e26_ - (1:Int))),())))
  let e4_:=(f88 (a0,(a1,(f89 e18_))))
  let e19_:=(false,(e25_.1,(e23_,())))
  let e5_:=(f88 (a0,(a1,(f89 e19_))))
  let e6_:=e18_
  let e7_:=e19_
  let e22_:=(e29_.1,(e29_.1,()))
  let e8_:=((f342 ((f342 e22_).1,(((f87 (a0,(a2,()))).1 :: []),()))).1,(f164 (((1:Int) :: []),((400:Int),()))))
  let e9_:=e20_
  let e21_:=(false,(e29_.1,(e26_,())))
  let e10_:=(f88 (a0,(a1,(f89 e21_))))
  let e11_:=e21_
  let e12_:=e22_
  let e13_:=e24_
  let e14_:=e27_
  let e15_:=e28_
  let e16_:=e30_
  bif (p83 (a0,(a1,((a2 :: []),())))) then
  (bif ((f83 (a0,(a1,((a2 :: []),())))).1 != (0:Int)) then
  (some ((0:Int),((0:Int),(f83 (a0,(a1,((a2 :: []),())))))))
  else bif (p56 (a0,((a2 :: []),()))) then
  (bif (f56 (a0,((a2 :: []),()))).1 then
  (bif (p84 (a0,())) then
  (some ((f84 (a0,())).1,((f56 (a0,((a2 :: []),()))).2.1,((0:Int),()))))
  else none)
  else bif (p319 (a0,(a2,()))) then
  (bif (f319 (a0,(a2,()))).1 then
  (bif (p84 (a0,())) then
  (some ((f84 (a0,())).1,((1:Int),((0:Int),()))))
  else none)
  else bif (p86 (a0,(a2,()))) then
  (bif (f86 (a0,(a2,()))).1 then
  (bif (p59 (a0,(a2,()))) then
  (bif (p169 (a0,(f59 (a0,(a2,()))))) then
  (some ((f169 (a0,(f59 (a0,(a2,()))))).1,((2:Int),((0:Int),()))))
  else none)
  else none)
  else bif (p85 (a0,(a2,()))) then
  (bif (f85 (a0,(a2,()))).1 then
  (bif (p114 (a0,((0:Int),()))) then
  (some ((f114 (a0,((0:Int),()))).1,((0:Int),((0:Int),()))))
  else none)
  else bif (p87 (a0,(a2,()))) then
  (bif ((Int.tmod (f87 (a0,(a2,()))).2.1 (2:Int)) != (0:Int)) then
  (bif (p164 (((1:Int) :: []),((400:Int),()))) then
  (bif (p165 e14_) then
  (bif (p320 ((f165 e14_).1,())) then
  (bif (p89 e7_) then
  (bif (p342 e9_) then
  (bif (p342 ((f342 e9_).1,e31_)) then
  (bif (p166 e3_) then
  (bif ((f166 e3_).1 != (0:Int)) then
  (bif (p164 e13_) then
  (bif (p168 ((f164 e13_).1,(((1:Int) :: []),()))) then
  (bif (p89 e2_) then
  (bif (p88 (a0,(a1,(f89 e2_)))) then
  (some (e1_.1,(e1_.2.1,((0:Int),()))))
  else none)
  else none)
  else none)
  else none)
  else bif (p88 (a0,(a1,(f89 e7_)))) then
  (some (e5_.1,(e5_.2.1,((0:Int),()))))
  else none)
  else none)
  else none)
  else none)
  else none)
  else none)
  else none)
  else none)
  else bif (p164 (((1:Int) :: []),((400:Int),()))) then
  (bif (p165 e16_) then
  (bif (p320 ((f165 e16_).1,())) then
  (bif (p89 e11_) then
  (bif (p342 e12_) then
  (bif (p342 ((f342 e12_).1,(((f87 (a0,(a2,()))).1 :: []),()))) then
  (bif (p166 e8_) then
  (bif ((f166 e8_).1 != (0:Int)) then
  (bif (p164 e15_) then
  (bif (p168 ((f164 e15_).1,(((1:Int) :: []),()))) then
  (bif (p89 e6_) then
  (bif (p88 (a0,(a1,(f89 e6_)))) then
  (some (e4_.1,(e4_.2.1,((0:Int),()))))
  else none)
  else none)
  else none)
  else none)
  else bif (p88 (a0,(a1,(f89 e11_)))) then
  (some (e10_.1,(e10_.2.1,((0:Int),()))))
  else none)
  else none)
  else none)
  else none)
  else none)
  else none)
  else none)
  else none)
  else none)
  else none)
  else none)
  else none)
  else none)
  else none
theorem r347 (p83:DenS I83 → Bool) (f83:DenS I83 → DenS O83) (p56:DenS I56 → Bool) (f56:DenS I56 → DenS O56) (p319:DenS I319 → Bool) (f319:DenS I319 → DenS O319) (p84:DenS I84 → Bool) (f84:DenS I84 → DenS O84) (p86:DenS I86 → Bool) (f86:DenS I86 → DenS O86) (p59:DenS I59 → Bool) (f59:DenS I59 → DenS O59) (p169:DenS I169 → Bool) (f169:DenS I169 → DenS O169) (p85:DenS I85 → Bool) (f85:DenS I85 → DenS O85) (p114:DenS I114 → Bool) (f114:DenS I114 → DenS O114) (p87:DenS I87 → Bool) (f87:DenS I87 → DenS O87) (p165:DenS I165 → Bool) (f165:DenS I165 → DenS O165) (p320:DenS I320 → Bool) (f320:DenS I320 → DenS O320) (p342:DenS I342 → Bool) (f342:DenS I342 → DenS O342) (p166:DenS I166 → Bool) (f166:DenS I166 → DenS O166) (p164:DenS I164 → Bool) (f164:DenS I164 → DenS O164) (p168:DenS I168 → Bool) (f168:DenS I168 → DenS O168) (p89:DenS I89 → Bool) (f89:DenS I89 → DenS O89) (p88:DenS I88 → Bool) (f88:DenS I88 → DenS O88) (a0:Den (.int .i64)) (a1:Den (.int .i64)) (a2:Den (.int .u64)) :
    run { P:=Go.Proofs.Tryz.prog,sums:=[(21,⟨I83,O83,p83,f83⟩),(22,⟨I56,O56,p56,f56⟩),(24,⟨I319,O319,p319,f319⟩),(23,⟨I84,O84,p84,f84⟩),(25,⟨I86,O86,p86,f86⟩),(45,⟨I59,O59,p59,f59⟩),(39,⟨I169,O169,p169,f169⟩),(26,⟨I85,O85,p85,f85⟩),(40,⟨I114,O114,p114,f114⟩),(27,⟨I87,O87,p87,f87⟩),(46,⟨I165,O165,p165,f165⟩),(47,⟨I320,O320,p320,f320⟩),(42,⟨I342,O342,p342,f342⟩),(49,⟨I166,O166,p166,f166⟩),(41,⟨I164,O164,p164,f164⟩),(43,⟨I168,O168,p168,f168⟩),(48,⟨I89,O89,p89,f89⟩),(28,⟨I88,O88,p88,f88⟩)],loops:=[],globs:=G1 } 9 12 Go.Proofs.Tryz.f12 I347 O347 (a0,a1,a2,()) = t347 p83 f83 p56 f56 p319 f319 p84 f84 p86 f86 p59 f59 p169 f169 p85 f85 p114 f114 p87 f87 p165 f165 p320 f320 p342 f342 p166 f166 p164 f164 p168 f168 p89 f89 p88 f88 a0 a1 a2:=by kernel_rfl
noncomputable def T347 (x:DenS I347):Option (DenS O347):=t347 S83.pre S83.F S56.pre S56.F S319.pre S319.F S84.pre S84.F S86.pre S86.F S59.pre S59.F S169.pre S169.F S85.pre S85.F S114.pre S114.F S87.pre S87.F S165.pre S165.F S320.pre S320.F S342.pre S342.F S166.pre S166.F S164.pre S164.F S168.pre S168.F S89.pre S89.F S88.pre S88.F x.1 x.2.1 x.2.2.1
noncomputable def C347:Cfg:={ P:=Go.Proofs.Tryz.prog,sums:=[(21,S83),(22,S56),(24,S319),(23,S84),(25,S86),(45,S59),(39,S169),(26,S85),(40,S114),(27,S87),(46,S165),(47,S320),(42,S342),(49,S166),(41,S164),(43,S168),(48,S89),(28,S88)],loops:=[],globs:=G1 }
noncomputable def S347:Sum:=sumOf I347 O347 T347 (DenS.dflt O347)
theorem S347_sound:Sound Go.Proofs.Tryz.prog G1 12 S347 :=
  fn_sound C347 9 12 Go.Proofs.Tryz.f12 mixedOk (by kernel_rfl) (by kernel_rfl) (by kernel_rfl) ⟨S83_sound,⟨S56_sound,⟨S319_sound,⟨S84_sound,⟨S86_sound,⟨S59_sound,⟨S169_sound,⟨S85_sound,⟨S114_sound,⟨S87_sound,⟨S165_sound,⟨S320_sound,⟨S342_sound,⟨S166_sound,⟨S164_sound,⟨S168_sound,⟨S89_sound,⟨S88_sound,trivial⟩⟩⟩⟩⟩⟩⟩⟩⟩⟩⟩⟩⟩⟩⟩⟩⟩⟩ trivial I347 O347 T347 _ (fun x=>r347 S83.pre S83.F S56.pre S56.F S319.pre S319.F S84.pre S84.F S86.pre S86.F S59.pre S59.F S169.pre S169.F S85.pre S85.F S114.pre S114.F S87.pre S87.F S165.pre S165.F S320.pre S320.F S342.pre S342.F S166.pre S166.F S164.pre S164.F S168.pre S168.F S89.pre S89.F S88.pre S88.F x.1 x.2.1 x.2.2.1)
abbrev I348:Sig:=[(false,.int .i64),(false,.int .i64),(false,.int .u64)]
abbrev O348:Sig:=[(false,.bool)]
noncomputable def t348 (p346:DenS I346 → Bool) (f346:DenS I346 → DenS O346) (p347:DenS I347 → Bool) (f347:DenS I347 → DenS O347) (p337:DenS I337 → Bool) (f337:DenS I337 → DenS O337) (a0:Den (.int .i64)) (a1:Den (.int .i64)) (a2:Den (.int .u64)):Option (DenS O348) :=
  bif (p346 (a0,(a1,(a2,())))) then
  (bif (p347 (a0,(a1,(a2,())))) then
  (bif (p337 ()) then
  (some (((((f337 ()).1 && ((f346 (a0,(a1,(a2,())))).1 == (f347 (a0,(a1,(a2,())))).1)) && ((f346 (a0,(a1,(a2,())))).2.1 == (f347 (a0,(a1,(a2,())))).2.1)) && ((f346 (a0,(a1,(a2,())))).2.2.1 == (f347 (a0,(a1,(a2,())))).2.2.1)),()))
  else none)
  else none)
  else none
theorem r348 (p346:DenS I346 → Bool) (f346:DenS I346 → DenS O346) (p347:DenS I347 → Bool) (f347:DenS I347 → DenS O347) (p337:DenS I337 → Bool) (f337:DenS I337 → DenS O337) (a0:Den (.int .i64)) (a1:Den (.int .i64)) (a2:Den (.int .u64)) :
    run { P:=Go.Proofs.Tryz.prog,sums:=[(11,⟨I346,O346,p346,f346⟩),(12,⟨I347,O347,p347,f347⟩),(8,⟨I337,O337,p337,f337⟩)],loops:=[],globs:=G1 } 9 5 Go.Proofs.Tryz.f5 I348 O348 (a0,a1,a2,()) = t348 p346 f346 p347 f347 p337 f337 a0 a1 a2:=by kernel_rfl
noncomputable def T348 (x:DenS I348):Option (DenS O348):=t348 S346.pre S346.F S347.pre S347.F S337.pre S337.F x.1 x.2.1 x.2.2.1
noncomputable def C348:Cfg:={ P:=Go.Proofs.Tryz.prog,sums:=[(11,S346),(12,S347),(8,S337)],loops:=[],globs:=G1 }
noncomputable def S348:Sum:=sumOf I348 O348 T348 (DenS.dflt O348)
theorem S348_sound:Sound Go.Proofs.Tryz.prog G1 5 S348 :=
  fn_sound C348 9 5 Go.Proofs.Tryz.f5 mixedOk (by kernel_rfl) (by kernel_rfl) (by kernel_rfl) ⟨S346_sound,⟨S347_sound,⟨S337_sound,trivial⟩⟩⟩ trivial I348 O348 T348 _ (fun x=>r348 S346.pre S346.F S347.pre S347.F S337.pre S337.F x.1 x.2.1 x.2.2.1)
end Vx
namespace Vx
open Go
theorem sum_pre {I O:Sig} {T:DenS I → Option (DenS O)} {d:DenS O} {x:DenS I} {y:DenS O} (h:T x = some y):(sumOf I O T d).pre x = true:=by
  show (T x).isSome = true
  rw [h]; rfl
theorem sum_F {I O:Sig} {T:DenS I → Option (DenS O)} {d:DenS O} {x:DenS I} {y:DenS O} (h:T x = some y):(sumOf I O T d).F x = y:=by
  show (T x).getD d = y
  rw [h]; rfl
theorem sumL_pre {k:LK} {I O:Sig} {T:k.D × DenS I → Option (k.B × DenS O)} {d:k.B × DenS O} {x:k.D × DenS I} {y:k.B × DenS O} (h:T x = some y):(sumOfL k I O T d).pre x = true:=by
  show (T x).isSome = true
  rw [h]; rfl
theorem sumL_F {k:LK} {I O:Sig} {T:k.D × DenS I → Option (k.B × DenS O)} {d:k.B × DenS O} {x:k.D × DenS I} {y:k.B × DenS O} (h:T x = some y):(sumOfL k I O T d).F x = y:=by
  show (T x).getD d = y
  rw [h]; rfl
theorem pre69 {x:DenS I69} {y:DenS O69} (h:T69 x = some y):S69.pre x = true:=sum_pre (T:=T69) h
theorem fun69 {x:DenS I69} {y:DenS O69} (h:T69 x = some y):S69.F x = y:=sum_F (T:=T69) h
theorem pre66 {x:DenS I66} {y:DenS O66} (h:T66 x = some y):S66.pre x = true:=sum_pre (T:=T66) h
theorem fun66 {x:DenS I66} {y:DenS O66} (h:T66 x = some y):S66.F x = y:=sum_F (T:=T66) h
theorem pre311 {x:DenS I311} {y:DenS O311} (h:T311 x = some y):S311.pre x = true:=sum_pre (T:=T311) h
theorem fun311 {x:DenS I311} {y:DenS O311} (h:T311 x = some y):S311.F x = y:=sum_F (T:=T311) h
theorem pre91 {x:DenS I91} {y:DenS O91} (h:T91 x = some y):S91.pre x = true:=sum_pre (T:=T91) h
theorem fun91 {x:DenS I91} {y:DenS O91} (h:T91 x = some y):S91.F x = y:=sum_F (T:=T91) h
theorem pre90 {x:DenS I90} {y:DenS O90} (h:T90 x = some y):S90.pre x = true:=sum_pre (T:=T90) h
theorem fun90 {x:DenS I90} {y:DenS O90} (h:T90 x = some y):S90.F x = y:=sum_F (T:=T90) h
theorem pre65 {x:DenS I65} {y:DenS O65} (h:T65 x = some y):S65.pre x = true:=sum_pre (T:=T65) h
theorem fun65 {x:DenS I65} {y:DenS O65} (h:T65 x = some y):S65.F x = y:=sum_F (T:=T65) h
theorem pre70 {x:DenS I70} {y:DenS O70} (h:T70 x = some y):S70.pre x = true:=sum_pre (T:=T70) h
theorem fun70 {x:DenS I70} {y:DenS O70} (h:T70 x = some y):S70.F x = y:=sum_F (T:=T70) h
theorem pre312 {x:DenS I312} {y:DenS O312} (h:T312 x = some y):S312.pre x = true:=sum_pre (T:=T312) h
theorem fun312 {x:DenS I312} {y:DenS O312} (h:T312 x = some y):S312.F x = y:=sum_F (T:=T312) h
theorem pre98 {x:DenS I98} {y:DenS O98} (h:T98 x = some y):S98.pre x = true:=sum_pre (T:=T98) h
theorem fun98 {x:DenS I98} {y:DenS O98} (h:T98 x = some y):S98.F x = y:=sum_F (T:=T98) h
theorem pre313 {x:DenS I313} {y:DenS O313} (h:T313 x = some y):S313.pre x = true:=sum_pre (T:=T313) h
theorem fun313 {x:DenS I313} {y:DenS O313} (h:T313 x = some y):S313.F x = y:=sum_F (T:=T313) h
theorem pre178 {x:DenS I178} {y:DenS O178} (h:T178 x = some y):S178.pre x = true:=sum_pre (T:=T178) h
theorem fun178 {x:DenS I178} {y:DenS O178} (h:T178 x = some y):S178.F x = y:=sum_F (T:=T178) h
theorem pre314 {x:DenS I314} {y:DenS O314} (h:T314 x = some y):S314.pre x = true:=sum_pre (T:=T314) h
theorem fun314 {x:DenS I314} {y:DenS O314} (h:T314 x = some y):S314.F x = y:=sum_F (T:=T314) h
theorem pre119 {x:DenS I119} {y:DenS O119} (h:T119 x = some y):S119.pre x = true:=sum_pre (T:=T119) h
theorem fun119 {x:DenS I119} {y:DenS O119} (h:T119 x = some y):S119.F x = y:=sum_F (T:=T119) h
theorem pre123 {x:DenS I123} {y:DenS O123} (h:T123 x = some y):S123.pre x = true:=sum_pre (T:=T123) h
theorem fun123 {x:DenS I123} {y:DenS O123} (h:T123 x = some y):S123.F x = y:=sum_F (T:=T123) h
theorem pre315 {x:DenS I315} {y:DenS O315} (h:T315 x = some y):S315.pre x = true:=sum_pre (T:=T315) h
theorem fun315 {x:DenS I315} {y:DenS O315} (h:T315 x = some y):S315.F x = y:=sum_F (T:=T315) h
theorem pre316 {x:DenS I316} {y:DenS O316} (h:T316 x = some y):S316.pre x = true:=sum_pre (T:=T316) h
theorem fun316 {x:DenS I316} {y:DenS O316} (h:T316 x = some y):S316.F x = y:=sum_F (T:=T316) h
theorem pre317 {x:DenS I317} {y:DenS O317} (h:T317 x = some y):S317.pre x = true:=sum_pre (T:=T317) h
theorem fun317 {x:DenS I317} {y:DenS O317} (h:T317 x = some y):S317.F x = y:=sum_F (T:=T317) h
theorem pre147 {x:DenS I147} {y:DenS O147} (h:T147 x = some y):S147.pre x = true:=sum_pre (T:=T147) h
theorem fun147 {x:DenS I147} {y:DenS O147} (h:T147 x = some y):S147.F x = y:=sum_F (T:=T147) h
theorem pre105 {x:DenS I105} {y:DenS O105} (h:T105 x = some y):S105.pre x = true:=sum_pre (T:=T105) h
theorem fun105 {x:DenS I105} {y:DenS O105} (h:T105 x = some y):S105.F x = y:=sum_F (T:=T105) h
theorem pre173 {x:DenS I173} {y:DenS O173} (h:T173 x = some y):S173.pre x = true:=sum_pre (T:=T173) h
theorem fun173 {x:DenS I173} {y:DenS O173} (h:T173 x = some y):S173.F x = y:=sum_F (T:=T173) h
theorem pre146 {x:DenS I146} {y:DenS O146} (h:T146 x = some y):S146.pre x = true:=sum_pre (T:=T146) h
theorem fun146 {x:DenS I146} {y:DenS O146} (h:T146 x = some y):S146.F x = y:=sum_F (T:=T146) h
theorem pre102 {x:DenS I102} {y:DenS O102} (h:T102 x = some y):S102.pre x = true:=sum_pre (T:=T102) h
theorem fun102 {x:DenS I102} {y:DenS O102} (h:T102 x = some y):S102.F x = y:=sum_F (T:=T102) h
theorem pre151 {x:DenS I151} {y:DenS O151} (h:T151 x = some y):S151.pre x = true:=sum_pre (T:=T151) h
theorem fun151 {x:DenS I151} {y:DenS O151} (h:T151 x = some y):S151.F x = y:=sum_F (T:=T151) h
theorem pre118 {x:DenS I118} {y:DenS O118} (h:T118 x = some y):S118.pre x = true:=sum_pre (T:=T118) h
theorem fun118 {x:DenS I118} {y:DenS O118} (h:T118 x = some y):S118.F x = y:=sum_F (T:=T118) h
theorem pre156 {x:DenS I156} {y:DenS O156} (h:T156 x = some y):S156.pre x = true:=sum_pre (T:=T156) h
theorem fun156 {x:DenS I156} {y:DenS O156} (h:T156 x = some y):S156.F x = y:=sum_F (T:=T156) h
theorem pre148 {x:DenS I148} {y:DenS O148} (h:T148 x = some y):S148.pre x = true:=sum_pre (T:=T148) h
theorem fun148 {x:DenS I148} {y:DenS O148} (h:T148 x = some y):S148.F x = y:=sum_F (T:=T148) h
theorem pre1173 {x:DenS I1173} {y:DenS O1173} (h:T1173 x = some y):S1173.pre x = true:=sum_pre (T:=T1173) h
theorem fun1173 {x:DenS I1173} {y:DenS O1173} (h:T1173 x = some y):S1173.F x = y:=sum_F (T:=T1173) h
theorem pre1171 {x:DenS I1171} {y:DenS O1171} (h:T1171 x = some y):S1171.pre x = true:=sum_pre (T:=T1171) h
theorem fun1171 {x:DenS I1171} {y:DenS O1171} (h:T1171 x = some y):S1171.F x = y:=sum_F (T:=T1171) h
theorem pre171 {x:DenS I171} {y:DenS O171} (h:T171 x = some y):S171.pre x = true:=sum_pre (T:=T171) h
theorem fun171 {x:DenS I171} {y:DenS O171} (h:T171 x = some y):S171.F x = y:=sum_F (T:=T171) h
theorem pre92 {x:DenS I92} {y:DenS O92} (h:T92 x = some y):S92.pre x = true:=sum_pre (T:=T92) h
theorem fun92 {x:DenS I92} {y:DenS O92} (h:T92 x = some y):S92.F x = y:=sum_F (T:=T92) h
theorem pre184 {x:DenS I184} {y:DenS O184} (h:T184 x = some y):S184.pre x = true:=sum_pre (T:=T184) h
theorem fun184 {x:DenS I184} {y:DenS O184} (h:T184 x = some y):S184.F x = y:=sum_F (T:=T184) h
theorem pre175 {x:DenS I175} {y:DenS O175} (h:T175 x = some y):S175.pre x = true:=sum_pre (T:=T175) h
theorem fun175 {x:DenS I175} {y:DenS O175} (h:T175 x = some y):S175.F x = y:=sum_F (T:=T175) h
theorem pre186 {x:DenS I186} {y:DenS O186} (h:T186 x = some y):S186.pre x = true:=sum_pre (T:=T186) h
theorem fun186 {x:DenS I186} {y:DenS O186} (h:T186 x = some y):S186.F x = y:=sum_F (T:=T186) h
theorem pre185 {x:DenS I185} {y:DenS O185} (h:T185 x = some y):S185.pre x = true:=sum_pre (T:=T185) h
theorem fun185 {x:DenS I185} {y:DenS O185} (h:T185 x = some y):S185.F x = y:=sum_F (T:=T185) h
theorem pre176 {x:DenS I176} {y:DenS O176} (h:T176 x = some y):S176.pre x = true:=sum_pre (T:=T176) h
theorem fun176 {x:DenS I176} {y:DenS O176} (h:T176 x = some y):S176.F x = y:=sum_F (T:=T176) h
theorem pre141 {x:DenS I141} {y:DenS O141} (h:T141 x = some y):S141.pre x = true:=sum_pre (T:=T141) h
theorem fun141 {x:DenS I141} {y:DenS O141} (h:T141 x = some y):S141.F x = y:=sum_F (T:=T141) h
theorem pre177 {x:DenS I177} {y:DenS O177} (h:T177 x = some y):S177.pre x = true:=sum_pre (T:=T177) h
theorem fun177 {x:DenS I177} {y:DenS O177} (h:T177 x = some y):S177.F x = y:=sum_F (T:=T177) h
theorem pre143 {x:DenS I143} {y:DenS O143} (h:T143 x = some y):S143.pre x = true:=sum_pre (T:=T143) h
theorem fun143 {x:DenS I143} {y:DenS O143} (h:T143 x = some y):S143.F x = y:=sum_F (T:=T143) h
theorem pre150 {x:DenS I150} {y:DenS O150} (h:T150 x = some y):S150.pre x = true:=sum_pre (T:=T150) h
theorem fun150 {x:DenS I150} {y:DenS O150} (h:T150 x = some y):S150.F x = y:=sum_F (T:=T150) h
theorem pre97 {x:DenS I97} {y:DenS O97} (h:T97 x = some y):S97.pre x = true:=sum_pre (T:=T97) h
theorem fun97 {x:DenS I97} {y:DenS O97} (h:T97 x = some y):S97.F x = y:=sum_F (T:=T97) h
theorem pre43 {x:DenS I43} {y:DenS O43} (h:T43 x = some y):S43.pre x = true:=sum_pre (T:=T43) h
theorem fun43 {x:DenS I43} {y:DenS O43} (h:T43 x = some y):S43.F x = y:=sum_F (T:=T43) h
theorem pre149 {x:DenS I149} {y:DenS O149} (h:T149 x = some y):S149.pre x = true:=sum_pre (T:=T149) h
theorem fun149 {x:DenS I149} {y:DenS O149} (h:T149 x = some y):S149.F x = y:=sum_F (T:=T149) h
theorem pre152 {x:DenS I152} {y:DenS O152} (h:T152 x = some y):S152.pre x = true:=sum_pre (T:=T152) h
theorem fun152 {x:DenS I152} {y:DenS O152} (h:T152 x = some y):S152.F x = y:=sum_F (T:=T152) h
theorem pre107 {x:DenS I107} {y:DenS O107} (h:T107 x = some y):S107.pre x = true:=sum_pre (T:=T107) h
theorem fun107 {x:DenS I107} {y:DenS O107} (h:T107 x = some y):S107.F x = y:=sum_F (T:=T107) h
theorem pre122 {x:DenS I122} {y:DenS O122} (h:T122 x = some y):S122.pre x = true:=sum_pre (T:=T122) h
theorem fun122 {x:DenS I122} {y:DenS O122} (h:T122 x = some y):S122.F x = y:=sum_F (T:=T122) h
theorem pre318 {x:DenS I318} {y:DenS O318} (h:T318 x = some y):S318.pre x = true:=sum_pre (T:=T318) h
theorem fun318 {x:DenS I318} {y:DenS O318} (h:T318 x = some y):S318.F x = y:=sum_F (T:=T318) h
theorem pre131 {x:DenS I131} {y:DenS O131} (h:T131 x = some y):S131.pre x = true:=sum_pre (T:=T131) h
theorem fun131 {x:DenS I131} {y:DenS O131} (h:T131 x = some y):S131.F x = y:=sum_F (T:=T131) h
theorem pre108 {x:DenS I108} {y:DenS O108} (h:T108 x = some y):S108.pre x = true:=sum_pre (T:=T108) h
theorem fun108 {x:DenS I108} {y:DenS O108} (h:T108 x = some y):S108.F x = y:=sum_F (T:=T108) h
theorem pre83 {x:DenS I83} {y:DenS O83} (h:T83 x = some y):S83.pre x = true:=sum_pre (T:=T83) h
theorem fun83 {x:DenS I83} {y:DenS O83} (h:T83 x = some y):S83.F x = y:=sum_F (T:=T83) h
theorem pre113 {x:DenS I113} {y:DenS O113} (h:T113 x = some y):S113.pre x = true:=sum_pre (T:=T113) h
theorem fun113 {x:DenS I113} {y:DenS O113} (h:T113 x = some y):S113.F x = y:=sum_F (T:=T113) h
theorem pre109 {x:DenS I109} {y:DenS O109} (h:T109 x = some y):S109.pre x = true:=sum_pre (T:=T109) h
theorem fun109 {x:DenS I109} {y:DenS O109} (h:T109 x = some y):S109.F x = y:=sum_F (T:=T109) h
theorem pre110 {x:DenS I110} {y:DenS O110} (h:T110 x = some y):S110.pre x = true:=sum_pre (T:=T110) h
theorem fun110 {x:DenS I110} {y:DenS O110} (h:T110 x = some y):S110.F x = y:=sum_F (T:=T110) h
theorem pre56 {x:DenS I56} {y:DenS O56} (h:T56 x = some y):S56.pre x = true:=sum_pre (T:=T56) h
theorem fun56 {x:DenS I56} {y:DenS O56} (h:T56 x = some y):S56.F x = y:=sum_F (T:=T56) h
theorem pre59 {x:DenS I59} {y:DenS O59} (h:T59 x = some y):S59.pre x = true:=sum_pre (T:=T59) h
theorem fun59 {x:DenS I59} {y:DenS O59} (h:T59 x = some y):S59.F x = y:=sum_F (T:=T59) h
theorem pre86 {x:DenS I86} {y:DenS O86} (h:T86 x = some y):S86.pre x = true:=sum_pre (T:=T86) h
theorem fun86 {x:DenS I86} {y:DenS O86} (h:T86 x = some y):S86.F x = y:=sum_F (T:=T86) h
theorem pre319 {x:DenS I319} {y:DenS O319} (h:T319 x = some y):S319.pre x = true:=sum_pre (T:=T319) h
theorem fun319 {x:DenS I319} {y:DenS O319} (h:T319 x = some y):S319.F x = y:=sum_F (T:=T319) h
theorem pre132 {x:DenS I132} {y:DenS O132} (h:T132 x = some y):S132.pre x = true:=sum_pre (T:=T132) h
theorem fun132 {x:DenS I132} {y:DenS O132} (h:T132 x = some y):S132.F x = y:=sum_F (T:=T132) h
theorem pre84 {x:DenS I84} {y:DenS O84} (h:T84 x = some y):S84.pre x = true:=sum_pre (T:=T84) h
theorem fun84 {x:DenS I84} {y:DenS O84} (h:T84 x = some y):S84.F x = y:=sum_F (T:=T84) h
theorem pre85 {x:DenS I85} {y:DenS O85} (h:T85 x = some y):S85.pre x = true:=sum_pre (T:=T85) h
theorem fun85 {x:DenS I85} {y:DenS O85} (h:T85 x = some y):S85.F x = y:=sum_F (T:=T85) h
theorem pre87 {x:DenS I87} {y:DenS O87} (h:T87 x = some y):S87.pre x = true:=sum_pre (T:=T87) h
theorem fun87 {x:DenS I87} {y:DenS O87} (h:T87 x = some y):S87.F x = y:=sum_F (T:=T87) h
theorem pre163 {x:DenS I163} {y:DenS O163} (h:T163 x = some y):S163.pre x = true:=sum_pre (T:=T163) h
theorem fun163 {x:DenS I163} {y:DenS O163} (h:T163 x = some y):S163.F x = y:=sum_F (T:=T163) h
theorem pre138 {x:DenS I138} {y:DenS O138} (h:T138 x = some y):S138.pre x = true:=sum_pre (T:=T138) h
theorem fun138 {x:DenS I138} {y:DenS O138} (h:T138 x = some y):S138.F x = y:=sum_F (T:=T138) h
theorem pre167 {x:DenS I167} {y:DenS O167} (h:T167 x = some y):S167.pre x = true:=sum_pre (T:=T167) h
theorem fun167 {x:DenS I167} {y:DenS O167} (h:T167 x = some y):S167.F x = y:=sum_F (T:=T167) h
theorem pre133 {x:DenS I133} {y:DenS O133} (h:T133 x = some y):S133.pre x = true:=sum_pre (T:=T133) h
theorem fun133 {x:DenS I133} {y:DenS O133} (h:T133 x = some y):S133.F x = y:=sum_F (T:=T133) h
theorem pre181 {x:DenS I181} {y:DenS O181} (h:T181 x = some y):S181.pre x = true:=sum_pre (T:=T181) h
theorem fun181 {x:DenS I181} {y:DenS O181} (h:T181 x = some y):S181.F x = y:=sum_F (T:=T181) h
theorem pre166 {x:DenS I166} {y:DenS O166} (h:T166 x = some y):S166.pre x = true:=sum_pre (T:=T166) h
theorem fun166 {x:DenS I166} {y:DenS O166} (h:T166 x = some y):S166.F x = y:=sum_F (T:=T166) h
theorem pre183 {x:DenS I183} {y:DenS O183} (h:T183 x = some y):S183.pre x = true:=sum_pre (T:=T183) h
theorem fun183 {x:DenS I183} {y:DenS O183} (h:T183 x = some y):S183.F x = y:=sum_F (T:=T183) h
theorem pre188 {x:DenS I188} {y:DenS O188} (h:T188 x = some y):S188.pre x = true:=sum_pre (T:=T188) h
theorem fun188 {x:DenS I188} {y:DenS O188} (h:T188 x = some y):S188.F x = y:=sum_F (T:=T188) h
theorem pre168 {x:DenS I168} {y:DenS O168} (h:T168 x = some y):S168.pre x = true:=sum_pre (T:=T168) h
theorem fun168 {x:DenS I168} {y:DenS O168} (h:T168 x = some y):S168.F x = y:=sum_F (T:=T168) h
theorem pre320 {x:DenS I320} {y:DenS O320} (h:T320 x = some y):S320.pre x = true:=sum_pre (T:=T320) h
theorem fun320 {x:DenS I320} {y:DenS O320} (h:T320 x = some y):S320.F x = y:=sum_F (T:=T320) h
theorem pre164 {x:DenS I164} {y:DenS O164} (h:T164 x = some y):S164.pre x = true:=sum_pre (T:=T164) h
theorem fun164 {x:DenS I164} {y:DenS O164} (h:T164 x = some y):S164.F x = y:=sum_F (T:=T164) h
theorem pre89 {x:DenS I89} {y:DenS O89} (h:T89 x = some y):S89.pre x = true:=sum_pre (T:=T89) h
theorem fun89 {x:DenS I89} {y:DenS O89} (h:T89 x = some y):S89.F x = y:=sum_F (T:=T89) h
theorem pre114 {x:DenS I114} {y:DenS O114} (h:T114 x = some y):S114.pre x = true:=sum_pre (T:=T114) h
theorem fun114 {x:DenS I114} {y:DenS O114} (h:T114 x = some y):S114.F x = y:=sum_F (T:=T114) h
theorem pre187 {x:DenS I187} {y:DenS O187} (h:T187 x = some y):S187.pre x = true:=sum_pre (T:=T187) h
theorem fun187 {x:DenS I187} {y:DenS O187} (h:T187 x = some y):S187.F x = y:=sum_F (T:=T187) h
theorem pre182 {x:DenS I182} {y:DenS O182} (h:T182 x = some y):S182.pre x = true:=sum_pre (T:=T182) h
theorem fun182 {x:DenS I182} {y:DenS O182} (h:T182 x = some y):S182.F x = y:=sum_F (T:=T182) h
theorem pre165 {x:DenS I165} {y:DenS O165} (h:T165 x = some y):S165.pre x = true:=sum_pre (T:=T165) h
theorem fun165 {x:DenS I165} {y:DenS O165} (h:T165 x = some y):S165.F x = y:=sum_F (T:=T165) h
theorem pre136 {x:DenS I136} {y:DenS O136} (h:T136 x = some y):S136.pre x = true:=sum_pre (T:=T136) h
theorem fun136 {x:DenS I136} {y:DenS O136} (h:T136 x = some y):S136.F x = y:=sum_F (T:=T136) h
theorem pre135 {x:DenS I135} {y:DenS O135} (h:T135 x = some y):S135.pre x = true:=sum_pre (T:=T135) h
theorem fun135 {x:DenS I135} {y:DenS O135} (h:T135 x = some y):S135.F x = y:=sum_F (T:=T135) h
theorem pre169 {x:DenS I169} {y:DenS O169} (h:T169 x = some y):S169.pre x = true:=sum_pre (T:=T169) h
theorem fun169 {x:DenS I169} {y:DenS O169} (h:T169 x = some y):S169.F x = y:=sum_F (T:=T169) h
theorem pre134 {x:DenS I134} {y:DenS O134} (h:T134 x = some y):S134.pre x = true:=sum_pre (T:=T134) h
theorem fun134 {x:DenS I134} {y:DenS O134} (h:T134 x = some y):S134.F x = y:=sum_F (T:=T134) h
theorem pre170 {x:DenS I170} {y:DenS O170} (h:T170 x = some y):S170.pre x = true:=sum_pre (T:=T170) h
theorem fun170 {x:DenS I170} {y:DenS O170} (h:T170 x = some y):S170.F x = y:=sum_F (T:=T170) h
theorem pre139 {x:DenS I139} {y:DenS O139} (h:T139 x = some y):S139.pre x = true:=sum_pre (T:=T139) h
theorem fun139 {x:DenS I139} {y:DenS O139} (h:T139 x = some y):S139.F x = y:=sum_F (T:=T139) h
theorem pre137 {x:DenS I137} {y:DenS O137} (h:T137 x = some y):S137.pre x = true:=sum_pre (T:=T137) h
theorem fun137 {x:DenS I137} {y:DenS O137} (h:T137 x = some y):S137.F x = y:=sum_F (T:=T137) h
theorem pre88 {x:DenS I88} {y:DenS O88} (h:T88 x = some y):S88.pre x = true:=sum_pre (T:=T88) h
theorem fun88 {x:DenS I88} {y:DenS O88} (h:T88 x = some y):S88.F x = y:=sum_F (T:=T88) h
theorem pre323 {x:DenS I323} {y:DenS O323} (h:T323 x = some y):S323.pre x = true:=sum_pre (T:=T323) h
theorem fun323 {x:DenS I323} {y:DenS O323} (h:T323 x = some y):S323.F x = y:=sum_F (T:=T323) h
theorem pre324 {x:DenS I324} {y:DenS O324} (h:T324 x = some y):S324.pre x = true:=sum_pre (T:=T324) h
theorem fun324 {x:DenS I324} {y:DenS O324} (h:T324 x = some y):S324.F x = y:=sum_F (T:=T324) h
theorem pre325 {x:DenS I325} {y:DenS O325} (h:T325 x = some y):S325.pre x = true:=sum_pre (T:=T325) h
theorem fun325 {x:DenS I325} {y:DenS O325} (h:T325 x = some y):S325.F x = y:=sum_F (T:=T325) h
theorem pre326 {x:DenS I326} {y:DenS O326} (h:T326 x = some y):S326.pre x = true:=sum_pre (T:=T326) h
theorem fun326 {x:DenS I326} {y:DenS O326} (h:T326 x = some y):S326.F x = y:=sum_F (T:=T326) h
theorem pre1146 {x:DenS I1146} {y:DenS O1146} (h:T1146 x = some y):S1146.pre x = true:=sum_pre (T:=T1146) h
theorem fun1146 {x:DenS I1146} {y:DenS O1146} (h:T1146 x = some y):S1146.F x = y:=sum_F (T:=T1146) h
theorem pre327 {x:DenS I327} {y:DenS O327} (h:T327 x = some y):S327.pre x = true:=sum_pre (T:=T327) h
theorem fun327 {x:DenS I327} {y:DenS O327} (h:T327 x = some y):S327.F x = y:=sum_F (T:=T327) h
theorem pre328 {x:DenS I328} {y:DenS O328} (h:T328 x = some y):S328.pre x = true:=sum_pre (T:=T328) h
theorem fun328 {x:DenS I328} {y:DenS O328} (h:T328 x = some y):S328.F x = y:=sum_F (T:=T328) h
theorem pre1329 {x:DenS I1329} {y:DenS O1329} (h:T1329 x = some y):S1329.pre x = true:=sum_pre (T:=T1329) h
theorem fun1329 {x:DenS I1329} {y:DenS O1329} (h:T1329 x = some y):S1329.F x = y:=sum_F (T:=T1329) h
theorem pre144 {x:DenS I144} {y:DenS O144} (h:T144 x = some y):S144.pre x = true:=sum_pre (T:=T144) h
theorem fun144 {x:DenS I144} {y:DenS O144} (h:T144 x = some y):S144.F x = y:=sum_F (T:=T144) h
theorem pre330 {x:LK.D K330 × DenS I330} {y:LK.B K330 × DenS O330} (h:T330 x = some y):S330.pre x = true:=sumL_pre (T:=T330) h
theorem fun330 {x:LK.D K330 × DenS I330} {y:LK.B K330 × DenS O330} (h:T330 x = some y):S330.F x = y:=sumL_F (T:=T330) h
theorem pre331 {x:LK.D K331 × DenS I331} {y:LK.B K331 × DenS O331} (h:T331 x = some y):S331.pre x = true:=sumL_pre (T:=T331) h
theorem fun331 {x:LK.D K331 × DenS I331} {y:LK.B K331 × DenS O331} (h:T331 x = some y):S331.F x = y:=sumL_F (T:=T331) h
theorem pre332 {x:LK.D K332 × DenS I332} {y:LK.B K332 × DenS O332} (h:T332 x = some y):S332.pre x = true:=sumL_pre (T:=T332) h
theorem fun332 {x:LK.D K332 × DenS I332} {y:LK.B K332 × DenS O332} (h:T332 x = some y):S332.F x = y:=sumL_F (T:=T332) h
theorem pre333 {x:DenS I333} {y:DenS O333} (h:T333 x = some y):S333.pre x = true:=sum_pre (T:=T333) h
theorem fun333 {x:DenS I333} {y:DenS O333} (h:T333 x = some y):S333.F x = y:=sum_F (T:=T333) h
theorem pre334 {x:DenS I334} {y:DenS O334} (h:T334 x = some y):S334.pre x = true:=sum_pre (T:=T334) h
theorem fun334 {x:DenS I334} {y:DenS O334} (h:T334 x = some y):S334.F x = y:=sum_F (T:=T334) h
theorem pre335 {x:DenS I335} {y:DenS O335} (h:T335 x = some y):S335.pre x = true:=sum_pre (T:=T335) h
theorem fun335 {x:DenS I335} {y:DenS O335} (h:T335 x = some y):S335.F x = y:=sum_F (T:=T335) h
theorem pre336 {x:DenS I336} {y:DenS O336} (h:T336 x = some y):S336.pre x = true:=sum_pre (T:=T336) h
theorem fun336 {x:DenS I336} {y:DenS O336} (h:T336 x = some y):S336.F x = y:=sum_F (T:=T336) h
theorem pre337 {x:DenS I337} {y:DenS O337} (h:T337 x = some y):S337.pre x = true:=sum_pre (T:=T337) h
theorem fun337 {x:DenS I337} {y:DenS O337} (h:T337 x = some y):S337.F x = y:=sum_F (T:=T337) h
theorem pre339 {x:DenS I339} {y:DenS O339} (h:T339 x = some y):S339.pre x = true:=sum_pre (T:=T339) h
theorem fun339 {x:DenS I339} {y:DenS O339} (h:T339 x = some y):S339.F x = y:=sum_F (T:=T339) h
theorem pre340 {x:DenS I340} {y:DenS O340} (h:T340 x = some y):S340.pre x = true:=sum_pre (T:=T340) h
theorem fun340 {x:DenS I340} {y:DenS O340} (h:T340 x = some y):S340.F x = y:=sum_F (T:=T340) h
theorem pre341 {x:DenS I341} {y:DenS O341} (h:T341 x = some y):S341.pre x = true:=sum_pre (T:=T341) h
theorem fun341 {x:DenS I341} {y:DenS O341} (h:T341 x = some y):S341.F x = y:=sum_F (T:=T341) h
theorem pre342 {x:DenS I342} {y:DenS O342} (h:T342 x = some y):S342.pre x = true:=sum_pre (T:=T342) h
theorem fun342 {x:DenS I342} {y:DenS O342} (h:T342 x = some y):S342.F x = y:=sum_F (T:=T342) h
theorem pre345 {x:DenS I345} {y:DenS O345} (h:T345 x = some y):S345.pre x = true:=sum_pre (T:=T345) h
theorem fun345 {x:DenS I345} {y:DenS O345} (h:T345 x = some y):S345.F x = y:=sum_F (T:=T345) h
theorem pre346 {x:DenS I346} {y:DenS O346} (h:T346 x = some y):S346.pre x = true:=sum_pre (T:=T346) h
theorem fun346 {x:DenS I346} {y:DenS O346} (h:T346 x = some y):S346.F x = y:=sum_F (T:=T346) h
theorem pre347 {x:DenS I347} {y:DenS O347} (h:T347 x = some y):S347.pre x = true:=sum_pre (T:=T347) h
theorem fun347 {x:DenS I347} {y:DenS O347} (h:T347 x = some y):S347.F x = y:=sum_F (T:=T347) h
end Vx
namespace Vx
open Go
theorem shrI_u64 {a:Int} (n:Nat) (hn:n ≤ 64):shrI .u64 a (n:Int) = a / 2 ^ n:=by
  unfold shrI
  rw [Int.fdiv_eq_ediv_of_nonneg]
  · congr 2
    simp [IntKind.bits]
    omega
  · exact Int.pow_nonneg (by omega)
theorem ofInt_u64 {m:Nat} (h:m < 2 ^ 64):(BitVec.ofInt 64 (m:Int)).toNat = m:=by
  rw [BitVec.toNat_ofInt]
  omega
theorem andI_mask {m n:Nat} (h:m < 2 ^ 64) (hn:n ≤ 64):andI .u64 (m:Int) ((2 ^ n - 1:Nat):Int) = ((m % 2 ^ n:Nat):Int):=by
  have h2:2 ^ n ≤ 2 ^ 64:=Nat.pow_le_pow_right (by omega) hn
  have h3:0 < 2 ^ n:=Nat.two_pow_pos n
  have hlt:m % 2 ^ n < 2 ^ n:=Nat.mod_lt _ h3
  have key:(BitVec.ofInt 64 (m:Int) &&& BitVec.ofInt 64 ((2 ^ n - 1:Nat):Int)).toNat = m % 2 ^ n:=by
    rw [BitVec.toNat_and,ofInt_u64 h,ofInt_u64 (by omega),Nat.and_two_pow_sub_one_eq_mod]
  show IntKind.u64.wrap (((BitVec.ofInt 64 (m:Int) &&& BitVec.ofInt 64 ((2 ^ n - 1:Nat):Int)).toNat:Nat):Int) = _
  rw [key]
  exact IntWalk.u64_in _ (by omega)
theorem shlI_one {n:Nat} (hn:n ≤ 63):shlI .u64 1 (n:Int) = ((2 ^ n:Nat):Int):=by
  have h2:2 ^ n ≤ 2 ^ 63:=Nat.pow_le_pow_right (by omega) hn
  have:(min (n:Int).toNat IntKind.u64.bits) = n:=by simp [IntKind.bits]; omega
  unfold shlI
  rw [this,Int.one_mul]
  have e:(2:Int) ^ n = ((2 ^ n:Nat):Int):=by simp
  rw [e]
  refine IntWalk.u64_in _ ⟨Int.natCast_nonneg _,?_⟩
  have:((2 ^ n:Nat):Int) ≤ ((2 ^ 63:Nat):Int):=Int.ofNat_le.2 h2
  exact Int.le_trans this (by decide)
end Vx
namespace VL
open Go Vx
def Fm (f:Int):Prop:=0 ≤ f ∧ f < 4
instance (f:Int):Decidable (Fm f):=by unfold Fm; infer_instance
def fW (f:Int):Nat:=if f = 0 then 16 else if f = 1 then 16 else if f = 2 then 32 else 64
def fP (f:Int):Nat:=if f = 0 then 11 else if f = 1 then 8 else if f = 2 then 24 else 53
def fX (f:Int):Nat:=if f = 0 then 15 else if f = 1 then 127 else if f = 2 then 127 else 1023
def rowOf (f:Int):Den rowsSh:=((fW f:Int),((fP f:Int),((1 - (fX f:Int)),((fX f:Int),()))))
theorem Fm_cases {f:Int} (h:Fm f):f = 0 ∨ f = 1 ∨ f = 2 ∨ f = 3:=by
  obtain ⟨h1,h2⟩:=h
  omega
theorem row_at {f:Int} (h:Fm f) (d:Den rowsSh):k_rows.getD (Int.toNat f) d = rowOf f:=by
  rcases Fm_cases h with rfl | rfl | rfl | rfl <;> rfl
theorem fP_ge {f:Int} (h:Fm f):8 ≤ fP f:=by
  rcases Fm_cases h with rfl | rfl | rfl | rfl <;> decide
theorem fP_lt {f:Int} (h:Fm f):fP f + 5 ≤ fW f:=by
  rcases Fm_cases h with rfl | rfl | rfl | rfl <;> decide
theorem fW_le {f:Int} (h:Fm f):fW f ≤ 64:=by
  rcases Fm_cases h with rfl | rfl | rfl | rfl <;> decide
theorem fX_le {f:Int} (h:Fm f):fX f ≤ 1023:=by
  rcases Fm_cases h with rfl | rfl | rfl | rfl <;> decide
theorem fX_eq {f:Int} (h:Fm f):2 * fX f + 1 = 2 ^ (fW f - fP f) - 1:=by
  rcases Fm_cases h with rfl | rfl | rfl | rfl <;> decide
theorem wrapI {n:Int} (h:-9223372036854775808 ≤ n ∧ n < 9223372036854775808):IntKind.wrap .i64 n = n:=IntWalk.i64_in n ⟨h.1,by omega⟩
theorem wrapU {n:Int} (h:0 ≤ n ∧ n < 18446744073709551616):IntKind.wrap .u64 n = n:=IntWalk.u64_in n ⟨h.1,by omega⟩
theorem shrN (a n:Nat) (hn:n ≤ 64):shrI .u64 (a:Int) (n:Int) = ((a / 2 ^ n:Nat):Int):=by
  rw [shrI_u64 n hn]
  simp
theorem wsub (m n:Nat) (h:n ≤ m) (hm:m ≤ 4611686018427387904):IntKind.wrap .i64 ((m:Int) - (n:Int)) = ((m - n:Nat):Int):=by
  rw [wrapI (by omega)]
  omega
theorem nbeq (m n:Nat):((m:Int) == (n:Int)) = (m == n):=by
  rw [Bool.eq_iff_iff]; simp only [beq_iff_eq]; omega
theorem nbeq0 (m:Nat):((m:Int) == 0) = (m == 0):=nbeq m 0
theorem nbne (m n:Nat):((m:Int) != (n:Int)) = (m != n):=by
  show (!((m:Int) == (n:Int))) = !(m == n)
  rw [nbeq]
theorem nbne0 (m:Nat):((m:Int) != 0) = (m != 0):=nbne m 0
theorem nlt (m n:Nat):(decide ((m:Int) < (n:Int))) = decide (m < n):=by
  rw [Bool.eq_iff_iff]; simp
theorem nnn (m:Nat):(decide (0 ≤ (m:Int))) = true:=by simp
def chk (f:Int) (a:Nat):Int:=if Fm f then (if a < 2 ^ fW f then 0 else 4) else 2
def eF (f:Int) (a:Nat):Nat:=a / 2 ^ (fP f - 1) % 2 ^ (fW f - fP f)
def mF (f:Int) (a:Nat):Nat:=a % 2 ^ (fP f - 1)
def sF (f:Int) (a:Nat):Bool:=a / 2 ^ (fW f - 1) != 0
def fullF (f:Int):Nat:=2 ^ (fW f - fP f) - 1
def absF (f:Int) (a:Nat):Nat:=a % 2 ^ (fW f - 1)
theorem T69_ok {f:Int} (h:Fm f):T69 (f,()) = some (rowOf f,0,()):=by
  rcases Fm_cases h with rfl | rfl | rfl | rfl <;> kernel_rfl
theorem T69_bad {f:Int} (h:¬ Fm f):T69 (f,()) = some ((0,0,0,0,()),2,()):=by
  show t69 f = _
  unfold t69
  have:(decide (f < (0:Int)) || decide (f ≥ (4:Int))) = true:=by
    simp only [Fm] at h
    simp only [Bool.or_eq_true,decide_eq_true_eq]
    omega
  rw [this]
  rfl
theorem chk_bad {f:Int} (h:¬ Fm f) (a:Nat):chk f a = 2:=by unfold chk; rw [if_neg h]
theorem chk_ok {f:Int} (h:Fm f) {a:Nat} (ha:a < 2 ^ fW f):chk f a = 0:=by unfold chk; rw [if_pos h,if_pos ha]
theorem chk_big {f:Int} (h:Fm f) {a:Nat} (ha:¬ a < 2 ^ fW f):chk f a = 4:=by unfold chk; rw [if_pos h,if_neg ha]
theorem chk_zero {f:Int} {a:Nat} (h:chk f a = 0):Fm f ∧ a < 2 ^ fW f:=by
  unfold chk at h
  split at h
  · split at h
    · exact ⟨by assumption,by assumption⟩
    · cases h
  · cases h
theorem div_ne_zero {a n:Nat}:(a / 2 ^ n != 0) = decide (2 ^ n ≤ a):=by
  rw [Bool.eq_iff_iff]
  simp [Nat.div_eq_zero_iff,Nat.two_pow_pos]
theorem T66_eq (f:Int) (a:Nat) (ha:a < 2 ^ 64):T66 (f,(a:Int),()) = some (chk f a,()):=by
  show t66 S69.pre S69.F f a = _
  unfold t66
  by_cases hf:Fm f
  · simp only [pre69 (T69_ok hf),fun69 (T69_ok hf),cond_true,rowOf,nnn,Bool.true_or]
    rw [shrN _ _ (fW_le hf),nbne0,div_ne_zero]
    show (bif decide ((fW f:Int) < ((64:Nat):Int)) && _ then _ else _) = _
    rw [nlt]
    have hw:=fW_le hf
    by_cases h:a < 2 ^ fW f
    · have:(decide (fW f < 64) && decide (2 ^ fW f ≤ a)) = false:=by simp; intro _; exact h
      rw [this,chk_ok hf h]; rfl
    · have:(decide (fW f < 64) && decide (2 ^ fW f ≤ a)) = true:=by
        simp only [Bool.and_eq_true,decide_eq_true_eq]
        refine ⟨?_,by omega⟩
        rcases Nat.lt_or_ge (fW f) 64 with h1 | h1
        · exact h1
        · have:fW f = 64:=by omega
          rw [this] at h; omega
      rw [this,chk_big hf h]; rfl
  · simp only [pre69 (T69_bad hf),fun69 (T69_bad hf),cond_true,chk_bad hf]
    rfl
theorem T91_eq (n:Nat) (hn:n ≤ 63):T91 ((n:Int),()) = some (((2 ^ n - 1:Nat):Int),()):=by
  show t91 n = _
  unfold t91
  have h2:2 ^ n ≤ 2 ^ 63:=Nat.pow_le_pow_right (by omega) hn
  have h1:0 < 2 ^ n:=Nat.two_pow_pos n
  rw [nnn,cond_true,shlI_one hn]
  generalize 2 ^ n = c at *
  rw [wrapU (by omega)]
  have:(c:Int) - 1 = ((c - 1:Nat):Int):=by omega
  rw [this]
theorem T90_eq {f:Int} (hf:Fm f) (a:Nat) (ha:a < 2 ^ 64):T90 (rowOf f,(a:Int),()) = some (sF f a,(eF f a:Int),(mF f a:Int),()):=by
  show t90 S91.pre S91.F (rowOf f) a = _
  unfold t90
  have h1:=fP_ge hf
  have h2:=fP_lt hf
  have h3:=fW_le hf
  have e1:IntKind.wrap .i64 ((rowOf f).1 - 1) = ((fW f - 1:Nat):Int):=wsub (fW f) 1 (by omega) (by omega)
  have e2:IntKind.wrap .i64 ((rowOf f).2.1 - 1) = ((fP f - 1:Nat):Int):=wsub (fP f) 1 (by omega) (by omega)
  have e3:IntKind.wrap .i64 ((rowOf f).1 - (rowOf f).2.1) = ((fW f - fP f:Nat):Int):=wsub (fW f) (fP f) (by omega) (by omega)
  have p1:=T91_eq (fW f - fP f) (by omega)
  have p2:=T91_eq (fP f - 1) (by omega)
  rw [e1,e2,e3]
  simp only [nnn,cond_true,pre91 p1,pre91 p2,fun91 p1,fun91 p2]
  rw [shrN _ _ (by omega),shrN _ _ (by omega),andI_mask (Nat.lt_of_le_of_lt (Nat.div_le_self _ _) ha) (by omega),andI_mask ha (by omega),nbne0]
  rfl
def cls (f:Int) (a:Nat):Int :=
  bif eF f a == fullF f && mF f a == 0 then (bif sF f a then 2 else 9)
  else bif eF f a == fullF f && mF f a / 2 ^ (fP f - 2) != 0 then 1
  else bif eF f a == fullF f then 0
  else bif eF f a == 0 && mF f a == 0 then (bif sF f a then 5 else 6)
  else bif eF f a == 0 then (bif sF f a then 4 else 7)
  else (bif sF f a then 3 else 8)
theorem T65_ok {f:Int} {a:Nat} (ha:a < 2 ^ 64) (h:chk f a = 0):T65 (f,(a:Int),()) = some (cls f a,0,()):=by
  obtain ⟨hf,h0⟩:=chk_zero h
  show t65 S66.pre S66.F S90.pre S90.F S91.pre S91.F f a = _
  unfold t65
  have h1:=fP_ge hf
  have h2:=fP_lt hf
  have h3:=fW_le hf
  have e3:IntKind.wrap .i64 ((rowOf f).1 - (rowOf f).2.1) = ((fW f - fP f:Nat):Int):=wsub (fW f) (fP f) (by omega) (by omega)
  have e4:IntKind.wrap .i64 ((rowOf f).2.1 - 2) = ((fP f - 2:Nat):Int):=wsub (fP f) 2 (by omega) (by omega)
  have p0:=T66_eq f a ha
  have p1:=T91_eq (fW f - fP f) (by omega)
  have p2:=T90_eq hf a ha
  have hr:(decide (0 ≤ f) && decide (f < ((4:Nat):Int))) = true:=by
    simp only [Bool.and_eq_true,decide_eq_true_eq]; exact hf
  simp only [row_at hf,e3,e4,hr,pre66 p0,fun66 p0,pre91 p1,fun91 p1,pre90 p2,fun90 p2,h,cond_true,nnn,Bool.true_or,bne_self_eq_false,cond_false]
  rw [shrN _ _ (by omega),nbeq,nbeq0,nbeq0,nbne0]
  unfold cls fullF
  generalize (eF f a == 2 ^ (fW f - fP f) - 1) = b1
  generalize (mF f a == 0) = b2
  generalize (mF f a / 2 ^ (fP f - 2) != 0) = b3
  generalize (eF f a == 0) = b4
  generalize sF f a = b5
  cases b1 <;> cases b2 <;> cases b3 <;> cases b4 <;> cases b5 <;> rfl
def place (f:Int) (a:Nat):Int:=bif sF f a then -(absF f a:Int) else absF f a
def nan (f:Int) (a:Nat):Bool:=eF f a == fullF f && mF f a != 0
def snan (f:Int) (a:Nat):Bool:=nan f a && mF f a / 2 ^ (fP f - 2) == 0
theorem cls_nan (f:Int) (a:Nat):(cls f a == 1 || cls f a == 0) = nan f a:=by
  unfold cls nan
  simp only [bne]
  cases eF f a == fullF f <;> cases mF f a == 0 <;> cases sF f a <;> cases eF f a == 0 <;> cases mF f a / 2 ^ (fP f - 2) == 0 <;> rfl
theorem cls_snan (f:Int) (a:Nat):(cls f a == 0) = snan f a:=by
  unfold cls snan nan
  simp only [bne]
  cases eF f a == fullF f <;> cases hm:mF f a == 0 <;> cases sF f a <;> cases eF f a == 0 <;> cases mF f a / 2 ^ (fP f - 2) == 0 <;> rfl
end VL
namespace VL
open Go Vx
theorem T131_ok {f:Int} (h:Fm f):T131 (f,()) = some (rowOf f,true,()):=by
  rcases Fm_cases h with rfl | rfl | rfl | rfl <;> kernel_rfl
theorem T131_bad {f:Int} (h:¬ Fm f):T131 (f,()) = some ((0,0,0,0,()),false,()):=by
  show t131 f = _
  unfold t131
  simp only [Fm] at h
  have h0:(f == (0:Int)) = false:=by simp; omega
  have h1:(f == (1:Int)) = false:=by simp; omega
  have h2:(f == (2:Int)) = false:=by simp; omega
  have h3:(f == (3:Int)) = false:=by simp; omega
  rw [h0,h1,h2,h3]; rfl
theorem T108_eq (f:Int) (a:Nat) (ha:a < 2 ^ 64):T108 (f,(a:Int),()) = some (chk f a,()):=by
  show t108 S131.pre S131.F f a = _
  unfold t108
  by_cases hf:Fm f
  · simp only [pre131 (T131_ok hf),fun131 (T131_ok hf),cond_true,rowOf,Bool.not_true,cond_false]
    have hw:=fW_le hf
    rw [wrapU (by omega),shrN _ _ hw,nbne0,div_ne_zero]
    show (bif decide ((fW f:Int) < ((64:Nat):Int)) && _ then _ else _) = _
    rw [nlt]
    by_cases h:a < 2 ^ fW f
    · have:(decide (fW f < 64) && decide (2 ^ fW f ≤ a)) = false:=by simp; intro _; exact h
      rw [this,chk_ok hf h]; rfl
    · have:(decide (fW f < 64) && decide (2 ^ fW f ≤ a)) = true:=by
        simp only [Bool.and_eq_true,decide_eq_true_eq]
        refine ⟨?_,by omega⟩
        rcases Nat.lt_or_ge (fW f) 64 with h1 | h1
        · exact h1
        · have:fW f = 64:=by omega
          rw [this] at h; omega
      rw [this,chk_big hf h]; rfl
  · simp only [pre131 (T131_bad hf),fun131 (T131_bad hf),cond_true,chk_bad hf]
    rfl
def sgn (f:Int) (a:Nat):Nat:=a / 2 ^ (fW f - 1) % 2
theorem full_eq {f:Int} (hf:Fm f):IntKind.wrap .u64 (IntKind.wrap .i64 (IntKind.wrap .i64 (2 * (fX f:Int)) + 1)) = ((fullF f:Nat):Int):=by
  have h:=fX_le hf
  have e:=fX_eq hf
  unfold fullF
  rw [wrapI (n:=2 * (fX f:Int)) (by omega),wrapI (by omega),wrapU (by omega)]
  omega
theorem T113_eq {f:Int} (hf:Fm f) {a:Nat} (ha:a < 2 ^ 64):T113 (f,(a:Int),()) = some ((sgn f a:Int),(eF f a:Int),(mF f a:Int),(fullF f:Int),()):=by
  show t113 S131.pre S131.F f a = _
  unfold t113
  have h1:=fP_ge hf
  have h2:=fP_lt hf
  have h3:=fW_le hf
  have e1:IntKind.wrap .i64 ((rowOf f).1 - 1) = ((fW f - 1:Nat):Int):=wsub (fW f) 1 (by omega) (by omega)
  have e2:IntKind.wrap .i64 ((rowOf f).2.1 - 1) = ((fP f - 1:Nat):Int):=wsub (fP f) 1 (by omega) (by omega)
  have e5:IntKind.wrap .u64 ((fW f - 1:Nat):Int) = ((fW f - 1:Nat):Int):=wrapU (by omega)
  have e6:IntKind.wrap .u64 ((fP f - 1:Nat):Int) = ((fP f - 1:Nat):Int):=wrapU (by omega)
  have e7:IntKind.wrap .u64 (IntKind.wrap .i64 (IntKind.wrap .i64 (2 * (rowOf f).2.2.2.1) + 1)) = ((2 ^ (fW f - fP f) - 1:Nat):Int):=full_eq hf
  have e8:(((2 ^ (fP f - 1):Nat):Int) != 0) = true:=by
    rw [nbne0]
    have:=Nat.two_pow_pos (fP f - 1)
    simp only [bne_iff_ne,ne_eq]; omega
  simp only [pre131 (T131_ok hf),fun131 (T131_ok hf),cond_true,e1,e2,e5,e6,e7]
  rw [shlI_one (by omega),e8,cond_true,shrN _ _ (by omega),shrN _ _ (by omega),andI_mask (Nat.lt_of_le_of_lt (Nat.div_le_self _ _) ha) (by omega)]
  have e9:andI .u64 ((a / 2 ^ (fW f - 1):Nat):Int) 1 = ((a / 2 ^ (fW f - 1) % 2 ^ 1:Nat):Int):=andI_mask (n:=1) (Nat.lt_of_le_of_lt (Nat.div_le_self _ _) ha) (by omega)
  rw [e9]
  rfl
theorem T109_eq {f:Int} (hf:Fm f) {a:Nat} (ha:a < 2 ^ 64):T109 (f,(a:Int),()) = some (nan f a,()):=by
  show t109 S113.pre S113.F f a = _
  unfold t109
  have p0:=T113_eq hf ha
  simp only [pre113 p0,fun113 p0,cond_true,nbeq,nbne0]
  rfl
theorem T110_eq {f:Int} (hf:Fm f) {a:Nat} (ha:a < 2 ^ 64):T110 (f,(a:Int),()) = some (snan f a,()):=by
  show t110 S131.pre S131.F S113.pre S113.F S109.pre S109.F f a = _
  unfold t110
  have h1:=fP_ge hf
  have h2:=fP_lt hf
  have h3:=fW_le hf
  have p0:=T113_eq hf ha
  have p1:=T109_eq hf ha
  have p2:=T131_ok hf
  have e4:IntKind.wrap .i64 ((rowOf f).2.1 - 2) = ((fP f - 2:Nat):Int):=wsub (fP f) 2 (by omega) (by omega)
  have e5:IntKind.wrap .u64 ((fP f - 2:Nat):Int) = ((fP f - 2:Nat):Int):=wrapU (by omega)
  simp only [pre113 p0,fun113 p0,pre109 p1,fun109 p1,pre131 p2,fun131 p2,cond_true,e4,e5]
  rw [shrN _ _ (by omega),nbeq0]
  rfl
def nans (f:Int) (l:List Nat):Bool × Int × Unit:=(l.any (nan f),(bif l.any (snan f) then 1 else 0),())
theorem W56_eq {f:Int} (hf:Fm f) (l:List Nat) (hl:∀ a ∈ l,a < 2 ^ 64) (hlen:l.length < 1000000) (i:Nat) (s:Bool) (g:Int) (hi:i ≤ l.length) :
    W56_3 (((l.length:Int),(l.map (fun a:Nat=>(a:Int)),(f,((i:Int),(s,(g,())))))),()) = some (.inl ((s || (l.drop i).any (nan f),(bif (l.drop i).any (snan f) then 1 else g),()),())):=by
  have key:=lfix_ind (m56_3 S109.pre S109.F S110.pre S110.F) (fun x=>l.length - x.1.2.2.2.1.toNat)
    (fun x=>∃ (i:Nat) (s:Bool) (g:Int),i ≤ l.length ∧ x = (((l.length:Int),(l.map (fun a:Nat=>(a:Int)),(f,((i:Int),(s,(g,())))))),()))
    (fun x=>.inl ((x.1.2.2.2.2.1 || (l.drop x.1.2.2.2.1.toNat).any (nan f),(bif (l.drop x.1.2.2.2.1.toNat).any (snan f) then 1 else x.1.2.2.2.2.2.1),()),()))
    ?_ (((l.length:Int),(l.map (fun a:Nat=>(a:Int)),(f,((i:Int),(s,(g,())))))),()) ⟨i,s,g,hi,rfl⟩
  · exact key
  intro L x hx hL
  obtain ⟨i,s,g,hi,rfl⟩:=hx
  unfold h56_3
  simp only [nlt,Int.toNat_natCast]
  by_cases hlt:i < l.length
  · have hm:l[i] ∈ l:=List.getElem_mem hlt
    have hg:(l.map (fun a:Nat=>(a:Int))).getD i 0 = ((l[i]:Nat):Int):=by
      simp [List.getD_eq_getElem?_getD,hlt]
    have p0:=T109_eq hf (hl _ hm)
    have p1:=T110_eq hf (hl _ hm)
    have e1:(decide (i < l.length)) = true:=by simpa using hlt
    have e2:(decide ((0:Int) ≤ (i:Int)) && decide (i < (l.map (fun a:Nat=>(a:Int))).length)) = true:=by simp; omega
    have e3:IntKind.wrap .i64 ((i:Int) + 1) = ((i + 1:Nat):Int):=by rw [wrapI (by omega)]; omega
    have hd:l.drop i = l[i] :: l.drop (i + 1):=List.drop_eq_getElem_cons hlt
    simp only [e1,e2,e3,hg,pre109 p0,fun109 p0,pre110 p1,fun110 p1,cond_true,Bool.true_or,hd,List.any_cons]
    rw [hL _ ⟨i + 1,_,1,by omega,rfl⟩ (by simp only [Int.toNat_natCast]; omega),hL _ ⟨i + 1,_,g,by omega,rfl⟩ (by simp only [Int.toNat_natCast]; omega)]
    simp only [Int.toNat_natCast]
    cases snan f l[i]
    · simp only [cond_false,Bool.false_or,Bool.or_assoc]
    · simp only [cond_true,Bool.true_or,Bool.or_assoc]
      cases (l.drop (i + 1)).any (snan f) <;> rfl
  · have e1:(decide (i < l.length)) = false:=by simpa using hlt
    have hd:l.drop i = []:=List.drop_eq_nil_of_le (by omega)
    simp only [e1,cond_false,hd,List.any_nil,Bool.or_false]
theorem T56_eq {f:Int} (hf:Fm f) (l:List Nat) (hl:∀ a ∈ l,a < 2 ^ 64) (hlen:l.length < 1000000):T56 (f,l.map (fun a:Nat=>(a:Int)),()) = some (nans f l):=by
  show t56 S109.pre S109.F S110.pre S110.F W56_3 f (l.map (fun a:Nat=>(a:Int))) = _
  unfold t56
  have:=W56_eq hf l hl hlen 0 false 0 (Nat.zero_le _)
  rw [List.length_map]
  rw [show ((0:Int)) = ((0:Nat):Int) from rfl]
  erw [this]
  rfl
theorem T59_eq {f:Int} (hf:Fm f) {a:Nat} (ha:a < 2 ^ 64):T59 (f,(a:Int),()) = some ((sgn f a:Int),()):=by
  show t59 S113.pre S113.F f a = _
  unfold t59
  have p0:=T113_eq hf ha
  simp only [pre113 p0,fun113 p0,cond_true]
theorem sgn_eq {f:Int} {a:Nat} (h:chk f a = 0):(sgn f a == 1) = sF f a:=by
  obtain ⟨hf,h0⟩:=chk_zero h
  have h2:=fP_lt hf
  unfold sgn sF
  have:a / 2 ^ (fW f - 1) < 2:=by
    rw [Nat.div_lt_iff_lt_mul (Nat.two_pow_pos _)]
    have:2 ^ fW f = 2 * 2 ^ (fW f - 1):=by rw [← Nat.pow_succ']; congr 1; omega
    omega
  rw [Nat.mod_eq_of_lt this]
  generalize a / 2 ^ (fW f - 1) = q at this ⊢
  match q,this with
  | 0,_=>rfl
  | 1,_=>rfl
end VL
namespace VL
open Go Vx
theorem full_pos {f:Int} (hf:Fm f):0 < fullF f:=by
  rcases Fm_cases hf with rfl | rfl | rfl | rfl <;> decide
def nanF (f:Int):Nat:=2 ^ (fW f - 1) - 2 ^ (fP f - 2)
def zeroF (f:Int) (neg:Bool):Nat:=bif neg then 2 ^ (fW f - 1) else 0
theorem T70_ok {f:Int} (hf:Fm f):T70 (f,()) = some ((nanF f:Int),0,()):=by
  rcases Fm_cases hf with rfl | rfl | rfl | rfl <;> kernel_rfl
theorem T84_ok {f:Int} (hf:Fm f):T84 (f,()) = some ((nanF f:Int),()):=by
  rcases Fm_cases hf with rfl | rfl | rfl | rfl <;> kernel_rfl
theorem T114_zero {f:Int} (hf:Fm f):T114 (f,0,()) = some ((zeroF f false:Int),()):=by
  rcases Fm_cases hf with rfl | rfl | rfl | rfl <;> kernel_rfl
end VL
namespace VL
open Go Vx
theorem pat_lt {f:Int} {a:Nat} (h:chk f a = 0):a < 2 ^ 64:=by
  obtain ⟨hf,h0⟩:=chk_zero h
  exact Nat.lt_of_lt_of_le h0 (Nat.pow_le_pow_right (by omega) (fW_le hf))
theorem e_le {f:Int} (a:Nat):eF f a ≤ fullF f:=by
  have:eF f a < 2 ^ (fW f - fP f):=Nat.mod_lt _ (Nat.two_pow_pos _)
  unfold fullF; omega
end VL
namespace VL
open Go Vx
def nv (B:Nat):List Nat → Nat
  | []=>0
  | x :: r=>x + B * nv B r
def trimL:List Nat → List Nat
  | []=>[]
  | x :: r=>match trimL r with
    | []=>if x = 0 then [] else [x]
    | y :: t=>x :: y :: t
def dg (B:Nat) (n:Nat):List Nat :=
  if h:n = 0 ∨ B < 2 then [] else n % B :: dg B (n / B)
termination_by n
decreasing_by exact Nat.div_lt_self (by omega) (by omega)
theorem dg_zero (B:Nat):dg B 0 = []:=by rw [dg]; simp
theorem dg_pos {B n:Nat} (hB:2 ≤ B) (hn:0 < n):dg B n = n % B :: dg B (n / B):=by
  rw [dg]; rw [dif_neg (by omega)]
theorem dg_lt {B:Nat} (hB:2 ≤ B):∀ (n:Nat),∀ x ∈ dg B n,x < B:=by
  intro n
  induction n using Nat.strongRecOn with
  | ind n ih =>
    intro x hx
    rcases Nat.eq_zero_or_pos n with rfl | hn
    · rw [dg_zero] at hx; simp at hx
    · rw [dg_pos hB hn] at hx
      rcases List.mem_cons.1 hx with rfl | hx
      · exact Nat.mod_lt _ (by omega)
      · exact ih (n / B) (Nat.div_lt_self hn (by omega)) x hx
theorem nv_dg {B:Nat} (hB:2 ≤ B):∀ (n:Nat),nv B (dg B n) = n:=by
  intro n
  induction n using Nat.strongRecOn with
  | ind n ih =>
    rcases Nat.eq_zero_or_pos n with rfl | hn
    · rw [dg_zero]; rfl
    · rw [dg_pos hB hn]
      simp only [nv]
      rw [ih (n / B) (Nat.div_lt_self hn (by omega))]
      exact Nat.mod_add_div n B
theorem dg_cons {B x v:Nat} (hB:2 ≤ B) (hx:x < B) (h:0 < x + B * v):dg B (x + B * v) = x :: dg B v:=by
  rw [dg_pos hB h,Nat.add_mul_mod_self_left,Nat.mod_eq_of_lt hx,Nat.add_mul_div_left _ _ (by omega),Nat.div_eq_of_lt hx,Nat.zero_add]
theorem trim_dg {B:Nat} (hB:2 ≤ B):∀ (l:List Nat),(∀ x ∈ l,x < B) → trimL l = dg B (nv B l)
  | [],_=>by simp only [nv]; rw [dg_zero]; rfl
  | x :: r,h=>by
    have ih:=trim_dg hB r fun y hy=>h y (by simp [hy])
    simp only [trimL,nv]
    rcases Nat.eq_zero_or_pos (nv B r) with h0 | h0
    · rw [ih,h0,dg_zero,Nat.mul_zero,Nat.add_zero]
      simp only
      rcases Nat.eq_zero_or_pos x with rfl | hx
      · rw [dg_zero]; rfl
      · rw [if_neg (by omega)]
        have:=dg_cons (v:=0) hB (h x (by simp)) (by omega)
        rw [Nat.mul_zero,Nat.add_zero,dg_zero] at this
        exact this.symm
    · have hp:0 < B * nv B r:=Nat.mul_pos (by omega) h0
      rw [dg_cons hB (h x (by simp)) (by omega),ih]
      rw [dg_pos hB h0]
theorem trim_len:∀ (l:List Nat),(trimL l).length ≤ l.length ∧ trimL l = l.take (trimL l).length
  | []=>⟨Nat.le_refl _,rfl⟩
  | x :: r=>by
    obtain ⟨h1,h2⟩:=trim_len r
    simp only [trimL]
    cases e:trimL r with
    | nil =>
      simp only
      split
      · exact ⟨by simp,rfl⟩
      · exact ⟨by simp,rfl⟩
    | cons y t =>
      rw [e] at h1 h2
      simp only
      refine ⟨by simp at h1 ⊢; omega,?_⟩
      simp only [List.length_cons,List.take_succ_cons]
      congr 1
theorem trim_out:∀ (l:List Nat) (i:Nat),(trimL l).length ≤ i → l.getD i 0 = 0
  | [],i,_=>by simp
  | x :: r,i,h=>by
    have ih:=trim_out r
    simp only [trimL] at h
    cases e:trimL r with
    | nil =>
      rw [e] at h ih
      simp only at h
      cases i with
      | zero =>
        split at h
        · rename_i hx; simp [hx]
        · simp at h
      | succ i=>simpa using ih i (by simp)
    | cons y t =>
      rw [e] at h ih
      simp only at h
      cases i with
      | zero=>simp at h
      | succ i=>simpa using ih i (by simpa using h)
theorem trim_last:∀ (l:List Nat),0 < (trimL l).length → l.getD ((trimL l).length - 1) 0 ≠ 0
  | [],h=>by simp [trimL] at h
  | x :: r,h=>by
    have ih:=trim_last r
    simp only [trimL] at h ⊢
    cases e:trimL r with
    | nil =>
      rw [e] at h
      simp only at h ⊢
      split at h
      · simp at h
      · rename_i hx; rw [if_neg hx]; simpa using hx
    | cons y t =>
      rw [e] at ih
      simp only [List.length_cons] at ih ⊢
      have:=ih (by simp)
      simpa using this
def Wd (l:List Nat):List Int:=l.map fun n:Nat=>(n:Int)
theorem Wd_len (l:List Nat):(Wd l).length = l.length:=by simp [Wd]
theorem Wd_getD (l:List Nat) (i:Nat):(Wd l).getD i 0 = ((l.getD i 0:Nat):Int):=by
  unfold Wd
  rw [List.getD_eq_getElem?_getD,List.getD_eq_getElem?_getD,List.getElem?_map]
  cases l[i]? <;> simp
theorem Wd_take (l:List Nat) (n:Nat):(Wd l).take n = Wd (l.take n):=by simp [Wd,List.map_take]
theorem Wd_drop (l:List Nat) (n:Nat):(Wd l).drop n = Wd (l.drop n):=by simp [Wd,List.map_drop]
theorem Wd_set (l:List Nat) (i n:Nat):(Wd l).set i (n:Int) = Wd (l.set i n):=by simp [Wd,List.map_set]
theorem Wd_rep (n:Nat):List.replicate n (0:Int) = Wd (List.replicate n 0):=by simp [Wd]
end VL
namespace VL
open Go Vx
def Ws (l:List Nat):Prop:=(∀ x ∈ l,x < 2 ^ 64) ∧ l.length ≤ 1000000
theorem W173_eq (l:List Nat) (hl:l.length ≤ 1000000) (n:Nat) (hn:n ≤ l.length) (ht:(trimL l).length ≤ n) :
    W173_2 ((Wd l,((n:Int),())),()) = some (.inl ((Wd l,(((trimL l).length:Int),())),())):=by
  have key:=lfix_ind m173_2 (fun x=>x.1.2.1.toNat)
    (fun x=>∃ n:Nat,n ≤ l.length ∧ (trimL l).length ≤ n ∧ x = ((Wd l,((n:Int),())),()))
    (fun _=>.inl ((Wd l,(((trimL l).length:Int),())),())) ?_ ((Wd l,((n:Int),())),()) ⟨n,hn,ht,rfl⟩
  · exact key
  intro L x hx hL
  obtain ⟨n,hn,ht,rfl⟩:=hx
  unfold h173_2
  rcases Nat.eq_zero_or_pos n with rfl | hpos
  · have e1:decide (((0:Nat):Int) > 0) = false:=rfl
    simp only [e1,Bool.not_false,Bool.or_true,cond_true,Bool.false_and,cond_false]
    have:(trimL l).length = 0:=by omega
    rw [this]
  · have e0:IntKind.wrap .i64 ((n:Int) - 1) = ((n - 1:Nat):Int):=wsub n 1 (by omega) (by omega)
    have e1:decide ((n:Int) > 0) = true:=by simp; omega
    have e2:(decide ((0:Int) ≤ ((n - 1:Nat):Int)) && decide (((n - 1:Nat):Int) < ((Wd l).length:Int))) = true:=by
      rw [Wd_len]; simp; omega
    simp only [e0,e1,e2,Bool.true_or,cond_true,Bool.true_and,Int.toNat_natCast,Wd_getD,nbeq0]
    cases hz:(l.getD (n - 1) 0 == 0) with
    | true =>
      simp only [cond_true]
      refine hL _ ⟨n - 1,by omega,?_,rfl⟩ (by simp only [Int.toNat_natCast]; omega)
      rcases Nat.lt_or_ge (n - 1) (trimL l).length with h | h
      · exfalso
        have e:n = (trimL l).length:=by omega
        have:=trim_last l (by omega)
        rw [← e] at this
        exact this (by simpa using hz)
      · exact h
    | false =>
      simp only [cond_false]
      have:(trimL l).length = n:=by
        rcases Nat.lt_or_ge (n - 1) (trimL l).length with h | h
        · omega
        · exfalso
          have:=trim_out l (n - 1) h
          rw [this] at hz
          simp at hz
      rw [this]
theorem T173_eq (l:List Nat) (hl:l.length ≤ 1000000):T173 (Wd l,()) = some (Wd (trimL l),()):=by
  show t173 W173_2 (Wd l) = _
  unfold t173
  have h:=W173_eq l hl l.length (Nat.le_refl _) (trim_len l).1
  rw [Wd_len]
  rw [h]
  have e:(decide ((0:Int) ≤ ((trimL l).length:Int)) && decide (((trimL l).length:Int) ≤ ((Wd l).length:Int))) = true:=by
    rw [Wd_len]; have:=(trim_len l).1; simp; omega
  show (bif (decide ((0:Int) ≤ ((trimL l).length:Int)) && decide (((trimL l).length:Int) ≤ ((Wd l).length:Int))) then some (List.drop (Int.toNat 0) (List.take (Int.toNat ((trimL l).length:Int)) (Wd l)),()) else none) = _
  rw [e,cond_true,Int.toNat_natCast,Int.toNat_zero,List.drop_zero,Wd_take]
  have:=(trim_len l).2
  rw [← this]
def blen (n:Nat):Nat:=if n = 0 then 0 else Nat.log2 n + 1
theorem blen_lt (n:Nat):n < 2 ^ blen n:=by
  unfold blen
  split
  · subst_vars; decide
  · exact Nat.lt_log2_self
theorem blen_le {n:Nat} (h:n ≠ 0):2 ^ (blen n - 1) ≤ n:=by
  unfold blen
  rw [if_neg h]
  exact Nat.log2_self_le h
theorem blen_of {n k:Nat} (h1:2 ^ k ≤ n) (h2:n < 2 ^ (k + 1)):blen n = k + 1:=by
  have hp:=Nat.two_pow_pos k
  have hn:n ≠ 0:=by omega
  have a1:=blen_lt n
  have a2:=blen_le hn
  have b1:blen n - 1 < k + 1:=(Nat.pow_lt_pow_iff_right (by decide)).1 (Nat.lt_of_le_of_lt a2 h2)
  have b2:k < blen n:=(Nat.pow_lt_pow_iff_right (by decide)).1 (Nat.lt_of_le_of_lt h1 a1)
  omega
theorem blen_shift {n k:Nat} (h:2 ^ k ≤ n):blen n = k + blen (n / 2 ^ k):=by
  have hp:=Nat.two_pow_pos k
  have hq:0 < n / 2 ^ k:=Nat.div_pos h hp
  have a1:=blen_lt (n / 2 ^ k)
  have a2:=blen_le (n:=n / 2 ^ k) (by omega)
  have hb:0 < blen (n / 2 ^ k):=by unfold blen; rw [if_neg (by omega)]; omega
  have h1:2 ^ (k + (blen (n / 2 ^ k) - 1)) ≤ n:=by
    rw [Nat.pow_add]
    calc 2 ^ k * 2 ^ (blen (n / 2 ^ k) - 1) ≤ 2 ^ k * (n / 2 ^ k):=Nat.mul_le_mul_left _ a2
      _ ≤ n:=Nat.mul_div_le n _
  have h2:n < 2 ^ (k + (blen (n / 2 ^ k) - 1) + 1):=by
    rw [show k + (blen (n / 2 ^ k) - 1) + 1 = k + blen (n / 2 ^ k) by omega,Nat.pow_add,Nat.mul_comm]
    exact (Nat.div_lt_iff_lt_mul hp).1 a1
  have:=blen_of h1 h2
  omega
theorem len8:∀ i:Nat,i < 256 → (k_len8.getD i 0).toNat = blen i:=by
  have h:((List.range 256).all fun i=>decide ((k_len8.getD i 0).toNat = blen i)) = true:=by decide +kernel
  intro i hi
  have:=List.all_eq_true.1 h i (List.mem_range.2 hi)
  simpa using this
theorem T178_eq (n:Nat) (hn:n < 2 ^ 64):T178 ((n:Int),()) = some ((blen n:Int),()):=by
  have hs:∀ m k:Nat,k ≤ 64 → shrI .u64 (m:Int) (k:Int) = ((m / 2 ^ k:Nat):Int):=fun m k hk=>shrN m k hk
  have s32:∀ m:Nat,shrI .u64 (m:Int) 32 = ((m / 2 ^ 32:Nat):Int):=fun m=>hs m 32 (by decide)
  have s16:∀ m:Nat,shrI .u64 (m:Int) 16 = ((m / 2 ^ 16:Nat):Int):=fun m=>hs m 16 (by decide)
  have s8:∀ m:Nat,shrI .u64 (m:Int) 8 = ((m / 2 ^ 8:Nat):Int):=fun m=>hs m 8 (by decide)
  have ge:∀ m k:Nat,decide ((m:Int) ≥ (k:Int)) = decide (k ≤ m):=fun m k=>by rw [Bool.eq_iff_iff]; simp
  have g32:∀ m:Nat,decide ((m:Int) ≥ 4294967296) = decide (2 ^ 32 ≤ m):=fun m=>ge m (2 ^ 32)
  have g16:∀ m:Nat,decide ((m:Int) ≥ 65536) = decide (2 ^ 16 ≤ m):=fun m=>ge m (2 ^ 16)
  have g8:∀ m:Nat,decide ((m:Int) ≥ 256) = decide (2 ^ 8 ≤ m):=fun m=>ge m (2 ^ 8)
  -- the last look
  have tab:∀ m:Nat,m < 256 → IntKind.wrap .u8 (m:Int) = (m:Int):=fun m hm=>IntWalk.u8_in _ (by omega)
  have look:∀ (m:Nat) (c:Int) (d:Nat),m < 256 → c = (d:Int) → d ≤ 56 → (bif (decide ((0:Int) ≤ IntKind.wrap .u8 (m:Int)) && decide (IntKind.wrap .u8 (m:Int) < (256:Int))) then (some (IntKind.wrap .i64 (c + IntKind.wrap .i64 ((UInt8.toNat (k_len8.getD (Int.toNat (IntKind.wrap .u8 (m:Int))) 0):Nat):Int)),()):Option (DenS O178)) else none) = some (((d + blen m:Nat):Int),()):=fun m c d hm hc hd=>by
    have e:(decide ((0:Int) ≤ (m:Int)) && decide ((m:Int) < (256:Int))) = true:=by simp; omega
    have hb:blen m ≤ 8:=by
      have:=len8 m hm
      rcases Nat.eq_zero_or_pos m with rfl | hpos
      · decide
      · have:=blen_le (n:=m) (by omega)
        have h8:blen m - 1 < 8:=(Nat.pow_lt_pow_iff_right (a:=2) (by decide)).1 (Nat.lt_of_le_of_lt this hm)
        omega
    rw [tab m hm,e,cond_true,Int.toNat_natCast,len8 m hm,hc,wrapI (n:=((blen m:Nat):Int)) (by omega),wrapI (by omega)]
    rfl
  show t178 n = _
  unfold t178
  have fin:∀ (k:Nat),2 ^ k ≤ n → k + blen (n / 2 ^ k) = blen n:=fun k h=>(blen_shift h).symm
  have dd:∀ a b:Nat,n / 2 ^ a / 2 ^ b = n / 2 ^ (a + b):=fun a b=>by rw [Nat.div_div_eq_div_mul,← Nat.pow_add]
  have up:∀ a b:Nat,2 ^ b ≤ n / 2 ^ a → 2 ^ (a + b) ≤ n:=fun a b h=>by
    rw [Nat.pow_add,Nat.mul_comm]
    exact (Nat.le_div_iff_mul_le (Nat.two_pow_pos a)).1 h
  have down:∀ a b:Nat,n / 2 ^ a < 2 ^ b → n < 2 ^ (a + b):=fun a b h=>by
    rw [Nat.pow_add,Nat.mul_comm]
    exact (Nat.div_lt_iff_lt_mul (Nat.two_pow_pos a)).1 h
  have small:∀ a:Nat,n < 2 ^ (a + 8) → n / 2 ^ a < 256:=fun a h=>by
    rw [Nat.div_lt_iff_lt_mul (Nat.two_pow_pos a),Nat.mul_comm]
    rw [Nat.pow_add] at h; exact h
  simp only [s32,s16,s8,g32,g16,g8]
  by_cases h1:2 ^ 32 ≤ n
  · rw [decide_eq_true h1,cond_true]
    by_cases h2:2 ^ 16 ≤ n / 2 ^ 32
    · rw [decide_eq_true h2,cond_true]
      by_cases h3:2 ^ 8 ≤ n / 2 ^ 32 / 2 ^ 16
      · rw [decide_eq_true h3,cond_true]
        rw [dd 32 16] at h3
        have hm:n / 2 ^ 32 / 2 ^ 16 / 2 ^ 8 = n / 2 ^ 56:=by rw [dd 32 16,dd 48 8]
        refine (look (n / 2 ^ 32 / 2 ^ 16 / 2 ^ 8) _ 56 (by rw [hm]; exact small 56 hn) rfl (by decide)).trans ?_
        rw [hm,fin 56 (up 48 8 h3)]
      · rw [decide_eq_false h3,cond_false]
        rw [dd 32 16] at h3
        refine (look (n / 2 ^ 32 / 2 ^ 16) _ 48 (by rw [dd 32 16]; exact small 48 (down 48 8 (by omega))) rfl (by decide)).trans ?_
        rw [dd 32 16,fin 48 (up 32 16 h2)]
    · rw [decide_eq_false h2,cond_false]
      by_cases h3:2 ^ 8 ≤ n / 2 ^ 32
      · rw [decide_eq_true h3,cond_true]
        refine (look (n / 2 ^ 32 / 2 ^ 8) _ 40 (by rw [dd 32 8]; exact small 40 (down 32 16 (by omega))) rfl (by decide)).trans ?_
        rw [dd 32 8,fin 40 (up 32 8 h3)]
      · rw [decide_eq_false h3,cond_false]
        refine (look (n / 2 ^ 32) _ 32 (small 32 (down 32 8 (by omega))) rfl (by decide)).trans ?_
        rw [fin 32 h1]
  · rw [decide_eq_false h1,cond_false]
    by_cases h2:2 ^ 16 ≤ n
    · rw [decide_eq_true h2,cond_true]
      by_cases h3:2 ^ 8 ≤ n / 2 ^ 16
      · rw [decide_eq_true h3,cond_true]
        refine (look (n / 2 ^ 16 / 2 ^ 8) _ 24 (by rw [dd 16 8]; exact small 24 (by omega)) rfl (by decide)).trans ?_
        rw [dd 16 8,fin 24 (up 16 8 h3)]
      · rw [decide_eq_false h3,cond_false]
        refine (look (n / 2 ^ 16) _ 16 (small 16 (down 16 8 (by omega))) rfl (by decide)).trans ?_
        rw [fin 16 h2]
    · rw [decide_eq_false h2,cond_false]
      by_cases h3:2 ^ 8 ≤ n
      · rw [decide_eq_true h3,cond_true]
        refine (look (n / 2 ^ 8) _ 8 (small 8 (by omega)) rfl (by decide)).trans ?_
        rw [fin 8 h3]
      · rw [decide_eq_false h3,cond_false]
        refine (look n 0 0 (by omega) rfl (by decide)).trans ?_
        rw [Nat.zero_add]
end VL
namespace VL
open Go Vx
theorem nv_append (B:Nat):∀ (l m:List Nat),nv B (l ++ m) = nv B l + B ^ l.length * nv B m
  | [],m=>by simp [nv]
  | x :: r,m=>by
    simp only [List.cons_append,nv,List.length_cons]
    rw [nv_append B r m,Nat.pow_succ,Nat.mul_add,Nat.add_assoc]
    congr 2
    rw [Nat.mul_comm (B ^ r.length) B,Nat.mul_assoc]
theorem nv_lt {B:Nat} (hB:2 ≤ B):∀ (l:List Nat),(∀ x ∈ l,x < B) → nv B l < B ^ l.length
  | [],_=>by simp [nv]
  | x :: r,h=>by
    have ih:=nv_lt hB r fun y hy=>h y (by simp [hy])
    have hx:=h x (by simp)
    simp only [nv,List.length_cons,Nat.pow_succ]
    have:B * nv B r ≤ B * (B ^ r.length - 1):=Nat.mul_le_mul_left _ (by omega)
    have hp:0 < B ^ r.length:=Nat.pow_pos (by omega)
    rw [Nat.mul_sub] at this
    have h1:B * 1 ≤ B * B ^ r.length:=Nat.mul_le_mul_left _ hp
    rw [Nat.mul_comm (B ^ r.length) B]
    omega
theorem nv_split (B:Nat) (l:List Nat) (i:Nat) (h:i ≤ l.length):nv B l = nv B (l.take i) + B ^ i * nv B (l.drop i):=by
  conv=>lhs; rw [← List.take_append_drop i l]
  rw [nv_append]
  simp [h]
theorem nv_trim {B:Nat} (hB:2 ≤ B) {l:List Nat} (h:∀ x ∈ l,x < B):nv B (trimL l) = nv B l:=by
  rw [trim_dg hB l h,nv_dg hB]
theorem trim_mem {l:List Nat} {x:Nat} (h:x ∈ trimL l):x ∈ l:=by
  rw [(trim_len l).2] at h
  exact List.mem_of_mem_take h
theorem trim_get {l:List Nat} {i:Nat} (h:i < (trimL l).length):(trimL l)[i]? = l[i]?:=by
  have:(trimL l)[i]? = (l.take (trimL l).length)[i]?:=congrArg (fun t:List Nat=>t[i]?) (trim_len l).2
  rw [this,List.getElem?_take_of_lt h]
theorem blen_split {a b k:Nat} (ha:a < 2 ^ k) (hb:0 < b):blen (a + 2 ^ k * b) = k + blen b:=by
  have hp:=Nat.two_pow_pos k
  have h1:2 ^ k * 1 ≤ 2 ^ k * b:=Nat.mul_le_mul_left _ hb
  rw [blen_shift (n:=a + 2 ^ k * b) (k:=k) (by omega),Nat.add_mul_div_left _ _ hp,Nat.div_eq_of_lt ha,Nat.zero_add]
theorem pow64 (i:Nat):(2 ^ 64) ^ i = 2 ^ (64 * i):=by rw [← Nat.pow_mul]
theorem blen_row {l:List Nat} (h:∀ x ∈ l,x < 2 ^ 64) (hl:0 < (trimL l).length):blen (nv (2 ^ 64) l) = 64 * ((trimL l).length - 1) + blen (l.getD ((trimL l).length - 1) 0):=by
  have hlast:=trim_last l hl
  have hle:=(trim_len l).1
  rw [← nv_trim (by decide) h]
  have hm:∀ x ∈ trimL l,x < 2 ^ 64:=fun x hx=>h x (trim_mem hx)
  rw [nv_split _ (trimL l) ((trimL l).length - 1) (by omega),pow64]
  have hd:(trimL l).drop ((trimL l).length - 1) = [l.getD ((trimL l).length - 1) 0]:=by
    have hlt:(trimL l).length - 1 < (trimL l).length:=by omega
    rw [List.drop_eq_getElem_cons hlt]
    have e1:(trimL l).length - 1 + 1 = (trimL l).length:=by omega
    rw [e1,List.drop_length]
    congr 1
    have:(trimL l)[(trimL l).length - 1]? = l[(trimL l).length - 1]?:=trim_get hlt
    rw [List.getElem?_eq_getElem hlt] at this
    rw [List.getD_eq_getElem?_getD,← this]
    rfl
  rw [hd]
  have hlow:=nv_lt (B:=2 ^ 64) (by decide) ((trimL l).take ((trimL l).length - 1)) fun x hx=>hm x (List.mem_of_mem_take hx)
  rw [List.length_take,Nat.min_eq_left (by omega),pow64] at hlow
  have:nv (2 ^ 64) [l.getD ((trimL l).length - 1) 0] = l.getD ((trimL l).length - 1) 0:=by simp [nv]
  rw [this]
  exact blen_split hlow (by omega)
theorem trim_nil {l:List Nat} (h:∀ x ∈ l,x < 2 ^ 64) (h0:(trimL l).length = 0):nv (2 ^ 64) l = 0:=by
  have:trimL l = []:=List.eq_nil_of_length_eq_zero h0
  rw [← nv_trim (by decide) h,this]; rfl
theorem getD_lt {l:List Nat} {B:Nat} (hB:0 < B) (h:∀ x ∈ l,x < B) (i:Nat):l.getD i 0 < B:=by
  rw [List.getD_eq_getElem?_getD]
  cases e:l[i]? with
  | none=>exact hB
  | some x=>exact h x (List.mem_of_getElem? e)
theorem T151_eq (l:List Nat) (hl:Ws l):T151 (Wd l,()) = some ((blen (nv (2 ^ 64) l):Int),()):=by
  obtain ⟨h,hlen⟩:=hl
  show t151 S173.pre S173.F S178.pre S178.F (Wd l) = _
  unfold t151
  have p0:=T173_eq l hlen
  have hle:=(trim_len l).1
  simp only [pre173 p0,fun173 p0,cond_true,Wd_len]
  rcases Nat.eq_zero_or_pos (trimL l).length with h0 | h0
  · rw [h0,trim_nil h h0]; rfl
  · have e0:(((trimL l).length:Int) == 0) = false:=by rw [nbeq0]; exact beq_false_of_ne (by omega)
    have e1:IntKind.wrap .i64 (((trimL l).length:Int) - 1) = (((trimL l).length - 1:Nat):Int):=wsub (trimL l).length 1 (by omega) (by omega)
    have e2:(decide ((0:Int) ≤ (((trimL l).length - 1:Nat):Int)) && decide ((((trimL l).length - 1:Nat):Int) < ((trimL l).length:Int))) = true:=by simp only [Bool.and_eq_true,decide_eq_true_eq]; omega
    have e3:(Wd (trimL l)).getD ((trimL l).length - 1) 0 = ((l.getD ((trimL l).length - 1) 0:Nat):Int):=by
      rw [Wd_getD]
      congr 1
      rw [List.getD_eq_getElem?_getD,List.getD_eq_getElem?_getD]
      rw [trim_get (by omega)]
    have hd:=getD_lt (by decide) h ((trimL l).length - 1)
    have p1:=T178_eq _ hd
    have hb:blen (l.getD ((trimL l).length - 1) 0) ≤ 64:=by
      rcases Nat.eq_zero_or_pos (l.getD ((trimL l).length - 1) 0) with z | z
      · rw [z]; decide
      · have:=blen_le (n:=l.getD ((trimL l).length - 1) 0) (by omega)
        have:blen (l.getD ((trimL l).length - 1) 0) - 1 < 64:=(Nat.pow_lt_pow_iff_right (a:=2) (by decide)).1 (Nat.lt_of_le_of_lt this hd)
        omega
    rw [e0,e1,e2,cond_false,cond_true,Int.toNat_natCast,e3]
    simp only [pre178 p1,fun178 p1,cond_true]
    rw [blen_row h h0,wrapI (n:=64 * (((trimL l).length - 1:Nat):Int)) (by omega),wrapI (by omega)]
    congr 2
end VL
namespace VL
open Go Vx
theorem wrapN (x:Nat):IntKind.wrap .u64 (x:Int) = ((x % 2 ^ 64:Nat):Int):=by
  simp [IntKind.wrap,IntKind.bits,IntKind.signed]
  try omega
theorem shlN (x n:Nat) (hn:n ≤ 64):shlI .u64 (x:Int) (n:Int) = ((x * 2 ^ n % 2 ^ 64:Nat):Int):=by
  have hm:(min (n:Int).toNat IntKind.u64.bits) = n:=by simp [IntKind.bits]; omega
  unfold shlI
  rw [hm]
  have e:(x:Int) * 2 ^ n = ((x * 2 ^ n:Nat):Int):=by simp
  rw [e]
  exact wrapN _
theorem orN {a b k:Nat} (ha:a < 2 ^ k) (h:a + b * 2 ^ k < 2 ^ 64):orI .u64 (a:Int) ((b * 2 ^ k:Nat):Int) = ((a + b * 2 ^ k:Nat):Int):=by
  have key:(BitVec.ofInt 64 (a:Int) ||| BitVec.ofInt 64 ((b * 2 ^ k:Nat):Int)).toNat = a + b * 2 ^ k:=by
    rw [BitVec.toNat_or,ofInt_u64 (by omega),ofInt_u64 (by omega),Nat.mul_comm b,Nat.or_comm,← Nat.two_pow_add_eq_or_of_lt ha]
    omega
  show IntKind.u64.wrap (((BitVec.ofInt 64 (a:Int) ||| BitVec.ofInt 64 ((b * 2 ^ k:Nat):Int)).toNat:Nat):Int) = _
  rw [key]
  exact wrapU (by omega)
def shrL (s:Nat):List Nat → List Nat
  | []=>[]
  | x :: r=>(x / 2 ^ s + (r.getD 0 0 % 2 ^ s) * 2 ^ (64 - s)) :: shrL s r
theorem shrL_len (s:Nat):∀ l,(shrL s l).length = l.length
  | []=>rfl
  | _ :: r=>by simp [shrL,shrL_len s r]
theorem shrL_get (s:Nat):∀ (l:List Nat) (i:Nat),i < l.length → (shrL s l)[i]? = some (l.getD i 0 / 2 ^ s + (l.getD (i + 1) 0 % 2 ^ s) * 2 ^ (64 - s))
  | [],i,h=>by simp at h
  | x :: r,0,_=>by simp [shrL]
  | x :: r,i + 1,h=>by
    simp only [shrL,List.getElem?_cons_succ]
    rw [shrL_get s r i (by simpa using h)]
    simp
theorem pow_parts {s:Nat} (hs:s ≤ 64):2 ^ 64 = 2 ^ s * 2 ^ (64 - s):=by rw [← Nat.pow_add]; congr 1; omega
theorem shr_word {s:Nat} (hs:s ≤ 64) {x y:Nat} (hx:x < 2 ^ 64):x / 2 ^ s < 2 ^ (64 - s) ∧ x / 2 ^ s + (y % 2 ^ s) * 2 ^ (64 - s) < 2 ^ 64:=by
  have hp:=Nat.two_pow_pos s
  have h1:x / 2 ^ s < 2 ^ (64 - s):=by
    rw [Nat.div_lt_iff_lt_mul hp,Nat.mul_comm,← pow_parts hs]; exact hx
  refine ⟨h1,?_⟩
  have h2:y % 2 ^ s + 1 ≤ 2 ^ s:=Nat.mod_lt _ hp
  have h3:=Nat.mul_le_mul_right (2 ^ (64 - s)) h2
  rw [← pow_parts hs,Nat.add_mul,Nat.one_mul] at h3
  omega
theorem nv_mod {B:Nat} {s:Nat} (hB:B % 2 ^ s = 0):∀ l:List Nat,nv B l % 2 ^ s = l.getD 0 0 % 2 ^ s
  | []=>by simp [nv]
  | x :: r=>by
    simp only [nv,List.getD_cons_zero]
    obtain ⟨c,hc⟩:=Nat.dvd_of_mod_eq_zero hB
    rw [hc,Nat.mul_assoc,Nat.add_mul_mod_self_left]
theorem nv_shrL {s:Nat} (hs:s ≤ 64):∀ l:List Nat,nv (2 ^ 64) (shrL s l) = nv (2 ^ 64) l / 2 ^ s
  | []=>by simp [shrL,nv]
  | x :: r=>by
    have ih:=nv_shrL hs r
    simp only [shrL,nv]
    rw [ih]
    have hp:=Nat.two_pow_pos s
    have hm:=nv_mod (B:=2 ^ 64) (s:=s) (by rw [pow_parts hs]; exact Nat.mul_mod_right _ _) r
    rw [← hm]
    have hN:nv (2 ^ 64) r = 2 ^ s * (nv (2 ^ 64) r / 2 ^ s) + nv (2 ^ 64) r % 2 ^ s:=(Nat.div_add_mod _ _).symm
    generalize nv (2 ^ 64) r / 2 ^ s = q at *
    generalize nv (2 ^ 64) r % 2 ^ s = t at *
    rw [hN]
    have e:x + 2 ^ 64 * (2 ^ s * q + t) = x + 2 ^ s * (2 ^ 64 * q + 2 ^ (64 - s) * t):=by
      rw [Nat.mul_add,Nat.mul_add]
      have e1:2 ^ 64 * (2 ^ s * q) = 2 ^ s * (2 ^ 64 * q):=by rw [← Nat.mul_assoc,← Nat.mul_assoc,Nat.mul_comm (2 ^ 64) (2 ^ s)]
      have e2:2 ^ 64 * t = 2 ^ s * (2 ^ (64 - s) * t):=by rw [← Nat.mul_assoc,← pow_parts hs]
      rw [e1,e2]
    rw [e,Nat.add_mul_div_left _ _ hp,Nat.mul_comm t]
    omega
end VL
