/- Part 4 of the proof. What is proved: symbolic execution of the functions, proved sound; what each function of the program computes, and that every run ends with it; what these functions compute, in plain numbers. Conditions: each theorem bears its own. -/
import Derived.Test.YtblmecpfokfjpaaDoorVxG3
set_option linter.all false
set_option exponentiation.threshold 1000000
namespace Vx
open Go Go.Proofs
abbrev I150:Sig:=[(true,.pair (.bool) (.pair (.slice (.int .u64)) (.pair (.int .i64) (.pair (.bool) (.unit))))),(false,.int .i64),(false,.int .i64)]
abbrev O150:Sig:=[(false,.slice (.int .u64)),(false,.bool)]
noncomputable def t150 (p175:DenS I175→Bool) (f175:DenS I175→DenS O175) (p176:DenS I176→Bool) (f176:DenS I176→DenS O176) (p141:DenS I141→Bool) (f141:DenS I141→DenS O141) (p177:DenS I177→Bool) (f177:DenS I177→DenS O177) (p143:DenS I143→Bool) (f143:DenS I143→DenS O143) (a0:Den (.pair (.bool) (.pair (.slice (.int .u64)) (.pair (.int .i64) (.pair (.bool) (.unit)))))) (a1:Den (.int .i64)) (a2:Den (.int .i64)):Option (DenS O150) :=
 bif (decide ((IntKind.wrap .i64 (a2-a0.2.2.1))≥(2:Int))) then
 (bif (p175 (a0.2.1,((IntKind.wrap .i64 ((IntKind.wrap .i64 (a2-a0.2.2.1))-(2:Int))),()))) then
 (bif (decide (((f175 (a0.2.1,((IntKind.wrap .i64 ((IntKind.wrap .i64 (a2-a0.2.2.1))-(2:Int))),()))).1.length:Int)>(0:Int))) then
 (bif (decide ((0:Int)<((f175 (a0.2.1,((IntKind.wrap .i64 ((IntKind.wrap .i64 (a2-a0.2.2.1))-(2:Int))),()))).1.length:Int))) then
 (bif a0.2.2.2.1 then
 (bif (p141 ((f175 (a0.2.1,((IntKind.wrap .i64 ((IntKind.wrap .i64 (a2-a0.2.2.1))-(2:Int))),()))).1,((2:Int),()))) then
 (bif ((decide ((0:Int)<((f141 ((f175 (a0.2.1,((IntKind.wrap .i64 ((IntKind.wrap .i64 (a2-a0.2.2.1))-(2:Int))),()))).1,((2:Int),()))).1.length:Int)))||(!(decide (((f141 ((f175 (a0.2.1,((IntKind.wrap .i64 ((IntKind.wrap .i64 (a2-a0.2.2.1))-(2:Int))),()))).1,((2:Int),()))).1.length:Int)>(0:Int))))) then
 (bif ((p177 (a1,(a0.1,(((decide (((f141 ((f175 (a0.2.1,((IntKind.wrap .i64 ((IntKind.wrap .i64 (a2-a0.2.2.1))-(2:Int))),()))).1,((2:Int),()))).1.length:Int)>(0:Int)))&&((andI .u64 ((f141 ((f175 (a0.2.1,((IntKind.wrap .i64 ((IntKind.wrap .i64 (a2-a0.2.2.1))-(2:Int))),()))).1,((2:Int),()))).1.getD (Int.toNat (0:Int)) (0:Int)) (1:Int))==(1:Int))),((orI .u64 (andI .u64 ((f175 (a0.2.1,((IntKind.wrap .i64 ((IntKind.wrap .i64 (a2-a0.2.2.1))-(2:Int))),()))).1.getD (Int.toNat (0:Int)) (0:Int)) (3:Int)) (1:Int)),())))))||(!(bif ((orI .u64 (andI .u64 ((f175 (a0.2.1,((IntKind.wrap .i64 ((IntKind.wrap .i64 (a2-a0.2.2.1))-(2:Int))),()))).1.getD (Int.toNat (0:Int)) (0:Int)) (3:Int)) (1:Int))==(0:Int)) then false else true))) then
 (bif (((orI .u64 (andI .u64 ((f175 (a0.2.1,((IntKind.wrap .i64 ((IntKind.wrap .i64 (a2-a0.2.2.1))-(2:Int))),()))).1.getD (Int.toNat (0:Int)) (0:Int)) (3:Int)) (1:Int)) != (0:Int))&&(f177 (a1,(a0.1,(((decide (((f141 ((f175 (a0.2.1,((IntKind.wrap .i64 ((IntKind.wrap .i64 (a2-a0.2.2.1))-(2:Int))),()))).1,((2:Int),()))).1.length:Int)>(0:Int)))&&((andI .u64 ((f141 ((f175 (a0.2.1,((IntKind.wrap .i64 ((IntKind.wrap .i64 (a2-a0.2.2.1))-(2:Int))),()))).1,((2:Int),()))).1.getD (Int.toNat (0:Int)) (0:Int)) (1:Int))==(1:Int))),((orI .u64 (andI .u64 ((f175 (a0.2.1,((IntKind.wrap .i64 ((IntKind.wrap .i64 (a2-a0.2.2.1))-(2:Int))),()))).1.getD (Int.toNat (0:Int)) (0:Int)) (3:Int)) (1:Int)),()))))).1) then
 (bif (p143 ((f141 ((f175 (a0.2.1,((IntKind.wrap .i64 ((IntKind.wrap .i64 (a2-a0.2.2.1))-(2:Int))),()))).1,((2:Int),()))).1,(((1:Int)::[]),()))) then
 (some ((f143 ((f141 ((f175 (a0.2.1,((IntKind.wrap .i64 ((IntKind.wrap .i64 (a2-a0.2.2.1))-(2:Int))),()))).1,((2:Int),()))).1,(((1:Int)::[]),()))).1,(((orI .u64 (andI .u64 ((f175 (a0.2.1,((IntKind.wrap .i64 ((IntKind.wrap .i64 (a2-a0.2.2.1))-(2:Int))),()))).1.getD (Int.toNat (0:Int)) (0:Int)) (3:Int)) (1:Int)) != (0:Int)),())))
 else none)
 else some ((f141 ((f175 (a0.2.1,((IntKind.wrap .i64 ((IntKind.wrap .i64 (a2-a0.2.2.1))-(2:Int))),()))).1,((2:Int),()))).1,(((orI .u64 (andI .u64 ((f175 (a0.2.1,((IntKind.wrap .i64 ((IntKind.wrap .i64 (a2-a0.2.2.1))-(2:Int))),()))).1.getD (Int.toNat (0:Int)) (0:Int)) (3:Int)) (1:Int)) != (0:Int)),())))
 else none)
 else none)
 else none)
 else bif (p141 ((f175 (a0.2.1,((IntKind.wrap .i64 ((IntKind.wrap .i64 (a2-a0.2.2.1))-(2:Int))),()))).1,((2:Int),()))) then
 (bif ((decide ((0:Int)<((f141 ((f175 (a0.2.1,((IntKind.wrap .i64 ((IntKind.wrap .i64 (a2-a0.2.2.1))-(2:Int))),()))).1,((2:Int),()))).1.length:Int)))||(!(decide (((f141 ((f175 (a0.2.1,((IntKind.wrap .i64 ((IntKind.wrap .i64 (a2-a0.2.2.1))-(2:Int))),()))).1,((2:Int),()))).1.length:Int)>(0:Int))))) then
 (bif ((p177 (a1,(a0.1,(((decide (((f141 ((f175 (a0.2.1,((IntKind.wrap .i64 ((IntKind.wrap .i64 (a2-a0.2.2.1))-(2:Int))),()))).1,((2:Int),()))).1.length:Int)>(0:Int)))&&((andI .u64 ((f141 ((f175 (a0.2.1,((IntKind.wrap .i64 ((IntKind.wrap .i64 (a2-a0.2.2.1))-(2:Int))),()))).1,((2:Int),()))).1.getD (Int.toNat (0:Int)) (0:Int)) (1:Int))==(1:Int))),((andI .u64 ((f175 (a0.2.1,((IntKind.wrap .i64 ((IntKind.wrap .i64 (a2-a0.2.2.1))-(2:Int))),()))).1.getD (Int.toNat (0:Int)) (0:Int)) (3:Int)),())))))||(!(bif ((andI .u64 ((f175 (a0.2.1,((IntKind.wrap .i64 ((IntKind.wrap .i64 (a2-a0.2.2.1))-(2:Int))),()))).1.getD (Int.toNat (0:Int)) (0:Int)) (3:Int))==(0:Int)) then false else true))) then
 (bif (((andI .u64 ((f175 (a0.2.1,((IntKind.wrap .i64 ((IntKind.wrap .i64 (a2-a0.2.2.1))-(2:Int))),()))).1.getD (Int.toNat (0:Int)) (0:Int)) (3:Int)) != (0:Int))&&(f177 (a1,(a0.1,(((decide (((f141 ((f175 (a0.2.1,((IntKind.wrap .i64 ((IntKind.wrap .i64 (a2-a0.2.2.1))-(2:Int))),()))).1,((2:Int),()))).1.length:Int)>(0:Int)))&&((andI .u64 ((f141 ((f175 (a0.2.1,((IntKind.wrap .i64 ((IntKind.wrap .i64 (a2-a0.2.2.1))-(2:Int))),()))).1,((2:Int),()))).1.getD (Int.toNat (0:Int)) (0:Int)) (1:Int))==(1:Int))),((andI .u64 ((f175 (a0.2.1,((IntKind.wrap .i64 ((IntKind.wrap .i64 (a2-a0.2.2.1))-(2:Int))),()))).1.getD (Int.toNat (0:Int)) (0:Int)) (3:Int)),()))))).1) then
 (bif (p143 ((f141 ((f175 (a0.2.1,((IntKind.wrap .i64 ((IntKind.wrap .i64 (a2-a0.2.2.1))-(2:Int))),()))).1,((2:Int),()))).1,(((1:Int)::[]),()))) then
 (some ((f143 ((f141 ((f175 (a0.2.1,((IntKind.wrap .i64 ((IntKind.wrap .i64 (a2-a0.2.2.1))-(2:Int))),()))).1,((2:Int),()))).1,(((1:Int)::[]),()))).1,(((andI .u64 ((f175 (a0.2.1,((IntKind.wrap .i64 ((IntKind.wrap .i64 (a2-a0.2.2.1))-(2:Int))),()))).1.getD (Int.toNat (0:Int)) (0:Int)) (3:Int)) != (0:Int)),())))
 else none)
 else some ((f141 ((f175 (a0.2.1,((IntKind.wrap .i64 ((IntKind.wrap .i64 (a2-a0.2.2.1))-(2:Int))),()))).1,((2:Int),()))).1,(((andI .u64 ((f175 (a0.2.1,((IntKind.wrap .i64 ((IntKind.wrap .i64 (a2-a0.2.2.1))-(2:Int))),()))).1.getD (Int.toNat (0:Int)) (0:Int)) (3:Int)) != (0:Int)),())))
 else none)
 else none)
 else none)
 else none)
 else bif a0.2.2.2.1 then
 (bif (p141 ((f175 (a0.2.1,((IntKind.wrap .i64 ((IntKind.wrap .i64 (a2-a0.2.2.1))-(2:Int))),()))).1,((2:Int),()))) then
 (bif ((decide ((0:Int)<((f141 ((f175 (a0.2.1,((IntKind.wrap .i64 ((IntKind.wrap .i64 (a2-a0.2.2.1))-(2:Int))),()))).1,((2:Int),()))).1.length:Int)))||(!(decide (((f141 ((f175 (a0.2.1,((IntKind.wrap .i64 ((IntKind.wrap .i64 (a2-a0.2.2.1))-(2:Int))),()))).1,((2:Int),()))).1.length:Int)>(0:Int))))) then
 (bif ((p177 (a1,(a0.1,(((decide (((f141 ((f175 (a0.2.1,((IntKind.wrap .i64 ((IntKind.wrap .i64 (a2-a0.2.2.1))-(2:Int))),()))).1,((2:Int),()))).1.length:Int)>(0:Int)))&&((andI .u64 ((f141 ((f175 (a0.2.1,((IntKind.wrap .i64 ((IntKind.wrap .i64 (a2-a0.2.2.1))-(2:Int))),()))).1,((2:Int),()))).1.getD (Int.toNat (0:Int)) (0:Int)) (1:Int))==(1:Int))),((orI .u64 (0:Int) (1:Int)),())))))||false) then
 (bif (f177 (a1,(a0.1,(((decide (((f141 ((f175 (a0.2.1,((IntKind.wrap .i64 ((IntKind.wrap .i64 (a2-a0.2.2.1))-(2:Int))),()))).1,((2:Int),()))).1.length:Int)>(0:Int)))&&((andI .u64 ((f141 ((f175 (a0.2.1,((IntKind.wrap .i64 ((IntKind.wrap .i64 (a2-a0.2.2.1))-(2:Int))),()))).1,((2:Int),()))).1.getD (Int.toNat (0:Int)) (0:Int)) (1:Int))==(1:Int))),((orI .u64 (0:Int) (1:Int)),()))))).1 then
 (bif (p143 ((f141 ((f175 (a0.2.1,((IntKind.wrap .i64 ((IntKind.wrap .i64 (a2-a0.2.2.1))-(2:Int))),()))).1,((2:Int),()))).1,(((1:Int)::[]),()))) then
 (some ((f143 ((f141 ((f175 (a0.2.1,((IntKind.wrap .i64 ((IntKind.wrap .i64 (a2-a0.2.2.1))-(2:Int))),()))).1,((2:Int),()))).1,(((1:Int)::[]),()))).1,(true,())))
 else none)
 else some ((f141 ((f175 (a0.2.1,((IntKind.wrap .i64 ((IntKind.wrap .i64 (a2-a0.2.2.1))-(2:Int))),()))).1,((2:Int),()))).1,(true,())))
 else none)
 else none)
 else none)
 else bif (p141 ((f175 (a0.2.1,((IntKind.wrap .i64 ((IntKind.wrap .i64 (a2-a0.2.2.1))-(2:Int))),()))).1,((2:Int),()))) then
 (bif ((decide ((0:Int)<((f141 ((f175 (a0.2.1,((IntKind.wrap .i64 ((IntKind.wrap .i64 (a2-a0.2.2.1))-(2:Int))),()))).1,((2:Int),()))).1.length:Int)))||(!(decide (((f141 ((f175 (a0.2.1,((IntKind.wrap .i64 ((IntKind.wrap .i64 (a2-a0.2.2.1))-(2:Int))),()))).1,((2:Int),()))).1.length:Int)>(0:Int))))) then
 (bif ((p177 (a1,(a0.1,(((decide (((f141 ((f175 (a0.2.1,((IntKind.wrap .i64 ((IntKind.wrap .i64 (a2-a0.2.2.1))-(2:Int))),()))).1,((2:Int),()))).1.length:Int)>(0:Int)))&&((andI .u64 ((f141 ((f175 (a0.2.1,((IntKind.wrap .i64 ((IntKind.wrap .i64 (a2-a0.2.2.1))-(2:Int))),()))).1,((2:Int),()))).1.getD (Int.toNat (0:Int)) (0:Int)) (1:Int))==(1:Int))),((0:Int),())))))||true) then
 (some ((f141 ((f175 (a0.2.1,((IntKind.wrap .i64 ((IntKind.wrap .i64 (a2-a0.2.2.1))-(2:Int))),()))).1,((2:Int),()))).1,(false,())))
 else none)
 else none)
 else none)
 else none)
 else bif (p176 (a0.2.1,((IntKind.wrap .i64 ((2:Int)-(IntKind.wrap .i64 (a2-a0.2.2.1)))),()))) then
 (bif (decide (((f176 (a0.2.1,((IntKind.wrap .i64 ((2:Int)-(IntKind.wrap .i64 (a2-a0.2.2.1)))),()))).1.length:Int)>(0:Int))) then
 (bif (decide ((0:Int)<((f176 (a0.2.1,((IntKind.wrap .i64 ((2:Int)-(IntKind.wrap .i64 (a2-a0.2.2.1)))),()))).1.length:Int))) then
 (bif a0.2.2.2.1 then
 (bif (p141 ((f176 (a0.2.1,((IntKind.wrap .i64 ((2:Int)-(IntKind.wrap .i64 (a2-a0.2.2.1)))),()))).1,((2:Int),()))) then
 (bif ((decide ((0:Int)<((f141 ((f176 (a0.2.1,((IntKind.wrap .i64 ((2:Int)-(IntKind.wrap .i64 (a2-a0.2.2.1)))),()))).1,((2:Int),()))).1.length:Int)))||(!(decide (((f141 ((f176 (a0.2.1,((IntKind.wrap .i64 ((2:Int)-(IntKind.wrap .i64 (a2-a0.2.2.1)))),()))).1,((2:Int),()))).1.length:Int)>(0:Int))))) then
 (bif ((p177 (a1,(a0.1,(((decide (((f141 ((f176 (a0.2.1,((IntKind.wrap .i64 ((2:Int)-(IntKind.wrap .i64 (a2-a0.2.2.1)))),()))).1,((2:Int),()))).1.length:Int)>(0:Int)))&&((andI .u64 ((f141 ((f176 (a0.2.1,((IntKind.wrap .i64 ((2:Int)-(IntKind.wrap .i64 (a2-a0.2.2.1)))),()))).1,((2:Int),()))).1.getD (Int.toNat (0:Int)) (0:Int)) (1:Int))==(1:Int))),((orI .u64 (andI .u64 ((f176 (a0.2.1,((IntKind.wrap .i64 ((2:Int)-(IntKind.wrap .i64 (a2-a0.2.2.1)))),()))).1.getD (Int.toNat (0:Int)) (0:Int)) (3:Int)) (1:Int)),())))))||(!(bif ((orI .u64 (andI .u64 ((f176 (a0.2.1,((IntKind.wrap .i64 ((2:Int)-(IntKind.wrap .i64 (a2-a0.2.2.1)))),()))).1.getD (Int.toNat (0:Int)) (0:Int)) (3:Int)) (1:Int))==(0:Int)) then false else true))) then
 (bif (((orI .u64 (andI .u64 ((f176 (a0.2.1,((IntKind.wrap .i64 ((2:Int)-(IntKind.wrap .i64 (a2-a0.2.2.1)))),()))).1.getD (Int.toNat (0:Int)) (0:Int)) (3:Int)) (1:Int)) != (0:Int))&&(f177 (a1,(a0.1,(((decide (((f141 ((f176 (a0.2.1,((IntKind.wrap .i64 ((2:Int)-(IntKind.wrap .i64 (a2-a0.2.2.1)))),()))).1,((2:Int),()))).1.length:Int)>(0:Int)))&&((andI .u64 ((f141 ((f176 (a0.2.1,((IntKind.wrap .i64 ((2:Int)-(IntKind.wrap .i64 (a2-a0.2.2.1)))),()))).1,((2:Int),()))).1.getD (Int.toNat (0:Int)) (0:Int)) (1:Int))==(1:Int))),((orI .u64 (andI .u64 ((f176 (a0.2.1,((IntKind.wrap .i64 ((2:Int)-(IntKind.wrap .i64 (a2-a0.2.2.1)))),()))).1.getD (Int.toNat (0:Int)) (0:Int)) (3:Int)) (1:Int)),()))))).1) then
 (bif (p143 ((f141 ((f176 (a0.2.1,((IntKind.wrap .i64 ((2:Int)-(IntKind.wrap .i64 (a2-a0.2.2.1)))),()))).1,((2:Int),()))).1,(((1:Int)::[]),()))) then
 (some ((f143 ((f141 ((f176 (a0.2.1,((IntKind.wrap .i64 ((2:Int)-(IntKind.wrap .i64 (a2-a0.2.2.1)))),()))).1,((2:Int),()))).1,(((1:Int)::[]),()))).1,(((orI .u64 (andI .u64 ((f176 (a0.2.1,((IntKind.wrap .i64 ((2:Int)-(IntKind.wrap .i64 (a2-a0.2.2.1)))),()))).1.getD (Int.toNat (0:Int)) (0:Int)) (3:Int)) (1:Int)) != (0:Int)),())))
 else none)
 else some ((f141 ((f176 (a0.2.1,((IntKind.wrap .i64 ((2:Int)-(IntKind.wrap .i64 (a2-a0.2.2.1)))),()))).1,((2:Int),()))).1,(((orI .u64 (andI .u64 ((f176 (a0.2.1,((IntKind.wrap .i64 ((2:Int)-(IntKind.wrap .i64 (a2-a0.2.2.1)))),()))).1.getD (Int.toNat (0:Int)) (0:Int)) (3:Int)) (1:Int)) != (0:Int)),())))
 else none)
 else none)
 else none)
 else bif (p141 ((f176 (a0.2.1,((IntKind.wrap .i64 ((2:Int)-(IntKind.wrap .i64 (a2-a0.2.2.1)))),()))).1,((2:Int),()))) then
 (bif ((decide ((0:Int)<((f141 ((f176 (a0.2.1,((IntKind.wrap .i64 ((2:Int)-(IntKind.wrap .i64 (a2-a0.2.2.1)))),()))).1,((2:Int),()))).1.length:Int)))||(!(decide (((f141 ((f176 (a0.2.1,((IntKind.wrap .i64 ((2:Int)-(IntKind.wrap .i64 (a2-a0.2.2.1)))),()))).1,((2:Int),()))).1.length:Int)>(0:Int))))) then
 (bif ((p177 (a1,(a0.1,(((decide (((f141 ((f176 (a0.2.1,((IntKind.wrap .i64 ((2:Int)-(IntKind.wrap .i64 (a2-a0.2.2.1)))),()))).1,((2:Int),()))).1.length:Int)>(0:Int)))&&((andI .u64 ((f141 ((f176 (a0.2.1,((IntKind.wrap .i64 ((2:Int)-(IntKind.wrap .i64 (a2-a0.2.2.1)))),()))).1,((2:Int),()))).1.getD (Int.toNat (0:Int)) (0:Int)) (1:Int))==(1:Int))),((andI .u64 ((f176 (a0.2.1,((IntKind.wrap .i64 ((2:Int)-(IntKind.wrap .i64 (a2-a0.2.2.1)))),()))).1.getD (Int.toNat (0:Int)) (0:Int)) (3:Int)),())))))||(!(bif ((andI .u64 ((f176 (a0.2.1,((IntKind.wrap .i64 ((2:Int)-(IntKind.wrap .i64 (a2-a0.2.2.1)))),()))).1.getD (Int.toNat (0:Int)) (0:Int)) (3:Int))==(0:Int)) then false else true))) then
 (bif (((andI .u64 ((f176 (a0.2.1,((IntKind.wrap .i64 ((2:Int)-(IntKind.wrap .i64 (a2-a0.2.2.1)))),()))).1.getD (Int.toNat (0:Int)) (0:Int)) (3:Int)) != (0:Int))&&(f177 (a1,(a0.1,(((decide (((f141 ((f176 (a0.2.1,((IntKind.wrap .i64 ((2:Int)-(IntKind.wrap .i64 (a2-a0.2.2.1)))),()))).1,((2:Int),()))).1.length:Int)>(0:Int)))&&((andI .u64 ((f141 ((f176 (a0.2.1,((IntKind.wrap .i64 ((2:Int)-(IntKind.wrap .i64 (a2-a0.2.2.1)))),()))).1,((2:Int),()))).1.getD (Int.toNat (0:Int)) (0:Int)) (1:Int))==(1:Int))),((andI .u64 ((f176 (a0.2.1,((IntKind.wrap .i64 ((2:Int)-(IntKind.wrap .i64 (a2-a0.2.2.1)))),()))).1.getD (Int.toNat (0:Int)) (0:Int)) (3:Int)),()))))).1) then
 (bif (p143 ((f141 ((f176 (a0.2.1,((IntKind.wrap .i64 ((2:Int)-(IntKind.wrap .i64 (a2-a0.2.2.1)))),()))).1,((2:Int),()))).1,(((1:Int)::[]),()))) then
 (some ((f143 ((f141 ((f176 (a0.2.1,((IntKind.wrap .i64 ((2:Int)-(IntKind.wrap .i64 (a2-a0.2.2.1)))),()))).1,((2:Int),()))).1,(((1:Int)::[]),()))).1,(((andI .u64 ((f176 (a0.2.1,((IntKind.wrap .i64 ((2:Int)-(IntKind.wrap .i64 (a2-a0.2.2.1)))),()))).1.getD (Int.toNat (0:Int)) (0:Int)) (3:Int)) != (0:Int)),())))
 else none)
 else some ((f141 ((f176 (a0.2.1,((IntKind.wrap .i64 ((2:Int)-(IntKind.wrap .i64 (a2-a0.2.2.1)))),()))).1,((2:Int),()))).1,(((andI .u64 ((f176 (a0.2.1,((IntKind.wrap .i64 ((2:Int)-(IntKind.wrap .i64 (a2-a0.2.2.1)))),()))).1.getD (Int.toNat (0:Int)) (0:Int)) (3:Int)) != (0:Int)),())))
 else none)
 else none)
 else none)
 else none)
 else bif a0.2.2.2.1 then
 (bif (p141 ((f176 (a0.2.1,((IntKind.wrap .i64 ((2:Int)-(IntKind.wrap .i64 (a2-a0.2.2.1)))),()))).1,((2:Int),()))) then
 (bif ((decide ((0:Int)<((f141 ((f176 (a0.2.1,((IntKind.wrap .i64 ((2:Int)-(IntKind.wrap .i64 (a2-a0.2.2.1)))),()))).1,((2:Int),()))).1.length:Int)))||(!(decide (((f141 ((f176 (a0.2.1,((IntKind.wrap .i64 ((2:Int)-(IntKind.wrap .i64 (a2-a0.2.2.1)))),()))).1,((2:Int),()))).1.length:Int)>(0:Int))))) then
 (bif ((p177 (a1,(a0.1,(((decide (((f141 ((f176 (a0.2.1,((IntKind.wrap .i64 ((2:Int)-(IntKind.wrap .i64 (a2-a0.2.2.1)))),()))).1,((2:Int),()))).1.length:Int)>(0:Int)))&&((andI .u64 ((f141 ((f176 (a0.2.1,((IntKind.wrap .i64 ((2:Int)-(IntKind.wrap .i64 (a2-a0.2.2.1)))),()))).1,((2:Int),()))).1.getD (Int.toNat (0:Int)) (0:Int)) (1:Int))==(1:Int))),((orI .u64 (0:Int) (1:Int)),())))))||false) then
 (bif (f177 (a1,(a0.1,(((decide (((f141 ((f176 (a0.2.1,((IntKind.wrap .i64 ((2:Int)-(IntKind.wrap .i64 (a2-a0.2.2.1)))),()))).1,((2:Int),()))).1.length:Int)>(0:Int)))&&((andI .u64 ((f141 ((f176 (a0.2.1,((IntKind.wrap .i64 ((2:Int)-(IntKind.wrap .i64 (a2-a0.2.2.1)))),()))).1,((2:Int),()))).1.getD (Int.toNat (0:Int)) (0:Int)) (1:Int))==(1:Int))),((orI .u64 (0:Int) (1:Int)),()))))).1 then
 (bif (p143 ((f141 ((f176 (a0.2.1,((IntKind.wrap .i64 ((2:Int)-(IntKind.wrap .i64 (a2-a0.2.2.1)))),()))).1,((2:Int),()))).1,(((1:Int)::[]),()))) then
 (some ((f143 ((f141 ((f176 (a0.2.1,((IntKind.wrap .i64 ((2:Int)-(IntKind.wrap .i64 (a2-a0.2.2.1)))),()))).1,((2:Int),()))).1,(((1:Int)::[]),()))).1,(true,())))
 else none)
 else some ((f141 ((f176 (a0.2.1,((IntKind.wrap .i64 ((2:Int)-(IntKind.wrap .i64 (a2-a0.2.2.1)))),()))).1,((2:Int),()))).1,(true,())))
 else none)
 else none)
 else none)
 else bif (p141 ((f176 (a0.2.1,((IntKind.wrap .i64 ((2:Int)-(IntKind.wrap .i64 (a2-a0.2.2.1)))),()))).1,((2:Int),()))) then
 (bif ((decide ((0:Int)<((f141 ((f176 (a0.2.1,((IntKind.wrap .i64 ((2:Int)-(IntKind.wrap .i64 (a2-a0.2.2.1)))),()))).1,((2:Int),()))).1.length:Int)))||(!(decide (((f141 ((f176 (a0.2.1,((IntKind.wrap .i64 ((2:Int)-(IntKind.wrap .i64 (a2-a0.2.2.1)))),()))).1,((2:Int),()))).1.length:Int)>(0:Int))))) then
 (bif ((p177 (a1,(a0.1,(((decide (((f141 ((f176 (a0.2.1,((IntKind.wrap .i64 ((2:Int)-(IntKind.wrap .i64 (a2-a0.2.2.1)))),()))).1,((2:Int),()))).1.length:Int)>(0:Int)))&&((andI .u64 ((f141 ((f176 (a0.2.1,((IntKind.wrap .i64 ((2:Int)-(IntKind.wrap .i64 (a2-a0.2.2.1)))),()))).1,((2:Int),()))).1.getD (Int.toNat (0:Int)) (0:Int)) (1:Int))==(1:Int))),((0:Int),())))))||true) then
 (some ((f141 ((f176 (a0.2.1,((IntKind.wrap .i64 ((2:Int)-(IntKind.wrap .i64 (a2-a0.2.2.1)))),()))).1,((2:Int),()))).1,(false,())))
 else none)
 else none)
 else none)
 else none
theorem r150 (p175:DenS I175→Bool) (f175:DenS I175→DenS O175) (p176:DenS I176→Bool) (f176:DenS I176→DenS O176) (p141:DenS I141→Bool) (f141:DenS I141→DenS O141) (p177:DenS I177→Bool) (f177:DenS I177→DenS O177) (p143:DenS I143→Bool) (f143:DenS I143→DenS O143) (a0:Den (.pair (.bool) (.pair (.slice (.int .u64)) (.pair (.int .i64) (.pair (.bool) (.unit)))))) (a1:Den (.int .i64)) (a2:Den (.int .i64)) :
  run { P:=Tryd.prog,sums:=[(129,⟨I175,O175,p175,f175⟩),(72,⟨I176,O176,p176,f176⟩),(111,⟨I141,O141,p141,f141⟩),(130,⟨I177,O177,p177,f177⟩),(80,⟨I143,O143,p143,f143⟩)],loops:=[],globs:=G1 } 9 120 Tryd.f120 I150 O150 (a0,a1,a2,())=t150 p175 f175 p176 f176 p141 f141 p177 f177 p143 f143 a0 a1 a2:=by kernel_rfl
noncomputable def T150 (x:DenS I150):Option (DenS O150):=t150 S175.pre S175.F S176.pre S176.F S141.pre S141.F S177.pre S177.F S143.pre S143.F x.1 x.2.1 x.2.2.1
noncomputable def C150:Cfg:={ P:=Tryd.prog,sums:=[(129,S175),(72,S176),(111,S141),(130,S177),(80,S143)],loops:=[],globs:=G1 }
noncomputable def S150:Sum:=sumOf I150 O150 T150 (DenS.dflt O150)
theorem S150_sound:Sound Tryd.prog G1 120 S150 :=
 fn_sound C150 9 120 Tryd.f120 mixedOk (by kernel_rfl) (by kernel_rfl) (by kernel_rfl) ⟨S175_sound,⟨S176_sound,⟨S141_sound,⟨S177_sound,⟨S143_sound,trivial⟩⟩⟩⟩⟩ trivial I150 O150 T150 _ (fun x=>r150 S175.pre S175.F S176.pre S176.F S141.pre S141.F S177.pre S177.F S143.pre S143.F x.1 x.2.1 x.2.2.1)
abbrev I97:Sig:=[(false,.int .i64),(false,.bool)]
abbrev O97:Sig:=[(false,.int .u64),(false,.int .i64)]
noncomputable def t97 (p116:DenS I116→Bool) (f116:DenS I116→DenS O116) (p69:DenS I69→Bool) (f69:DenS I69→DenS O69) (p91:DenS I91→Bool) (f91:DenS I91→DenS O91) (p140:DenS I140→Bool) (f140:DenS I140→DenS O140) (a0:Den (.int .i64)) (a1:Den (.bool)):Option (DenS O97) :=
 bif (p69 (a0,())) then
 (bif ((f69 (a0,())).2.1 != (0:Int)) then
 (some ((0:Int),(f69 (a0,())).2))
 else bif (p91 ((IntKind.wrap .i64 ((f69 (a0,())).1.1-(f69 (a0,())).1.2.1)),())) then
 (bif (p116 ((f69 (a0,())).1,())) then
 (bif (p116 ((f69 (a0,())).1,())) then
 (bif (p140 ((f69 (a0,())).1,(a1,((IntKind.wrap .u64 ((f91 ((IntKind.wrap .i64 ((f69 (a0,())).1.1-(f69 (a0,())).1.2.1)),())).1-(f116 ((f69 (a0,())).1,())).1)),(f116 ((f69 (a0,())).1,())))))) then
 (some ((f140 ((f69 (a0,())).1,(a1,((IntKind.wrap .u64 ((f91 ((IntKind.wrap .i64 ((f69 (a0,())).1.1-(f69 (a0,())).1.2.1)),())).1-(f116 ((f69 (a0,())).1,())).1)),(f116 ((f69 (a0,())).1,())))))).1,((0:Int),())))
 else none)
 else none)
 else none)
 else none)
 else none
theorem r97 (p116:DenS I116→Bool) (f116:DenS I116→DenS O116) (p69:DenS I69→Bool) (f69:DenS I69→DenS O69) (p91:DenS I91→Bool) (f91:DenS I91→DenS O91) (p140:DenS I140→Bool) (f140:DenS I140→DenS O140) (a0:Den (.int .i64)) (a1:Den (.bool)) :
  run { P:=Tryd.prog,sums:=[(78,⟨I116,O116,p116,f116⟩),(22,⟨I69,O69,p69,f69⟩),(54,⟨I91,O91,p91,f91⟩),(55,⟨I140,O140,p140,f140⟩)],loops:=[],globs:=G1 } 9 60 Tryd.f60 I97 O97 (a0,a1,())=t97 p116 f116 p69 f69 p91 f91 p140 f140 a0 a1:=by kernel_rfl
noncomputable def T97 (x:DenS I97):Option (DenS O97):=t97 S116.pre S116.F S69.pre S69.F S91.pre S91.F S140.pre S140.F x.1 x.2.1
noncomputable def C97:Cfg:={ P:=Tryd.prog,sums:=[(78,S116),(22,S69),(54,S91),(55,S140)],loops:=[],globs:=G1 }
noncomputable def S97:Sum:=sumOf I97 O97 T97 (DenS.dflt O97)
theorem S97_sound:Sound Tryd.prog G1 60 S97 :=
 fn_sound C97 9 60 Tryd.f60 mixedOk (by kernel_rfl) (by kernel_rfl) (by kernel_rfl) ⟨S116_sound,⟨S69_sound,⟨S91_sound,⟨S140_sound,trivial⟩⟩⟩⟩ trivial I97 O97 T97 _ (fun x=>r97 S116.pre S116.F S69.pre S69.F S91.pre S91.F S140.pre S140.F x.1 x.2.1)
abbrev I95:Sig:=[(true,.pair (.int .i64) (.pair (.int .i64) (.pair (.int .i64) (.pair (.int .i64) (.unit)))))]
abbrev O95:Sig:=[(false,.int .u64)]
noncomputable def t95 (a0:Den (.pair (.int .i64) (.pair (.int .i64) (.pair (.int .i64) (.pair (.int .i64) (.unit)))))):Option (DenS O95) :=
 some ((1:Int),())
theorem r95 (a0:Den (.pair (.int .i64) (.pair (.int .i64) (.pair (.int .i64) (.pair (.int .i64) (.unit)))))) :
  run { P:=Tryd.prog,sums:=[],loops:=[],globs:=G1 } 9 134 Tryd.f134 I95 O95 (a0,())=t95 a0:=by kernel_rfl
noncomputable def T95 (x:DenS I95):Option (DenS O95):=t95 x.1
noncomputable def C95:Cfg:={ P:=Tryd.prog,sums:=[],loops:=[],globs:=G1 }
noncomputable def S95:Sum:=sumOf I95 O95 T95 (DenS.dflt O95)
theorem S95_sound:Sound Tryd.prog G1 134 S95 :=
 fn_sound C95 9 134 Tryd.f134 mixedOk (by kernel_rfl) (by kernel_rfl) (by kernel_rfl) trivial trivial I95 O95 T95 _ (fun x=>r95 x.1)
abbrev I96:Sig:=[(true,.pair (.int .i64) (.pair (.int .i64) (.pair (.int .i64) (.pair (.int .i64) (.unit)))))]
abbrev O96:Sig:=[(false,.int .u64)]
noncomputable def t96 (p91:DenS I91→Bool) (f91:DenS I91→DenS O91) (a0:Den (.pair (.int .i64) (.pair (.int .i64) (.pair (.int .i64) (.pair (.int .i64) (.unit)))))):Option (DenS O96) :=
 bif (p91 ((IntKind.wrap .i64 (a0.2.1-(1:Int))),())) then
 (some (f91 ((IntKind.wrap .i64 (a0.2.1-(1:Int))),())))
 else none
theorem r96 (p91:DenS I91→Bool) (f91:DenS I91→DenS O91) (a0:Den (.pair (.int .i64) (.pair (.int .i64) (.pair (.int .i64) (.pair (.int .i64) (.unit)))))) :
  run { P:=Tryd.prog,sums:=[(54,⟨I91,O91,p91,f91⟩)],loops:=[],globs:=G1 } 9 135 Tryd.f135 I96 O96 (a0,())=t96 p91 f91 a0:=by kernel_rfl
noncomputable def T96 (x:DenS I96):Option (DenS O96):=t96 S91.pre S91.F x.1
noncomputable def C96:Cfg:={ P:=Tryd.prog,sums:=[(54,S91)],loops:=[],globs:=G1 }
noncomputable def S96:Sum:=sumOf I96 O96 T96 (DenS.dflt O96)
theorem S96_sound:Sound Tryd.prog G1 135 S96 :=
 fn_sound C96 9 135 Tryd.f135 mixedOk (by kernel_rfl) (by kernel_rfl) (by kernel_rfl) ⟨S91_sound,trivial⟩ trivial I96 O96 T96 _ (fun x=>r96 S91.pre S91.F x.1)
abbrev I43:Sig:=[(false,.int .i64),(false,.bool)]
abbrev O43:Sig:=[(false,.int .u64),(false,.int .i64)]
noncomputable def t43 (p95:DenS I95→Bool) (f95:DenS I95→DenS O95) (p96:DenS I96→Bool) (f96:DenS I96→DenS O96) (p69:DenS I69→Bool) (f69:DenS I69→DenS O69) (p91:DenS I91→Bool) (f91:DenS I91→DenS O91) (p140:DenS I140→Bool) (f140:DenS I140→DenS O140) (a0:Den (.int .i64)) (a1:Den (.bool)):Option (DenS O43) :=
 bif (p69 (a0,())) then
 (bif ((f69 (a0,())).2.1 != (0:Int)) then
 (some ((0:Int),(f69 (a0,())).2))
 else bif (p91 ((IntKind.wrap .i64 ((f69 (a0,())).1.1-(f69 (a0,())).1.2.1)),())) then
 (bif (p95 ((f69 (a0,())).1,())) then
 (bif (p96 ((f69 (a0,())).1,())) then
 (bif (p140 ((f69 (a0,())).1,(a1,((IntKind.wrap .u64 ((f91 ((IntKind.wrap .i64 ((f69 (a0,())).1.1-(f69 (a0,())).1.2.1)),())).1-(f95 ((f69 (a0,())).1,())).1)),(f96 ((f69 (a0,())).1,())))))) then
 (some ((f140 ((f69 (a0,())).1,(a1,((IntKind.wrap .u64 ((f91 ((IntKind.wrap .i64 ((f69 (a0,())).1.1-(f69 (a0,())).1.2.1)),())).1-(f95 ((f69 (a0,())).1,())).1)),(f96 ((f69 (a0,())).1,())))))).1,((0:Int),())))
 else none)
 else none)
 else none)
 else none)
 else none
theorem r43 (p95:DenS I95→Bool) (f95:DenS I95→DenS O95) (p96:DenS I96→Bool) (f96:DenS I96→DenS O96) (p69:DenS I69→Bool) (f69:DenS I69→DenS O69) (p91:DenS I91→Bool) (f91:DenS I91→DenS O91) (p140:DenS I140→Bool) (f140:DenS I140→DenS O140) (a0:Den (.int .i64)) (a1:Den (.bool)) :
  run { P:=Tryd.prog,sums:=[(134,⟨I95,O95,p95,f95⟩),(135,⟨I96,O96,p96,f96⟩),(22,⟨I69,O69,p69,f69⟩),(54,⟨I91,O91,p91,f91⟩),(55,⟨I140,O140,p140,f140⟩)],loops:=[],globs:=G1 } 9 128 Tryd.f128 I43 O43 (a0,a1,())=t43 p95 f95 p96 f96 p69 f69 p91 f91 p140 f140 a0 a1:=by kernel_rfl
noncomputable def T43 (x:DenS I43):Option (DenS O43):=t43 S95.pre S95.F S96.pre S96.F S69.pre S69.F S91.pre S91.F S140.pre S140.F x.1 x.2.1
noncomputable def C43:Cfg:={ P:=Tryd.prog,sums:=[(134,S95),(135,S96),(22,S69),(54,S91),(55,S140)],loops:=[],globs:=G1 }
noncomputable def S43:Sum:=sumOf I43 O43 T43 (DenS.dflt O43)
theorem S43_sound:Sound Tryd.prog G1 128 S43 :=
 fn_sound C43 9 128 Tryd.f128 mixedOk (by kernel_rfl) (by kernel_rfl) (by kernel_rfl) ⟨S95_sound,⟨S96_sound,⟨S69_sound,⟨S91_sound,⟨S140_sound,trivial⟩⟩⟩⟩⟩ trivial I43 O43 T43 _ (fun x=>r43 S95.pre S95.F S96.pre S96.F S69.pre S69.F S91.pre S91.F S140.pre S140.F x.1 x.2.1)
abbrev I149:Sig:=[(false,.int .i64),(false,.int .i64),(false,.bool)]
abbrev O149:Sig:=[(false,.int .u64)]
noncomputable def t149 (p97:DenS I97→Bool) (f97:DenS I97→DenS O97) (p43:DenS I43→Bool) (f43:DenS I43→DenS O43) (a0:Den (.int .i64)) (a1:Den (.int .i64)) (a2:Den (.bool)):Option (DenS O149) :=
 bif ((((a1==(0:Int))||(a1==(1:Int)))||((a1==(3:Int))&&(!a2)))||((a1==(4:Int))&&a2)) then
 (bif (p97 (a0,(a2,()))) then
 (some ((f97 (a0,(a2,()))).1,()))
 else none)
 else bif (p43 (a0,(a2,()))) then
 (some ((f43 (a0,(a2,()))).1,()))
 else none
theorem r149 (p97:DenS I97→Bool) (f97:DenS I97→DenS O97) (p43:DenS I43→Bool) (f43:DenS I43→DenS O43) (a0:Den (.int .i64)) (a1:Den (.int .i64)) (a2:Den (.bool)) :
  run { P:=Tryd.prog,sums:=[(60,⟨I97,O97,p97,f97⟩),(128,⟨I43,O43,p43,f43⟩)],loops:=[],globs:=G1 } 9 119 Tryd.f119 I149 O149 (a0,a1,a2,())=t149 p97 f97 p43 f43 a0 a1 a2:=by kernel_rfl
noncomputable def T149 (x:DenS I149):Option (DenS O149):=t149 S97.pre S97.F S43.pre S43.F x.1 x.2.1 x.2.2.1
noncomputable def C149:Cfg:={ P:=Tryd.prog,sums:=[(60,S97),(128,S43)],loops:=[],globs:=G1 }
noncomputable def S149:Sum:=sumOf I149 O149 T149 (DenS.dflt O149)
theorem S149_sound:Sound Tryd.prog G1 119 S149 :=
 fn_sound C149 9 119 Tryd.f119 mixedOk (by kernel_rfl) (by kernel_rfl) (by kernel_rfl) ⟨S97_sound,⟨S43_sound,trivial⟩⟩ trivial I149 O149 T149 _ (fun x=>r149 S97.pre S97.F S43.pre S43.F x.1 x.2.1 x.2.2.1)
abbrev I152:Sig:=[(true,.pair (.bool) (.pair (.slice (.int .u64)) (.pair (.int .i64) (.pair (.bool) (.unit))))),(true,.pair (.int .i64) (.pair (.int .i64) (.pair (.int .i64) (.pair (.int .i64) (.unit))))),(false,.int .i64),(false,.int .i64)]
abbrev O152:Sig:=[(false,.bool)]
noncomputable def t152 (p150:DenS I150→Bool) (f150:DenS I150→DenS O150) (p151:DenS I151→Bool) (f151:DenS I151→DenS O151) (a0:Den (.pair (.bool) (.pair (.slice (.int .u64)) (.pair (.int .i64) (.pair (.bool) (.unit)))))) (a1:Den (.pair (.int .i64) (.pair (.int .i64) (.pair (.int .i64) (.pair (.int .i64) (.unit)))))) (a2:Den (.int .i64)) (a3:Den (.int .i64)):Option (DenS O152) :=
 bif (decide (a3≥a1.2.2.1)) then
 (some (false,()))
 else bif (p150 ((a0.1,a0.2),(a2,((IntKind.wrap .i64 ((IntKind.wrap .i64 (a3-a1.2.1))+(1:Int))),())))) then
 (bif (p151 ((f150 ((a0.1,a0.2),(a2,((IntKind.wrap .i64 ((IntKind.wrap .i64 (a3-a1.2.1))+(1:Int))),())))).1,())) then
 (some ((decide ((IntKind.wrap .i64 ((IntKind.wrap .i64 (a3-a1.2.1))+(f151 ((f150 ((a0.1,a0.2),(a2,((IntKind.wrap .i64 ((IntKind.wrap .i64 (a3-a1.2.1))+(1:Int))),())))).1,())).1))<a1.2.2.1)),()))
 else none)
 else none
theorem r152 (p150:DenS I150→Bool) (f150:DenS I150→DenS O150) (p151:DenS I151→Bool) (f151:DenS I151→DenS O151) (a0:Den (.pair (.bool) (.pair (.slice (.int .u64)) (.pair (.int .i64) (.pair (.bool) (.unit)))))) (a1:Den (.pair (.int .i64) (.pair (.int .i64) (.pair (.int .i64) (.pair (.int .i64) (.unit)))))) (a2:Den (.int .i64)) (a3:Den (.int .i64)) :
  run { P:=Tryd.prog,sums:=[(120,⟨I150,O150,p150,f150⟩),(100,⟨I151,O151,p151,f151⟩)],loops:=[],globs:=G1 } 9 121 Tryd.f121 I152 O152 (a0,a1,a2,a3,())=t152 p150 f150 p151 f151 a0 a1 a2 a3:=by kernel_rfl
noncomputable def T152 (x:DenS I152):Option (DenS O152):=t152 S150.pre S150.F S151.pre S151.F x.1 x.2.1 x.2.2.1 x.2.2.2.1
noncomputable def C152:Cfg:={ P:=Tryd.prog,sums:=[(120,S150),(100,S151)],loops:=[],globs:=G1 }
noncomputable def S152:Sum:=sumOf I152 O152 T152 (DenS.dflt O152)
theorem S152_sound:Sound Tryd.prog G1 121 S152 :=
 fn_sound C152 9 121 Tryd.f121 mixedOk (by kernel_rfl) (by kernel_rfl) (by kernel_rfl) ⟨S150_sound,⟨S151_sound,trivial⟩⟩ trivial I152 O152 T152 _ (fun x=>r152 S150.pre S150.F S151.pre S151.F x.1 x.2.1 x.2.2.1 x.2.2.2.1)
abbrev I107:Sig:=[(true,.pair (.bool) (.pair (.slice (.int .u64)) (.pair (.int .i64) (.pair (.bool) (.unit))))),(false,.int .i64),(true,.pair (.int .i64) (.pair (.int .i64) (.pair (.int .i64) (.pair (.int .i64) (.unit))))),(false,.int .i64)]
abbrev O107:Sig:=[(false,.int .u64),(false,.int .i64)]
noncomputable def t107 (p148:DenS I148→Bool) (f148:DenS I148→DenS O148) (p150:DenS I150→Bool) (f150:DenS I150→DenS O150) (p151:DenS I151→Bool) (f151:DenS I151→DenS O151) (p149:DenS I149→Bool) (f149:DenS I149→DenS O149) (p152:DenS I152→Bool) (f152:DenS I152→DenS O152) (a0:Den (.pair (.bool) (.pair (.slice (.int .u64)) (.pair (.int .i64) (.pair (.bool) (.unit)))))) (a1:Den (.int .i64)) (a2:Den (.pair (.int .i64) (.pair (.int .i64) (.pair (.int .i64) (.pair (.int .i64) (.unit)))))) (a3:Den (.int .i64)):Option (DenS O107) :=
 bif (p148 ((a0.1,a0.2),())) then
 (bif (decide ((f148 ((a0.1,a0.2),())).1>a2.2.2.2.1)) then
 (bif (p149 (a1,(a3,(a0.1,())))) then
 (some ((f149 (a1,(a3,(a0.1,())))).1,((20:Int),())))
 else none)
 else bif (p150 ((a0.1,a0.2),(a3,((IntKind.wrap .i64 ((IntKind.wrap .i64 ((if (a2.2.2.1>(f148 ((a0.1,a0.2),())).1) then a2.2.2.1 else (f148 ((a0.1,a0.2),())).1)-a2.2.1))+(1:Int))),())))) then
 (bif (decide ((0:Int)≤(IntKind.wrap .i64 (a2.2.1-(1:Int))))) then
 (bif (decide (((f150 ((a0.1,a0.2),(a3,((IntKind.wrap .i64 ((IntKind.wrap .i64 ((if (a2.2.2.1>(f148 ((a0.1,a0.2),())).1) then a2.2.2.1 else (f148 ((a0.1,a0.2),())).1)-a2.2.1))+(1:Int))),())))).1.length:Int)>(0:Int))) then
 (bif (decide ((0:Int)<((f150 ((a0.1,a0.2),(a3,((IntKind.wrap .i64 ((IntKind.wrap .i64 ((if (a2.2.2.1>(f148 ((a0.1,a0.2),())).1) then a2.2.2.1 else (f148 ((a0.1,a0.2),())).1)-a2.2.1))+(1:Int))),())))).1.length:Int))) then
 (bif (p151 ((f150 ((a0.1,a0.2),(a3,((IntKind.wrap .i64 ((IntKind.wrap .i64 ((if (a2.2.2.1>(f148 ((a0.1,a0.2),())).1) then a2.2.2.1 else (f148 ((a0.1,a0.2),())).1)-a2.2.1))+(1:Int))),())))).1,())) then
 (bif (decide ((IntKind.wrap .i64 ((IntKind.wrap .i64 ((IntKind.wrap .i64 ((IntKind.wrap .i64 ((if (a2.2.2.1>(f148 ((a0.1,a0.2),())).1) then a2.2.2.1 else (f148 ((a0.1,a0.2),())).1)-a2.2.1))+(1:Int)))+(f151 ((f150 ((a0.1,a0.2),(a3,((IntKind.wrap .i64 ((IntKind.wrap .i64 ((if (a2.2.2.1>(f148 ((a0.1,a0.2),())).1) then a2.2.2.1 else (f148 ((a0.1,a0.2),())).1)-a2.2.1))+(1:Int))),())))).1,())).1))-(1:Int)))>a2.2.2.2.1)) then
 (bif (p149 (a1,(a3,(a0.1,())))) then
 (some ((f149 (a1,(a3,(a0.1,())))).1,((20:Int),())))
 else none)
 else bif a0.1 then
 (bif (decide ((0:Int)≤(IntKind.wrap .i64 (a2.1-(1:Int))))) then
 (bif (!(f150 ((a0.1,a0.2),(a3,((IntKind.wrap .i64 ((IntKind.wrap .i64 ((if (a2.2.2.1>(f148 ((a0.1,a0.2),())).1) then a2.2.2.1 else (f148 ((a0.1,a0.2),())).1)-a2.2.1))+(1:Int))),())))).2.1) then
 (some ((orI .u64 (IntKind.wrap .u64 ((shlI .u64 (IntKind.wrap .u64 (IntKind.wrap .i64 ((IntKind.wrap .i64 ((IntKind.wrap .i64 ((if (a2.2.2.1>(f148 ((a0.1,a0.2),())).1) then a2.2.2.1 else (f148 ((a0.1,a0.2),())).1)-a2.2.1))+(1:Int)))-(IntKind.wrap .i64 ((IntKind.wrap .i64 (a2.2.2.1-a2.2.1))+(1:Int)))))) (IntKind.wrap .i64 (a2.2.1-(1:Int))))+((f150 ((a0.1,a0.2),(a3,((IntKind.wrap .i64 ((IntKind.wrap .i64 ((if (a2.2.2.1>(f148 ((a0.1,a0.2),())).1) then a2.2.2.1 else (f148 ((a0.1,a0.2),())).1)-a2.2.1))+(1:Int))),())))).1.getD (Int.toNat (0:Int)) (0:Int)))) (shlI .u64 (1:Int) (IntKind.wrap .i64 (a2.1-(1:Int))))),((0:Int),())))
 else bif (p152 ((a0.1,a0.2),((a2.1,a2.2),(a3,(f148 ((a0.1,a0.2),())))))) then
 (bif (f152 ((a0.1,a0.2),((a2.1,a2.2),(a3,(f148 ((a0.1,a0.2),())))))).1 then
 (some ((orI .u64 (IntKind.wrap .u64 ((shlI .u64 (IntKind.wrap .u64 (IntKind.wrap .i64 ((IntKind.wrap .i64 ((IntKind.wrap .i64 ((if (a2.2.2.1>(f148 ((a0.1,a0.2),())).1) then a2.2.2.1 else (f148 ((a0.1,a0.2),())).1)-a2.2.1))+(1:Int)))-(IntKind.wrap .i64 ((IntKind.wrap .i64 (a2.2.2.1-a2.2.1))+(1:Int)))))) (IntKind.wrap .i64 (a2.2.1-(1:Int))))+((f150 ((a0.1,a0.2),(a3,((IntKind.wrap .i64 ((IntKind.wrap .i64 ((if (a2.2.2.1>(f148 ((a0.1,a0.2),())).1) then a2.2.2.1 else (f148 ((a0.1,a0.2),())).1)-a2.2.1))+(1:Int))),())))).1.getD (Int.toNat (0:Int)) (0:Int)))) (shlI .u64 (1:Int) (IntKind.wrap .i64 (a2.1-(1:Int))))),((24:Int),())))
 else some ((orI .u64 (IntKind.wrap .u64 ((shlI .u64 (IntKind.wrap .u64 (IntKind.wrap .i64 ((IntKind.wrap .i64 ((IntKind.wrap .i64 ((if (a2.2.2.1>(f148 ((a0.1,a0.2),())).1) then a2.2.2.1 else (f148 ((a0.1,a0.2),())).1)-a2.2.1))+(1:Int)))-(IntKind.wrap .i64 ((IntKind.wrap .i64 (a2.2.2.1-a2.2.1))+(1:Int)))))) (IntKind.wrap .i64 (a2.2.1-(1:Int))))+((f150 ((a0.1,a0.2),(a3,((IntKind.wrap .i64 ((IntKind.wrap .i64 ((if (a2.2.2.1>(f148 ((a0.1,a0.2),())).1) then a2.2.2.1 else (f148 ((a0.1,a0.2),())).1)-a2.2.1))+(1:Int))),())))).1.getD (Int.toNat (0:Int)) (0:Int)))) (shlI .u64 (1:Int) (IntKind.wrap .i64 (a2.1-(1:Int))))),((16:Int),())))
 else none)
 else none)
 else bif (!(f150 ((a0.1,a0.2),(a3,((IntKind.wrap .i64 ((IntKind.wrap .i64 ((if (a2.2.2.1>(f148 ((a0.1,a0.2),())).1) then a2.2.2.1 else (f148 ((a0.1,a0.2),())).1)-a2.2.1))+(1:Int))),())))).2.1) then
 (some ((IntKind.wrap .u64 ((shlI .u64 (IntKind.wrap .u64 (IntKind.wrap .i64 ((IntKind.wrap .i64 ((IntKind.wrap .i64 ((if (a2.2.2.1>(f148 ((a0.1,a0.2),())).1) then a2.2.2.1 else (f148 ((a0.1,a0.2),())).1)-a2.2.1))+(1:Int)))-(IntKind.wrap .i64 ((IntKind.wrap .i64 (a2.2.2.1-a2.2.1))+(1:Int)))))) (IntKind.wrap .i64 (a2.2.1-(1:Int))))+((f150 ((a0.1,a0.2),(a3,((IntKind.wrap .i64 ((IntKind.wrap .i64 ((if (a2.2.2.1>(f148 ((a0.1,a0.2),())).1) then a2.2.2.1 else (f148 ((a0.1,a0.2),())).1)-a2.2.1))+(1:Int))),())))).1.getD (Int.toNat (0:Int)) (0:Int)))),((0:Int),())))
 else bif (p152 ((a0.1,a0.2),((a2.1,a2.2),(a3,(f148 ((a0.1,a0.2),())))))) then
 (bif (f152 ((a0.1,a0.2),((a2.1,a2.2),(a3,(f148 ((a0.1,a0.2),())))))).1 then
 (some ((IntKind.wrap .u64 ((shlI .u64 (IntKind.wrap .u64 (IntKind.wrap .i64 ((IntKind.wrap .i64 ((IntKind.wrap .i64 ((if (a2.2.2.1>(f148 ((a0.1,a0.2),())).1) then a2.2.2.1 else (f148 ((a0.1,a0.2),())).1)-a2.2.1))+(1:Int)))-(IntKind.wrap .i64 ((IntKind.wrap .i64 (a2.2.2.1-a2.2.1))+(1:Int)))))) (IntKind.wrap .i64 (a2.2.1-(1:Int))))+((f150 ((a0.1,a0.2),(a3,((IntKind.wrap .i64 ((IntKind.wrap .i64 ((if (a2.2.2.1>(f148 ((a0.1,a0.2),())).1) then a2.2.2.1 else (f148 ((a0.1,a0.2),())).1)-a2.2.1))+(1:Int))),())))).1.getD (Int.toNat (0:Int)) (0:Int)))),((24:Int),())))
 else some ((IntKind.wrap .u64 ((shlI .u64 (IntKind.wrap .u64 (IntKind.wrap .i64 ((IntKind.wrap .i64 ((IntKind.wrap .i64 ((if (a2.2.2.1>(f148 ((a0.1,a0.2),())).1) then a2.2.2.1 else (f148 ((a0.1,a0.2),())).1)-a2.2.1))+(1:Int)))-(IntKind.wrap .i64 ((IntKind.wrap .i64 (a2.2.2.1-a2.2.1))+(1:Int)))))) (IntKind.wrap .i64 (a2.2.1-(1:Int))))+((f150 ((a0.1,a0.2),(a3,((IntKind.wrap .i64 ((IntKind.wrap .i64 ((if (a2.2.2.1>(f148 ((a0.1,a0.2),())).1) then a2.2.2.1 else (f148 ((a0.1,a0.2),())).1)-a2.2.1))+(1:Int))),())))).1.getD (Int.toNat (0:Int)) (0:Int)))),((16:Int),())))
 else none)
 else none)
 else none)
 else bif (p151 ((f150 ((a0.1,a0.2),(a3,((IntKind.wrap .i64 ((IntKind.wrap .i64 ((if (a2.2.2.1>(f148 ((a0.1,a0.2),())).1) then a2.2.2.1 else (f148 ((a0.1,a0.2),())).1)-a2.2.1))+(1:Int))),())))).1,())) then
 (bif (decide ((IntKind.wrap .i64 ((IntKind.wrap .i64 ((IntKind.wrap .i64 ((IntKind.wrap .i64 ((if (a2.2.2.1>(f148 ((a0.1,a0.2),())).1) then a2.2.2.1 else (f148 ((a0.1,a0.2),())).1)-a2.2.1))+(1:Int)))+(f151 ((f150 ((a0.1,a0.2),(a3,((IntKind.wrap .i64 ((IntKind.wrap .i64 ((if (a2.2.2.1>(f148 ((a0.1,a0.2),())).1) then a2.2.2.1 else (f148 ((a0.1,a0.2),())).1)-a2.2.1))+(1:Int))),())))).1,())).1))-(1:Int)))>a2.2.2.2.1)) then
 (bif (p149 (a1,(a3,(a0.1,())))) then
 (some ((f149 (a1,(a3,(a0.1,())))).1,((20:Int),())))
 else none)
 else bif a0.1 then
 (bif (decide ((0:Int)≤(IntKind.wrap .i64 (a2.1-(1:Int))))) then
 (bif (!(f150 ((a0.1,a0.2),(a3,((IntKind.wrap .i64 ((IntKind.wrap .i64 ((if (a2.2.2.1>(f148 ((a0.1,a0.2),())).1) then a2.2.2.1 else (f148 ((a0.1,a0.2),())).1)-a2.2.1))+(1:Int))),())))).2.1) then
 (some ((orI .u64 (shlI .u64 (IntKind.wrap .u64 (IntKind.wrap .i64 ((IntKind.wrap .i64 ((IntKind.wrap .i64 ((if (a2.2.2.1>(f148 ((a0.1,a0.2),())).1) then a2.2.2.1 else (f148 ((a0.1,a0.2),())).1)-a2.2.1))+(1:Int)))-(IntKind.wrap .i64 ((IntKind.wrap .i64 (a2.2.2.1-a2.2.1))+(1:Int)))))) (IntKind.wrap .i64 (a2.2.1-(1:Int)))) (shlI .u64 (1:Int) (IntKind.wrap .i64 (a2.1-(1:Int))))),((0:Int),())))
 else bif (p152 ((a0.1,a0.2),((a2.1,a2.2),(a3,(f148 ((a0.1,a0.2),())))))) then
 (bif (f152 ((a0.1,a0.2),((a2.1,a2.2),(a3,(f148 ((a0.1,a0.2),())))))).1 then
 (some ((orI .u64 (shlI .u64 (IntKind.wrap .u64 (IntKind.wrap .i64 ((IntKind.wrap .i64 ((IntKind.wrap .i64 ((if (a2.2.2.1>(f148 ((a0.1,a0.2),())).1) then a2.2.2.1 else (f148 ((a0.1,a0.2),())).1)-a2.2.1))+(1:Int)))-(IntKind.wrap .i64 ((IntKind.wrap .i64 (a2.2.2.1-a2.2.1))+(1:Int)))))) (IntKind.wrap .i64 (a2.2.1-(1:Int)))) (shlI .u64 (1:Int) (IntKind.wrap .i64 (a2.1-(1:Int))))),((24:Int),())))
 else some ((orI .u64 (shlI .u64 (IntKind.wrap .u64 (IntKind.wrap .i64 ((IntKind.wrap .i64 ((IntKind.wrap .i64 ((if (a2.2.2.1>(f148 ((a0.1,a0.2),())).1) then a2.2.2.1 else (f148 ((a0.1,a0.2),())).1)-a2.2.1))+(1:Int)))-(IntKind.wrap .i64 ((IntKind.wrap .i64 (a2.2.2.1-a2.2.1))+(1:Int)))))) (IntKind.wrap .i64 (a2.2.1-(1:Int)))) (shlI .u64 (1:Int) (IntKind.wrap .i64 (a2.1-(1:Int))))),((16:Int),())))
 else none)
 else none)
 else bif (!(f150 ((a0.1,a0.2),(a3,((IntKind.wrap .i64 ((IntKind.wrap .i64 ((if (a2.2.2.1>(f148 ((a0.1,a0.2),())).1) then a2.2.2.1 else (f148 ((a0.1,a0.2),())).1)-a2.2.1))+(1:Int))),())))).2.1) then
 (some ((shlI .u64 (IntKind.wrap .u64 (IntKind.wrap .i64 ((IntKind.wrap .i64 ((IntKind.wrap .i64 ((if (a2.2.2.1>(f148 ((a0.1,a0.2),())).1) then a2.2.2.1 else (f148 ((a0.1,a0.2),())).1)-a2.2.1))+(1:Int)))-(IntKind.wrap .i64 ((IntKind.wrap .i64 (a2.2.2.1-a2.2.1))+(1:Int)))))) (IntKind.wrap .i64 (a2.2.1-(1:Int)))),((0:Int),())))
 else bif (p152 ((a0.1,a0.2),((a2.1,a2.2),(a3,(f148 ((a0.1,a0.2),())))))) then
 (bif (f152 ((a0.1,a0.2),((a2.1,a2.2),(a3,(f148 ((a0.1,a0.2),())))))).1 then
 (some ((shlI .u64 (IntKind.wrap .u64 (IntKind.wrap .i64 ((IntKind.wrap .i64 ((IntKind.wrap .i64 ((if (a2.2.2.1>(f148 ((a0.1,a0.2),())).1) then a2.2.2.1 else (f148 ((a0.1,a0.2),())).1)-a2.2.1))+(1:Int)))-(IntKind.wrap .i64 ((IntKind.wrap .i64 (a2.2.2.1-a2.2.1))+(1:Int)))))) (IntKind.wrap .i64 (a2.2.1-(1:Int)))),((24:Int),())))
 else some ((shlI .u64 (IntKind.wrap .u64 (IntKind.wrap .i64 ((IntKind.wrap .i64 ((IntKind.wrap .i64 ((if (a2.2.2.1>(f148 ((a0.1,a0.2),())).1) then a2.2.2.1 else (f148 ((a0.1,a0.2),())).1)-a2.2.1))+(1:Int)))-(IntKind.wrap .i64 ((IntKind.wrap .i64 (a2.2.2.1-a2.2.1))+(1:Int)))))) (IntKind.wrap .i64 (a2.2.1-(1:Int)))),((16:Int),())))
 else none)
 else none)
 else none)
 else none)
 else none
theorem r107 (p148:DenS I148→Bool) (f148:DenS I148→DenS O148) (p150:DenS I150→Bool) (f150:DenS I150→DenS O150) (p151:DenS I151→Bool) (f151:DenS I151→DenS O151) (p149:DenS I149→Bool) (f149:DenS I149→DenS O149) (p152:DenS I152→Bool) (f152:DenS I152→DenS O152) (a0:Den (.pair (.bool) (.pair (.slice (.int .u64)) (.pair (.int .i64) (.pair (.bool) (.unit)))))) (a1:Den (.int .i64)) (a2:Den (.pair (.int .i64) (.pair (.int .i64) (.pair (.int .i64) (.pair (.int .i64) (.unit)))))) (a3:Den (.int .i64)) :
  run { P:=Tryd.prog,sums:=[(118,⟨I148,O148,p148,f148⟩),(120,⟨I150,O150,p150,f150⟩),(100,⟨I151,O151,p151,f151⟩),(119,⟨I149,O149,p149,f149⟩),(121,⟨I152,O152,p152,f152⟩)],loops:=[],globs:=G1 } 9 98 Tryd.f98 I107 O107 (a0,a1,a2,a3,())=t107 p148 f148 p150 f150 p151 f151 p149 f149 p152 f152 a0 a1 a2 a3:=by kernel_rfl
noncomputable def T107 (x:DenS I107):Option (DenS O107):=t107 S148.pre S148.F S150.pre S150.F S151.pre S151.F S149.pre S149.F S152.pre S152.F x.1 x.2.1 x.2.2.1 x.2.2.2.1
noncomputable def C107:Cfg:={ P:=Tryd.prog,sums:=[(118,S148),(120,S150),(100,S151),(119,S149),(121,S152)],loops:=[],globs:=G1 }
noncomputable def S107:Sum:=sumOf I107 O107 T107 (DenS.dflt O107)
theorem S107_sound:Sound Tryd.prog G1 98 S107 :=
 fn_sound C107 9 98 Tryd.f98 mixedOk (by kernel_rfl) (by kernel_rfl) (by kernel_rfl) ⟨S148_sound,⟨S150_sound,⟨S151_sound,⟨S149_sound,⟨S152_sound,trivial⟩⟩⟩⟩⟩ trivial I107 O107 T107 _ (fun x=>r107 S148.pre S148.F S150.pre S150.F S151.pre S151.F S149.pre S149.F S152.pre S152.F x.1 x.2.1 x.2.2.1 x.2.2.2.1)
abbrev I122:Sig:=[(false,.int .i64),(false,.int .i64),(false,.bool),(true,.pair (.int .u64) (.pair (.int .u64) (.unit))),(false,.int .i64),(false,.bool)]
abbrev O122:Sig:=[(false,.int .u64),(false,.int .i64),(false,.int .i64)]
noncomputable def t122 (p105:DenS I105→Bool) (f105:DenS I105→DenS O105) (p102:DenS I102→Bool) (f102:DenS I102→DenS O102) (p151:DenS I151→Bool) (f151:DenS I151→DenS O151) (p156:DenS I156→Bool) (f156:DenS I156→DenS O156) (p107:DenS I107→Bool) (f107:DenS I107→DenS O107) (a0:Den (.int .i64)) (a1:Den (.int .i64)) (a2:Den (.bool)) (a3:Den (.pair (.int .u64) (.pair (.int .u64) (.unit)))) (a4:Den (.int .i64)) (a5:Den (.bool)):Option (DenS O122) :=
 bif (p105 (a0,(a1,()))) then
 (bif ((f105 (a0,(a1,()))).2.1 != (0:Int)) then
 (some ((0:Int),((0:Int),(f105 (a0,(a1,()))).2)))
 else bif (p102 ((a3.2.1::(a3.1::[])),())) then
 (bif ((decide (a4<(-(40000:Int))))||(decide (a4>(40000:Int)))) then
 (some ((0:Int),((0:Int),((30:Int),()))))
 else bif ((p151 (f102 ((a3.2.1::(a3.1::[])),())))||(!a5)) then
 (bif (a5&&(decide ((f151 (f102 ((a3.2.1::(a3.1::[])),()))).1<(IntKind.wrap .i64 ((f105 (a0,(a1,()))).1.2.1+(2:Int)))))) then
 (some ((0:Int),((0:Int),((7:Int),()))))
 else bif (((f102 ((a3.2.1::(a3.1::[])),())).1.length:Int)==(0:Int)) then
 (bif (p156 (a0,(a2,()))) then
 (some (f156 (a0,(a2,()))))
 else none)
 else bif (p107 ((a2,((f102 ((a3.2.1::(a3.1::[])),())).1,(a4,(a5,())))),(a0,((f105 (a0,(a1,()))).1,(a1,()))))) then
 (some ((f107 ((a2,((f102 ((a3.2.1::(a3.1::[])),())).1,(a4,(a5,())))),(a0,((f105 (a0,(a1,()))).1,(a1,()))))).1,((f107 ((a2,((f102 ((a3.2.1::(a3.1::[])),())).1,(a4,(a5,())))),(a0,((f105 (a0,(a1,()))).1,(a1,()))))).2.1,((0:Int),()))))
 else none)
 else none)
 else none)
 else none
theorem r122 (p105:DenS I105→Bool) (f105:DenS I105→DenS O105) (p102:DenS I102→Bool) (f102:DenS I102→DenS O102) (p151:DenS I151→Bool) (f151:DenS I151→DenS O151) (p156:DenS I156→Bool) (f156:DenS I156→DenS O156) (p107:DenS I107→Bool) (f107:DenS I107→DenS O107) (a0:Den (.int .i64)) (a1:Den (.int .i64)) (a2:Den (.bool)) (a3:Den (.pair (.int .u64) (.pair (.int .u64) (.unit)))) (a4:Den (.int .i64)) (a5:Den (.bool)) :
  run { P:=Tryd.prog,sums:=[(96,⟨I105,O105,p105,f105⟩),(99,⟨I102,O102,p102,f102⟩),(100,⟨I151,O151,p151,f151⟩),(101,⟨I156,O156,p156,f156⟩),(98,⟨I107,O107,p107,f107⟩)],loops:=[],globs:=G1 } 9 61 Tryd.f61 I122 O122 (a0,a1,a2,a3,a4,a5,())=t122 p105 f105 p102 f102 p151 f151 p156 f156 p107 f107 a0 a1 a2 a3 a4 a5:=by kernel_rfl
noncomputable def T122 (x:DenS I122):Option (DenS O122):=t122 S105.pre S105.F S102.pre S102.F S151.pre S151.F S156.pre S156.F S107.pre S107.F x.1 x.2.1 x.2.2.1 x.2.2.2.1 x.2.2.2.2.1 x.2.2.2.2.2.1
noncomputable def C122:Cfg:={ P:=Tryd.prog,sums:=[(96,S105),(99,S102),(100,S151),(101,S156),(98,S107)],loops:=[],globs:=G1 }
noncomputable def S122:Sum:=sumOf I122 O122 T122 (DenS.dflt O122)
theorem S122_sound:Sound Tryd.prog G1 61 S122 :=
 fn_sound C122 9 61 Tryd.f61 mixedOk (by kernel_rfl) (by kernel_rfl) (by kernel_rfl) ⟨S105_sound,⟨S102_sound,⟨S151_sound,⟨S156_sound,⟨S107_sound,trivial⟩⟩⟩⟩⟩ trivial I122 O122 T122 _ (fun x=>r122 S105.pre S105.F S102.pre S102.F S151.pre S151.F S156.pre S156.F S107.pre S107.F x.1 x.2.1 x.2.2.1 x.2.2.2.1 x.2.2.2.2.1 x.2.2.2.2.2.1)
end Vx
namespace Vx
open Go Go.Proofs
abbrev I71:Sig:=[(false,.int .i64),(false,.int .i64),(true,.pair (.bool) (.pair (.int .u64) (.pair (.int .i64) (.unit)))),(true,.pair (.bool) (.pair (.int .u64) (.pair (.int .i64) (.unit))))]
abbrev O71:Sig:=[(false,.int .u64),(false,.int .i64),(false,.int .i64)]
noncomputable def tl71 (p119:DenS I119→Bool) (f119:DenS I119→DenS O119) (p120:DenS I120→Bool) (f120:DenS I120→DenS O120) (p121:DenS I121→Bool) (f121:DenS I121→DenS O121) (p123:DenS I123→Bool) (f123:DenS I123→DenS O123) (p124:DenS I124→Bool) (f124:DenS I124→DenS O124) (p118:DenS I118→Bool) (f118:DenS I118→DenS O118) (p122:DenS I122→Bool) (f122:DenS I122→DenS O122) (f m:Int) (nx:Bool) (X ex:Int) (ny:Bool) (Y ey:Int):Option (DenS O71) :=
 bif (p119 (((0:Int),(X,())),((if ((70:Int)<(IntKind.wrap .i64 (ex-ey))) then (70:Int) else (IntKind.wrap .i64 (ex-ey))),()))) then
 (bif (p120 (((0:Int),(Y,())),((IntKind.wrap .i64 ((IntKind.wrap .i64 (ex-(if ((70:Int)<(IntKind.wrap .i64 (ex-ey))) then (70:Int) else (IntKind.wrap .i64 (ex-ey)))))-ey)),()))) then
 (bif (p119 ((f120 (((0:Int),(Y,())),((IntKind.wrap .i64 ((IntKind.wrap .i64 (ex-(if ((70:Int)<(IntKind.wrap .i64 (ex-ey))) then (70:Int) else (IntKind.wrap .i64 (ex-ey)))))-ey)),()))).1,((IntKind.wrap .i64 ((IntKind.wrap .i64 (ex-(if ((70:Int)<(IntKind.wrap .i64 (ex-ey))) then (70:Int) else (IntKind.wrap .i64 (ex-ey)))))-ey)),()))) then
 (bif (p120 (((0:Int),(Y,())),((IntKind.wrap .i64 ((IntKind.wrap .i64 (ex-(if ((70:Int)<(IntKind.wrap .i64 (ex-ey))) then (70:Int) else (IntKind.wrap .i64 (ex-ey)))))-ey)),()))) then
 (bif (nx==ny) then
 (bif (p121 ((f119 (((0:Int),(X,())),((if ((70:Int)<(IntKind.wrap .i64 (ex-ey))) then (70:Int) else (IntKind.wrap .i64 (ex-ey))),()))).1,(f120 (((0:Int),(Y,())),((IntKind.wrap .i64 ((IntKind.wrap .i64 (ex-(if ((70:Int)<(IntKind.wrap .i64 (ex-ey))) then (70:Int) else (IntKind.wrap .i64 (ex-ey)))))-ey)),()))))) then
 (bif (p122 (f,(m,(nx,((f121 ((f119 (((0:Int),(X,())),((if ((70:Int)<(IntKind.wrap .i64 (ex-ey))) then (70:Int) else (IntKind.wrap .i64 (ex-ey))),()))).1,(f120 (((0:Int),(Y,())),((IntKind.wrap .i64 ((IntKind.wrap .i64 (ex-(if ((70:Int)<(IntKind.wrap .i64 (ex-ey))) then (70:Int) else (IntKind.wrap .i64 (ex-ey)))))-ey)),()))))).1,((IntKind.wrap .i64 (ex-(if ((70:Int)<(IntKind.wrap .i64 (ex-ey))) then (70:Int) else (IntKind.wrap .i64 (ex-ey))))),(((!(((f119 ((f120 (((0:Int),(Y,())),((IntKind.wrap .i64 ((IntKind.wrap .i64 (ex-(if ((70:Int)<(IntKind.wrap .i64 (ex-ey))) then (70:Int) else (IntKind.wrap .i64 (ex-ey)))))-ey)),()))).1,((IntKind.wrap .i64 ((IntKind.wrap .i64 (ex-(if ((70:Int)<(IntKind.wrap .i64 (ex-ey))) then (70:Int) else (IntKind.wrap .i64 (ex-ey)))))-ey)),()))).1.1==(0:Int))&&((f119 ((f120 (((0:Int),(Y,())),((IntKind.wrap .i64 ((IntKind.wrap .i64 (ex-(if ((70:Int)<(IntKind.wrap .i64 (ex-ey))) then (70:Int) else (IntKind.wrap .i64 (ex-ey)))))-ey)),()))).1,((IntKind.wrap .i64 ((IntKind.wrap .i64 (ex-(if ((70:Int)<(IntKind.wrap .i64 (ex-ey))) then (70:Int) else (IntKind.wrap .i64 (ex-ey)))))-ey)),()))).1.2.1==Y)))||((decide ((IntKind.wrap .i64 ((IntKind.wrap .i64 (ex-(if ((70:Int)<(IntKind.wrap .i64 (ex-ey))) then (70:Int) else (IntKind.wrap .i64 (ex-ey)))))-ey))>(63:Int)))&&(Y != (0:Int)))),()))))))) then
 (some (f122 (f,(m,(nx,((f121 ((f119 (((0:Int),(X,())),((if ((70:Int)<(IntKind.wrap .i64 (ex-ey))) then (70:Int) else (IntKind.wrap .i64 (ex-ey))),()))).1,(f120 (((0:Int),(Y,())),((IntKind.wrap .i64 ((IntKind.wrap .i64 (ex-(if ((70:Int)<(IntKind.wrap .i64 (ex-ey))) then (70:Int) else (IntKind.wrap .i64 (ex-ey)))))-ey)),()))))).1,((IntKind.wrap .i64 (ex-(if ((70:Int)<(IntKind.wrap .i64 (ex-ey))) then (70:Int) else (IntKind.wrap .i64 (ex-ey))))),(((!(((f119 ((f120 (((0:Int),(Y,())),((IntKind.wrap .i64 ((IntKind.wrap .i64 (ex-(if ((70:Int)<(IntKind.wrap .i64 (ex-ey))) then (70:Int) else (IntKind.wrap .i64 (ex-ey)))))-ey)),()))).1,((IntKind.wrap .i64 ((IntKind.wrap .i64 (ex-(if ((70:Int)<(IntKind.wrap .i64 (ex-ey))) then (70:Int) else (IntKind.wrap .i64 (ex-ey)))))-ey)),()))).1.1==(0:Int))&&((f119 ((f120 (((0:Int),(Y,())),((IntKind.wrap .i64 ((IntKind.wrap .i64 (ex-(if ((70:Int)<(IntKind.wrap .i64 (ex-ey))) then (70:Int) else (IntKind.wrap .i64 (ex-ey)))))-ey)),()))).1,((IntKind.wrap .i64 ((IntKind.wrap .i64 (ex-(if ((70:Int)<(IntKind.wrap .i64 (ex-ey))) then (70:Int) else (IntKind.wrap .i64 (ex-ey)))))-ey)),()))).1.2.1==Y)))||((decide ((IntKind.wrap .i64 ((IntKind.wrap .i64 (ex-(if ((70:Int)<(IntKind.wrap .i64 (ex-ey))) then (70:Int) else (IntKind.wrap .i64 (ex-ey)))))-ey))>(63:Int)))&&(Y != (0:Int)))),()))))))))
 else none)
 else none)
 else bif (p123 ((f119 (((0:Int),(X,())),((if ((70:Int)<(IntKind.wrap .i64 (ex-ey))) then (70:Int) else (IntKind.wrap .i64 (ex-ey))),()))).1,(f120 (((0:Int),(Y,())),((IntKind.wrap .i64 ((IntKind.wrap .i64 (ex-(if ((70:Int)<(IntKind.wrap .i64 (ex-ey))) then (70:Int) else (IntKind.wrap .i64 (ex-ey)))))-ey)),()))))) then
 (bif (decide ((f123 ((f119 (((0:Int),(X,())),((if ((70:Int)<(IntKind.wrap .i64 (ex-ey))) then (70:Int) else (IntKind.wrap .i64 (ex-ey))),()))).1,(f120 (((0:Int),(Y,())),((IntKind.wrap .i64 ((IntKind.wrap .i64 (ex-(if ((70:Int)<(IntKind.wrap .i64 (ex-ey))) then (70:Int) else (IntKind.wrap .i64 (ex-ey)))))-ey)),()))))).1<(0:Int))) then
 (bif (p124 ((f120 (((0:Int),(Y,())),((IntKind.wrap .i64 ((IntKind.wrap .i64 (ex-(if ((70:Int)<(IntKind.wrap .i64 (ex-ey))) then (70:Int) else (IntKind.wrap .i64 (ex-ey)))))-ey)),()))).1,(f119 (((0:Int),(X,())),((if ((70:Int)<(IntKind.wrap .i64 (ex-ey))) then (70:Int) else (IntKind.wrap .i64 (ex-ey))),()))))) then
 (bif ((!(((f119 ((f120 (((0:Int),(Y,())),((IntKind.wrap .i64 ((IntKind.wrap .i64 (ex-(if ((70:Int)<(IntKind.wrap .i64 (ex-ey))) then (70:Int) else (IntKind.wrap .i64 (ex-ey)))))-ey)),()))).1,((IntKind.wrap .i64 ((IntKind.wrap .i64 (ex-(if ((70:Int)<(IntKind.wrap .i64 (ex-ey))) then (70:Int) else (IntKind.wrap .i64 (ex-ey)))))-ey)),()))).1.1==(0:Int))&&((f119 ((f120 (((0:Int),(Y,())),((IntKind.wrap .i64 ((IntKind.wrap .i64 (ex-(if ((70:Int)<(IntKind.wrap .i64 (ex-ey))) then (70:Int) else (IntKind.wrap .i64 (ex-ey)))))-ey)),()))).1,((IntKind.wrap .i64 ((IntKind.wrap .i64 (ex-(if ((70:Int)<(IntKind.wrap .i64 (ex-ey))) then (70:Int) else (IntKind.wrap .i64 (ex-ey)))))-ey)),()))).1.2.1==Y)))||((decide ((IntKind.wrap .i64 ((IntKind.wrap .i64 (ex-(if ((70:Int)<(IntKind.wrap .i64 (ex-ey))) then (70:Int) else (IntKind.wrap .i64 (ex-ey)))))-ey))>(63:Int)))&&(Y != (0:Int)))) then
 (bif (p124 ((f124 ((f120 (((0:Int),(Y,())),((IntKind.wrap .i64 ((IntKind.wrap .i64 (ex-(if ((70:Int)<(IntKind.wrap .i64 (ex-ey))) then (70:Int) else (IntKind.wrap .i64 (ex-ey)))))-ey)),()))).1,(f119 (((0:Int),(X,())),((if ((70:Int)<(IntKind.wrap .i64 (ex-ey))) then (70:Int) else (IntKind.wrap .i64 (ex-ey))),()))))).1,(((0:Int),((1:Int),())),()))) then
 (bif ((((f124 ((f124 ((f120 (((0:Int),(Y,())),((IntKind.wrap .i64 ((IntKind.wrap .i64 (ex-(if ((70:Int)<(IntKind.wrap .i64 (ex-ey))) then (70:Int) else (IntKind.wrap .i64 (ex-ey)))))-ey)),()))).1,(f119 (((0:Int),(X,())),((if ((70:Int)<(IntKind.wrap .i64 (ex-ey))) then (70:Int) else (IntKind.wrap .i64 (ex-ey))),()))))).1,(((0:Int),((1:Int),())),()))).1.1==(0:Int))&&((f124 ((f124 ((f120 (((0:Int),(Y,())),((IntKind.wrap .i64 ((IntKind.wrap .i64 (ex-(if ((70:Int)<(IntKind.wrap .i64 (ex-ey))) then (70:Int) else (IntKind.wrap .i64 (ex-ey)))))-ey)),()))).1,(f119 (((0:Int),(X,())),((if ((70:Int)<(IntKind.wrap .i64 (ex-ey))) then (70:Int) else (IntKind.wrap .i64 (ex-ey))),()))))).1,(((0:Int),((1:Int),())),()))).1.2.1==(0:Int)))&&(!((!(((f119 ((f120 (((0:Int),(Y,())),((IntKind.wrap .i64 ((IntKind.wrap .i64 (ex-(if ((70:Int)<(IntKind.wrap .i64 (ex-ey))) then (70:Int) else (IntKind.wrap .i64 (ex-ey)))))-ey)),()))).1,((IntKind.wrap .i64 ((IntKind.wrap .i64 (ex-(if ((70:Int)<(IntKind.wrap .i64 (ex-ey))) then (70:Int) else (IntKind.wrap .i64 (ex-ey)))))-ey)),()))).1.1==(0:Int))&&((f119 ((f120 (((0:Int),(Y,())),((IntKind.wrap .i64 ((IntKind.wrap .i64 (ex-(if ((70:Int)<(IntKind.wrap .i64 (ex-ey))) then (70:Int) else (IntKind.wrap .i64 (ex-ey)))))-ey)),()))).1,((IntKind.wrap .i64 ((IntKind.wrap .i64 (ex-(if ((70:Int)<(IntKind.wrap .i64 (ex-ey))) then (70:Int) else (IntKind.wrap .i64 (ex-ey)))))-ey)),()))).1.2.1==Y)))||((decide ((IntKind.wrap .i64 ((IntKind.wrap .i64 (ex-(if ((70:Int)<(IntKind.wrap .i64 (ex-ey))) then (70:Int) else (IntKind.wrap .i64 (ex-ey)))))-ey))>(63:Int)))&&(Y != (0:Int)))))) then
 (bif (p118 (f,((m==(4:Int)),()))) then
 (some ((f118 (f,((m==(4:Int)),()))).1,((0:Int),((0:Int),()))))
 else none)
 else bif (p122 (f,(m,(ny,((f124 ((f124 ((f120 (((0:Int),(Y,())),((IntKind.wrap .i64 ((IntKind.wrap .i64 (ex-(if ((70:Int)<(IntKind.wrap .i64 (ex-ey))) then (70:Int) else (IntKind.wrap .i64 (ex-ey)))))-ey)),()))).1,(f119 (((0:Int),(X,())),((if ((70:Int)<(IntKind.wrap .i64 (ex-ey))) then (70:Int) else (IntKind.wrap .i64 (ex-ey))),()))))).1,(((0:Int),((1:Int),())),()))).1,((IntKind.wrap .i64 (ex-(if ((70:Int)<(IntKind.wrap .i64 (ex-ey))) then (70:Int) else (IntKind.wrap .i64 (ex-ey))))),(((!(((f119 ((f120 (((0:Int),(Y,())),((IntKind.wrap .i64 ((IntKind.wrap .i64 (ex-(if ((70:Int)<(IntKind.wrap .i64 (ex-ey))) then (70:Int) else (IntKind.wrap .i64 (ex-ey)))))-ey)),()))).1,((IntKind.wrap .i64 ((IntKind.wrap .i64 (ex-(if ((70:Int)<(IntKind.wrap .i64 (ex-ey))) then (70:Int) else (IntKind.wrap .i64 (ex-ey)))))-ey)),()))).1.1==(0:Int))&&((f119 ((f120 (((0:Int),(Y,())),((IntKind.wrap .i64 ((IntKind.wrap .i64 (ex-(if ((70:Int)<(IntKind.wrap .i64 (ex-ey))) then (70:Int) else (IntKind.wrap .i64 (ex-ey)))))-ey)),()))).1,((IntKind.wrap .i64 ((IntKind.wrap .i64 (ex-(if ((70:Int)<(IntKind.wrap .i64 (ex-ey))) then (70:Int) else (IntKind.wrap .i64 (ex-ey)))))-ey)),()))).1.2.1==Y)))||((decide ((IntKind.wrap .i64 ((IntKind.wrap .i64 (ex-(if ((70:Int)<(IntKind.wrap .i64 (ex-ey))) then (70:Int) else (IntKind.wrap .i64 (ex-ey)))))-ey))>(63:Int)))&&(Y != (0:Int)))),()))))))) then
 (some (f122 (f,(m,(ny,((f124 ((f124 ((f120 (((0:Int),(Y,())),((IntKind.wrap .i64 ((IntKind.wrap .i64 (ex-(if ((70:Int)<(IntKind.wrap .i64 (ex-ey))) then (70:Int) else (IntKind.wrap .i64 (ex-ey)))))-ey)),()))).1,(f119 (((0:Int),(X,())),((if ((70:Int)<(IntKind.wrap .i64 (ex-ey))) then (70:Int) else (IntKind.wrap .i64 (ex-ey))),()))))).1,(((0:Int),((1:Int),())),()))).1,((IntKind.wrap .i64 (ex-(if ((70:Int)<(IntKind.wrap .i64 (ex-ey))) then (70:Int) else (IntKind.wrap .i64 (ex-ey))))),(((!(((f119 ((f120 (((0:Int),(Y,())),((IntKind.wrap .i64 ((IntKind.wrap .i64 (ex-(if ((70:Int)<(IntKind.wrap .i64 (ex-ey))) then (70:Int) else (IntKind.wrap .i64 (ex-ey)))))-ey)),()))).1,((IntKind.wrap .i64 ((IntKind.wrap .i64 (ex-(if ((70:Int)<(IntKind.wrap .i64 (ex-ey))) then (70:Int) else (IntKind.wrap .i64 (ex-ey)))))-ey)),()))).1.1==(0:Int))&&((f119 ((f120 (((0:Int),(Y,())),((IntKind.wrap .i64 ((IntKind.wrap .i64 (ex-(if ((70:Int)<(IntKind.wrap .i64 (ex-ey))) then (70:Int) else (IntKind.wrap .i64 (ex-ey)))))-ey)),()))).1,((IntKind.wrap .i64 ((IntKind.wrap .i64 (ex-(if ((70:Int)<(IntKind.wrap .i64 (ex-ey))) then (70:Int) else (IntKind.wrap .i64 (ex-ey)))))-ey)),()))).1.2.1==Y)))||((decide ((IntKind.wrap .i64 ((IntKind.wrap .i64 (ex-(if ((70:Int)<(IntKind.wrap .i64 (ex-ey))) then (70:Int) else (IntKind.wrap .i64 (ex-ey)))))-ey))>(63:Int)))&&(Y != (0:Int)))),()))))))))
 else none)
 else none)
 else bif ((((f124 ((f120 (((0:Int),(Y,())),((IntKind.wrap .i64 ((IntKind.wrap .i64 (ex-(if ((70:Int)<(IntKind.wrap .i64 (ex-ey))) then (70:Int) else (IntKind.wrap .i64 (ex-ey)))))-ey)),()))).1,(f119 (((0:Int),(X,())),((if ((70:Int)<(IntKind.wrap .i64 (ex-ey))) then (70:Int) else (IntKind.wrap .i64 (ex-ey))),()))))).1.1==(0:Int))&&((f124 ((f120 (((0:Int),(Y,())),((IntKind.wrap .i64 ((IntKind.wrap .i64 (ex-(if ((70:Int)<(IntKind.wrap .i64 (ex-ey))) then (70:Int) else (IntKind.wrap .i64 (ex-ey)))))-ey)),()))).1,(f119 (((0:Int),(X,())),((if ((70:Int)<(IntKind.wrap .i64 (ex-ey))) then (70:Int) else (IntKind.wrap .i64 (ex-ey))),()))))).1.2.1==(0:Int)))&&(!((!(((f119 ((f120 (((0:Int),(Y,())),((IntKind.wrap .i64 ((IntKind.wrap .i64 (ex-(if ((70:Int)<(IntKind.wrap .i64 (ex-ey))) then (70:Int) else (IntKind.wrap .i64 (ex-ey)))))-ey)),()))).1,((IntKind.wrap .i64 ((IntKind.wrap .i64 (ex-(if ((70:Int)<(IntKind.wrap .i64 (ex-ey))) then (70:Int) else (IntKind.wrap .i64 (ex-ey)))))-ey)),()))).1.1==(0:Int))&&((f119 ((f120 (((0:Int),(Y,())),((IntKind.wrap .i64 ((IntKind.wrap .i64 (ex-(if ((70:Int)<(IntKind.wrap .i64 (ex-ey))) then (70:Int) else (IntKind.wrap .i64 (ex-ey)))))-ey)),()))).1,((IntKind.wrap .i64 ((IntKind.wrap .i64 (ex-(if ((70:Int)<(IntKind.wrap .i64 (ex-ey))) then (70:Int) else (IntKind.wrap .i64 (ex-ey)))))-ey)),()))).1.2.1==Y)))||((decide ((IntKind.wrap .i64 ((IntKind.wrap .i64 (ex-(if ((70:Int)<(IntKind.wrap .i64 (ex-ey))) then (70:Int) else (IntKind.wrap .i64 (ex-ey)))))-ey))>(63:Int)))&&(Y != (0:Int)))))) then
 (bif (p118 (f,((m==(4:Int)),()))) then
 (some ((f118 (f,((m==(4:Int)),()))).1,((0:Int),((0:Int),()))))
 else none)
 else bif (p122 (f,(m,(ny,((f124 ((f120 (((0:Int),(Y,())),((IntKind.wrap .i64 ((IntKind.wrap .i64 (ex-(if ((70:Int)<(IntKind.wrap .i64 (ex-ey))) then (70:Int) else (IntKind.wrap .i64 (ex-ey)))))-ey)),()))).1,(f119 (((0:Int),(X,())),((if ((70:Int)<(IntKind.wrap .i64 (ex-ey))) then (70:Int) else (IntKind.wrap .i64 (ex-ey))),()))))).1,((IntKind.wrap .i64 (ex-(if ((70:Int)<(IntKind.wrap .i64 (ex-ey))) then (70:Int) else (IntKind.wrap .i64 (ex-ey))))),(((!(((f119 ((f120 (((0:Int),(Y,())),((IntKind.wrap .i64 ((IntKind.wrap .i64 (ex-(if ((70:Int)<(IntKind.wrap .i64 (ex-ey))) then (70:Int) else (IntKind.wrap .i64 (ex-ey)))))-ey)),()))).1,((IntKind.wrap .i64 ((IntKind.wrap .i64 (ex-(if ((70:Int)<(IntKind.wrap .i64 (ex-ey))) then (70:Int) else (IntKind.wrap .i64 (ex-ey)))))-ey)),()))).1.1==(0:Int))&&((f119 ((f120 (((0:Int),(Y,())),((IntKind.wrap .i64 ((IntKind.wrap .i64 (ex-(if ((70:Int)<(IntKind.wrap .i64 (ex-ey))) then (70:Int) else (IntKind.wrap .i64 (ex-ey)))))-ey)),()))).1,((IntKind.wrap .i64 ((IntKind.wrap .i64 (ex-(if ((70:Int)<(IntKind.wrap .i64 (ex-ey))) then (70:Int) else (IntKind.wrap .i64 (ex-ey)))))-ey)),()))).1.2.1==Y)))||((decide ((IntKind.wrap .i64 ((IntKind.wrap .i64 (ex-(if ((70:Int)<(IntKind.wrap .i64 (ex-ey))) then (70:Int) else (IntKind.wrap .i64 (ex-ey)))))-ey))>(63:Int)))&&(Y != (0:Int)))),()))))))) then
 (some (f122 (f,(m,(ny,((f124 ((f120 (((0:Int),(Y,())),((IntKind.wrap .i64 ((IntKind.wrap .i64 (ex-(if ((70:Int)<(IntKind.wrap .i64 (ex-ey))) then (70:Int) else (IntKind.wrap .i64 (ex-ey)))))-ey)),()))).1,(f119 (((0:Int),(X,())),((if ((70:Int)<(IntKind.wrap .i64 (ex-ey))) then (70:Int) else (IntKind.wrap .i64 (ex-ey))),()))))).1,((IntKind.wrap .i64 (ex-(if ((70:Int)<(IntKind.wrap .i64 (ex-ey))) then (70:Int) else (IntKind.wrap .i64 (ex-ey))))),(((!(((f119 ((f120 (((0:Int),(Y,())),((IntKind.wrap .i64 ((IntKind.wrap .i64 (ex-(if ((70:Int)<(IntKind.wrap .i64 (ex-ey))) then (70:Int) else (IntKind.wrap .i64 (ex-ey)))))-ey)),()))).1,((IntKind.wrap .i64 ((IntKind.wrap .i64 (ex-(if ((70:Int)<(IntKind.wrap .i64 (ex-ey))) then (70:Int) else (IntKind.wrap .i64 (ex-ey)))))-ey)),()))).1.1==(0:Int))&&((f119 ((f120 (((0:Int),(Y,())),((IntKind.wrap .i64 ((IntKind.wrap .i64 (ex-(if ((70:Int)<(IntKind.wrap .i64 (ex-ey))) then (70:Int) else (IntKind.wrap .i64 (ex-ey)))))-ey)),()))).1,((IntKind.wrap .i64 ((IntKind.wrap .i64 (ex-(if ((70:Int)<(IntKind.wrap .i64 (ex-ey))) then (70:Int) else (IntKind.wrap .i64 (ex-ey)))))-ey)),()))).1.2.1==Y)))||((decide ((IntKind.wrap .i64 ((IntKind.wrap .i64 (ex-(if ((70:Int)<(IntKind.wrap .i64 (ex-ey))) then (70:Int) else (IntKind.wrap .i64 (ex-ey)))))-ey))>(63:Int)))&&(Y != (0:Int)))),()))))))))
 else none)
 else none)
 else bif (p124 ((f119 (((0:Int),(X,())),((if ((70:Int)<(IntKind.wrap .i64 (ex-ey))) then (70:Int) else (IntKind.wrap .i64 (ex-ey))),()))).1,(f120 (((0:Int),(Y,())),((IntKind.wrap .i64 ((IntKind.wrap .i64 (ex-(if ((70:Int)<(IntKind.wrap .i64 (ex-ey))) then (70:Int) else (IntKind.wrap .i64 (ex-ey)))))-ey)),()))))) then
 (bif ((!(((f119 ((f120 (((0:Int),(Y,())),((IntKind.wrap .i64 ((IntKind.wrap .i64 (ex-(if ((70:Int)<(IntKind.wrap .i64 (ex-ey))) then (70:Int) else (IntKind.wrap .i64 (ex-ey)))))-ey)),()))).1,((IntKind.wrap .i64 ((IntKind.wrap .i64 (ex-(if ((70:Int)<(IntKind.wrap .i64 (ex-ey))) then (70:Int) else (IntKind.wrap .i64 (ex-ey)))))-ey)),()))).1.1==(0:Int))&&((f119 ((f120 (((0:Int),(Y,())),((IntKind.wrap .i64 ((IntKind.wrap .i64 (ex-(if ((70:Int)<(IntKind.wrap .i64 (ex-ey))) then (70:Int) else (IntKind.wrap .i64 (ex-ey)))))-ey)),()))).1,((IntKind.wrap .i64 ((IntKind.wrap .i64 (ex-(if ((70:Int)<(IntKind.wrap .i64 (ex-ey))) then (70:Int) else (IntKind.wrap .i64 (ex-ey)))))-ey)),()))).1.2.1==Y)))||((decide ((IntKind.wrap .i64 ((IntKind.wrap .i64 (ex-(if ((70:Int)<(IntKind.wrap .i64 (ex-ey))) then (70:Int) else (IntKind.wrap .i64 (ex-ey)))))-ey))>(63:Int)))&&(Y != (0:Int)))) then
 (bif (p124 ((f124 ((f119 (((0:Int),(X,())),((if ((70:Int)<(IntKind.wrap .i64 (ex-ey))) then (70:Int) else (IntKind.wrap .i64 (ex-ey))),()))).1,(f120 (((0:Int),(Y,())),((IntKind.wrap .i64 ((IntKind.wrap .i64 (ex-(if ((70:Int)<(IntKind.wrap .i64 (ex-ey))) then (70:Int) else (IntKind.wrap .i64 (ex-ey)))))-ey)),()))))).1,(((0:Int),((1:Int),())),()))) then
 (bif ((((f124 ((f124 ((f119 (((0:Int),(X,())),((if ((70:Int)<(IntKind.wrap .i64 (ex-ey))) then (70:Int) else (IntKind.wrap .i64 (ex-ey))),()))).1,(f120 (((0:Int),(Y,())),((IntKind.wrap .i64 ((IntKind.wrap .i64 (ex-(if ((70:Int)<(IntKind.wrap .i64 (ex-ey))) then (70:Int) else (IntKind.wrap .i64 (ex-ey)))))-ey)),()))))).1,(((0:Int),((1:Int),())),()))).1.1==(0:Int))&&((f124 ((f124 ((f119 (((0:Int),(X,())),((if ((70:Int)<(IntKind.wrap .i64 (ex-ey))) then (70:Int) else (IntKind.wrap .i64 (ex-ey))),()))).1,(f120 (((0:Int),(Y,())),((IntKind.wrap .i64 ((IntKind.wrap .i64 (ex-(if ((70:Int)<(IntKind.wrap .i64 (ex-ey))) then (70:Int) else (IntKind.wrap .i64 (ex-ey)))))-ey)),()))))).1,(((0:Int),((1:Int),())),()))).1.2.1==(0:Int)))&&(!((!(((f119 ((f120 (((0:Int),(Y,())),((IntKind.wrap .i64 ((IntKind.wrap .i64 (ex-(if ((70:Int)<(IntKind.wrap .i64 (ex-ey))) then (70:Int) else (IntKind.wrap .i64 (ex-ey)))))-ey)),()))).1,((IntKind.wrap .i64 ((IntKind.wrap .i64 (ex-(if ((70:Int)<(IntKind.wrap .i64 (ex-ey))) then (70:Int) else (IntKind.wrap .i64 (ex-ey)))))-ey)),()))).1.1==(0:Int))&&((f119 ((f120 (((0:Int),(Y,())),((IntKind.wrap .i64 ((IntKind.wrap .i64 (ex-(if ((70:Int)<(IntKind.wrap .i64 (ex-ey))) then (70:Int) else (IntKind.wrap .i64 (ex-ey)))))-ey)),()))).1,((IntKind.wrap .i64 ((IntKind.wrap .i64 (ex-(if ((70:Int)<(IntKind.wrap .i64 (ex-ey))) then (70:Int) else (IntKind.wrap .i64 (ex-ey)))))-ey)),()))).1.2.1==Y)))||((decide ((IntKind.wrap .i64 ((IntKind.wrap .i64 (ex-(if ((70:Int)<(IntKind.wrap .i64 (ex-ey))) then (70:Int) else (IntKind.wrap .i64 (ex-ey)))))-ey))>(63:Int)))&&(Y != (0:Int)))))) then
 (bif (p118 (f,((m==(4:Int)),()))) then
 (some ((f118 (f,((m==(4:Int)),()))).1,((0:Int),((0:Int),()))))
 else none)
 else bif (p122 (f,(m,(nx,((f124 ((f124 ((f119 (((0:Int),(X,())),((if ((70:Int)<(IntKind.wrap .i64 (ex-ey))) then (70:Int) else (IntKind.wrap .i64 (ex-ey))),()))).1,(f120 (((0:Int),(Y,())),((IntKind.wrap .i64 ((IntKind.wrap .i64 (ex-(if ((70:Int)<(IntKind.wrap .i64 (ex-ey))) then (70:Int) else (IntKind.wrap .i64 (ex-ey)))))-ey)),()))))).1,(((0:Int),((1:Int),())),()))).1,((IntKind.wrap .i64 (ex-(if ((70:Int)<(IntKind.wrap .i64 (ex-ey))) then (70:Int) else (IntKind.wrap .i64 (ex-ey))))),(((!(((f119 ((f120 (((0:Int),(Y,())),((IntKind.wrap .i64 ((IntKind.wrap .i64 (ex-(if ((70:Int)<(IntKind.wrap .i64 (ex-ey))) then (70:Int) else (IntKind.wrap .i64 (ex-ey)))))-ey)),()))).1,((IntKind.wrap .i64 ((IntKind.wrap .i64 (ex-(if ((70:Int)<(IntKind.wrap .i64 (ex-ey))) then (70:Int) else (IntKind.wrap .i64 (ex-ey)))))-ey)),()))).1.1==(0:Int))&&((f119 ((f120 (((0:Int),(Y,())),((IntKind.wrap .i64 ((IntKind.wrap .i64 (ex-(if ((70:Int)<(IntKind.wrap .i64 (ex-ey))) then (70:Int) else (IntKind.wrap .i64 (ex-ey)))))-ey)),()))).1,((IntKind.wrap .i64 ((IntKind.wrap .i64 (ex-(if ((70:Int)<(IntKind.wrap .i64 (ex-ey))) then (70:Int) else (IntKind.wrap .i64 (ex-ey)))))-ey)),()))).1.2.1==Y)))||((decide ((IntKind.wrap .i64 ((IntKind.wrap .i64 (ex-(if ((70:Int)<(IntKind.wrap .i64 (ex-ey))) then (70:Int) else (IntKind.wrap .i64 (ex-ey)))))-ey))>(63:Int)))&&(Y != (0:Int)))),()))))))) then
 (some (f122 (f,(m,(nx,((f124 ((f124 ((f119 (((0:Int),(X,())),((if ((70:Int)<(IntKind.wrap .i64 (ex-ey))) then (70:Int) else (IntKind.wrap .i64 (ex-ey))),()))).1,(f120 (((0:Int),(Y,())),((IntKind.wrap .i64 ((IntKind.wrap .i64 (ex-(if ((70:Int)<(IntKind.wrap .i64 (ex-ey))) then (70:Int) else (IntKind.wrap .i64 (ex-ey)))))-ey)),()))))).1,(((0:Int),((1:Int),())),()))).1,((IntKind.wrap .i64 (ex-(if ((70:Int)<(IntKind.wrap .i64 (ex-ey))) then (70:Int) else (IntKind.wrap .i64 (ex-ey))))),(((!(((f119 ((f120 (((0:Int),(Y,())),((IntKind.wrap .i64 ((IntKind.wrap .i64 (ex-(if ((70:Int)<(IntKind.wrap .i64 (ex-ey))) then (70:Int) else (IntKind.wrap .i64 (ex-ey)))))-ey)),()))).1,((IntKind.wrap .i64 ((IntKind.wrap .i64 (ex-(if ((70:Int)<(IntKind.wrap .i64 (ex-ey))) then (70:Int) else (IntKind.wrap .i64 (ex-ey)))))-ey)),()))).1.1==(0:Int))&&((f119 ((f120 (((0:Int),(Y,())),((IntKind.wrap .i64 ((IntKind.wrap .i64 (ex-(if ((70:Int)<(IntKind.wrap .i64 (ex-ey))) then (70:Int) else (IntKind.wrap .i64 (ex-ey)))))-ey)),()))).1,((IntKind.wrap .i64 ((IntKind.wrap .i64 (ex-(if ((70:Int)<(IntKind.wrap .i64 (ex-ey))) then (70:Int) else (IntKind.wrap .i64 (ex-ey)))))-ey)),()))).1.2.1==Y)))||((decide ((IntKind.wrap .i64 ((IntKind.wrap .i64 (ex-(if ((70:Int)<(IntKind.wrap .i64 (ex-ey))) then (70:Int) else (IntKind.wrap .i64 (ex-ey)))))-ey))>(63:Int)))&&(Y != (0:Int)))),()))))))))
 else none)
 else none)
 else bif ((((f124 ((f119 (((0:Int),(X,())),((if ((70:Int)<(IntKind.wrap .i64 (ex-ey))) then (70:Int) else (IntKind.wrap .i64 (ex-ey))),()))).1,(f120 (((0:Int),(Y,())),((IntKind.wrap .i64 ((IntKind.wrap .i64 (ex-(if ((70:Int)<(IntKind.wrap .i64 (ex-ey))) then (70:Int) else (IntKind.wrap .i64 (ex-ey)))))-ey)),()))))).1.1==(0:Int))&&((f124 ((f119 (((0:Int),(X,())),((if ((70:Int)<(IntKind.wrap .i64 (ex-ey))) then (70:Int) else (IntKind.wrap .i64 (ex-ey))),()))).1,(f120 (((0:Int),(Y,())),((IntKind.wrap .i64 ((IntKind.wrap .i64 (ex-(if ((70:Int)<(IntKind.wrap .i64 (ex-ey))) then (70:Int) else (IntKind.wrap .i64 (ex-ey)))))-ey)),()))))).1.2.1==(0:Int)))&&(!((!(((f119 ((f120 (((0:Int),(Y,())),((IntKind.wrap .i64 ((IntKind.wrap .i64 (ex-(if ((70:Int)<(IntKind.wrap .i64 (ex-ey))) then (70:Int) else (IntKind.wrap .i64 (ex-ey)))))-ey)),()))).1,((IntKind.wrap .i64 ((IntKind.wrap .i64 (ex-(if ((70:Int)<(IntKind.wrap .i64 (ex-ey))) then (70:Int) else (IntKind.wrap .i64 (ex-ey)))))-ey)),()))).1.1==(0:Int))&&((f119 ((f120 (((0:Int),(Y,())),((IntKind.wrap .i64 ((IntKind.wrap .i64 (ex-(if ((70:Int)<(IntKind.wrap .i64 (ex-ey))) then (70:Int) else (IntKind.wrap .i64 (ex-ey)))))-ey)),()))).1,((IntKind.wrap .i64 ((IntKind.wrap .i64 (ex-(if ((70:Int)<(IntKind.wrap .i64 (ex-ey))) then (70:Int) else (IntKind.wrap .i64 (ex-ey)))))-ey)),()))).1.2.1==Y)))||((decide ((IntKind.wrap .i64 ((IntKind.wrap .i64 (ex-(if ((70:Int)<(IntKind.wrap .i64 (ex-ey))) then (70:Int) else (IntKind.wrap .i64 (ex-ey)))))-ey))>(63:Int)))&&(Y != (0:Int)))))) then
 (bif (p118 (f,((m==(4:Int)),()))) then
 (some ((f118 (f,((m==(4:Int)),()))).1,((0:Int),((0:Int),()))))
 else none)
 else bif (p122 (f,(m,(nx,((f124 ((f119 (((0:Int),(X,())),((if ((70:Int)<(IntKind.wrap .i64 (ex-ey))) then (70:Int) else (IntKind.wrap .i64 (ex-ey))),()))).1,(f120 (((0:Int),(Y,())),((IntKind.wrap .i64 ((IntKind.wrap .i64 (ex-(if ((70:Int)<(IntKind.wrap .i64 (ex-ey))) then (70:Int) else (IntKind.wrap .i64 (ex-ey)))))-ey)),()))))).1,((IntKind.wrap .i64 (ex-(if ((70:Int)<(IntKind.wrap .i64 (ex-ey))) then (70:Int) else (IntKind.wrap .i64 (ex-ey))))),(((!(((f119 ((f120 (((0:Int),(Y,())),((IntKind.wrap .i64 ((IntKind.wrap .i64 (ex-(if ((70:Int)<(IntKind.wrap .i64 (ex-ey))) then (70:Int) else (IntKind.wrap .i64 (ex-ey)))))-ey)),()))).1,((IntKind.wrap .i64 ((IntKind.wrap .i64 (ex-(if ((70:Int)<(IntKind.wrap .i64 (ex-ey))) then (70:Int) else (IntKind.wrap .i64 (ex-ey)))))-ey)),()))).1.1==(0:Int))&&((f119 ((f120 (((0:Int),(Y,())),((IntKind.wrap .i64 ((IntKind.wrap .i64 (ex-(if ((70:Int)<(IntKind.wrap .i64 (ex-ey))) then (70:Int) else (IntKind.wrap .i64 (ex-ey)))))-ey)),()))).1,((IntKind.wrap .i64 ((IntKind.wrap .i64 (ex-(if ((70:Int)<(IntKind.wrap .i64 (ex-ey))) then (70:Int) else (IntKind.wrap .i64 (ex-ey)))))-ey)),()))).1.2.1==Y)))||((decide ((IntKind.wrap .i64 ((IntKind.wrap .i64 (ex-(if ((70:Int)<(IntKind.wrap .i64 (ex-ey))) then (70:Int) else (IntKind.wrap .i64 (ex-ey)))))-ey))>(63:Int)))&&(Y != (0:Int)))),()))))))) then
 (some (f122 (f,(m,(nx,((f124 ((f119 (((0:Int),(X,())),((if ((70:Int)<(IntKind.wrap .i64 (ex-ey))) then (70:Int) else (IntKind.wrap .i64 (ex-ey))),()))).1,(f120 (((0:Int),(Y,())),((IntKind.wrap .i64 ((IntKind.wrap .i64 (ex-(if ((70:Int)<(IntKind.wrap .i64 (ex-ey))) then (70:Int) else (IntKind.wrap .i64 (ex-ey)))))-ey)),()))))).1,((IntKind.wrap .i64 (ex-(if ((70:Int)<(IntKind.wrap .i64 (ex-ey))) then (70:Int) else (IntKind.wrap .i64 (ex-ey))))),(((!(((f119 ((f120 (((0:Int),(Y,())),((IntKind.wrap .i64 ((IntKind.wrap .i64 (ex-(if ((70:Int)<(IntKind.wrap .i64 (ex-ey))) then (70:Int) else (IntKind.wrap .i64 (ex-ey)))))-ey)),()))).1,((IntKind.wrap .i64 ((IntKind.wrap .i64 (ex-(if ((70:Int)<(IntKind.wrap .i64 (ex-ey))) then (70:Int) else (IntKind.wrap .i64 (ex-ey)))))-ey)),()))).1.1==(0:Int))&&((f119 ((f120 (((0:Int),(Y,())),((IntKind.wrap .i64 ((IntKind.wrap .i64 (ex-(if ((70:Int)<(IntKind.wrap .i64 (ex-ey))) then (70:Int) else (IntKind.wrap .i64 (ex-ey)))))-ey)),()))).1,((IntKind.wrap .i64 ((IntKind.wrap .i64 (ex-(if ((70:Int)<(IntKind.wrap .i64 (ex-ey))) then (70:Int) else (IntKind.wrap .i64 (ex-ey)))))-ey)),()))).1.2.1==Y)))||((decide ((IntKind.wrap .i64 ((IntKind.wrap .i64 (ex-(if ((70:Int)<(IntKind.wrap .i64 (ex-ey))) then (70:Int) else (IntKind.wrap .i64 (ex-ey)))))-ey))>(63:Int)))&&(Y != (0:Int)))),()))))))))
 else none)
 else none)
 else none)
 else none)
 else none)
 else none)
 else none
noncomputable def t71 (p119:DenS I119→Bool) (f119:DenS I119→DenS O119) (p120:DenS I120→Bool) (f120:DenS I120→DenS O120) (p121:DenS I121→Bool) (f121:DenS I121→DenS O121) (p123:DenS I123→Bool) (f123:DenS I123→DenS O123) (p124:DenS I124→Bool) (f124:DenS I124→DenS O124) (p118:DenS I118→Bool) (f118:DenS I118→DenS O118) (p122:DenS I122→Bool) (f122:DenS I122→DenS O122) (a0:Den (.int .i64)) (a1:Den (.int .i64)) (a2:Den (.pair (.bool) (.pair (.int .u64) (.pair (.int .i64) (.unit))))) (a3:Den (.pair (.bool) (.pair (.int .u64) (.pair (.int .i64) (.unit))))):Option (DenS O71) :=
 bif (((a2.2.1==(0:Int))&&(a3.2.1==(0:Int)))&&(a2.1==a3.1)) then
 (bif (p118 (a0,(a2.1,()))) then (some ((f118 (a0,(a2.1,()))).1,((0:Int),((0:Int),())))) else none)
 else bif ((a2.2.1==(0:Int))||((a3.2.1 != (0:Int))&&(decide (a2.2.2.1<a3.2.2.1)))) then
 (bif (a2.2.1==(0:Int)) then (tl71 p119 f119 p120 f120 p121 f121 p123 f123 p124 f124 p118 f118 p122 f122 a0 a1 a3.1 a3.2.1 a3.2.2.1 a2.1 a2.2.1 a3.2.2.1) else (tl71 p119 f119 p120 f120 p121 f121 p123 f123 p124 f124 p118 f118 p122 f122 a0 a1 a3.1 a3.2.1 a3.2.2.1 a2.1 a2.2.1 a2.2.2.1))
 else bif (a3.2.1==(0:Int)) then (tl71 p119 f119 p120 f120 p121 f121 p123 f123 p124 f124 p118 f118 p122 f122 a0 a1 a2.1 a2.2.1 a2.2.2.1 a3.1 a3.2.1 a2.2.2.1)
 else (tl71 p119 f119 p120 f120 p121 f121 p123 f123 p124 f124 p118 f118 p122 f122 a0 a1 a2.1 a2.2.1 a2.2.2.1 a3.1 a3.2.1 a3.2.2.1)
theorem r71 (p119:DenS I119→Bool) (f119:DenS I119→DenS O119) (p120:DenS I120→Bool) (f120:DenS I120→DenS O120) (p121:DenS I121→Bool) (f121:DenS I121→DenS O121) (p123:DenS I123→Bool) (f123:DenS I123→DenS O123) (p124:DenS I124→Bool) (f124:DenS I124→DenS O124) (p118:DenS I118→Bool) (f118:DenS I118→DenS O118) (p122:DenS I122→Bool) (f122:DenS I122→DenS O122) (a0:Den (.int .i64)) (a1:Den (.int .i64)) (a2:Den (.pair (.bool) (.pair (.int .u64) (.pair (.int .i64) (.unit))))) (a3:Den (.pair (.bool) (.pair (.int .u64) (.pair (.int .i64) (.unit))))) :
  run { P:=Tryd.prog,sums:=[(71,⟨I119,O119,p119,f119⟩),(91,⟨I120,O120,p120,f120⟩),(92,⟨I121,O121,p121,f121⟩),(93,⟨I123,O123,p123,f123⟩),(94,⟨I124,O124,p124,f124⟩),(33,⟨I118,O118,p118,f118⟩),(61,⟨I122,O122,p122,f122⟩)],loops:=[],globs:=G1 } 9 46 Tryd.f46 I71 O71 (a0,a1,a2,a3,())=t71 p119 f119 p120 f120 p121 f121 p123 f123 p124 f124 p118 f118 p122 f122 a0 a1 a2 a3:=by kernel_rfl
noncomputable def T71 (x:DenS I71):Option (DenS O71):=t71 S119.pre S119.F S120.pre S120.F S121.pre S121.F S123.pre S123.F S124.pre S124.F S118.pre S118.F S122.pre S122.F x.1 x.2.1 x.2.2.1 x.2.2.2.1
noncomputable def C71:Cfg:={ P:=Tryd.prog,sums:=[(71,S119),(91,S120),(92,S121),(93,S123),(94,S124),(33,S118),(61,S122)],loops:=[],globs:=G1 }
noncomputable def S71:Sum:=sumOf I71 O71 T71 (DenS.dflt O71)
theorem S71_sound:Sound Tryd.prog G1 46 S71 :=
 fn_sound C71 9 46 Tryd.f46 mixedOk (by kernel_rfl) (by kernel_rfl) (by kernel_rfl) ⟨S119_sound,⟨S120_sound,⟨S121_sound,⟨S123_sound,⟨S124_sound,⟨S118_sound,⟨S122_sound,trivial⟩⟩⟩⟩⟩⟩⟩ trivial I71 O71 T71 _ (fun x=>r71 S119.pre S119.F S120.pre S120.F S121.pre S121.F S123.pre S123.F S124.pre S124.F S118.pre S118.F S122.pre S122.F x.1 x.2.1 x.2.2.1 x.2.2.2.1)
end Vx
namespace Vx
open Go Go.Proofs
abbrev I27:Sig:=[(false,.int .i64),(false,.int .i64),(false,.int .u64),(false,.int .u64)]
abbrev O27:Sig:=[(false,.int .u64),(false,.int .i64),(false,.int .i64)]
noncomputable def t27 (p69:DenS I69→Bool) (f69:DenS I69→DenS O69) (p65:DenS I65→Bool) (f65:DenS I65→DenS O65) (p70:DenS I70→Bool) (f70:DenS I70→DenS O70) (p72:DenS I72→Bool) (f72:DenS I72→DenS O72) (p71:DenS I71→Bool) (f71:DenS I71→DenS O71) (a0:Den (.int .i64)) (a1:Den (.int .i64)) (a2:Den (.int .u64)) (a3:Den (.int .u64)):Option (DenS O27) :=
 bif (p69 (a0,())) then
 (bif ((f69 (a0,())).2.1 != (0:Int)) then
 (some ((0:Int),((0:Int),(f69 (a0,())).2)))
 else bif ((decide (a1<(0:Int)))||(decide (a1>(5:Int)))) then
 (some ((0:Int),((0:Int),((3:Int),()))))
 else bif (p65 (a0,(a2,()))) then
 (bif ((f65 (a0,(a2,()))).2.1 != (0:Int)) then
 (some ((0:Int),((0:Int),(f65 (a0,(a2,()))).2)))
 else bif (p65 (a0,(a3,()))) then
 (bif ((f65 (a0,(a3,()))).2.1 != (0:Int)) then
 (some ((0:Int),((0:Int),(f65 (a0,(a3,()))).2)))
 else bif (p70 (a0,())) then
 (bif (((f65 (a0,(a2,()))).1==(0:Int))||((f65 (a0,(a3,()))).1==(0:Int))) then
 (some ((f70 (a0,())).1,((1:Int),((0:Int),()))))
 else bif (((f65 (a0,(a2,()))).1==(1:Int))||((f65 (a0,(a3,()))).1==(1:Int))) then
 (some ((f70 (a0,())).1,((0:Int),((0:Int),()))))
 else bif (((((f65 (a0,(a2,()))).1==(2:Int))||((f65 (a0,(a2,()))).1==(9:Int)))&&(((f65 (a0,(a3,()))).1==(2:Int))||((f65 (a0,(a3,()))).1==(9:Int))))&&((f65 (a0,(a2,()))).1 != (f65 (a0,(a3,()))).1)) then
 (some ((f70 (a0,())).1,((1:Int),((0:Int),()))))
 else bif (((f65 (a0,(a2,()))).1==(2:Int))||((f65 (a0,(a2,()))).1==(9:Int))) then
 (some (a2,((0:Int),((0:Int),()))))
 else bif (((f65 (a0,(a3,()))).1==(2:Int))||((f65 (a0,(a3,()))).1==(9:Int))) then
 (some (a3,((0:Int),((0:Int),()))))
 else bif (p72 (a0,((f69 (a0,())).1,(a2,())))) then
 (bif (p72 (a0,((f69 (a0,())).1,(a3,())))) then
 (bif (p71 (a0,(a1,((f72 (a0,((f69 (a0,())).1,(a2,())))).1,(f72 (a0,((f69 (a0,())).1,(a3,())))))))) then
 (some (f71 (a0,(a1,((f72 (a0,((f69 (a0,())).1,(a2,())))).1,(f72 (a0,((f69 (a0,())).1,(a3,())))))))))
 else none)
 else none)
 else none)
 else none)
 else none)
 else none)
 else none
theorem r27 (p69:DenS I69→Bool) (f69:DenS I69→DenS O69) (p65:DenS I65→Bool) (f65:DenS I65→DenS O65) (p70:DenS I70→Bool) (f70:DenS I70→DenS O70) (p72:DenS I72→Bool) (f72:DenS I72→DenS O72) (p71:DenS I71→Bool) (f71:DenS I71→DenS O71) (a0:Den (.int .i64)) (a1:Den (.int .i64)) (a2:Den (.int .u64)) (a3:Den (.int .u64)) :
  run { P:=Tryd.prog,sums:=[(22,⟨I69,O69,p69,f69⟩),(26,⟨I65,O65,p65,f65⟩),(45,⟨I70,O70,p70,f70⟩),(47,⟨I72,O72,p72,f72⟩),(46,⟨I71,O71,p71,f71⟩)],loops:=[],globs:=G1 } 9 18 Tryd.f18 I27 O27 (a0,a1,a2,a3,())=t27 p69 f69 p65 f65 p70 f70 p72 f72 p71 f71 a0 a1 a2 a3:=by kernel_rfl
noncomputable def T27 (x:DenS I27):Option (DenS O27):=t27 S69.pre S69.F S65.pre S65.F S70.pre S70.F S72.pre S72.F S71.pre S71.F x.1 x.2.1 x.2.2.1 x.2.2.2.1
noncomputable def C27:Cfg:={ P:=Tryd.prog,sums:=[(22,S69),(26,S65),(45,S70),(47,S72),(46,S71)],loops:=[],globs:=G1 }
noncomputable def S27:Sum:=sumOf I27 O27 T27 (DenS.dflt O27)
theorem S27_sound:Sound Tryd.prog G1 18 S27 :=
 fn_sound C27 9 18 Tryd.f18 mixedOk (by kernel_rfl) (by kernel_rfl) (by kernel_rfl) ⟨S69_sound,⟨S65_sound,⟨S70_sound,⟨S72_sound,⟨S71_sound,trivial⟩⟩⟩⟩⟩ trivial I27 O27 T27 _ (fun x=>r27 S69.pre S69.F S65.pre S65.F S70.pre S70.F S72.pre S72.F S71.pre S71.F x.1 x.2.1 x.2.2.1 x.2.2.2.1)
abbrev I315:Sig:=[(false,.int .u64),(false,.int .u64)]
abbrev O315:Sig:=[(false,.int .u64),(false,.int .u64)]
noncomputable def t315 (a0:Den (.int .u64)) (a1:Den (.int .u64)):Option (DenS O315) :=
 let e2_:=(andI .u64 a1 (4294967295:Int))
 let e3_:=(andI .u64 a0 (4294967295:Int))
 let e1_:=(IntKind.wrap .u64 ((IntKind.wrap .u64 ((shrI .u64 a0 (32:Int))*e2_))+(shrI .u64 (IntKind.wrap .u64 (e3_*e2_)) (32:Int))))
 some ((IntKind.wrap .u64 ((IntKind.wrap .u64 ((IntKind.wrap .u64 ((shrI .u64 a0 (32:Int))*(shrI .u64 a1 (32:Int))))+(shrI .u64 e1_ (32:Int))))+(shrI .u64 (IntKind.wrap .u64 ((andI .u64 e1_ (4294967295:Int))+(IntKind.wrap .u64 (e3_*(shrI .u64 a1 (32:Int)))))) (32:Int)))),((IntKind.wrap .u64 (a0*a1)),()))
theorem r315 (a0:Den (.int .u64)) (a1:Den (.int .u64)) :
  run { P:=Tryd.prog,sums:=[],loops:=[],globs:=G1 } 9 102 Tryd.f102 I315 O315 (a0,a1,())=t315 a0 a1:=by kernel_rfl
noncomputable def T315 (x:DenS I315):Option (DenS O315):=t315 x.1 x.2.1
noncomputable def C315:Cfg:={ P:=Tryd.prog,sums:=[],loops:=[],globs:=G1 }
noncomputable def S315:Sum:=sumOf I315 O315 T315 (DenS.dflt O315)
theorem S315_sound:Sound Tryd.prog G1 102 S315 :=
 fn_sound C315 9 102 Tryd.f102 mixedOk (by kernel_rfl) (by kernel_rfl) (by kernel_rfl) trivial trivial I315 O315 T315 _ (fun x=>r315 x.1 x.2.1)
abbrev I316:Sig:=[(false,.int .u64),(false,.int .u64)]
abbrev O316:Sig:=[(true,.pair (.int .u64) (.pair (.int .u64) (.unit)))]
noncomputable def t316 (p315:DenS I315→Bool) (f315:DenS I315→DenS O315) (a0:Den (.int .u64)) (a1:Den (.int .u64)):Option (DenS O316) :=
 bif (p315 (a0,(a1,()))) then
 (some ((f315 (a0,(a1,()))),()))
 else none
theorem r316 (p315:DenS I315→Bool) (f315:DenS I315→DenS O315) (a0:Den (.int .u64)) (a1:Den (.int .u64)) :
  run { P:=Tryd.prog,sums:=[(102,⟨I315,O315,p315,f315⟩)],loops:=[],globs:=G1 } 9 62 Tryd.f62 I316 O316 (a0,a1,())=t316 p315 f315 a0 a1:=by kernel_rfl
noncomputable def T316 (x:DenS I316):Option (DenS O316):=t316 S315.pre S315.F x.1 x.2.1
noncomputable def C316:Cfg:={ P:=Tryd.prog,sums:=[(102,S315)],loops:=[],globs:=G1 }
noncomputable def S316:Sum:=sumOf I316 O316 T316 (DenS.dflt O316)
theorem S316_sound:Sound Tryd.prog G1 62 S316 :=
 fn_sound C316 9 62 Tryd.f62 mixedOk (by kernel_rfl) (by kernel_rfl) (by kernel_rfl) ⟨S315_sound,trivial⟩ trivial I316 O316 T316 _ (fun x=>r316 S315.pre S315.F x.1 x.2.1)
abbrev I40:Sig:=[(false,.int .i64),(false,.int .u64)]
abbrev O40:Sig:=[(true,.pair (.bool) (.pair (.slice (.int .u64)) (.pair (.int .i64) (.unit)))),(false,.int .i64)]
noncomputable def t40 (p66:DenS I66→Bool) (f66:DenS I66→DenS O66) (p90:DenS I90→Bool) (f90:DenS I90→DenS O90) (p91:DenS I91→Bool) (f91:DenS I91→DenS O91) (p92:DenS I92→Bool) (f92:DenS I92→DenS O92) (a0:Den (.int .i64)) (a1:Den (.int .u64)):Option (DenS O40) :=
 bif (p66 (a0,(a1,()))) then
 (bif ((f66 (a0,(a1,()))).1 != (0:Int)) then
 (some ((false,([],((0:Int),()))),(f66 (a0,(a1,())))))
 else bif (bif (decide ((0:Int)≤a0)) then (decide (a0<((4:Nat):Int))) else false) then
 (bif (p90 ((Vx.k_rows.getD (Int.toNat a0) ((0:Int),((0:Int),((0:Int),((0:Int),()))))),(a1,()))) then
 (bif (p91 ((IntKind.wrap .i64 ((Vx.k_rows.getD (Int.toNat a0) ((0:Int),((0:Int),((0:Int),((0:Int),()))))).1-(Vx.k_rows.getD (Int.toNat a0) ((0:Int),((0:Int),((0:Int),((0:Int),()))))).2.1)),())) then
 (bif ((f90 ((Vx.k_rows.getD (Int.toNat a0) ((0:Int),((0:Int),((0:Int),((0:Int),()))))),(a1,()))).2.1==(f91 ((IntKind.wrap .i64 ((Vx.k_rows.getD (Int.toNat a0) ((0:Int),((0:Int),((0:Int),((0:Int),()))))).1-(Vx.k_rows.getD (Int.toNat a0) ((0:Int),((0:Int),((0:Int),((0:Int),()))))).2.1)),())).1) then
 (some ((false,([],((0:Int),()))),((40:Int),())))
 else bif ((f90 ((Vx.k_rows.getD (Int.toNat a0) ((0:Int),((0:Int),((0:Int),((0:Int),()))))),(a1,()))).2.1==(0:Int)) then
 (bif ((f90 ((Vx.k_rows.getD (Int.toNat a0) ((0:Int),((0:Int),((0:Int),((0:Int),()))))),(a1,()))).2.2.1==(0:Int)) then
 (some ((false,([],((0:Int),()))),((0:Int),())))
 else bif (p92 (f90 ((Vx.k_rows.getD (Int.toNat a0) ((0:Int),((0:Int),((0:Int),((0:Int),()))))),(a1,()))).2.2) then
 (bif (decide ((0:Int)≤(f92 (f90 ((Vx.k_rows.getD (Int.toNat a0) ((0:Int),((0:Int),((0:Int),((0:Int),()))))),(a1,()))).2.2).1)) then
 (some (((f90 ((Vx.k_rows.getD (Int.toNat a0) ((0:Int),((0:Int),((0:Int),((0:Int),()))))),(a1,()))).1,(((shrI .u64 (f90 ((Vx.k_rows.getD (Int.toNat a0) ((0:Int),((0:Int),((0:Int),((0:Int),()))))),(a1,()))).2.2.1 (f92 (f90 ((Vx.k_rows.getD (Int.toNat a0) ((0:Int),((0:Int),((0:Int),((0:Int),()))))),(a1,()))).2.2).1)::[]),((IntKind.wrap .i64 ((IntKind.wrap .i64 ((IntKind.wrap .i64 ((IntKind.wrap .i64 ((IntKind.wrap .i64 ((IntKind.wrap .i64 (1:Int))-(1:Int)))+(Vx.k_rows.getD (Int.toNat a0) ((0:Int),((0:Int),((0:Int),((0:Int),()))))).2.2.1))-(Vx.k_rows.getD (Int.toNat a0) ((0:Int),((0:Int),((0:Int),((0:Int),()))))).2.1))+(1:Int)))+(f92 (f90 ((Vx.k_rows.getD (Int.toNat a0) ((0:Int),((0:Int),((0:Int),((0:Int),()))))),(a1,()))).2.2).1)),()))),((0:Int),())))
 else none)
 else none)
 else bif (decide ((0:Int)≤(IntKind.wrap .i64 ((Vx.k_rows.getD (Int.toNat a0) ((0:Int),((0:Int),((0:Int),((0:Int),()))))).2.1-(1:Int))))) then
 (bif ((orI .u64 (f90 ((Vx.k_rows.getD (Int.toNat a0) ((0:Int),((0:Int),((0:Int),((0:Int),()))))),(a1,()))).2.2.1 (shlI .u64 (1:Int) (IntKind.wrap .i64 ((Vx.k_rows.getD (Int.toNat a0) ((0:Int),((0:Int),((0:Int),((0:Int),()))))).2.1-(1:Int)))))==(0:Int)) then
 (some ((false,([],((0:Int),()))),((0:Int),())))
 else bif (p92 ((orI .u64 (f90 ((Vx.k_rows.getD (Int.toNat a0) ((0:Int),((0:Int),((0:Int),((0:Int),()))))),(a1,()))).2.2.1 (shlI .u64 (1:Int) (IntKind.wrap .i64 ((Vx.k_rows.getD (Int.toNat a0) ((0:Int),((0:Int),((0:Int),((0:Int),()))))).2.1-(1:Int))))),())) then
 (bif (decide ((0:Int)≤(f92 ((orI .u64 (f90 ((Vx.k_rows.getD (Int.toNat a0) ((0:Int),((0:Int),((0:Int),((0:Int),()))))),(a1,()))).2.2.1 (shlI .u64 (1:Int) (IntKind.wrap .i64 ((Vx.k_rows.getD (Int.toNat a0) ((0:Int),((0:Int),((0:Int),((0:Int),()))))).2.1-(1:Int))))),())).1)) then
 (some (((f90 ((Vx.k_rows.getD (Int.toNat a0) ((0:Int),((0:Int),((0:Int),((0:Int),()))))),(a1,()))).1,(((shrI .u64 (orI .u64 (f90 ((Vx.k_rows.getD (Int.toNat a0) ((0:Int),((0:Int),((0:Int),((0:Int),()))))),(a1,()))).2.2.1 (shlI .u64 (1:Int) (IntKind.wrap .i64 ((Vx.k_rows.getD (Int.toNat a0) ((0:Int),((0:Int),((0:Int),((0:Int),()))))).2.1-(1:Int))))) (f92 ((orI .u64 (f90 ((Vx.k_rows.getD (Int.toNat a0) ((0:Int),((0:Int),((0:Int),((0:Int),()))))),(a1,()))).2.2.1 (shlI .u64 (1:Int) (IntKind.wrap .i64 ((Vx.k_rows.getD (Int.toNat a0) ((0:Int),((0:Int),((0:Int),((0:Int),()))))).2.1-(1:Int))))),())).1)::[]),((IntKind.wrap .i64 ((IntKind.wrap .i64 ((IntKind.wrap .i64 ((IntKind.wrap .i64 ((IntKind.wrap .i64 ((IntKind.wrap .i64 (f90 ((Vx.k_rows.getD (Int.toNat a0) ((0:Int),((0:Int),((0:Int),((0:Int),()))))),(a1,()))).2.1)-(1:Int)))+(Vx.k_rows.getD (Int.toNat a0) ((0:Int),((0:Int),((0:Int),((0:Int),()))))).2.2.1))-(Vx.k_rows.getD (Int.toNat a0) ((0:Int),((0:Int),((0:Int),((0:Int),()))))).2.1))+(1:Int)))+(f92 ((orI .u64 (f90 ((Vx.k_rows.getD (Int.toNat a0) ((0:Int),((0:Int),((0:Int),((0:Int),()))))),(a1,()))).2.2.1 (shlI .u64 (1:Int) (IntKind.wrap .i64 ((Vx.k_rows.getD (Int.toNat a0) ((0:Int),((0:Int),((0:Int),((0:Int),()))))).2.1-(1:Int))))),())).1)),()))),((0:Int),())))
 else none)
 else none)
 else none)
 else none)
 else none)
 else none)
 else none
theorem r40 (p66:DenS I66→Bool) (f66:DenS I66→DenS O66) (p90:DenS I90→Bool) (f90:DenS I90→DenS O90) (p91:DenS I91→Bool) (f91:DenS I91→DenS O91) (p92:DenS I92→Bool) (f92:DenS I92→DenS O92) (a0:Den (.int .i64)) (a1:Den (.int .u64)) :
  run { P:=Tryd.prog,sums:=[(48,⟨I66,O66,p66,f66⟩),(63,⟨I90,O90,p90,f90⟩),(54,⟨I91,O91,p91,f91⟩),(65,⟨I92,O92,p92,f92⟩)],loops:=[],globs:=G1 } 9 29 Tryd.f29 I40 O40 (a0,a1,())=t40 p66 f66 p90 f90 p91 f91 p92 f92 a0 a1:=by kernel_rfl
noncomputable def T40 (x:DenS I40):Option (DenS O40):=t40 S66.pre S66.F S90.pre S90.F S91.pre S91.F S92.pre S92.F x.1 x.2.1
noncomputable def C40:Cfg:={ P:=Tryd.prog,sums:=[(48,S66),(63,S90),(54,S91),(65,S92)],loops:=[],globs:=G1 }
noncomputable def S40:Sum:=sumOf I40 O40 T40 (DenS.dflt O40)
theorem S40_sound:Sound Tryd.prog G1 29 S40 :=
 fn_sound C40 9 29 Tryd.f29 mixedOk (by kernel_rfl) (by kernel_rfl) (by kernel_rfl) ⟨S66_sound,⟨S90_sound,⟨S91_sound,⟨S92_sound,trivial⟩⟩⟩⟩ trivial I40 O40 T40 _ (fun x=>r40 S66.pre S66.F S90.pre S90.F S91.pre S91.F S92.pre S92.F x.1 x.2.1)
abbrev I103:Sig:=[(true,.pair (.bool) (.pair (.slice (.int .u64)) (.pair (.int .i64) (.unit))))]
abbrev O103:Sig:=[(false,.int .i64)]
noncomputable def t103 (a0:Den (.pair (.bool) (.pair (.slice (.int .u64)) (.pair (.int .i64) (.unit))))):Option (DenS O103) :=
 bif (decide ((a0.2.1.length:Int)>(1024:Int))) then
 (some ((5:Int),()))
 else bif ((decide (a0.2.2.1<(-(40000:Int))))||(decide (a0.2.2.1>(40000:Int)))) then
 (some ((30:Int),()))
 else some ((0:Int),())
theorem r103 (a0:Den (.pair (.bool) (.pair (.slice (.int .u64)) (.pair (.int .i64) (.unit))))) :
  run { P:=Tryd.prog,sums:=[],loops:=[],globs:=G1 } 9 113 Tryd.f113 I103 O103 (a0,())=t103 a0:=by kernel_rfl
noncomputable def T103 (x:DenS I103):Option (DenS O103):=t103 x.1
noncomputable def C103:Cfg:={ P:=Tryd.prog,sums:=[],loops:=[],globs:=G1 }
noncomputable def S103:Sum:=sumOf I103 O103 T103 (DenS.dflt O103)
theorem S103_sound:Sound Tryd.prog G1 113 S103 :=
 fn_sound C103 9 113 Tryd.f113 mixedOk (by kernel_rfl) (by kernel_rfl) (by kernel_rfl) trivial trivial I103 O103 T103 _ (fun x=>r103 x.1)
abbrev I100:Sig:=[(true,.pair (.bool) (.pair (.slice (.int .u64)) (.pair (.int .i64) (.unit))))]
abbrev O100:Sig:=[(true,.pair (.bool) (.pair (.slice (.int .u64)) (.pair (.int .i64) (.unit))))]
abbrev P100_5:Pat:=⟨42,[(4,.one (.v .i64)),(3,.one (.sl (.int .u64))),(1,.one (.ptr 0 0)),(2,.one (.ptr 1 0))],[.raw [.bool,.sl (.int .u64),.v .i64],.raw [.bool,.sl (.int .u64),.v .i64]]⟩
abbrev A100_5:List (Nat×Shape):=[]
abbrev X100_5:List (Nat×Pat):=[(0,⟨42,[(4,.one (.v .i64)),(3,.one (.sl (.int .u64))),(1,.one (.ptr 0 0)),(2,.one (.ptr 1 0))],[.raw [.bool,.sl (.int .u64),.v .i64],.raw [.bool,.sl (.int .u64),.v .i64]]⟩)]
abbrev Q100_5:Option Pat:=none
noncomputable def h100_5 (p102:DenS I102→Bool) (f102:DenS I102→DenS O102) (p92:DenS I92→Bool) (f92:DenS I92→DenS O92) (p141:DenS I141→Bool) (f141:DenS I141→DenS O141) {R:Type} (L:Pat.D P100_5→Option R) (e:OutT X100_5 Q100_5→Option R) (x:Pat.D P100_5):Option R :=
 bif ((decide ((0:Int)≤(quoI .i64 x.1.1 (64:Int))))&&(decide ((quoI .i64 x.1.1 (64:Int))<(x.1.2.1.length:Int)))) then
 (bif ((x.1.2.1.getD (Int.toNat (quoI .i64 x.1.1 (64:Int))) (0:Int))==(0:Int)) then
 ((L (((IntKind.wrap .i64 (x.1.1+(64:Int))),(x.1.2.1,((),((),())))),x.2)))
 else (e (.inl ((x.1.1,(x.1.2.1,((),((),())))),x.2))))
 else none
theorem s100_5 (p102:DenS I102→Bool) (f102:DenS I102→DenS O102) (p92:DenS I92→Bool) (f92:DenS I92→DenS O92) (p141:DenS I141→Bool) (f141:DenS I141→DenS O141) (w100_5:Pat.D P100_5→Option (OutT X100_5 Q100_5)) (d:Nat) (R:Type) (L:Pat.D P100_5→Option R) (e:OutT X100_5 Q100_5→Option R) (x:Pat.D P100_5) :
  lStep { P:=Tryd.prog,sums:=[(99,⟨I102,O102,p102,f102⟩),(65,⟨I92,O92,p92,f92⟩),(111,⟨I141,O141,p141,f141⟩)],loops:=[(85,5,LoopSpec.of P100_5 A100_5 X100_5 Q100_5 w100_5)],globs:=G1 } (d+2) 85 (bodyOf Tryd.f85 5) P100_5 A100_5 X100_5 Q100_5 (R:=R) L e x=h100_5 p102 f102 p92 f92 p141 f141 L e x:=by kernel_rfl
theorem m100_5 (p102:DenS I102→Bool) (f102:DenS I102→DenS O102) (p92:DenS I92→Bool) (f92:DenS I92→DenS O92) (p141:DenS I141→Bool) (f141:DenS I141→DenS O141):Par fun L e x=>h100_5 p102 f102 p92 f92 p141 f141 L e x:=by
 intro A B rel L L' e e' h0 hL he x
 unfold h100_5
 repeat' (first | exact h0 | exact hL _ | exact he _ | apply rel_cond | (apply rel_obind h0; intro _) | (apply rel_obind2 <;> intro _))
noncomputable def t100 (p102:DenS I102→Bool) (f102:DenS I102→DenS O102) (p92:DenS I92→Bool) (f92:DenS I92→DenS O92) (p141:DenS I141→Bool) (f141:DenS I141→DenS O141) (w100_5:Pat.D P100_5→Option (OutT X100_5 Q100_5)) (a0:Den (.pair (.bool) (.pair (.slice (.int .u64)) (.pair (.int .i64) (.unit))))):Option (DenS O100) :=
 bif (p102 (a0.2.1,())) then
 (bif (((f102 (a0.2.1,())).1.length:Int)==(0:Int)) then
 (some ((false,([],((0:Int),()))),()))
 else Vx.obind (w100_5 (((0:Int),((f102 (a0.2.1,())).1,((),((),())))),((a0.1,a0.2),((false,([],((0:Int),()))),())))) fun y2 =>
 Vx.obind2 y2 (fun y3 =>
 bif ((decide ((0:Int)≤(quoI .i64 y3.1.1 (64:Int))))&&(decide ((quoI .i64 y3.1.1 (64:Int))<(y3.1.2.1.length:Int)))) then
 (bif (p92 ((y3.1.2.1.getD (Int.toNat (quoI .i64 y3.1.1 (64:Int))) (0:Int)),())) then
 (bif (p141 (y3.1.2.1,((IntKind.wrap .i64 (y3.1.1+(f92 ((y3.1.2.1.getD (Int.toNat (quoI .i64 y3.1.1 (64:Int))) (0:Int)),())).1)),()))) then
 (some ((y3.2.1.1,((f141 (y3.1.2.1,((IntKind.wrap .i64 (y3.1.1+(f92 ((y3.1.2.1.getD (Int.toNat (quoI .i64 y3.1.1 (64:Int))) (0:Int)),())).1)),()))).1,((IntKind.wrap .i64 (y3.2.1.2.2.1+(IntKind.wrap .i64 (y3.1.1+(f92 ((y3.1.2.1.getD (Int.toNat (quoI .i64 y3.1.1 (64:Int))) (0:Int)),())).1)))),()))),()))
 else none)
 else none)
 else none) (fun z3 =>
 none))
 else none
theorem r100 (p102:DenS I102→Bool) (f102:DenS I102→DenS O102) (p92:DenS I92→Bool) (f92:DenS I92→DenS O92) (p141:DenS I141→Bool) (f141:DenS I141→DenS O141) (w100_5:Pat.D P100_5→Option (OutT X100_5 Q100_5)) (a0:Den (.pair (.bool) (.pair (.slice (.int .u64)) (.pair (.int .i64) (.unit))))) :
  run { P:=Tryd.prog,sums:=[(99,⟨I102,O102,p102,f102⟩),(65,⟨I92,O92,p92,f92⟩),(111,⟨I141,O141,p141,f141⟩)],loops:=[(85,5,LoopSpec.of P100_5 A100_5 X100_5 Q100_5 w100_5)],globs:=G1 } 9 85 Tryd.f85 I100 O100 (a0,())=t100 p102 f102 p92 f92 p141 f141 w100_5 a0:=by kernel_rfl
noncomputable def W100_5:P100_5.D→Option (OutT X100_5 Q100_5):=lfix fun L=>h100_5 S102.pre S102.F S92.pre S92.F S141.pre S141.F L some
noncomputable def T100 (x:DenS I100):Option (DenS O100):=t100 S102.pre S102.F S92.pre S92.F S141.pre S141.F W100_5 x.1
noncomputable def C100:Cfg:={ P:=Tryd.prog,sums:=[(99,S102),(65,S92),(111,S141)],loops:=[(85,5,LoopSpec.of P100_5 A100_5 X100_5 Q100_5 W100_5)],globs:=G1 }
noncomputable def S100:Sum:=sumOf I100 O100 T100 (DenS.dflt O100)
theorem S100_sound:Sound Tryd.prog G1 85 S100 :=
 fn_sound C100 9 85 Tryd.f85 mixedOk (by kernel_rfl) (by kernel_rfl) (by kernel_rfl) ⟨S102_sound,⟨S92_sound,⟨S141_sound,trivial⟩⟩⟩ ⟨rfl,fun d=>loopOk_of (fun L e x=>h100_5 S102.pre S102.F S92.pre S92.F S141.pre S141.F L e x) (m100_5 S102.pre S102.F S92.pre S92.F S141.pre S141.F) (fun R L e x=>s100_5 S102.pre S102.F S92.pre S92.F S141.pre S141.F W100_5 d R L e x),trivial⟩ I100 O100 T100 _ (fun x=>r100 S102.pre S102.F S92.pre S92.F S141.pre S141.F W100_5 x.1)
abbrev I104:Sig:=[(true,.pair (.bool) (.pair (.slice (.int .u64)) (.pair (.int .i64) (.unit))))]
abbrev O104:Sig:=[(true,.pair (.bool) (.pair (.slice (.int .u64)) (.pair (.int .i64) (.unit)))),(false,.int .i64)]
noncomputable def t104 (p100:DenS I100→Bool) (f100:DenS I100→DenS O100) (a0:Den (.pair (.bool) (.pair (.slice (.int .u64)) (.pair (.int .i64) (.unit))))):Option (DenS O104) :=
 bif (p100 ((a0.1,a0.2),())) then
 (bif (decide (((f100 ((a0.1,a0.2),())).1.2.1.length:Int)>(1024:Int))) then
 (some ((false,([],((0:Int),()))),((5:Int),())))
 else bif ((decide ((f100 ((a0.1,a0.2),())).1.2.2.1<(-(40000:Int))))||(decide ((f100 ((a0.1,a0.2),())).1.2.2.1>(40000:Int)))) then
 (some ((false,([],((0:Int),()))),((30:Int),())))
 else some ((f100 ((a0.1,a0.2),())).1,((0:Int),())))
 else none
theorem r104 (p100:DenS I100→Bool) (f100:DenS I100→DenS O100) (a0:Den (.pair (.bool) (.pair (.slice (.int .u64)) (.pair (.int .i64) (.unit))))) :
  run { P:=Tryd.prog,sums:=[(85,⟨I100,O100,p100,f100⟩)],loops:=[],globs:=G1 } 9 87 Tryd.f87 I104 O104 (a0,())=t104 p100 f100 a0:=by kernel_rfl
noncomputable def T104 (x:DenS I104):Option (DenS O104):=t104 S100.pre S100.F x.1
noncomputable def C104:Cfg:={ P:=Tryd.prog,sums:=[(85,S100)],loops:=[],globs:=G1 }
noncomputable def S104:Sum:=sumOf I104 O104 T104 (DenS.dflt O104)
theorem S104_sound:Sound Tryd.prog G1 87 S104 :=
 fn_sound C104 9 87 Tryd.f87 mixedOk (by kernel_rfl) (by kernel_rfl) (by kernel_rfl) ⟨S100_sound,trivial⟩ trivial I104 O104 T104 _ (fun x=>r104 S100.pre S100.F x.1)
abbrev I311:Sig:=[(false,.int .i64),(false,.int .i64),(false,.slice (.int .u64))]
abbrev O311:Sig:=[(true,.pair (.int .i64) (.pair (.int .i64) (.pair (.int .i64) (.pair (.int .i64) (.unit))))),(false,.int .i64)]
abbrev P311_7:Pat:=⟨44,[(30,.one (.v .i64)),(29,.one (.sl (.int .u64))),(0,.one (.v .i64)),(31,.one (.v .i64)),(8,.one (.ptr 1 0)),(6,.one (.ptr 0 0))],[.raw [.v .i64,.v .i64,.v .i64,.v .i64],.raw [.v .i64,.v .i64,.v .i64,.v .i64]]⟩
abbrev A311_7:List (Nat×Shape):=[]
abbrev X311_7:List (Nat×Pat):=[(0,⟨44,[(8,.one (.ptr 1 0)),(6,.one (.ptr 0 0))],[.raw [.v .i64,.v .i64,.v .i64,.v .i64],.raw [.v .i64,.v .i64,.v .i64,.v .i64]]⟩)]
abbrev Q311_7:Option Pat:=(some ⟨44,[(6,.one (.ptr 0 0)),(7,.one (.v .i64))],[.raw [.v .i64,.v .i64,.v .i64,.v .i64]]⟩)
noncomputable def h311_7 (p69:DenS I69→Bool) (f69:DenS I69→DenS O69) (p66:DenS I66→Bool) (f66:DenS I66→DenS O66) {R:Type} (L:Pat.D P311_7→Option R) (e:OutT X311_7 Q311_7→Option R) (x:Pat.D P311_7):Option R :=
 let e2_:=(x.1.2.2.1,((x.1.2.1.getD (Int.toNat x.1.2.2.2.1) (0:Int)),()))
 let e1_:=(f66 e2_)
 bif (decide (x.1.2.2.2.1<x.1.1)) then
 (bif ((decide ((0:Int)≤x.1.2.2.2.1))&&(decide (x.1.2.2.2.1<(x.1.2.1.length:Int)))) then
 (bif (p66 e2_) then
 (bif (e1_.1 != (0:Int)) then
 ((e (.inr (((),e1_),x.2.2))))
 else (L ((x.1.1,(x.1.2.1,(x.1.2.2.1,((IntKind.wrap .i64 (x.1.2.2.2.1+(1:Int))),((),((),())))))),x.2)))
 else none)
 else none)
 else (e (.inl (((),((),())),x.2)))
theorem s311_7 (p69:DenS I69→Bool) (f69:DenS I69→DenS O69) (p66:DenS I66→Bool) (f66:DenS I66→DenS O66) (w311_7:Pat.D P311_7→Option (OutT X311_7 Q311_7)) (d:Nat) (R:Type) (L:Pat.D P311_7→Option R) (e:OutT X311_7 Q311_7→Option R) (x:Pat.D P311_7) :
  lStep { P:=Tryd.prog,sums:=[(22,⟨I69,O69,p69,f69⟩),(48,⟨I66,O66,p66,f66⟩)],loops:=[(66,7,LoopSpec.of P311_7 A311_7 X311_7 Q311_7 w311_7)],globs:=G1 } (d+2) 66 (bodyOf Tryd.f66 7) P311_7 A311_7 X311_7 Q311_7 (R:=R) L e x=h311_7 p69 f69 p66 f66 L e x:=by kernel_rfl
theorem m311_7 (p69:DenS I69→Bool) (f69:DenS I69→DenS O69) (p66:DenS I66→Bool) (f66:DenS I66→DenS O66):Par fun L e x=>h311_7 p69 f69 p66 f66 L e x:=by
 intro A B rel L L' e e' h0 hL he x
 unfold h311_7
 repeat' (first | exact h0 | exact hL _ | exact he _ | apply rel_cond | (apply rel_obind h0; intro _) | (apply rel_obind2 <;> intro _))
noncomputable def t311 (p69:DenS I69→Bool) (f69:DenS I69→DenS O69) (p66:DenS I66→Bool) (f66:DenS I66→DenS O66) (w311_7:Pat.D P311_7→Option (OutT X311_7 Q311_7)) (a0:Den (.int .i64)) (a1:Den (.int .i64)) (a2:Den (.slice (.int .u64))):Option (DenS O311) :=
 bif (p69 (a0,())) then
 (bif ((f69 (a0,())).2.1 != (0:Int)) then
 (some (f69 (a0,())))
 else bif ((decide (a1<(0:Int)))||(decide (a1>(5:Int)))) then
 (some ((f69 (a0,())).1,((3:Int),())))
 else Vx.obind (w311_7 (((a2.length:Int),(a2,(a0,((0:Int),((),((),())))))),(((0:Int),((0:Int),((0:Int),((0:Int),())))),((f69 (a0,())).1,())))) fun y3 =>
 Vx.obind2 y3 (fun y4 =>
 some (y4.2.2.1,((0:Int),()))) (fun z4 =>
 some (z4.2.1,z4.1.2)))
 else none
theorem r311 (p69:DenS I69→Bool) (f69:DenS I69→DenS O69) (p66:DenS I66→Bool) (f66:DenS I66→DenS O66) (w311_7:Pat.D P311_7→Option (OutT X311_7 Q311_7)) (a0:Den (.int .i64)) (a1:Den (.int .i64)) (a2:Den (.slice (.int .u64))) :
  run { P:=Tryd.prog,sums:=[(22,⟨I69,O69,p69,f69⟩),(48,⟨I66,O66,p66,f66⟩)],loops:=[(66,7,LoopSpec.of P311_7 A311_7 X311_7 Q311_7 w311_7)],globs:=G1 } 9 66 Tryd.f66 I311 O311 (a0,a1,a2,())=t311 p69 f69 p66 f66 w311_7 a0 a1 a2:=by kernel_rfl
noncomputable def W311_7:P311_7.D→Option (OutT X311_7 Q311_7):=lfix fun L=>h311_7 S69.pre S69.F S66.pre S66.F L some
noncomputable def T311 (x:DenS I311):Option (DenS O311):=t311 S69.pre S69.F S66.pre S66.F W311_7 x.1 x.2.1 x.2.2.1
noncomputable def C311:Cfg:={ P:=Tryd.prog,sums:=[(22,S69),(48,S66)],loops:=[(66,7,LoopSpec.of P311_7 A311_7 X311_7 Q311_7 W311_7)],globs:=G1 }
noncomputable def S311:Sum:=sumOf I311 O311 T311 (DenS.dflt O311)
theorem S311_sound:Sound Tryd.prog G1 66 S311 :=
 fn_sound C311 9 66 Tryd.f66 mixedOk (by kernel_rfl) (by kernel_rfl) (by kernel_rfl) ⟨S69_sound,⟨S66_sound,trivial⟩⟩ ⟨rfl,fun d=>loopOk_of (fun L e x=>h311_7 S69.pre S69.F S66.pre S66.F L e x) (m311_7 S69.pre S69.F S66.pre S66.F) (fun R L e x=>s311_7 S69.pre S69.F S66.pre S66.F W311_7 d R L e x),trivial⟩ I311 O311 T311 _ (fun x=>r311 S69.pre S69.F S66.pre S66.F W311_7 x.1 x.2.1 x.2.2.1)
abbrev I312:Sig:=[(false,.int .i64),(false,.int .i64)]
abbrev O312:Sig:=[(false,.int .u64),(false,.int .i64),(false,.bool)]
noncomputable def t312 (p70:DenS I70→Bool) (f70:DenS I70→DenS O70) (a0:Den (.int .i64)) (a1:Den (.int .i64)):Option (DenS O312) :=
 bif (p70 (a0,())) then
 (bif (a1==(1:Int)) then
 (some ((f70 (a0,())).1,((0:Int),(true,()))))
 else bif (a1==(0:Int)) then
 (bif (a1==(0:Int)) then
 (some ((f70 (a0,())).1,((1:Int),(true,()))))
 else some ((0:Int),((0:Int),(false,()))))
 else bif (a1==(2:Int)) then
 (bif (a1==(2:Int)) then
 (some ((f70 (a0,())).1,((1:Int),(true,()))))
 else some ((0:Int),((0:Int),(false,()))))
 else bif (a1==(3:Int)) then
 (bif (a1==(3:Int)) then
 (some ((f70 (a0,())).1,((1:Int),(true,()))))
 else some ((0:Int),((0:Int),(false,()))))
 else bif (a1==(4:Int)) then
 (some ((f70 (a0,())).1,((1:Int),(true,()))))
 else some ((0:Int),((0:Int),(false,()))))
 else none
theorem r312 (p70:DenS I70→Bool) (f70:DenS I70→DenS O70) (a0:Den (.int .i64)) (a1:Den (.int .i64)) :
  run { P:=Tryd.prog,sums:=[(45,⟨I70,O70,p70,f70⟩)],loops:=[],globs:=G1 } 9 67 Tryd.f67 I312 O312 (a0,a1,())=t312 p70 f70 a0 a1:=by kernel_rfl
noncomputable def T312 (x:DenS I312):Option (DenS O312):=t312 S70.pre S70.F x.1 x.2.1
noncomputable def C312:Cfg:={ P:=Tryd.prog,sums:=[(45,S70)],loops:=[],globs:=G1 }
noncomputable def S312:Sum:=sumOf I312 O312 T312 (DenS.dflt O312)
theorem S312_sound:Sound Tryd.prog G1 67 S312 :=
 fn_sound C312 9 67 Tryd.f67 mixedOk (by kernel_rfl) (by kernel_rfl) (by kernel_rfl) ⟨S70_sound,trivial⟩ trivial I312 O312 T312 _ (fun x=>r312 S70.pre S70.F x.1 x.2.1)
abbrev I313:Sig:=[(false,.int .i64),(true,.pair (.int .i64) (.pair (.int .i64) (.pair (.int .i64) (.pair (.int .i64) (.unit))))),(false,.int .u64)]
abbrev O313:Sig:=[(false,.int .u64),(false,.int .i64)]
noncomputable def t313 (p98:DenS I98→Bool) (f98:DenS I98→DenS O98) (a0:Den (.int .i64)) (a1:Den (.pair (.int .i64) (.pair (.int .i64) (.pair (.int .i64) (.pair (.int .i64) (.unit)))))) (a2:Den (.int .u64)):Option (DenS O313) :=
 let e1_:=(IntKind.wrap .i64 (a1.2.1-(1:Int)))
 bif (p98 (a0,(a2,()))) then
 (bif ((f98 (a0,(a2,()))).2.1==(0:Int)) then
 (some ((f98 (a0,(a2,()))).2.2.1,((IntKind.wrap .i64 ((IntKind.wrap .i64 ((IntKind.wrap .i64 ((IntKind.wrap .i64 ((IntKind.wrap .i64 (1:Int))-(1:Int)))+a1.2.2.1))-a1.2.1))+(1:Int))),())))
 else bif (decide ((0:Int)≤e1_)) then
 (some ((orI .u64 (f98 (a0,(a2,()))).2.2.1 (shlI .u64 (1:Int) e1_)),((IntKind.wrap .i64 ((IntKind.wrap .i64 ((IntKind.wrap .i64 ((IntKind.wrap .i64 ((IntKind.wrap .i64 (f98 (a0,(a2,()))).2.1)-(1:Int)))+a1.2.2.1))-a1.2.1))+(1:Int))),())))
 else none)
 else none
theorem r313 (p98:DenS I98→Bool) (f98:DenS I98→DenS O98) (a0:Den (.int .i64)) (a1:Den (.pair (.int .i64) (.pair (.int .i64) (.pair (.int .i64) (.pair (.int .i64) (.unit)))))) (a2:Den (.int .u64)) :
  run { P:=Tryd.prog,sums:=[(95,⟨I98,O98,p98,f98⟩)],loops:=[],globs:=G1 } 9 68 Tryd.f68 I313 O313 (a0,a1,a2,())=t313 p98 f98 a0 a1 a2:=by kernel_rfl
noncomputable def T313 (x:DenS I313):Option (DenS O313):=t313 S98.pre S98.F x.1 x.2.1 x.2.2.1
noncomputable def C313:Cfg:={ P:=Tryd.prog,sums:=[(95,S98)],loops:=[],globs:=G1 }
noncomputable def S313:Sum:=sumOf I313 O313 T313 (DenS.dflt O313)
theorem S313_sound:Sound Tryd.prog G1 68 S313 :=
 fn_sound C313 9 68 Tryd.f68 mixedOk (by kernel_rfl) (by kernel_rfl) (by kernel_rfl) ⟨S98_sound,trivial⟩ trivial I313 O313 T313 _ (fun x=>r313 S98.pre S98.F x.1 x.2.1 x.2.2.1)
abbrev I314:Sig:=[(true,.pair (.int .u64) (.pair (.int .u64) (.unit)))]
abbrev O314:Sig:=[(false,.int .i64)]
noncomputable def t314 (p178:DenS I178→Bool) (f178:DenS I178→DenS O178) (a0:Den (.pair (.int .u64) (.pair (.int .u64) (.unit)))):Option (DenS O314) :=
 bif (a0.1 != (0:Int)) then
 (bif (p178 (a0.1,())) then
 (some ((IntKind.wrap .i64 ((64:Int)+(f178 (a0.1,())).1)),()))
 else none)
 else bif (p178 a0.2) then
 (some (f178 a0.2))
 else none
theorem r314 (p178:DenS I178→Bool) (f178:DenS I178→DenS O178) (a0:Den (.pair (.int .u64) (.pair (.int .u64) (.unit)))) :
  run { P:=Tryd.prog,sums:=[(103,⟨I178,O178,p178,f178⟩)],loops:=[],globs:=G1 } 9 69 Tryd.f69 I314 O314 (a0,())=t314 p178 f178 a0:=by kernel_rfl
noncomputable def T314 (x:DenS I314):Option (DenS O314):=t314 S178.pre S178.F x.1
noncomputable def C314:Cfg:={ P:=Tryd.prog,sums:=[(103,S178)],loops:=[],globs:=G1 }
noncomputable def S314:Sum:=sumOf I314 O314 T314 (DenS.dflt O314)
theorem S314_sound:Sound Tryd.prog G1 69 S314 :=
 fn_sound C314 9 69 Tryd.f69 mixedOk (by kernel_rfl) (by kernel_rfl) (by kernel_rfl) ⟨S178_sound,trivial⟩ trivial I314 O314 T314 _ (fun x=>r314 S178.pre S178.F x.1)
abbrev I317:Sig:=[(true,.pair (.int .u64) (.pair (.int .u64) (.unit)))]
abbrev O317:Sig:=[(false,.int .u64),(false,.bool)]
abbrev P317_2:Pat:=⟨28,[(6,.one (.v .i64)),(2,.one (.v .u64)),(1,.one (.ptr 0 0))],[.raw [.v .u64,.v .u64]]⟩
abbrev A317_2:List (Nat×Shape):=[]
abbrev X317_2:List (Nat×Pat):=[(0,⟨28,[(2,.one (.v .u64)),(1,.one (.ptr 0 0))],[.raw [.v .u64,.v .u64]]⟩)]
abbrev Q317_2:Option Pat:=none
noncomputable def h317_2 (p123:DenS I123→Bool) (f123:DenS I123→DenS O123) (p316:DenS I316→Bool) (f316:DenS I316→DenS O316) {R:Type} (L:Pat.D P317_2→Option R) (e:OutT X317_2 Q317_2→Option R) (x:Pat.D P317_2):Option R :=
 let e5_:=(IntKind.wrap .i64 ((63:Int)-x.1.1))
 let e4_:=(orI .u64 x.1.2.1 (shlI .u64 (1:Int) e5_))
 let e1_:=((f316 (e4_,(e4_,()))).1,x.2)
 let e2_:=e4_
 let e3_:=(IntKind.wrap .i64 (x.1.1+(1:Int)))
 bif (decide (x.1.1<(64:Int))) then
 (bif (decide ((0:Int)≤e5_)) then
 (bif (p316 (e2_,(e2_,()))) then
 (bif (p123 e1_) then
 (bif (decide ((f123 e1_).1≤(0:Int))) then
 ((L ((e3_,(e2_,((),()))),x.2)))
 else (L ((e3_,(x.1.2.1,((),()))),x.2)))
 else none)
 else none)
 else none)
 else (e (.inl ((x.1.2.1,((),())),x.2)))
theorem s317_2 (p123:DenS I123→Bool) (f123:DenS I123→DenS O123) (p316:DenS I316→Bool) (f316:DenS I316→DenS O316) (w317_2:Pat.D P317_2→Option (OutT X317_2 Q317_2)) (d:Nat) (R:Type) (L:Pat.D P317_2→Option R) (e:OutT X317_2 Q317_2→Option R) (x:Pat.D P317_2) :
  lStep { P:=Tryd.prog,sums:=[(93,⟨I123,O123,p123,f123⟩),(62,⟨I316,O316,p316,f316⟩)],loops:=[(70,2,LoopSpec.of P317_2 A317_2 X317_2 Q317_2 w317_2)],globs:=G1 } (d+2) 70 (bodyOf Tryd.f70 2) P317_2 A317_2 X317_2 Q317_2 (R:=R) L e x=h317_2 p123 f123 p316 f316 L e x:=by kernel_rfl
theorem m317_2 (p123:DenS I123→Bool) (f123:DenS I123→DenS O123) (p316:DenS I316→Bool) (f316:DenS I316→DenS O316):Par fun L e x=>h317_2 p123 f123 p316 f316 L e x:=by
 intro A B rel L L' e e' h0 hL he x
 unfold h317_2
 repeat' (first | exact h0 | exact hL _ | exact he _ | apply rel_cond | (apply rel_obind h0; intro _) | (apply rel_obind2 <;> intro _))
noncomputable def t317 (p123:DenS I123→Bool) (f123:DenS I123→DenS O123) (p316:DenS I316→Bool) (f316:DenS I316→DenS O316) (w317_2:Pat.D P317_2→Option (OutT X317_2 Q317_2)) (a0:Den (.pair (.int .u64) (.pair (.int .u64) (.unit)))):Option (DenS O317) :=
 Vx.obind (w317_2 (((0:Int),((0:Int),((),()))),((a0.1,a0.2),()))) fun y0 =>
 Vx.obind2 y0 (fun y1 =>
 bif (p316 (y1.1.1,(y1.1.1,()))) then
 (some (y1.1.1,((((f316 (y1.1.1,(y1.1.1,()))).1.1==y1.2.1.1)&&((f316 (y1.1.1,(y1.1.1,()))).1.2.1==y1.2.1.2.1)),())))
 else none) (fun z1 =>
 none)
theorem r317 (p123:DenS I123→Bool) (f123:DenS I123→DenS O123) (p316:DenS I316→Bool) (f316:DenS I316→DenS O316) (w317_2:Pat.D P317_2→Option (OutT X317_2 Q317_2)) (a0:Den (.pair (.int .u64) (.pair (.int .u64) (.unit)))) :
  run { P:=Tryd.prog,sums:=[(93,⟨I123,O123,p123,f123⟩),(62,⟨I316,O316,p316,f316⟩)],loops:=[(70,2,LoopSpec.of P317_2 A317_2 X317_2 Q317_2 w317_2)],globs:=G1 } 9 70 Tryd.f70 I317 O317 (a0,())=t317 p123 f123 p316 f316 w317_2 a0:=by kernel_rfl
noncomputable def W317_2:P317_2.D→Option (OutT X317_2 Q317_2):=lfix fun L=>h317_2 S123.pre S123.F S316.pre S316.F L some
noncomputable def T317 (x:DenS I317):Option (DenS O317):=t317 S123.pre S123.F S316.pre S316.F W317_2 x.1
noncomputable def C317:Cfg:={ P:=Tryd.prog,sums:=[(93,S123),(62,S316)],loops:=[(70,2,LoopSpec.of P317_2 A317_2 X317_2 Q317_2 W317_2)],globs:=G1 }
noncomputable def S317:Sum:=sumOf I317 O317 T317 (DenS.dflt O317)
theorem S317_sound:Sound Tryd.prog G1 70 S317 :=
 fn_sound C317 9 70 Tryd.f70 mixedOk (by kernel_rfl) (by kernel_rfl) (by kernel_rfl) ⟨S123_sound,⟨S316_sound,trivial⟩⟩ ⟨rfl,fun d=>loopOk_of (fun L e x=>h317_2 S123.pre S123.F S316.pre S316.F L e x) (m317_2 S123.pre S123.F S316.pre S316.F) (fun R L e x=>s317_2 S123.pre S123.F S316.pre S316.F W317_2 d R L e x),trivial⟩ I317 O317 T317 _ (fun x=>r317 S123.pre S123.F S316.pre S316.F W317_2 x.1)
abbrev I318:Sig:=[(false,.int .i64),(false,.int .i64),(false,.int .u64)]
abbrev O318:Sig:=[(false,.int .u64),(false,.int .i64),(false,.int .i64)]
noncomputable def t318 (p311:DenS I311→Bool) (f311:DenS I311→DenS O311) (p65:DenS I65→Bool) (f65:DenS I65→DenS O65) (p312:DenS I312→Bool) (f312:DenS I312→DenS O312) (p313:DenS I313→Bool) (f313:DenS I313→DenS O313) (p314:DenS I314→Bool) (f314:DenS I314→DenS O314) (p119:DenS I119→Bool) (f119:DenS I119→DenS O119) (p317:DenS I317→Bool) (f317:DenS I317→DenS O317) (p122:DenS I122→Bool) (f122:DenS I122→DenS O122) (a0:Den (.int .i64)) (a1:Den (.int .i64)) (a2:Den (.int .u64)):Option (DenS O318) :=
 let e16_:=(a0,((f311 (a0,(a1,((a2::[]),())))).1,(a2,())))
 let e15_:=(f313 e16_)
 let e14_:=((0:Int),(e15_.1,()))
 let e13_:=(e14_,())
 let e12_:=(IntKind.wrap .i64 ((126:Int)-(f314 e13_).1))
 let e11_:=(IntKind.wrap .i64 (e12_+(1:Int)))
 let e8_:=(e14_,(e11_,()))
 let e7_:=(f317 (f119 e8_))
 let e1_:=(a0,(a1,(false,(((0:Int),(e7_.1,())),((quoI .i64 (IntKind.wrap .i64 (e15_.2.1-e11_)) (2:Int)),((!e7_.2.1),()))))))
 let e10_:=(e14_,(e12_,()))
 let e9_:=(f317 (f119 e10_))
 let e2_:=(a0,(a1,(false,(((0:Int),(e9_.1,())),((quoI .i64 (IntKind.wrap .i64 (e15_.2.1-e12_)) (2:Int)),((!e9_.2.1),()))))))
 let e3_:=e8_
 let e4_:=e10_
 let e5_:=e13_
 let e6_:=e16_
 bif (p311 (a0,(a1,((a2::[]),())))) then
 (bif ((f311 (a0,(a1,((a2::[]),())))).2.1 != (0:Int)) then
 (some ((0:Int),((0:Int),(f311 (a0,(a1,((a2::[]),())))).2)))
 else bif (p65 (a0,(a2,()))) then
 (bif (p312 (a0,((f65 (a0,(a2,()))).1,()))) then
 (bif (f312 (a0,((f65 (a0,(a2,()))).1,()))).2.2.1 then
 (some ((f312 (a0,((f65 (a0,(a2,()))).1,()))).1,((f312 (a0,((f65 (a0,(a2,()))).1,()))).2.1,((0:Int),()))))
 else bif ((((f65 (a0,(a2,()))).1==(9:Int))||((f65 (a0,(a2,()))).1==(6:Int)))||((f65 (a0,(a2,()))).1==(5:Int))) then
 (some (a2,((0:Int),((0:Int),()))))
 else bif (p313 e6_) then
 (bif (p314 e5_) then
 (bif ((Int.tmod (IntKind.wrap .i64 ((f313 e6_).2.1-(IntKind.wrap .i64 ((126:Int)-(f314 e5_).1)))) (2:Int)) != (0:Int)) then
 (bif (p119 e3_) then
 (bif (p317 (f119 e3_)) then
 (bif (p122 e1_) then
 (some (f122 e1_))
 else none)
 else none)
 else none)
 else bif (p119 e4_) then
 (bif (p317 (f119 e4_)) then
 (bif (p122 e2_) then
 (some (f122 e2_))
 else none)
 else none)
 else none)
 else none)
 else none)
 else none)
 else none)
 else none
theorem r318 (p311:DenS I311→Bool) (f311:DenS I311→DenS O311) (p65:DenS I65→Bool) (f65:DenS I65→DenS O65) (p312:DenS I312→Bool) (f312:DenS I312→DenS O312) (p313:DenS I313→Bool) (f313:DenS I313→DenS O313) (p314:DenS I314→Bool) (f314:DenS I314→DenS O314) (p119:DenS I119→Bool) (f119:DenS I119→DenS O119) (p317:DenS I317→Bool) (f317:DenS I317→DenS O317) (p122:DenS I122→Bool) (f122:DenS I122→DenS O122) (a0:Den (.int .i64)) (a1:Den (.int .i64)) (a2:Den (.int .u64)) :
  run { P:=Tryd.prog,sums:=[(66,⟨I311,O311,p311,f311⟩),(26,⟨I65,O65,p65,f65⟩),(67,⟨I312,O312,p312,f312⟩),(68,⟨I313,O313,p313,f313⟩),(69,⟨I314,O314,p314,f314⟩),(71,⟨I119,O119,p119,f119⟩),(70,⟨I317,O317,p317,f317⟩),(61,⟨I122,O122,p122,f122⟩)],loops:=[],globs:=G1 } 9 30 Tryd.f30 I318 O318 (a0,a1,a2,())=t318 p311 f311 p65 f65 p312 f312 p313 f313 p314 f314 p119 f119 p317 f317 p122 f122 a0 a1 a2:=by kernel_rfl
noncomputable def T318 (x:DenS I318):Option (DenS O318):=t318 S311.pre S311.F S65.pre S65.F S312.pre S312.F S313.pre S313.F S314.pre S314.F S119.pre S119.F S317.pre S317.F S122.pre S122.F x.1 x.2.1 x.2.2.1
noncomputable def C318:Cfg:={ P:=Tryd.prog,sums:=[(66,S311),(26,S65),(67,S312),(68,S313),(69,S314),(71,S119),(70,S317),(61,S122)],loops:=[],globs:=G1 }
noncomputable def S318:Sum:=sumOf I318 O318 T318 (DenS.dflt O318)
theorem S318_sound:Sound Tryd.prog G1 30 S318 :=
 fn_sound C318 9 30 Tryd.f30 mixedOk (by kernel_rfl) (by kernel_rfl) (by kernel_rfl) ⟨S311_sound,⟨S65_sound,⟨S312_sound,⟨S313_sound,⟨S314_sound,⟨S119_sound,⟨S317_sound,⟨S122_sound,trivial⟩⟩⟩⟩⟩⟩⟩⟩ trivial I318 O318 T318 _ (fun x=>r318 S311.pre S311.F S65.pre S65.F S312.pre S312.F S313.pre S313.F S314.pre S314.F S119.pre S119.F S317.pre S317.F S122.pre S122.F x.1 x.2.1 x.2.2.1)
abbrev I323:Sig:=[(false,.int .i64)]
abbrev O323:Sig:=[(false,.bool)]
noncomputable def t323 (a0:Den (.int .i64)):Option (DenS O323) :=
 some (((a0==(2:Int))||(a0==(9:Int))),())
theorem r323 (a0:Den (.int .i64)) :
  run { P:=Tryd.prog,sums:=[],loops:=[],globs:=G1 } 9 79 Tryd.f79 I323 O323 (a0,())=t323 a0:=by kernel_rfl
noncomputable def T323 (x:DenS I323):Option (DenS O323):=t323 x.1
noncomputable def C323:Cfg:={ P:=Tryd.prog,sums:=[],loops:=[],globs:=G1 }
noncomputable def S323:Sum:=sumOf I323 O323 T323 (DenS.dflt O323)
theorem S323_sound:Sound Tryd.prog G1 79 S323 :=
 fn_sound C323 9 79 Tryd.f79 mixedOk (by kernel_rfl) (by kernel_rfl) (by kernel_rfl) trivial trivial I323 O323 T323 _ (fun x=>r323 x.1)
abbrev I324:Sig:=[(false,.slice (.int .u64)),(false,.slice (.int .u64))]
abbrev O324:Sig:=[(false,.slice (.int .u64))]
abbrev P324_4:Pat:=⟨84,[(25,.one (.v .i64)),(24,.one (.sl (.int .u64))),(1,.one (.sl (.int .u64))),(26,.one (.v .i64)),(5,.one (.own 0))],[.arr (.int .u64)]⟩
abbrev A324_4:List (Nat×Shape):=[]
abbrev X324_4:List (Nat×Pat):=[(0,⟨84,[(5,.one (.own 0))],[.arr (.int .u64)]⟩)]
abbrev Q324_4:Option Pat:=none
abbrev P324_8:Pat:=⟨84,[(32,.one (.v .i64)),(31,.one (.sl (.int .u64))),(7,.one (.v .u64)),(33,.one (.v .i64)),(6,.one (.v .i64)),(8,.one (.v .u64)),(26,.one (.v .i64)),(25,.one (.v .i64)),(24,.one (.sl (.int .u64))),(1,.one (.sl (.int .u64))),(5,.one (.own 0))],[.arr (.int .u64)]⟩
abbrev A324_8:List (Nat×Shape):=[]
abbrev X324_8:List (Nat×Pat):=[(2,⟨84,[(6,.one (.v .i64)),(8,.one (.v .u64)),(26,.one (.v .i64)),(25,.one (.v .i64)),(24,.one (.sl (.int .u64))),(1,.one (.sl (.int .u64))),(5,.one (.own 0))],[.arr (.int .u64)]⟩)]
abbrev Q324_8:Option Pat:=none
noncomputable def h324_8 (p315:DenS I315→Bool) (f315:DenS I315→DenS O315) (p155:DenS I155→Bool) (f155:DenS I155→DenS O155) (p173:DenS I173→Bool) (f173:DenS I173→DenS O173) {R:Type} (L:Pat.D P324_8→Option R) (e:OutT X324_8 Q324_8→Option R) (x:Pat.D P324_8):Option R :=
 let e10_:=(x.1.2.2.1,((x.1.2.1.getD (Int.toNat x.1.2.2.2.1) (0:Int)),()))
 let e8_:=(f315 e10_)
 let e11_:=(IntKind.wrap .i64 (x.1.2.2.2.2.1+x.1.2.2.2.1))
 let e9_:=(Int.toNat e11_)
 let e7_:=(f155 (e8_.2.1,((x.2.1.getD e9_ (0:Int)),((0:Int),()))))
 let e1_:=(f155 (e7_.1,(x.1.2.2.2.2.2.1,((0:Int),()))))
 let e2_:=e7_
 let e3_:=((decide ((0:Int)≤e11_))&&(decide (e11_<(x.2.1.length:Int))))
 let e4_:=(x.1.2.2.2.2.2.2.1,(x.1.2.2.2.2.2.2.2.1,(x.1.2.2.2.2.2.2.2.2.1,(x.1.2.2.2.2.2.2.2.2.2.1,((),())))))
 let e5_:=e8_
 let e6_:=e9_
 bif (decide (x.1.2.2.2.1<x.1.1)) then
 (bif ((decide ((0:Int)≤x.1.2.2.2.1))&&(decide (x.1.2.2.2.1<(x.1.2.1.length:Int)))) then
 (bif (p315 e10_) then
 (bif e3_ then
 (bif (p155 (e5_.2.1,((x.2.1.getD e6_ (0:Int)),((0:Int),())))) then
 (bif (p155 (e2_.1,(x.1.2.2.2.2.2.1,((0:Int),())))) then
 (bif e3_ then
 ((L ((x.1.1,(x.1.2.1,(x.1.2.2.1,((IntKind.wrap .i64 (x.1.2.2.2.1+(1:Int))),(x.1.2.2.2.2.1,((IntKind.wrap .u64 ((IntKind.wrap .u64 (e5_.1+e2_.2.1))+e1_.2.1)),e4_)))))),((x.2.1.set e6_ e1_.1),()))))
 else none)
 else none)
 else none)
 else none)
 else none)
 else none)
 else (e (.inl ((x.1.2.2.2.2.1,(x.1.2.2.2.2.2.1,e4_)),x.2)))
theorem s324_8 (p315:DenS I315→Bool) (f315:DenS I315→DenS O315) (p155:DenS I155→Bool) (f155:DenS I155→DenS O155) (p173:DenS I173→Bool) (f173:DenS I173→DenS O173) (w324_4:Pat.D P324_4→Option (OutT X324_4 Q324_4)) (w324_8:Pat.D P324_8→Option (OutT X324_8 Q324_8)) (d:Nat) (R:Type) (L:Pat.D P324_8→Option R) (e:OutT X324_8 Q324_8→Option R) (x:Pat.D P324_8) :
  lStep { P:=Tryd.prog,sums:=[(102,⟨I315,O315,p315,f315⟩),(112,⟨I155,O155,p155,f155⟩),(106,⟨I173,O173,p173,f173⟩)],loops:=[(110,4,LoopSpec.of P324_4 A324_4 X324_4 Q324_4 w324_4),(110,8,LoopSpec.of P324_8 A324_8 X324_8 Q324_8 w324_8)],globs:=G1 } (d+2) 110 (bodyOf Tryd.f110 8) P324_8 A324_8 X324_8 Q324_8 (R:=R) L e x=h324_8 p315 f315 p155 f155 p173 f173 L e x:=by kernel_rfl
theorem m324_8 (p315:DenS I315→Bool) (f315:DenS I315→DenS O315) (p155:DenS I155→Bool) (f155:DenS I155→DenS O155) (p173:DenS I173→Bool) (f173:DenS I173→DenS O173):Par fun L e x=>h324_8 p315 f315 p155 f155 p173 f173 L e x:=by
 intro A B rel L L' e e' h0 hL he x
 unfold h324_8
 repeat' (first | exact h0 | exact hL _ | exact he _ | apply rel_cond | (apply rel_obind h0; intro _) | (apply rel_obind2 <;> intro _))
noncomputable def h324_4 (p315:DenS I315→Bool) (f315:DenS I315→DenS O315) (p155:DenS I155→Bool) (f155:DenS I155→DenS O155) (p173:DenS I173→Bool) (f173:DenS I173→DenS O173) (w324_8:Pat.D P324_8→Option (OutT X324_8 Q324_8)) {R:Type} (L:Pat.D P324_4→Option R) (e:OutT X324_4 Q324_4→Option R) (x:Pat.D P324_4):Option R :=
 bif (decide (x.1.2.2.2.1<x.1.1)) then
 (bif ((decide ((0:Int)≤x.1.2.2.2.1))&&(decide (x.1.2.2.2.1<(x.1.2.1.length:Int)))) then
 (Vx.obind (w324_8 (((x.1.2.2.1.length:Int),(x.1.2.2.1,((x.1.2.1.getD (Int.toNat x.1.2.2.2.1) (0:Int)),((0:Int),(x.1.2.2.2.1,((0:Int),(x.1.2.2.2.1,(x.1.1,(x.1.2.1,(x.1.2.2.1,((),()))))))))))),x.2)) fun y2 =>
 Vx.obind2 y2 (fun y3 =>
 bif ((decide ((0:Int)≤(IntKind.wrap .i64 (y3.1.1+(y3.1.2.2.2.2.2.1.length:Int)))))&&(decide ((IntKind.wrap .i64 (y3.1.1+(y3.1.2.2.2.2.2.1.length:Int)))<(y3.2.1.length:Int)))) then
 ((L ((y3.1.2.2.2.1,(y3.1.2.2.2.2.1,(y3.1.2.2.2.2.2.1,((IntKind.wrap .i64 (y3.1.2.2.1+(1:Int))),((),()))))),((y3.2.1.set (Int.toNat (IntKind.wrap .i64 (y3.1.1+(y3.1.2.2.2.2.2.1.length:Int)))) y3.1.2.1),()))))
 else none) (fun z3 =>
 none))
 else none)
 else (e (.inl (((),()),x.2)))
theorem s324_4 (p315:DenS I315→Bool) (f315:DenS I315→DenS O315) (p155:DenS I155→Bool) (f155:DenS I155→DenS O155) (p173:DenS I173→Bool) (f173:DenS I173→DenS O173) (w324_4:Pat.D P324_4→Option (OutT X324_4 Q324_4)) (w324_8:Pat.D P324_8→Option (OutT X324_8 Q324_8)) (d:Nat) (R:Type) (L:Pat.D P324_4→Option R) (e:OutT X324_4 Q324_4→Option R) (x:Pat.D P324_4) :
  lStep { P:=Tryd.prog,sums:=[(102,⟨I315,O315,p315,f315⟩),(112,⟨I155,O155,p155,f155⟩),(106,⟨I173,O173,p173,f173⟩)],loops:=[(110,4,LoopSpec.of P324_4 A324_4 X324_4 Q324_4 w324_4),(110,8,LoopSpec.of P324_8 A324_8 X324_8 Q324_8 w324_8)],globs:=G1 } (d+2) 110 (bodyOf Tryd.f110 4) P324_4 A324_4 X324_4 Q324_4 (R:=R) L e x=h324_4 p315 f315 p155 f155 p173 f173 w324_8 L e x:=by kernel_rfl
theorem m324_4 (p315:DenS I315→Bool) (f315:DenS I315→DenS O315) (p155:DenS I155→Bool) (f155:DenS I155→DenS O155) (p173:DenS I173→Bool) (f173:DenS I173→DenS O173) (w324_8:Pat.D P324_8→Option (OutT X324_8 Q324_8)):Par fun L e x=>h324_4 p315 f315 p155 f155 p173 f173 w324_8 L e x:=by
 intro A B rel L L' e e' h0 hL he x
 unfold h324_4
 repeat' (first | exact h0 | exact hL _ | exact he _ | apply rel_cond | (apply rel_obind h0; intro _) | (apply rel_obind2 <;> intro _))
noncomputable def t324 (p315:DenS I315→Bool) (f315:DenS I315→DenS O315) (p155:DenS I155→Bool) (f155:DenS I155→DenS O155) (p173:DenS I173→Bool) (f173:DenS I173→DenS O173) (w324_4:Pat.D P324_4→Option (OutT X324_4 Q324_4)) (w324_8:Pat.D P324_8→Option (OutT X324_8 Q324_8)) (a0:Den (.slice (.int .u64))) (a1:Den (.slice (.int .u64))):Option (DenS O324) :=
 let e1_:=(IntKind.wrap .i64 (((f173 (a0,())).1.length:Int)+((f173 (a1,())).1.length:Int)))
 bif (p173 (a0,())) then
 (bif (p173 (a1,())) then
 (bif ((decide ((0:Int)≤e1_))&&(decide ((e1_*(8:Int))≤(140737488355328:Int)))) then
 (Vx.obind (w324_4 ((((f173 (a0,())).1.length:Int),((f173 (a0,())).1,((f173 (a1,())).1,((0:Int),((),()))))),((List.replicate (Int.toNat e1_) (0:Int)),()))) fun y3 =>
 Vx.obind2 y3 (fun y4 =>
 bif (p173 y4.2) then
 (some (f173 y4.2))
 else none) (fun z4 =>
 none))
 else none)
 else none)
 else none
theorem r324 (p315:DenS I315→Bool) (f315:DenS I315→DenS O315) (p155:DenS I155→Bool) (f155:DenS I155→DenS O155) (p173:DenS I173→Bool) (f173:DenS I173→DenS O173) (w324_4:Pat.D P324_4→Option (OutT X324_4 Q324_4)) (w324_8:Pat.D P324_8→Option (OutT X324_8 Q324_8)) (a0:Den (.slice (.int .u64))) (a1:Den (.slice (.int .u64))) :
  run { P:=Tryd.prog,sums:=[(102,⟨I315,O315,p315,f315⟩),(112,⟨I155,O155,p155,f155⟩),(106,⟨I173,O173,p173,f173⟩)],loops:=[(110,4,LoopSpec.of P324_4 A324_4 X324_4 Q324_4 w324_4),(110,8,LoopSpec.of P324_8 A324_8 X324_8 Q324_8 w324_8)],globs:=G1 } 9 110 Tryd.f110 I324 O324 (a0,a1,())=t324 p315 f315 p155 f155 p173 f173 w324_4 w324_8 a0 a1:=by kernel_rfl
noncomputable def W324_8:P324_8.D→Option (OutT X324_8 Q324_8):=lfix fun L=>h324_8 S315.pre S315.F S155.pre S155.F S173.pre S173.F L some
noncomputable def W324_4:P324_4.D→Option (OutT X324_4 Q324_4):=lfix fun L=>h324_4 S315.pre S315.F S155.pre S155.F S173.pre S173.F W324_8 L some
noncomputable def T324 (x:DenS I324):Option (DenS O324):=t324 S315.pre S315.F S155.pre S155.F S173.pre S173.F W324_4 W324_8 x.1 x.2.1
noncomputable def C324:Cfg:={ P:=Tryd.prog,sums:=[(102,S315),(112,S155),(106,S173)],loops:=[(110,4,LoopSpec.of P324_4 A324_4 X324_4 Q324_4 W324_4),(110,8,LoopSpec.of P324_8 A324_8 X324_8 Q324_8 W324_8)],globs:=G1 }
noncomputable def S324:Sum:=sumOf I324 O324 T324 (DenS.dflt O324)
theorem S324_sound:Sound Tryd.prog G1 110 S324 :=
 fn_sound C324 9 110 Tryd.f110 mixedOk (by kernel_rfl) (by kernel_rfl) (by kernel_rfl) ⟨S315_sound,⟨S155_sound,⟨S173_sound,trivial⟩⟩⟩ ⟨rfl,fun d=>loopOk_of (fun L e x=>h324_4 S315.pre S315.F S155.pre S155.F S173.pre S173.F W324_8 L e x) (m324_4 S315.pre S315.F S155.pre S155.F S173.pre S173.F W324_8) (fun R L e x=>s324_4 S315.pre S315.F S155.pre S155.F S173.pre S173.F W324_4 W324_8 d R L e x),⟨rfl,fun d=>loopOk_of (fun L e x=>h324_8 S315.pre S315.F S155.pre S155.F S173.pre S173.F L e x) (m324_8 S315.pre S315.F S155.pre S155.F S173.pre S173.F) (fun R L e x=>s324_8 S315.pre S315.F S155.pre S155.F S173.pre S173.F W324_4 W324_8 d R L e x),trivial⟩⟩ I324 O324 T324 _ (fun x=>r324 S315.pre S315.F S155.pre S155.F S173.pre S173.F W324_4 W324_8 x.1 x.2.1)
abbrev I325:Sig:=[(false,.slice (.int .u64)),(false,.slice (.int .u64))]
abbrev O325:Sig:=[(false,.slice (.int .u64)),(false,.int .i64)]
noncomputable def t325 (p324:DenS I324→Bool) (f324:DenS I324→DenS O324) (p185:DenS I185→Bool) (f185:DenS I185→DenS O185) (a0:Den (.slice (.int .u64))) (a1:Den (.slice (.int .u64))):Option (DenS O325) :=
 bif (p185 ((a0::(a1::[])),())) then
 (bif (f185 ((a0::(a1::[])),())).1 then
 (some ([],((5:Int),())))
 else bif (p324 (a0,(a1,()))) then
 (bif (p185 (((f324 (a0,(a1,()))).1::[]),())) then
 (bif (f185 (((f324 (a0,(a1,()))).1::[]),())).1 then
 (some ([],((5:Int),())))
 else some ((f324 (a0,(a1,()))).1,((0:Int),())))
 else none)
 else none)
 else none
theorem r325 (p324:DenS I324→Bool) (f324:DenS I324→DenS O324) (p185:DenS I185→Bool) (f185:DenS I185→DenS O185) (a0:Den (.slice (.int .u64))) (a1:Den (.slice (.int .u64))) :
  run { P:=Tryd.prog,sums:=[(110,⟨I324,O324,p324,f324⟩),(104,⟨I185,O185,p185,f185⟩)],loops:=[],globs:=G1 } 9 86 Tryd.f86 I325 O325 (a0,a1,())=t325 p324 f324 p185 f185 a0 a1:=by kernel_rfl
noncomputable def T325 (x:DenS I325):Option (DenS O325):=t325 S324.pre S324.F S185.pre S185.F x.1 x.2.1
noncomputable def C325:Cfg:={ P:=Tryd.prog,sums:=[(110,S324),(104,S185)],loops:=[],globs:=G1 }
noncomputable def S325:Sum:=sumOf I325 O325 T325 (DenS.dflt O325)
theorem S325_sound:Sound Tryd.prog G1 86 S325 :=
 fn_sound C325 9 86 Tryd.f86 mixedOk (by kernel_rfl) (by kernel_rfl) (by kernel_rfl) ⟨S324_sound,⟨S185_sound,trivial⟩⟩ trivial I325 O325 T325 _ (fun x=>r325 S324.pre S324.F S185.pre S185.F x.1 x.2.1)
abbrev I326:Sig:=[(false,.int .u64),(false,.int .i64)]
abbrev O326:Sig:=[(false,.slice (.int .u64))]
noncomputable def t326 (p325:DenS I325→Bool) (f325:DenS I325→DenS O325) (p176:DenS I176→Bool) (f176:DenS I176→DenS O176) (a0:Den (.int .u64)) (a1:Den (.int .i64)):Option (DenS O326) :=
 let e1_:=((f325 ((a0::[]),((a0::[]),()))).1,((IntKind.wrap .i64 ((2:Int)*a1)),()))
 bif (a0==(0:Int)) then
 (some ([],()))
 else bif (p325 ((a0::[]),((a0::[]),()))) then
 (bif (p176 e1_) then
 (some ((f176 e1_).1,()))
 else none)
 else none
theorem r326 (p325:DenS I325→Bool) (f325:DenS I325→DenS O325) (p176:DenS I176→Bool) (f176:DenS I176→DenS O176) (a0:Den (.int .u64)) (a1:Den (.int .i64)) :
  run { P:=Tryd.prog,sums:=[(86,⟨I325,O325,p325,f325⟩),(72,⟨I176,O176,p176,f176⟩)],loops:=[],globs:=G1 } 9 81 Tryd.f81 I326 O326 (a0,a1,())=t326 p325 f325 p176 f176 a0 a1:=by kernel_rfl
noncomputable def T326 (x:DenS I326):Option (DenS O326):=t326 S325.pre S325.F S176.pre S176.F x.1 x.2.1
noncomputable def C326:Cfg:={ P:=Tryd.prog,sums:=[(86,S325),(72,S176)],loops:=[],globs:=G1 }
noncomputable def S326:Sum:=sumOf I326 O326 T326 (DenS.dflt O326)
theorem S326_sound:Sound Tryd.prog G1 81 S326 :=
 fn_sound C326 9 81 Tryd.f81 mixedOk (by kernel_rfl) (by kernel_rfl) (by kernel_rfl) ⟨S325_sound,⟨S176_sound,trivial⟩⟩ trivial I326 O326 T326 _ (fun x=>r326 S325.pre S325.F S176.pre S176.F x.1 x.2.1)
abbrev I1146:Sig:=[(false,.slice (.int .u64))]
abbrev O1146:Sig:=[(true,.slice (.int .u64))]
noncomputable def t1146 (p173:DenS I173→Bool) (f173:DenS I173→DenS O173) (a0:Den (.slice (.int .u64))):Option (DenS O1146) :=
 bif (p173 (a0,())) then
 (bif ((decide ((0:Int)≤((f173 (a0,())).1.length:Int)))&&(decide ((((f173 (a0,())).1.length:Int)*(8:Int))≤(140737488355328:Int)))) then
 (some ((((f173 (a0,())).1.take (List.replicate (Int.toNat ((f173 (a0,())).1.length:Int)) (0:Int)).length)++((List.replicate (Int.toNat ((f173 (a0,())).1.length:Int)) (0:Int)).drop (f173 (a0,())).1.length)),()))
 else none)
 else none
theorem r1146 (p173:DenS I173→Bool) (f173:DenS I173→DenS O173) (a0:Den (.slice (.int .u64))) :
  run { P:=Tryd.prog,sums:=[(106,⟨I173,O173,p173,f173⟩)],loops:=[],globs:=G1,keep:=true } 9 122 Tryd.f122 I1146 O1146 (a0,())=t1146 p173 f173 a0:=by kernel_rfl
noncomputable def T1146 (x:DenS I1146):Option (DenS O1146):=t1146 S173.pre S173.F x.1
noncomputable def C1146:Cfg:={ P:=Tryd.prog,sums:=[(106,S173)],loops:=[],globs:=G1,keep:=true }
noncomputable def S1146:Sum:=sumOf I1146 O1146 T1146 (DenS.dflt O1146)
theorem S1146_sound:Sound Tryd.prog G1 122 S1146 :=
 fn_sound C1146 9 122 Tryd.f122 mixedOk (by kernel_rfl) (by kernel_rfl) (by kernel_rfl) ⟨S173_sound,trivial⟩ trivial I1146 O1146 T1146 _ (fun x=>r1146 S173.pre S173.F x.1)
abbrev I327:Sig:=[(false,.int .u64)]
abbrev O327:Sig:=[(false,.int .i64)]
noncomputable def t327 (p178:DenS I178→Bool) (f178:DenS I178→DenS O178) (a0:Den (.int .u64)):Option (DenS O327) :=
 bif (p178 (a0,())) then
 (some ((IntKind.wrap .i64 ((64:Int)-(f178 (a0,())).1)),()))
 else none
theorem r327 (p178:DenS I178→Bool) (f178:DenS I178→DenS O178) (a0:Den (.int .u64)) :
  run { P:=Tryd.prog,sums:=[(103,⟨I178,O178,p178,f178⟩)],loops:=[],globs:=G1 } 9 124 Tryd.f124 I327 O327 (a0,())=t327 p178 f178 a0:=by kernel_rfl
noncomputable def T327 (x:DenS I327):Option (DenS O327):=t327 S178.pre S178.F x.1
noncomputable def C327:Cfg:={ P:=Tryd.prog,sums:=[(103,S178)],loops:=[],globs:=G1 }
noncomputable def S327:Sum:=sumOf I327 O327 T327 (DenS.dflt O327)
theorem S327_sound:Sound Tryd.prog G1 124 S327 :=
 fn_sound C327 9 124 Tryd.f124 mixedOk (by kernel_rfl) (by kernel_rfl) (by kernel_rfl) ⟨S178_sound,trivial⟩ trivial I327 O327 T327 _ (fun x=>r327 S178.pre S178.F x.1)
abbrev I328:Sig:=[(false,.int .u64),(false,.int .u64),(false,.int .u64)]
abbrev O328:Sig:=[(false,.int .u64),(false,.int .u64)]
abbrev P328_17:Pat:=⟨135,[(16,.one (.v .u64)),(11,.one (.v .u64)),(13,.one (.v .u64)),(10,.one (.v .u64)),(9,.one (.v .u64)),(15,.one (.v .u64)),(14,.one (.v .u64)),(2,.one (.v .u64)),(8,.one (.v .u64))],[]⟩
abbrev A328_17:List (Nat×Shape):=[]
abbrev X328_17:List (Nat×Pat):=[(0,⟨135,[(11,.one (.v .u64)),(13,.one (.v .u64)),(10,.one (.v .u64)),(9,.one (.v .u64)),(15,.one (.v .u64)),(14,.one (.v .u64)),(2,.one (.v .u64)),(8,.one (.v .u64))],[]⟩)]
abbrev Q328_17:Option Pat:=none
abbrev P328_24:Pat:=⟨135,[(10,.one (.v .u64)),(16,.one (.v .u64)),(9,.one (.v .u64)),(15,.one (.v .u64)),(17,.one (.v .u64)),(14,.one (.v .u64)),(18,.one (.v .u64)),(2,.one (.v .u64)),(8,.one (.v .u64))],[]⟩
abbrev A328_24:List (Nat×Shape):=[]
abbrev X328_24:List (Nat×Pat):=[(2,⟨135,[(15,.one (.v .u64)),(17,.one (.v .u64)),(14,.one (.v .u64)),(18,.one (.v .u64)),(2,.one (.v .u64)),(8,.one (.v .u64))],[]⟩)]
abbrev Q328_24:Option Pat:=none
noncomputable def h328_24 (p327:DenS I327→Bool) (f327:DenS I327→DenS O327) {R:Type} (L:Pat.D P328_24→Option R) (e:OutT X328_24 Q328_24→Option R) (x:Pat.D P328_24):Option R :=
 let e1_:=(x.1.2.2.2.1,(x.1.2.2.2.2.1,(x.1.2.2.2.2.2.1,((IntKind.wrap .u64 (x.1.2.2.2.2.2.2.1-(1:Int))),x.1.2.2.2.2.2.2.2))))
 let e2_:=(IntKind.wrap .u64 (x.1.2.1+x.1.2.2.1))
 bif ((decide (x.1.2.2.2.2.2.2.1≥(4294967296:Int)))||(decide ((IntKind.wrap .u64 (x.1.2.2.2.2.2.2.1*x.1.1))>(IntKind.wrap .u64 ((IntKind.wrap .u64 ((4294967296:Int)*x.1.2.1))+x.1.2.2.2.2.2.1))))) then
 (bif (decide (e2_≥(4294967296:Int))) then
 ((e (.inl (e1_,()))))
 else (L ((x.1.1,(e2_,(x.1.2.2.1,e1_))),())))
 else (e (.inl (x.1.2.2.2,())))
theorem s328_24 (p327:DenS I327→Bool) (f327:DenS I327→DenS O327) (w328_17:Pat.D P328_17→Option (OutT X328_17 Q328_17)) (w328_24:Pat.D P328_24→Option (OutT X328_24 Q328_24)) (d:Nat) (R:Type) (L:Pat.D P328_24→Option R) (e:OutT X328_24 Q328_24→Option R) (x:Pat.D P328_24) :
  lStep { P:=Tryd.prog,sums:=[(124,⟨I327,O327,p327,f327⟩)],loops:=[(131,17,LoopSpec.of P328_17 A328_17 X328_17 Q328_17 w328_17),(131,24,LoopSpec.of P328_24 A328_24 X328_24 Q328_24 w328_24)],globs:=G1 } (d+2) 131 (bodyOf Tryd.f131 24) P328_24 A328_24 X328_24 Q328_24 (R:=R) L e x=h328_24 p327 f327 L e x:=by kernel_rfl
theorem m328_24 (p327:DenS I327→Bool) (f327:DenS I327→DenS O327):Par fun L e x=>h328_24 p327 f327 L e x:=by
 intro A B rel L L' e e' h0 hL he x
 unfold h328_24
 repeat' (first | exact h0 | exact hL _ | exact he _ | apply rel_cond | (apply rel_obind h0; intro _) | (apply rel_obind2 <;> intro _))
noncomputable def h328_17 (p327:DenS I327→Bool) (f327:DenS I327→DenS O327) {R:Type} (L:Pat.D P328_17→Option R) (e:OutT X328_17 Q328_17→Option R) (x:Pat.D P328_17):Option R :=
 let e1_:=(x.1.2.1,(x.1.2.2.1,(x.1.2.2.2.1,(x.1.2.2.2.2.1,((IntKind.wrap .u64 (x.1.2.2.2.2.2.1-(1:Int))),x.1.2.2.2.2.2.2)))))
 let e2_:=(IntKind.wrap .u64 (x.1.1+x.1.2.2.2.2.1))
 bif ((decide (x.1.2.2.2.2.2.1≥(4294967296:Int)))||(decide ((IntKind.wrap .u64 (x.1.2.2.2.2.2.1*x.1.2.2.2.1))>(IntKind.wrap .u64 ((IntKind.wrap .u64 ((4294967296:Int)*x.1.1))+x.1.2.2.1))))) then
 (bif (decide (e2_≥(4294967296:Int))) then
 ((e (.inl (e1_,()))))
 else (L ((e2_,e1_),())))
 else (e (.inl (x.1.2,())))
theorem s328_17 (p327:DenS I327→Bool) (f327:DenS I327→DenS O327) (w328_17:Pat.D P328_17→Option (OutT X328_17 Q328_17)) (w328_24:Pat.D P328_24→Option (OutT X328_24 Q328_24)) (d:Nat) (R:Type) (L:Pat.D P328_17→Option R) (e:OutT X328_17 Q328_17→Option R) (x:Pat.D P328_17) :
  lStep { P:=Tryd.prog,sums:=[(124,⟨I327,O327,p327,f327⟩)],loops:=[(131,17,LoopSpec.of P328_17 A328_17 X328_17 Q328_17 w328_17),(131,24,LoopSpec.of P328_24 A328_24 X328_24 Q328_24 w328_24)],globs:=G1 } (d+2) 131 (bodyOf Tryd.f131 17) P328_17 A328_17 X328_17 Q328_17 (R:=R) L e x=h328_17 p327 f327 L e x:=by kernel_rfl
theorem m328_17 (p327:DenS I327→Bool) (f327:DenS I327→DenS O327):Par fun L e x=>h328_17 p327 f327 L e x:=by
 intro A B rel L L' e e' h0 hL he x
 unfold h328_17
 repeat' (first | exact h0 | exact hL _ | exact he _ | apply rel_cond | (apply rel_obind h0; intro _) | (apply rel_obind2 <;> intro _))
noncomputable def t328 (p327:DenS I327→Bool) (f327:DenS I327→DenS O327) (w328_17:Pat.D P328_17→Option (OutT X328_17 Q328_17)) (w328_24:Pat.D P328_24→Option (OutT X328_24 Q328_24)) (a0:Den (.int .u64)) (a1:Den (.int .u64)) (a2:Den (.int .u64)):Option (DenS O328) :=
 let e9_:=(IntKind.wrap .u64 (f327 (a2,())).1)
 let e6_:=(orI .u64 (shlI .u64 a0 e9_) (shrI .u64 a1 (IntKind.wrap .u64 ((64:Int)-e9_))))
 let e8_:=(shlI .u64 a2 e9_)
 let e7_:=(shrI .u64 e8_ (32:Int))
 let e1_:=(quoI .u64 e6_ e7_)
 let e2_:=e6_
 let e3_:=e7_
 let e4_:=(shlI .u64 a1 e9_)
 let e5_:=e8_
 bif (a2==(0:Int)) then
  (none)
 else bif (decide (a2≤a0)) then
  (none)
 else bif (a0==(0:Int)) then
 (bif (a2 != (0:Int)) then
 (bif (a2 != (0:Int)) then
 (some ((quoI .u64 a1 a2),((Int.tmod a1 a2),())))
 else none)
 else none)
 else bif (p327 (a2,())) then
 (bif (e3_ != (0:Int)) then
 (Vx.obind (w328_17 (((IntKind.wrap .u64 (e2_-(IntKind.wrap .u64 (e1_*e3_)))),(e2_,((shrI .u64 e4_ (32:Int)),((andI .u64 e5_ (4294967295:Int)),(e3_,(e1_,((andI .u64 e4_ (4294967295:Int)),(e5_,(e9_,()))))))))),())) fun y5 =>
 Vx.obind2 y5 (fun y6 =>
 bif (y6.1.2.2.2.1 != (0:Int)) then
 (Vx.obind (w328_24 ((y6.1.2.2.1,((IntKind.wrap .u64 ((IntKind.wrap .u64 ((IntKind.wrap .u64 ((IntKind.wrap .u64 (y6.1.1*(4294967296:Int)))+y6.1.2.1))-(IntKind.wrap .u64 (y6.1.2.2.2.2.1*y6.1.2.2.2.2.2.2.1))))-(IntKind.wrap .u64 ((quoI .u64 (IntKind.wrap .u64 ((IntKind.wrap .u64 ((IntKind.wrap .u64 (y6.1.1*(4294967296:Int)))+y6.1.2.1))-(IntKind.wrap .u64 (y6.1.2.2.2.2.1*y6.1.2.2.2.2.2.2.1)))) y6.1.2.2.2.1)*y6.1.2.2.2.1)))),(y6.1.2.2.2.1,(y6.1.2.2.2.2.1,((IntKind.wrap .u64 ((IntKind.wrap .u64 ((IntKind.wrap .u64 (y6.1.1*(4294967296:Int)))+y6.1.2.1))-(IntKind.wrap .u64 (y6.1.2.2.2.2.1*y6.1.2.2.2.2.2.2.1)))),(y6.1.2.2.2.2.2.1,((quoI .u64 (IntKind.wrap .u64 ((IntKind.wrap .u64 ((IntKind.wrap .u64 (y6.1.1*(4294967296:Int)))+y6.1.2.1))-(IntKind.wrap .u64 (y6.1.2.2.2.2.1*y6.1.2.2.2.2.2.2.1)))) y6.1.2.2.2.1),y6.1.2.2.2.2.2.2))))))),())) fun y8 =>
 Vx.obind2 y8 (fun y9 =>
 some ((IntKind.wrap .u64 ((IntKind.wrap .u64 (y9.1.1*(4294967296:Int)))+y9.1.2.2.2.1)),((shrI .u64 (IntKind.wrap .u64 ((IntKind.wrap .u64 ((IntKind.wrap .u64 (y9.1.2.1*(4294967296:Int)))+y9.1.2.2.1))-(IntKind.wrap .u64 (y9.1.2.2.2.1*y9.1.2.2.2.2.1)))) y9.1.2.2.2.2.2.1),()))) (fun z9 =>
 none))
 else none) (fun z6 =>
 none))
 else none)
 else none
theorem r328 (p327:DenS I327→Bool) (f327:DenS I327→DenS O327) (w328_17:Pat.D P328_17→Option (OutT X328_17 Q328_17)) (w328_24:Pat.D P328_24→Option (OutT X328_24 Q328_24)) (a0:Den (.int .u64)) (a1:Den (.int .u64)) (a2:Den (.int .u64)) :
  run { P:=Tryd.prog,sums:=[(124,⟨I327,O327,p327,f327⟩)],loops:=[(131,17,LoopSpec.of P328_17 A328_17 X328_17 Q328_17 w328_17),(131,24,LoopSpec.of P328_24 A328_24 X328_24 Q328_24 w328_24)],globs:=G1 } 9 131 Tryd.f131 I328 O328 (a0,a1,a2,())=t328 p327 f327 w328_17 w328_24 a0 a1 a2:=by kernel_rfl
noncomputable def W328_24:P328_24.D→Option (OutT X328_24 Q328_24):=lfix fun L=>h328_24 S327.pre S327.F L some
noncomputable def W328_17:P328_17.D→Option (OutT X328_17 Q328_17):=lfix fun L=>h328_17 S327.pre S327.F L some
noncomputable def T328 (x:DenS I328):Option (DenS O328):=t328 S327.pre S327.F W328_17 W328_24 x.1 x.2.1 x.2.2.1
noncomputable def C328:Cfg:={ P:=Tryd.prog,sums:=[(124,S327)],loops:=[(131,17,LoopSpec.of P328_17 A328_17 X328_17 Q328_17 W328_17),(131,24,LoopSpec.of P328_24 A328_24 X328_24 Q328_24 W328_24)],globs:=G1 }
noncomputable def S328:Sum:=sumOf I328 O328 T328 (DenS.dflt O328)
theorem S328_sound:Sound Tryd.prog G1 131 S328 :=
 fn_sound C328 9 131 Tryd.f131 mixedOk (by kernel_rfl) (by kernel_rfl) (by kernel_rfl) ⟨S327_sound,trivial⟩ ⟨rfl,fun d=>loopOk_of (fun L e x=>h328_17 S327.pre S327.F L e x) (m328_17 S327.pre S327.F) (fun R L e x=>s328_17 S327.pre S327.F W328_17 W328_24 d R L e x),⟨rfl,fun d=>loopOk_of (fun L e x=>h328_24 S327.pre S327.F L e x) (m328_24 S327.pre S327.F) (fun R L e x=>s328_24 S327.pre S327.F W328_17 W328_24 d R L e x),trivial⟩⟩ I328 O328 T328 _ (fun x=>r328 S327.pre S327.F W328_17 W328_24 x.1 x.2.1 x.2.2.1)
abbrev I1329:Sig:=[(true,.slice (.int .u64)),(false,.int .u64)]
abbrev O1329:Sig:=[(false,.slice (.int .u64)),(false,.int .u64)]
abbrev P1329_3:Pat:=⟨31,[(1,.one (.v .u64)),(7,.one (.v .i64)),(0,.one (.own 0)),(6,.one (.v .u64))],[.arr (.int .u64)]⟩
abbrev A1329_3:List (Nat×Shape):=[]
abbrev X1329_3:List (Nat×Pat):=[(0,⟨31,[(0,.one (.own 0)),(6,.one (.v .u64))],[.arr (.int .u64)]⟩)]
abbrev Q1329_3:Option Pat:=none
noncomputable def h1329_3 (p328:DenS I328→Bool) (f328:DenS I328→DenS O328) (p173:DenS I173→Bool) (f173:DenS I173→DenS O173) {R:Type} (L:Pat.D P1329_3→Option R) (e:OutT X1329_3 Q1329_3→Option R) (x:Pat.D P1329_3):Option R :=
 let e3_:=(x.1.2.2.2.1,((x.2.1.getD (Int.toNat x.1.2.1) (0:Int)),(x.1.1,())))
 let e1_:=(f328 e3_)
 let e2_:=((decide ((0:Int)≤x.1.2.1))&&(decide (x.1.2.1<(x.2.1.length:Int))))
 bif (decide (x.1.2.1≥(0:Int))) then
 (bif e2_ then
 (bif (p328 e3_) then
 (bif e2_ then
 ((L ((x.1.1,((IntKind.wrap .i64 (x.1.2.1-(1:Int))),((),e1_.2))),((x.2.1.set (Int.toNat x.1.2.1) e1_.1),()))))
 else none)
 else none)
 else none)
 else (e (.inl (((),x.1.2.2.2),x.2)))
theorem s1329_3 (p328:DenS I328→Bool) (f328:DenS I328→DenS O328) (p173:DenS I173→Bool) (f173:DenS I173→DenS O173) (w1329_3:Pat.D P1329_3→Option (OutT X1329_3 Q1329_3)) (d:Nat) (R:Type) (L:Pat.D P1329_3→Option R) (e:OutT X1329_3 Q1329_3→Option R) (x:Pat.D P1329_3) :
  lStep { P:=Tryd.prog,sums:=[(131,⟨I328,O328,p328,f328⟩),(106,⟨I173,O173,p173,f173⟩)],loops:=[(123,3,LoopSpec.of P1329_3 A1329_3 X1329_3 Q1329_3 w1329_3)],globs:=G1,keep:=true } (d+2) 123 (bodyOf Tryd.f123 3) P1329_3 A1329_3 X1329_3 Q1329_3 (R:=R) L e x=h1329_3 p328 f328 p173 f173 L e x:=by kernel_rfl
theorem m1329_3 (p328:DenS I328→Bool) (f328:DenS I328→DenS O328) (p173:DenS I173→Bool) (f173:DenS I173→DenS O173):Par fun L e x=>h1329_3 p328 f328 p173 f173 L e x:=by
 intro A B rel L L' e e' h0 hL he x
 unfold h1329_3
 repeat' (first | exact h0 | exact hL _ | exact he _ | apply rel_cond | (apply rel_obind h0; intro _) | (apply rel_obind2 <;> intro _))
noncomputable def t1329 (p328:DenS I328→Bool) (f328:DenS I328→DenS O328) (p173:DenS I173→Bool) (f173:DenS I173→DenS O173) (w1329_3:Pat.D P1329_3→Option (OutT X1329_3 Q1329_3)) (a0:Den (.slice (.int .u64))) (a1:Den (.int .u64)):Option (DenS O1329) :=
 Vx.obind (w1329_3 ((a1,((IntKind.wrap .i64 ((a0.length:Int)-(1:Int))),((),((0:Int),())))),(a0,()))) fun y0 =>
 Vx.obind2 y0 (fun y1 =>
 bif (p173 y1.2) then
 (some ((f173 y1.2).1,y1.1.2))
 else none) (fun z1 =>
 none)
theorem r1329 (p328:DenS I328→Bool) (f328:DenS I328→DenS O328) (p173:DenS I173→Bool) (f173:DenS I173→DenS O173) (w1329_3:Pat.D P1329_3→Option (OutT X1329_3 Q1329_3)) (a0:Den (.slice (.int .u64))) (a1:Den (.int .u64)) :
  run { P:=Tryd.prog,sums:=[(131,⟨I328,O328,p328,f328⟩),(106,⟨I173,O173,p173,f173⟩)],loops:=[(123,3,LoopSpec.of P1329_3 A1329_3 X1329_3 Q1329_3 w1329_3)],globs:=G1,keep:=true } 9 123 Tryd.f123 I1329 O1329 (a0,a1,())=t1329 p328 f328 p173 f173 w1329_3 a0 a1:=by kernel_rfl
noncomputable def W1329_3:P1329_3.D→Option (OutT X1329_3 Q1329_3):=lfix fun L=>h1329_3 S328.pre S328.F S173.pre S173.F L some
noncomputable def T1329 (x:DenS I1329):Option (DenS O1329):=t1329 S328.pre S328.F S173.pre S173.F W1329_3 x.1 x.2.1
noncomputable def C1329:Cfg:={ P:=Tryd.prog,sums:=[(131,S328),(106,S173)],loops:=[(123,3,LoopSpec.of P1329_3 A1329_3 X1329_3 Q1329_3 W1329_3)],globs:=G1,keep:=true }
noncomputable def S1329:Sum:=sumOf I1329 O1329 T1329 (DenS.dflt O1329)
theorem S1329_sound:Sound Tryd.prog G1 123 S1329 :=
 fn_sound C1329 9 123 Tryd.f123 mixedOk (by kernel_rfl) (by kernel_rfl) (by kernel_rfl) ⟨S328_sound,⟨S173_sound,trivial⟩⟩ ⟨rfl,fun d=>loopOk_of (fun L e x=>h1329_3 S328.pre S328.F S173.pre S173.F L e x) (m1329_3 S328.pre S328.F S173.pre S173.F) (fun R L e x=>s1329_3 S328.pre S328.F S173.pre S173.F W1329_3 d R L e x),trivial⟩ I1329 O1329 T1329 _ (fun x=>r1329 S328.pre S328.F S173.pre S173.F W1329_3 x.1 x.2.1)
abbrev I144:Sig:=[(false,.slice (.int .u64)),(false,.slice (.int .u64))]
abbrev O144:Sig:=[(false,.int .i64)]
abbrev P144_7:Pat:=⟨49,[(0,.one (.sl (.int .u64))),(1,.one (.sl (.int .u64))),(5,.one (.v .i64))],[]⟩
abbrev A144_7:List (Nat×Shape):=[]
abbrev X144_7:List (Nat×Pat):=[(1,⟨49,[],[]⟩)]
abbrev Q144_7:Option Pat:=(some ⟨49,[(4,.one (.v .i64))],[]⟩)
noncomputable def h144_7 (p173:DenS I173→Bool) (f173:DenS I173→DenS O173) {R:Type} (L:Pat.D P144_7→Option R) (e:OutT X144_7 Q144_7→Option R) (x:Pat.D P144_7):Option R :=
 bif (decide (x.1.2.2.1≥(0:Int))) then
 (bif ((decide ((0:Int)≤x.1.2.2.1))&&(decide (x.1.2.2.1<(x.1.1.length:Int)))) then
 (bif ((decide ((0:Int)≤x.1.2.2.1))&&(decide (x.1.2.2.1<(x.1.2.1.length:Int)))) then
 (bif (decide ((x.1.1.getD (Int.toNat x.1.2.2.1) (0:Int))<(x.1.2.1.getD (Int.toNat x.1.2.2.1) (0:Int)))) then
 ((e (.inr (((-(1:Int)),()),()))))
 else bif ((decide ((0:Int)≤x.1.2.2.1))&&(decide (x.1.2.2.1<(x.1.1.length:Int)))) then
 (bif ((decide ((0:Int)≤x.1.2.2.1))&&(decide (x.1.2.2.1<(x.1.2.1.length:Int)))) then
 (bif (decide ((x.1.1.getD (Int.toNat x.1.2.2.1) (0:Int))>(x.1.2.1.getD (Int.toNat x.1.2.2.1) (0:Int)))) then
 ((e (.inr (((1:Int),()),()))))
 else (L ((x.1.1,(x.1.2.1,((IntKind.wrap .i64 (x.1.2.2.1-(1:Int))),()))),())))
 else none)
 else none)
 else none)
 else none)
 else (e (.inl ((),())))
theorem s144_7 (p173:DenS I173→Bool) (f173:DenS I173→DenS O173) (w144_7:Pat.D P144_7→Option (OutT X144_7 Q144_7)) (d:Nat) (R:Type) (L:Pat.D P144_7→Option R) (e:OutT X144_7 Q144_7→Option R) (x:Pat.D P144_7) :
  lStep { P:=Tryd.prog,sums:=[(106,⟨I173,O173,p173,f173⟩)],loops:=[(109,7,LoopSpec.of P144_7 A144_7 X144_7 Q144_7 w144_7)],globs:=G1 } (d+2) 109 (bodyOf Tryd.f109 7) P144_7 A144_7 X144_7 Q144_7 (R:=R) L e x=h144_7 p173 f173 L e x:=by kernel_rfl
theorem m144_7 (p173:DenS I173→Bool) (f173:DenS I173→DenS O173):Par fun L e x=>h144_7 p173 f173 L e x:=by
 intro A B rel L L' e e' h0 hL he x
 unfold h144_7
 repeat' (first | exact h0 | exact hL _ | exact he _ | apply rel_cond | (apply rel_obind h0; intro _) | (apply rel_obind2 <;> intro _))
noncomputable def t144 (p173:DenS I173→Bool) (f173:DenS I173→DenS O173) (w144_7:Pat.D P144_7→Option (OutT X144_7 Q144_7)) (a0:Den (.slice (.int .u64))) (a1:Den (.slice (.int .u64))):Option (DenS O144) :=
 bif (p173 (a0,())) then
 (bif (p173 (a1,())) then
 (bif (decide (((f173 (a0,())).1.length:Int)<((f173 (a1,())).1.length:Int))) then
 (some ((-(1:Int)),()))
 else bif (decide (((f173 (a0,())).1.length:Int)>((f173 (a1,())).1.length:Int))) then
 (some ((1:Int),()))
 else Vx.obind (w144_7 (((f173 (a0,())).1,((f173 (a1,())).1,((IntKind.wrap .i64 (((f173 (a0,())).1.length:Int)-(1:Int))),()))),())) fun y4 =>
 Vx.obind2 y4 (fun y5 =>
 some ((0:Int),())) (fun z5 =>
 some z5.1))
 else none)
 else none
theorem r144 (p173:DenS I173→Bool) (f173:DenS I173→DenS O173) (w144_7:Pat.D P144_7→Option (OutT X144_7 Q144_7)) (a0:Den (.slice (.int .u64))) (a1:Den (.slice (.int .u64))) :
  run { P:=Tryd.prog,sums:=[(106,⟨I173,O173,p173,f173⟩)],loops:=[(109,7,LoopSpec.of P144_7 A144_7 X144_7 Q144_7 w144_7)],globs:=G1 } 9 109 Tryd.f109 I144 O144 (a0,a1,())=t144 p173 f173 w144_7 a0 a1:=by kernel_rfl
noncomputable def W144_7:P144_7.D→Option (OutT X144_7 Q144_7):=lfix fun L=>h144_7 S173.pre S173.F L some
noncomputable def T144 (x:DenS I144):Option (DenS O144):=t144 S173.pre S173.F W144_7 x.1 x.2.1
noncomputable def C144:Cfg:={ P:=Tryd.prog,sums:=[(106,S173)],loops:=[(109,7,LoopSpec.of P144_7 A144_7 X144_7 Q144_7 W144_7)],globs:=G1 }
noncomputable def S144:Sum:=sumOf I144 O144 T144 (DenS.dflt O144)
theorem S144_sound:Sound Tryd.prog G1 109 S144 :=
 fn_sound C144 9 109 Tryd.f109 mixedOk (by kernel_rfl) (by kernel_rfl) (by kernel_rfl) ⟨S173_sound,trivial⟩ ⟨rfl,fun d=>loopOk_of (fun L e x=>h144_7 S173.pre S173.F L e x) (m144_7 S173.pre S173.F) (fun R L e x=>s144_7 S173.pre S173.F W144_7 d R L e x),trivial⟩ I144 O144 T144 _ (fun x=>r144 S173.pre S173.F W144_7 x.1 x.2.1)
abbrev I329:Sig:=[(false,.slice (.int .u64)),(false,.int .u64)]
abbrev O329:Sig:=[(false,.slice (.int .u64)),(false,.int .u64)]
abbrev P329_3:Pat:=⟨31,[(1,.one (.v .u64)),(7,.one (.v .i64)),(0,.one (.sl (.int .u64))),(6,.one (.v .u64))],[]⟩
abbrev A329_3:List (Nat×Shape):=[]
abbrev X329_3:List (Nat×Pat):=[(0,⟨31,[(0,.one (.sl (.int .u64))),(6,.one (.v .u64))],[]⟩)]
abbrev Q329_3:Option Pat:=none
noncomputable def h329_3 (p328:DenS I328→Bool) (f328:DenS I328→DenS O328) (p173:DenS I173→Bool) (f173:DenS I173→DenS O173) {R:Type} (L:Pat.D P329_3→Option R) (e:OutT X329_3 Q329_3→Option R) (x:Pat.D P329_3):Option R :=
 let e1_:=((decide ((0:Int)≤x.1.2.1))&&(decide (x.1.2.1<(x.1.2.2.1.length:Int))))
 bif (decide (x.1.2.1≥(0:Int))) then
 (bif e1_ then
 (bif (p328 (x.1.2.2.2.1,((x.1.2.2.1.getD (Int.toNat x.1.2.1) (0:Int)),(x.1.1,())))) then
 (bif e1_ then
     (none)
 else none)
 else none)
 else none)
 else (e (.inl (x.1.2.2,())))
theorem s329_3 (p328:DenS I328→Bool) (f328:DenS I328→DenS O328) (p173:DenS I173→Bool) (f173:DenS I173→DenS O173) (w329_3:Pat.D P329_3→Option (OutT X329_3 Q329_3)) (d:Nat) (R:Type) (L:Pat.D P329_3→Option R) (e:OutT X329_3 Q329_3→Option R) (x:Pat.D P329_3) :
  lStep { P:=Tryd.prog,sums:=[(131,⟨I328,O328,p328,f328⟩),(106,⟨I173,O173,p173,f173⟩)],loops:=[(123,3,LoopSpec.of P329_3 A329_3 X329_3 Q329_3 w329_3)],globs:=G1 } (d+2) 123 (bodyOf Tryd.f123 3) P329_3 A329_3 X329_3 Q329_3 (R:=R) L e x=h329_3 p328 f328 p173 f173 L e x:=by kernel_rfl
theorem m329_3 (p328:DenS I328→Bool) (f328:DenS I328→DenS O328) (p173:DenS I173→Bool) (f173:DenS I173→DenS O173):Par fun L e x=>h329_3 p328 f328 p173 f173 L e x:=by
 intro A B rel L L' e e' h0 hL he x
 unfold h329_3
 repeat' (first | exact h0 | exact hL _ | exact he _ | apply rel_cond | (apply rel_obind h0; intro _) | (apply rel_obind2 <;> intro _))
noncomputable def t329 (p328:DenS I328→Bool) (f328:DenS I328→DenS O328) (p173:DenS I173→Bool) (f173:DenS I173→DenS O173) (w329_3:Pat.D P329_3→Option (OutT X329_3 Q329_3)) (a0:Den (.slice (.int .u64))) (a1:Den (.int .u64)):Option (DenS O329) :=
 Vx.obind (w329_3 ((a1,((IntKind.wrap .i64 ((a0.length:Int)-(1:Int))),(a0,((0:Int),())))),())) fun y0 =>
 Vx.obind2 y0 (fun y1 =>
 bif (p173 (y1.1.1,())) then
 (some ((f173 (y1.1.1,())).1,y1.1.2))
 else none) (fun z1 =>
 none)
theorem r329 (p328:DenS I328→Bool) (f328:DenS I328→DenS O328) (p173:DenS I173→Bool) (f173:DenS I173→DenS O173) (w329_3:Pat.D P329_3→Option (OutT X329_3 Q329_3)) (a0:Den (.slice (.int .u64))) (a1:Den (.int .u64)) :
  run { P:=Tryd.prog,sums:=[(131,⟨I328,O328,p328,f328⟩),(106,⟨I173,O173,p173,f173⟩)],loops:=[(123,3,LoopSpec.of P329_3 A329_3 X329_3 Q329_3 w329_3)],globs:=G1 } 9 123 Tryd.f123 I329 O329 (a0,a1,())=t329 p328 f328 p173 f173 w329_3 a0 a1:=by kernel_rfl
noncomputable def W329_3:P329_3.D→Option (OutT X329_3 Q329_3):=lfix fun L=>h329_3 S328.pre S328.F S173.pre S173.F L some
noncomputable def T329 (x:DenS I329):Option (DenS O329):=t329 S328.pre S328.F S173.pre S173.F W329_3 x.1 x.2.1
noncomputable def C329:Cfg:={ P:=Tryd.prog,sums:=[(131,S328),(106,S173)],loops:=[(123,3,LoopSpec.of P329_3 A329_3 X329_3 Q329_3 W329_3)],globs:=G1 }
noncomputable def S329:Sum:=sumOf I329 O329 T329 (DenS.dflt O329)
theorem S329_sound:Sound Tryd.prog G1 123 S329 :=
 fn_sound C329 9 123 Tryd.f123 mixedOk (by kernel_rfl) (by kernel_rfl) (by kernel_rfl) ⟨S328_sound,⟨S173_sound,trivial⟩⟩ ⟨rfl,fun d=>loopOk_of (fun L e x=>h329_3 S328.pre S328.F S173.pre S173.F L e x) (m329_3 S328.pre S328.F S173.pre S173.F) (fun R L e x=>s329_3 S328.pre S328.F S173.pre S173.F W329_3 d R L e x),trivial⟩ I329 O329 T329 _ (fun x=>r329 S328.pre S328.F S173.pre S173.F W329_3 x.1 x.2.1)
abbrev I330:Sig:=[(false,.slice (.int .u64)),(false,.int .u64)]
abbrev O330:Sig:=[(false,.bool)]
abbrev K330:LK:=.win (.int .u64)
abbrev P330_3:Pat:=⟨68,[(16,.one (.v .i64)),(15,.one (.sl (.int .u64))),(2,.one (.v .u64)),(17,.one (.v .i64)),(1,.one (.sl (.int .u64))),(0,.one (.sub 0)),(7,.one (.v .u64)),(8,.one (.v .u64))],[.arr (.int .u64)]⟩
abbrev A330_3:List (Nat×Shape):=[]
abbrev X330_3:List (Nat×Pat):=[(0,⟨68,[(1,.one (.sl (.int .u64))),(0,.one (.sub 0)),(7,.one (.v .u64)),(8,.one (.v .u64))],[.arr (.int .u64)]⟩)]
abbrev Q330_3:Option Pat:=none
noncomputable def h330_3 (p315:DenS I315→Bool) (f315:DenS I315→DenS O315) (p155:DenS I155→Bool) (f155:DenS I155→DenS O155) (p157:DenS I157→Bool) (f157:DenS I157→DenS O157) {R:Type} (L:Pat.D P330_3→Option R) (e:OutT X330_3 Q330_3→Option R) (x:Pat.D P330_3):Option R :=
 let e7_:=(x.2.1.getD (x.1.2.2.2.2.2.1.1+(Int.toNat x.1.2.2.2.1)) (0:Int))
 let e8_:=(x.1.2.2.1,((x.1.2.1.getD (Int.toNat x.1.2.2.2.1) (0:Int)),()))
 let e6_:=(f315 e8_)
 let e5_:=(f155 (e6_.2.1,(x.1.2.2.2.2.2.2.1,((0:Int),()))))
 let e1_:=(f157 (e7_,(e5_.1,x.1.2.2.2.2.2.2.2)))
 let e2_:=e5_
 let e3_:=((decide ((0:Int)≤x.1.2.2.2.1))&&(decide (x.1.2.2.2.1<(x.1.2.2.2.2.2.1.2:Int))))
 let e4_:=e6_
 bif (decide (x.1.2.2.2.1<x.1.1)) then
 (bif ((decide ((0:Int)≤x.1.2.2.2.1))&&(decide (x.1.2.2.2.1<(x.1.2.1.length:Int)))) then
 (bif (p315 e8_) then
 (bif (p155 (e4_.2.1,(x.1.2.2.2.2.2.2.1,((0:Int),())))) then
 (bif e3_ then
 (bif (p157 (e7_,(e2_.1,x.1.2.2.2.2.2.2.2))) then
 (bif e3_ then
 ((L ((x.1.1,(x.1.2.1,(x.1.2.2.1,((IntKind.wrap .i64 (x.1.2.2.2.1+(1:Int))),(x.1.2.2.2.2.1,(x.1.2.2.2.2.2.1,((IntKind.wrap .u64 (e4_.1+e2_.2.1)),e1_.2))))))),((x.2.1.set (x.1.2.2.2.2.2.1.1+(Int.toNat x.1.2.2.2.1)) e1_.1),()))))
 else none)
 else none)
 else none)
 else none)
 else none)
 else none)
 else (e (.inl (x.1.2.2.2.2,x.2)))
theorem s330_3 (p315:DenS I315→Bool) (f315:DenS I315→DenS O315) (p155:DenS I155→Bool) (f155:DenS I155→DenS O155) (p157:DenS I157→Bool) (f157:DenS I157→DenS O157) (w330_3:Pat.D P330_3→Option (OutT X330_3 Q330_3)) (d:Nat) (R:Type) (L:Pat.D P330_3→Option R) (e:OutT X330_3 Q330_3→Option R) (x:Pat.D P330_3) :
  lStep { P:=Tryd.prog,sums:=[(102,⟨I315,O315,p315,f315⟩),(112,⟨I155,O155,p155,f155⟩),(116,⟨I157,O157,p157,f157⟩)],loops:=[(132,3,LoopSpec.of P330_3 A330_3 X330_3 Q330_3 w330_3 1)],globs:=G1 } (d+2) 132 (bodyOf Tryd.f132 3) P330_3 A330_3 X330_3 Q330_3 (R:=R) L e x 1=h330_3 p315 f315 p155 f155 p157 f157 L e x:=by kernel_rfl
theorem m330_3 (p315:DenS I315→Bool) (f315:DenS I315→DenS O315) (p155:DenS I155→Bool) (f155:DenS I155→DenS O155) (p157:DenS I157→Bool) (f157:DenS I157→DenS O157):Par fun L e x=>h330_3 p315 f315 p155 f155 p157 f157 L e x:=by
 intro A B rel L L' e e' h0 hL he x
 unfold h330_3
 repeat' (first | exact h0 | exact hL _ | exact he _ | apply rel_cond | (apply rel_obind h0; intro _) | (apply rel_obind2 <;> intro _))
noncomputable def t330 (p315:DenS I315→Bool) (f315:DenS I315→DenS O315) (p155:DenS I155→Bool) (f155:DenS I155→DenS O155) (p157:DenS I157→Bool) (f157:DenS I157→DenS O157) (w330_3:Pat.D P330_3→Option (OutT X330_3 Q330_3)) (l0:LK.D (.win (.int .u64))) (a0:Den (.slice (.int .u64))) (a1:Den (.int .u64)):Option (LK.B K330×DenS O330) :=
 Vx.obind (w330_3 (((a0.length:Int),(a0,(a1,((0:Int),(a0,(l0.2,((0:Int),((0:Int),())))))))),(l0.1,()))) fun y0 =>
 Vx.obind2 y0 (fun y1 =>
 bif ((decide ((0:Int)≤(y1.1.1.length:Int)))&&(decide ((y1.1.1.length:Int)<(y1.1.2.1.2:Int)))) then
 (bif (p157 ((y1.2.1.getD (y1.1.2.1.1+(Int.toNat (y1.1.1.length:Int))) (0:Int)),y1.1.2.2)) then
 (bif ((decide ((0:Int)≤(y1.1.1.length:Int)))&&(decide ((y1.1.1.length:Int)<(y1.1.2.1.2:Int)))) then
 (some ((y1.2.1.set (y1.1.2.1.1+(Int.toNat (y1.1.1.length:Int))) (f157 ((y1.2.1.getD (y1.1.2.1.1+(Int.toNat (y1.1.1.length:Int))) (0:Int)),y1.1.2.2)).1),(((f157 ((y1.2.1.getD (y1.1.2.1.1+(Int.toNat (y1.1.1.length:Int))) (0:Int)),y1.1.2.2)).2.1 != (0:Int)),())))
 else none)
 else none)
 else none) (fun z1 =>
 none)
theorem r330 (p315:DenS I315→Bool) (f315:DenS I315→DenS O315) (p155:DenS I155→Bool) (f155:DenS I155→DenS O155) (p157:DenS I157→Bool) (f157:DenS I157→DenS O157) (w330_3:Pat.D P330_3→Option (OutT X330_3 Q330_3)) (l0:LK.D (.win (.int .u64))) (a0:Den (.slice (.int .u64))) (a1:Den (.int .u64)) :
  runL { P:=Tryd.prog,sums:=[(102,⟨I315,O315,p315,f315⟩),(112,⟨I155,O155,p155,f155⟩),(116,⟨I157,O157,p157,f157⟩)],loops:=[(132,3,LoopSpec.of P330_3 A330_3 X330_3 Q330_3 w330_3 1)],globs:=G1 } 9 132 Tryd.f132 (K330) I330 O330 (l0,(a0,a1,()))=t330 p315 f315 p155 f155 p157 f157 w330_3 l0 a0 a1:=by kernel_rfl
noncomputable def W330_3:P330_3.D→Option (OutT X330_3 Q330_3):=lfix fun L=>h330_3 S315.pre S315.F S155.pre S155.F S157.pre S157.F L some
noncomputable def T330 (x:LK.D K330×DenS I330):Option (LK.B K330×DenS O330):=t330 S315.pre S315.F S155.pre S155.F S157.pre S157.F W330_3 x.1 x.2.1 x.2.2.1
noncomputable def C330:Cfg:={ P:=Tryd.prog,sums:=[(102,S315),(112,S155),(116,S157)],loops:=[(132,3,LoopSpec.of P330_3 A330_3 X330_3 Q330_3 W330_3 1)],globs:=G1 }
noncomputable def S330:SumL:=sumOfL K330 I330 O330 T330 (LK.dflt K330,DenS.dflt O330)
theorem S330_sound:SoundL Tryd.prog G1 132 S330 :=
 fn_soundL C330 9 132 Tryd.f132 mixedOk (by kernel_rfl) (by kernel_rfl) (by kernel_rfl) ⟨S315_sound,⟨S155_sound,⟨S157_sound,trivial⟩⟩⟩ ⟨rfl,fun d=>loopOk_of (fun L e x=>h330_3 S315.pre S315.F S155.pre S155.F S157.pre S157.F L e x) (m330_3 S315.pre S315.F S155.pre S155.F S157.pre S157.F) (fun R L e x=>s330_3 S315.pre S315.F S155.pre S155.F S157.pre S157.F W330_3 d R L e x),trivial⟩ K330 I330 O330 T330 _ (fun x=>r330 S315.pre S315.F S155.pre S155.F S157.pre S157.F W330_3 x.1 x.2.1 x.2.2.1)
abbrev I331:Sig:=[(false,.slice (.int .u64))]
abbrev O331:Sig:=[(false,.bool)]
abbrev K331:LK:=.win (.int .u64)
abbrev P331_3:Pat:=⟨46,[(10,.one (.v .i64)),(9,.one (.sl (.int .u64))),(11,.one (.v .i64)),(1,.one (.sl (.int .u64))),(0,.one (.sub 0)),(5,.one (.v .u64))],[.arr (.int .u64)]⟩
abbrev A331_3:List (Nat×Shape):=[]
abbrev X331_3:List (Nat×Pat):=[(0,⟨46,[(1,.one (.sl (.int .u64))),(0,.one (.sub 0)),(5,.one (.v .u64))],[.arr (.int .u64)]⟩)]
abbrev Q331_3:Option Pat:=none
noncomputable def h331_3 (p155:DenS I155→Bool) (f155:DenS I155→DenS O155) {R:Type} (L:Pat.D P331_3→Option R) (e:OutT X331_3 Q331_3→Option R) (x:Pat.D P331_3):Option R :=
 let e3_:=((x.2.1.getD (x.1.2.2.2.2.1.1+(Int.toNat x.1.2.2.1)) (0:Int)),((x.1.2.1.getD (Int.toNat x.1.2.2.1) (0:Int)),x.1.2.2.2.2.2))
 let e1_:=(f155 e3_)
 let e2_:=((decide ((0:Int)≤x.1.2.2.1))&&(decide (x.1.2.2.1<(x.1.2.2.2.2.1.2:Int))))
 bif (decide (x.1.2.2.1<x.1.1)) then
 (bif ((decide ((0:Int)≤x.1.2.2.1))&&(decide (x.1.2.2.1<(x.1.2.1.length:Int)))) then
 (bif e2_ then
 (bif (p155 e3_) then
 (bif e2_ then
 ((L ((x.1.1,(x.1.2.1,((IntKind.wrap .i64 (x.1.2.2.1+(1:Int))),(x.1.2.2.2.1,(x.1.2.2.2.2.1,e1_.2))))),((x.2.1.set (x.1.2.2.2.2.1.1+(Int.toNat x.1.2.2.1)) e1_.1),()))))
 else none)
 else none)
 else none)
 else none)
 else (e (.inl (x.1.2.2.2,x.2)))
theorem s331_3 (p155:DenS I155→Bool) (f155:DenS I155→DenS O155) (w331_3:Pat.D P331_3→Option (OutT X331_3 Q331_3)) (d:Nat) (R:Type) (L:Pat.D P331_3→Option R) (e:OutT X331_3 Q331_3→Option R) (x:Pat.D P331_3) :
  lStep { P:=Tryd.prog,sums:=[(112,⟨I155,O155,p155,f155⟩)],loops:=[(133,3,LoopSpec.of P331_3 A331_3 X331_3 Q331_3 w331_3 1)],globs:=G1 } (d+2) 133 (bodyOf Tryd.f133 3) P331_3 A331_3 X331_3 Q331_3 (R:=R) L e x 1=h331_3 p155 f155 L e x:=by kernel_rfl
theorem m331_3 (p155:DenS I155→Bool) (f155:DenS I155→DenS O155):Par fun L e x=>h331_3 p155 f155 L e x:=by
 intro A B rel L L' e e' h0 hL he x
 unfold h331_3
 repeat' (first | exact h0 | exact hL _ | exact he _ | apply rel_cond | (apply rel_obind h0; intro _) | (apply rel_obind2 <;> intro _))
noncomputable def t331 (p155:DenS I155→Bool) (f155:DenS I155→DenS O155) (w331_3:Pat.D P331_3→Option (OutT X331_3 Q331_3)) (l0:LK.D (.win (.int .u64))) (a0:Den (.slice (.int .u64))):Option (LK.B K331×DenS O331) :=
 Vx.obind (w331_3 (((a0.length:Int),(a0,((0:Int),(a0,(l0.2,((0:Int),())))))),(l0.1,()))) fun y0 =>
 Vx.obind2 y0 (fun y1 =>
 bif ((decide ((0:Int)≤(y1.1.1.length:Int)))&&(decide ((y1.1.1.length:Int)<(y1.1.2.1.2:Int)))) then
 (bif (p155 ((y1.2.1.getD (y1.1.2.1.1+(Int.toNat (y1.1.1.length:Int))) (0:Int)),((0:Int),y1.1.2.2))) then
 (bif ((decide ((0:Int)≤(y1.1.1.length:Int)))&&(decide ((y1.1.1.length:Int)<(y1.1.2.1.2:Int)))) then
 (some ((y1.2.1.set (y1.1.2.1.1+(Int.toNat (y1.1.1.length:Int))) (f155 ((y1.2.1.getD (y1.1.2.1.1+(Int.toNat (y1.1.1.length:Int))) (0:Int)),((0:Int),y1.1.2.2))).1),(((f155 ((y1.2.1.getD (y1.1.2.1.1+(Int.toNat (y1.1.1.length:Int))) (0:Int)),((0:Int),y1.1.2.2))).2.1 != (0:Int)),())))
 else none)
 else none)
 else none) (fun z1 =>
 none)
theorem r331 (p155:DenS I155→Bool) (f155:DenS I155→DenS O155) (w331_3:Pat.D P331_3→Option (OutT X331_3 Q331_3)) (l0:LK.D (.win (.int .u64))) (a0:Den (.slice (.int .u64))) :
  runL { P:=Tryd.prog,sums:=[(112,⟨I155,O155,p155,f155⟩)],loops:=[(133,3,LoopSpec.of P331_3 A331_3 X331_3 Q331_3 w331_3 1)],globs:=G1 } 9 133 Tryd.f133 (K331) I331 O331 (l0,(a0,()))=t331 p155 f155 w331_3 l0 a0:=by kernel_rfl
noncomputable def W331_3:P331_3.D→Option (OutT X331_3 Q331_3):=lfix fun L=>h331_3 S155.pre S155.F L some
noncomputable def T331 (x:LK.D K331×DenS I331):Option (LK.B K331×DenS O331):=t331 S155.pre S155.F W331_3 x.1 x.2.1
noncomputable def C331:Cfg:={ P:=Tryd.prog,sums:=[(112,S155)],loops:=[(133,3,LoopSpec.of P331_3 A331_3 X331_3 Q331_3 W331_3 1)],globs:=G1 }
noncomputable def S331:SumL:=sumOfL K331 I331 O331 T331 (LK.dflt K331,DenS.dflt O331)
theorem S331_sound:SoundL Tryd.prog G1 133 S331 :=
 fn_soundL C331 9 133 Tryd.f133 mixedOk (by kernel_rfl) (by kernel_rfl) (by kernel_rfl) ⟨S155_sound,trivial⟩ ⟨rfl,fun d=>loopOk_of (fun L e x=>h331_3 S155.pre S155.F L e x) (m331_3 S155.pre S155.F) (fun R L e x=>s331_3 S155.pre S155.F W331_3 d R L e x),trivial⟩ K331 I331 O331 T331 _ (fun x=>r331 S155.pre S155.F W331_3 x.1 x.2.1)
abbrev I332:Sig:=[(false,.slice (.int .u64))]
abbrev O332:Sig:=[(false,.int .u64)]
abbrev K332:LK:=.win (.int .u64)
abbrev P332_6:Pat:=⟨92,[(6,.one (.v .u64)),(7,.one (.v .u64)),(5,.one (.v .i64)),(0,.one (.sub 0)),(1,.one (.sl (.int .u64)))],[.arr (.int .u64)]⟩
abbrev A332_6:List (Nat×Shape):=[]
abbrev X332_6:List (Nat×Pat):=[(0,⟨92,[(0,.one (.sub 0)),(1,.one (.sl (.int .u64))),(6,.one (.v .u64))],[.arr (.int .u64)]⟩)]
abbrev Q332_6:Option Pat:=none
abbrev P332_13:Pat:=⟨92,[(6,.one (.v .u64)),(0,.one (.sub 0)),(1,.one (.sl (.int .u64)))],[.arr (.int .u64)]⟩
abbrev A332_13:List (Nat×Shape):=[]
abbrev X332_13:List (Nat×Pat):=[(2,⟨92,[(6,.one (.v .u64))],[.arr (.int .u64)]⟩)]
abbrev Q332_13:Option Pat:=none
noncomputable def h332_13 (p328:DenS I328→Bool) (f328:DenS I328→DenS O328) (p315:DenS I315→Bool) (f315:DenS I315→DenS O315) (p155:DenS I155→Bool) (f155:DenS I155→DenS O155) (p330:LK.D K330×DenS I330→Bool) (f330:LK.D K330×DenS I330→LK.B K330×DenS O330) (p331:LK.D K331×DenS I331→Bool) (f331:LK.D K331×DenS I331→LK.B K331×DenS O331) {R:Type} (L:Pat.D P332_13→Option R) (e:OutT X332_13 Q332_13→Option R) (x:Pat.D P332_13):Option R :=
 let e1_:=(IntKind.wrap .u64 (x.1.1-(1:Int)))
 bif (p331 ((x.2.1,x.1.2.1),x.1.2.2)) then
 (bif (f331 ((x.2.1,x.1.2.1),x.1.2.2)).2.1 then
 ((e (.inl ((e1_,()),((f331 ((x.2.1,x.1.2.1),x.1.2.2)).1,())))))
 else (L ((e1_,x.1.2),((f331 ((x.2.1,x.1.2.1),x.1.2.2)).1,()))))
 else none
theorem s332_13 (p328:DenS I328→Bool) (f328:DenS I328→DenS O328) (p315:DenS I315→Bool) (f315:DenS I315→DenS O315) (p155:DenS I155→Bool) (f155:DenS I155→DenS O155) (p330:LK.D K330×DenS I330→Bool) (f330:LK.D K330×DenS I330→LK.B K330×DenS O330) (p331:LK.D K331×DenS I331→Bool) (f331:LK.D K331×DenS I331→LK.B K331×DenS O331) (w332_6:Pat.D P332_6→Option (OutT X332_6 Q332_6)) (w332_13:Pat.D P332_13→Option (OutT X332_13 Q332_13)) (d:Nat) (R:Type) (L:Pat.D P332_13→Option R) (e:OutT X332_13 Q332_13→Option R) (x:Pat.D P332_13) :
  lStep { P:=Tryd.prog,sums:=[(131,⟨I328,O328,p328,f328⟩),(102,⟨I315,O315,p315,f315⟩),(112,⟨I155,O155,p155,f155⟩)],loops:=[(125,6,LoopSpec.of P332_6 A332_6 X332_6 Q332_6 w332_6 1),(125,13,LoopSpec.of P332_13 A332_13 X332_13 Q332_13 w332_13 1)],globs:=G1,lsums:=[(132,⟨K330,I330,O330,p330,f330⟩),(133,⟨K331,I331,O331,p331,f331⟩)] } (d+2) 125 (bodyOf Tryd.f125 13) P332_13 A332_13 X332_13 Q332_13 (R:=R) L e x 1=h332_13 p328 f328 p315 f315 p155 f155 p330 f330 p331 f331 L e x:=by kernel_rfl
theorem m332_13 (p328:DenS I328→Bool) (f328:DenS I328→DenS O328) (p315:DenS I315→Bool) (f315:DenS I315→DenS O315) (p155:DenS I155→Bool) (f155:DenS I155→DenS O155) (p330:LK.D K330×DenS I330→Bool) (f330:LK.D K330×DenS I330→LK.B K330×DenS O330) (p331:LK.D K331×DenS I331→Bool) (f331:LK.D K331×DenS I331→LK.B K331×DenS O331):Par fun L e x=>h332_13 p328 f328 p315 f315 p155 f155 p330 f330 p331 f331 L e x:=by
 intro A B rel L L' e e' h0 hL he x
 unfold h332_13
 repeat' (first | exact h0 | exact hL _ | exact he _ | apply rel_cond | (apply rel_obind h0; intro _) | (apply rel_obind2 <;> intro _))
noncomputable def h332_6 (p328:DenS I328→Bool) (f328:DenS I328→DenS O328) (p315:DenS I315→Bool) (f315:DenS I315→DenS O315) (p155:DenS I155→Bool) (f155:DenS I155→DenS O155) (p330:LK.D K330×DenS I330→Bool) (f330:LK.D K330×DenS I330→LK.B K330×DenS O330) (p331:LK.D K331×DenS I331→Bool) (f331:LK.D K331×DenS I331→LK.B K331×DenS O331) {R:Type} (L:Pat.D P332_6→Option R) (e:OutT X332_6 Q332_6→Option R) (x:Pat.D P332_6):Option R :=
 let e11_:=(IntKind.wrap .i64 (x.1.2.2.1-(2:Int)))
 let e10_:=(Int.toNat e11_)
 let e9_:=(f315 (x.1.1,((x.1.2.2.2.2.1.getD e10_ (0:Int)),())))
 let e1_:=(decide (e9_.1<x.1.2.1))
 let e12_:=(IntKind.wrap .i64 (x.1.2.2.1-(1:Int)))
 let e2_:=(f155 (x.1.2.1,((x.1.2.2.2.2.1.getD (Int.toNat e12_) (0:Int)),((0:Int),()))))
 let e3_:=e9_
 let e4_:=(decide ((0:Int)≤e11_))
 let e5_:=e10_
 let e6_:=e12_
 let e7_:=e11_
 let e8_:=(IntKind.wrap .u64 (x.1.1-(1:Int)))
 bif (e4_&&(decide (e7_<(x.1.2.2.2.2.1.length:Int)))) then
 (bif (p315 (x.1.1,((x.1.2.2.2.2.1.getD e5_ (0:Int)),()))) then
 (bif ((e4_&&(decide (e7_<(x.1.2.2.2.1.2:Int))))||(!((bif e1_ then false else true)&&(decide (e3_.1=x.1.2.1))))) then
 (bif (e1_||((e3_.1==x.1.2.1)&&(decide (e3_.2.1≤(x.2.1.getD (x.1.2.2.2.1.1+e5_) (0:Int)))))) then
 ((e (.inl ((x.1.2.2.2.1,(x.1.2.2.2.2.1,(x.1.1,()))),x.2))))
 else bif ((decide ((0:Int)≤e6_))&&(decide (e6_<(x.1.2.2.2.2.1.length:Int)))) then
 (bif (p155 (x.1.2.1,((x.1.2.2.2.2.1.getD (Int.toNat e6_) (0:Int)),((0:Int),())))) then
 (bif (e2_.2.1 != (0:Int)) then
 ((e (.inl ((x.1.2.2.2.1,(x.1.2.2.2.2.1,(e8_,()))),x.2))))
 else (L ((e8_,(e2_.1,x.1.2.2)),x.2)))
 else none)
 else none)
 else none)
 else none)
 else none
theorem s332_6 (p328:DenS I328→Bool) (f328:DenS I328→DenS O328) (p315:DenS I315→Bool) (f315:DenS I315→DenS O315) (p155:DenS I155→Bool) (f155:DenS I155→DenS O155) (p330:LK.D K330×DenS I330→Bool) (f330:LK.D K330×DenS I330→LK.B K330×DenS O330) (p331:LK.D K331×DenS I331→Bool) (f331:LK.D K331×DenS I331→LK.B K331×DenS O331) (w332_6:Pat.D P332_6→Option (OutT X332_6 Q332_6)) (w332_13:Pat.D P332_13→Option (OutT X332_13 Q332_13)) (d:Nat) (R:Type) (L:Pat.D P332_6→Option R) (e:OutT X332_6 Q332_6→Option R) (x:Pat.D P332_6) :
  lStep { P:=Tryd.prog,sums:=[(131,⟨I328,O328,p328,f328⟩),(102,⟨I315,O315,p315,f315⟩),(112,⟨I155,O155,p155,f155⟩)],loops:=[(125,6,LoopSpec.of P332_6 A332_6 X332_6 Q332_6 w332_6 1),(125,13,LoopSpec.of P332_13 A332_13 X332_13 Q332_13 w332_13 1)],globs:=G1,lsums:=[(132,⟨K330,I330,O330,p330,f330⟩),(133,⟨K331,I331,O331,p331,f331⟩)] } (d+2) 125 (bodyOf Tryd.f125 6) P332_6 A332_6 X332_6 Q332_6 (R:=R) L e x 1=h332_6 p328 f328 p315 f315 p155 f155 p330 f330 p331 f331 L e x:=by kernel_rfl
theorem m332_6 (p328:DenS I328→Bool) (f328:DenS I328→DenS O328) (p315:DenS I315→Bool) (f315:DenS I315→DenS O315) (p155:DenS I155→Bool) (f155:DenS I155→DenS O155) (p330:LK.D K330×DenS I330→Bool) (f330:LK.D K330×DenS I330→LK.B K330×DenS O330) (p331:LK.D K331×DenS I331→Bool) (f331:LK.D K331×DenS I331→LK.B K331×DenS O331):Par fun L e x=>h332_6 p328 f328 p315 f315 p155 f155 p330 f330 p331 f331 L e x:=by
 intro A B rel L L' e e' h0 hL he x
 unfold h332_6
 repeat' (first | exact h0 | exact hL _ | exact he _ | apply rel_cond | (apply rel_obind h0; intro _) | (apply rel_obind2 <;> intro _))
noncomputable def t332 (p328:DenS I328→Bool) (f328:DenS I328→DenS O328) (p315:DenS I315→Bool) (f315:DenS I315→DenS O315) (p155:DenS I155→Bool) (f155:DenS I155→DenS O155) (p330:LK.D K330×DenS I330→Bool) (f330:LK.D K330×DenS I330→LK.B K330×DenS O330) (p331:LK.D K331×DenS I331→Bool) (f331:LK.D K331×DenS I331→LK.B K331×DenS O331) (w332_6:Pat.D P332_6→Option (OutT X332_6 Q332_6)) (w332_13:Pat.D P332_13→Option (OutT X332_13 Q332_13)) (l0:LK.D (.win (.int .u64))) (a0:Den (.slice (.int .u64))):Option (LK.B K332×DenS O332) :=
 let e11_:=(l0.1.getD (l0.2.1+(Int.toNat (a0.length:Int))) (0:Int))
 let e10_:=(IntKind.wrap .i64 ((a0.length:Int)-(1:Int)))
 let e9_:=(Int.toNat e10_)
 let e8_:=(a0.getD e9_ (0:Int))
 let e1_:=(f328 (e11_,((l0.1.getD (l0.2.1+e9_) (0:Int)),(e8_,()))))
 let e2_:=((decide ((0:Int)≤e10_))&&(decide (e10_<(a0.length:Int))))
 let e3_:=e8_
 let e4_:=((decide ((0:Int)≤(a0.length:Int)))&&(decide ((a0.length:Int)<(l0.2.2:Int))))
 let e5_:=e10_
 let e12_:=((l0.1,l0.2),(a0,((18446744073709551615:Int),())))
 let e6_:=(f330 e12_)
 let e7_:=e11_
 bif e4_ then
 (bif e2_ then
 (bif (decide (e7_<e3_)) then
 (bif e4_ then
 (bif ((decide ((0:Int)≤e5_))&&(decide (e5_<(l0.2.2:Int)))) then
 (bif e2_ then
 (bif (p328 (e7_,((l0.1.getD (l0.2.1+(Int.toNat e5_)) (0:Int)),(e3_,())))) then
 (Vx.obind (w332_6 ((e1_.1,(e1_.2.1,((a0.length:Int),(l0.2,(a0,()))))),(l0.1,()))) fun y7 =>
 Vx.obind2 y7 (fun y8 =>
 bif (p330 ((y8.2.1,y8.1.1),y8.1.2)) then
 (bif (f330 ((y8.2.1,y8.1.1),y8.1.2)).2.1 then
 (Vx.obind (w332_13 ((y8.1.2.2.1,(y8.1.1,(y8.1.2.1,()))),((f330 ((y8.2.1,y8.1.1),y8.1.2)).1,()))) fun y11 =>
 Vx.obind2 y11 (fun y12 =>
 some (y12.2.1,y12.1)) (fun z12 =>
 none))
 else some ((f330 ((y8.2.1,y8.1.1),y8.1.2)).1,y8.1.2.2))
 else none) (fun z8 =>
 none))
 else none)
 else none)
 else none)
 else none)
 else bif (p330 e12_) then
 (bif e6_.2.1 then
 (Vx.obind (w332_13 (((18446744073709551615:Int),(l0.2,(a0,()))),(e6_.1,()))) fun y5 =>
 Vx.obind2 y5 (fun y6 =>
 some (y6.2.1,y6.1)) (fun z6 =>
 none))
 else some (e6_.1,((18446744073709551615:Int),())))
 else none)
 else none)
 else none
theorem r332 (p328:DenS I328→Bool) (f328:DenS I328→DenS O328) (p315:DenS I315→Bool) (f315:DenS I315→DenS O315) (p155:DenS I155→Bool) (f155:DenS I155→DenS O155) (p330:LK.D K330×DenS I330→Bool) (f330:LK.D K330×DenS I330→LK.B K330×DenS O330) (p331:LK.D K331×DenS I331→Bool) (f331:LK.D K331×DenS I331→LK.B K331×DenS O331) (w332_6:Pat.D P332_6→Option (OutT X332_6 Q332_6)) (w332_13:Pat.D P332_13→Option (OutT X332_13 Q332_13)) (l0:LK.D (.win (.int .u64))) (a0:Den (.slice (.int .u64))) :
  runL { P:=Tryd.prog,sums:=[(131,⟨I328,O328,p328,f328⟩),(102,⟨I315,O315,p315,f315⟩),(112,⟨I155,O155,p155,f155⟩)],loops:=[(125,6,LoopSpec.of P332_6 A332_6 X332_6 Q332_6 w332_6 1),(125,13,LoopSpec.of P332_13 A332_13 X332_13 Q332_13 w332_13 1)],globs:=G1,lsums:=[(132,⟨K330,I330,O330,p330,f330⟩),(133,⟨K331,I331,O331,p331,f331⟩)] } 9 125 Tryd.f125 (K332) I332 O332 (l0,(a0,()))=t332 p328 f328 p315 f315 p155 f155 p330 f330 p331 f331 w332_6 w332_13 l0 a0:=by kernel_rfl
noncomputable def W332_13:P332_13.D→Option (OutT X332_13 Q332_13):=lfix fun L=>h332_13 S328.pre S328.F S315.pre S315.F S155.pre S155.F S330.pre S330.F S331.pre S331.F L some
noncomputable def W332_6:P332_6.D→Option (OutT X332_6 Q332_6):=lfix fun L=>h332_6 S328.pre S328.F S315.pre S315.F S155.pre S155.F S330.pre S330.F S331.pre S331.F L some
noncomputable def T332 (x:LK.D K332×DenS I332):Option (LK.B K332×DenS O332):=t332 S328.pre S328.F S315.pre S315.F S155.pre S155.F S330.pre S330.F S331.pre S331.F W332_6 W332_13 x.1 x.2.1
noncomputable def C332:Cfg:={ P:=Tryd.prog,sums:=[(131,S328),(102,S315),(112,S155)],loops:=[(125,6,LoopSpec.of P332_6 A332_6 X332_6 Q332_6 W332_6 1),(125,13,LoopSpec.of P332_13 A332_13 X332_13 Q332_13 W332_13 1)],globs:=G1,lsums:=[(132,S330),(133,S331)] }
noncomputable def S332:SumL:=sumOfL K332 I332 O332 T332 (LK.dflt K332,DenS.dflt O332)
theorem S332_sound:SoundL Tryd.prog G1 125 S332 :=
 fn_soundL C332 9 125 Tryd.f125 mixedOk (by kernel_rfl) (by kernel_rfl) (by kernel_rfl) ⟨S328_sound,⟨S315_sound,⟨S155_sound,trivial⟩⟩⟩ ⟨rfl,fun d=>loopOk_of (fun L e x=>h332_6 S328.pre S328.F S315.pre S315.F S155.pre S155.F S330.pre S330.F S331.pre S331.F L e x) (m332_6 S328.pre S328.F S315.pre S315.F S155.pre S155.F S330.pre S330.F S331.pre S331.F) (fun R L e x=>s332_6 S328.pre S328.F S315.pre S315.F S155.pre S155.F S330.pre S330.F S331.pre S331.F W332_6 W332_13 d R L e x),⟨rfl,fun d=>loopOk_of (fun L e x=>h332_13 S328.pre S328.F S315.pre S315.F S155.pre S155.F S330.pre S330.F S331.pre S331.F L e x) (m332_13 S328.pre S328.F S315.pre S315.F S155.pre S155.F S330.pre S330.F S331.pre S331.F) (fun R L e x=>s332_13 S328.pre S328.F S315.pre S315.F S155.pre S155.F S330.pre S330.F S331.pre S331.F W332_6 W332_13 d R L e x),trivial⟩⟩ K332 I332 O332 T332 _ (fun x=>r332 S328.pre S328.F S315.pre S315.F S155.pre S155.F S330.pre S330.F S331.pre S331.F W332_6 W332_13 x.1 x.2.1) (hls:=⟨S330_sound,⟨S331_sound,trivial⟩⟩)
end Vx
