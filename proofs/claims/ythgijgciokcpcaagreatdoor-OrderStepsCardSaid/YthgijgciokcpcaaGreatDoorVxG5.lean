/- Part 5 of the proof. What is proved: symbolic execution of the functions, proved sound; what each function of the program computes, and that every run ends with it; what these functions compute, in plain numbers. Conditions: each theorem bears its own. -/
import Derived.Test.YthgijgciokcpcaaGreatDoorVxG4
import Derived.IntWalk
set_option linter.all false
set_option exponentiation.threshold 1000000
namespace Vx
open Go Go.Proofs
/-- vernier/nat.Add -/
abbrev I143 : Sig := [(false, .slice (.int .u64)), (false, .slice (.int .u64))]
abbrev O143 : Sig := [(false, .slice (.int .u64))]
abbrev P143_8 : Pat := ⟨61, [(28, .one (.v .i64)), (1, .one (.sl (.int .u64))), (29, .one (.v .i64)), (0, .one (.sl (.int .u64))), (6, .one (.v .u64)), (5, .one (.own 0))], [.arr (.int .u64)]⟩
abbrev A143_8 : List (Nat × Shape) := []
abbrev X143_8 : List (Nat × Pat) := [(0, ⟨61, [(0, .one (.sl (.int .u64))), (6, .one (.v .u64)), (5, .one (.own 0))], [.arr (.int .u64)]⟩)]
abbrev Q143_8 : Option Pat := none
noncomputable def h143_8 (p155 : DenS I155 → Bool) (f155 : DenS I155 → DenS O155) (p173 : DenS I173 → Bool) (f173 : DenS I173 → DenS O173) {R : Type} (L : Pat.D P143_8 → Option R) (e : OutT X143_8 Q143_8 → Option R) (x : Pat.D P143_8) : Option R :=
  bif (decide (x.1.2.2.1 < x.1.1)) then
  (bif (decide (x.1.2.2.1 < (x.1.2.1.length : Int))) then
  (bif ((decide ((0 : Int) ≤ x.1.2.2.1)) && (decide (x.1.2.2.1 < (x.1.2.1.length : Int)))) then
  (bif ((decide ((0 : Int) ≤ x.1.2.2.1)) && (decide (x.1.2.2.1 < (x.1.2.2.2.1.length : Int)))) then
  (bif (p155 ((x.1.2.2.2.1.getD (Int.toNat x.1.2.2.1) (0 : Int)), ((x.1.2.1.getD (Int.toNat x.1.2.2.1) (0 : Int)), (x.1.2.2.2.2.1, ())))) then
  (bif ((decide ((0 : Int) ≤ x.1.2.2.1)) && (decide (x.1.2.2.1 < (x.2.1.length : Int)))) then
  ((L ((x.1.1, (x.1.2.1, ((Go.IntKind.wrap Go.IntKind.i64 (x.1.2.2.1 + (1 : Int))), (x.1.2.2.2.1, ((f155 ((x.1.2.2.2.1.getD (Int.toNat x.1.2.2.1) (0 : Int)), ((x.1.2.1.getD (Int.toNat x.1.2.2.1) (0 : Int)), (x.1.2.2.2.2.1, ())))).2.1, ((), ())))))), ((x.2.1.set (Int.toNat x.1.2.2.1) (f155 ((x.1.2.2.2.1.getD (Int.toNat x.1.2.2.1) (0 : Int)), ((x.1.2.1.getD (Int.toNat x.1.2.2.1) (0 : Int)), (x.1.2.2.2.2.1, ())))).1), ()))))
  else none)
  else none)
  else none)
  else none)
  else bif ((decide ((0 : Int) ≤ x.1.2.2.1)) && (decide (x.1.2.2.1 < (x.1.2.2.2.1.length : Int)))) then
  (bif (p155 ((x.1.2.2.2.1.getD (Int.toNat x.1.2.2.1) (0 : Int)), ((0 : Int), (x.1.2.2.2.2.1, ())))) then
  (bif ((decide ((0 : Int) ≤ x.1.2.2.1)) && (decide (x.1.2.2.1 < (x.2.1.length : Int)))) then
  ((L ((x.1.1, (x.1.2.1, ((Go.IntKind.wrap Go.IntKind.i64 (x.1.2.2.1 + (1 : Int))), (x.1.2.2.2.1, ((f155 ((x.1.2.2.2.1.getD (Int.toNat x.1.2.2.1) (0 : Int)), ((0 : Int), (x.1.2.2.2.2.1, ())))).2.1, ((), ())))))), ((x.2.1.set (Int.toNat x.1.2.2.1) (f155 ((x.1.2.2.2.1.getD (Int.toNat x.1.2.2.1) (0 : Int)), ((0 : Int), (x.1.2.2.2.2.1, ())))).1), ()))))
  else none)
  else none)
  else none)
  else (e (.inl ((x.1.2.2.2.1, (x.1.2.2.2.2.1, ((), ()))), x.2)))
theorem s143_8 (p155 : DenS I155 → Bool) (f155 : DenS I155 → DenS O155) (p173 : DenS I173 → Bool) (f173 : DenS I173 → DenS O173) (w143_8 : Pat.D P143_8 → Option (OutT X143_8 Q143_8)) (d : Nat) (R : Type) (L : Pat.D P143_8 → Option R) (e : OutT X143_8 Q143_8 → Option R) (x : Pat.D P143_8) :
    lStep { P := Go.Proofs.Tryz.prog, sums := [(185, ⟨I155, O155, p155, f155⟩), (188, ⟨I173, O173, p173, f173⟩)], loops := [(191, 8, LoopSpec.of P143_8 A143_8 X143_8 Q143_8 w143_8)], globs := G1 } (d + 2) 191 (bodyOf Go.Proofs.Tryz.f191 8) P143_8 A143_8 X143_8 Q143_8 (R := R) L e x = h143_8 p155 f155 p173 f173 L e x := by kernel_rfl
theorem m143_8 (p155 : DenS I155 → Bool) (f155 : DenS I155 → DenS O155) (p173 : DenS I173 → Bool) (f173 : DenS I173 → DenS O173) : Par fun L e x => h143_8 p155 f155 p173 f173 L e x := by
  intro A B rel L L' e e' h0 hL he x
  unfold h143_8
  repeat' (first | exact h0 | exact hL _ | exact he _ | apply rel_cond | (apply rel_obind h0; intro _) | (apply rel_obind2 <;> intro _))
noncomputable def t143 (p155 : DenS I155 → Bool) (f155 : DenS I155 → DenS O155) (p173 : DenS I173 → Bool) (f173 : DenS I173 → DenS O173) (w143_8 : Pat.D P143_8 → Option (OutT X143_8 Q143_8)) (a0 : Den (.slice (.int .u64))) (a1 : Den (.slice (.int .u64))) : Option (DenS O143) :=
  bif (p173 (a0, ())) then
  (bif (p173 (a1, ())) then
  (bif (decide (((f173 (a0, ())).1.length : Int) < ((f173 (a1, ())).1.length : Int))) then
  (bif ((decide ((0 : Int) ≤ (Go.IntKind.wrap Go.IntKind.i64 (((f173 (a1, ())).1.length : Int) + (1 : Int))))) && (decide (((Go.IntKind.wrap Go.IntKind.i64 (((f173 (a1, ())).1.length : Int) + (1 : Int))) * (8 : Int)) ≤ (140737488355328 : Int)))) then
  (Vx.obind (w143_8 ((((f173 (a1, ())).1.length : Int), ((f173 (a0, ())).1, ((0 : Int), ((f173 (a1, ())).1, ((0 : Int), ((), ())))))), ((((f173 (a1, ())).1.take (List.replicate (Int.toNat (Go.IntKind.wrap Go.IntKind.i64 (((f173 (a1, ())).1.length : Int) + (1 : Int)))) (0 : Int)).length) ++ ((List.replicate (Int.toNat (Go.IntKind.wrap Go.IntKind.i64 (((f173 (a1, ())).1.length : Int) + (1 : Int)))) (0 : Int)).drop (f173 (a1, ())).1.length)), ()))) fun y4 =>
  Vx.obind2 y4 (fun y5 =>
  bif ((decide ((0 : Int) ≤ (y5.1.1.length : Int))) && (decide ((y5.1.1.length : Int) < (y5.2.1.length : Int)))) then
  (bif (p173 ((y5.2.1.set (Int.toNat (y5.1.1.length : Int)) y5.1.2.1), ())) then
  (some (f173 ((y5.2.1.set (Int.toNat (y5.1.1.length : Int)) y5.1.2.1), ())))
  else none)
  else none) (fun z5 =>
  none))
  else none)
  else bif ((decide ((0 : Int) ≤ (Go.IntKind.wrap Go.IntKind.i64 (((f173 (a0, ())).1.length : Int) + (1 : Int))))) && (decide (((Go.IntKind.wrap Go.IntKind.i64 (((f173 (a0, ())).1.length : Int) + (1 : Int))) * (8 : Int)) ≤ (140737488355328 : Int)))) then
  (Vx.obind (w143_8 ((((f173 (a0, ())).1.length : Int), ((f173 (a1, ())).1, ((0 : Int), ((f173 (a0, ())).1, ((0 : Int), ((), ())))))), ((((f173 (a0, ())).1.take (List.replicate (Int.toNat (Go.IntKind.wrap Go.IntKind.i64 (((f173 (a0, ())).1.length : Int) + (1 : Int)))) (0 : Int)).length) ++ ((List.replicate (Int.toNat (Go.IntKind.wrap Go.IntKind.i64 (((f173 (a0, ())).1.length : Int) + (1 : Int)))) (0 : Int)).drop (f173 (a0, ())).1.length)), ()))) fun y4 =>
  Vx.obind2 y4 (fun y5 =>
  bif ((decide ((0 : Int) ≤ (y5.1.1.length : Int))) && (decide ((y5.1.1.length : Int) < (y5.2.1.length : Int)))) then
  (bif (p173 ((y5.2.1.set (Int.toNat (y5.1.1.length : Int)) y5.1.2.1), ())) then
  (some (f173 ((y5.2.1.set (Int.toNat (y5.1.1.length : Int)) y5.1.2.1), ())))
  else none)
  else none) (fun z5 =>
  none))
  else none)
  else none)
  else none
theorem r143 (p155 : DenS I155 → Bool) (f155 : DenS I155 → DenS O155) (p173 : DenS I173 → Bool) (f173 : DenS I173 → DenS O173) (w143_8 : Pat.D P143_8 → Option (OutT X143_8 Q143_8)) (a0 : Den (.slice (.int .u64))) (a1 : Den (.slice (.int .u64))) :
    run { P := Go.Proofs.Tryz.prog, sums := [(185, ⟨I155, O155, p155, f155⟩), (188, ⟨I173, O173, p173, f173⟩)], loops := [(191, 8, LoopSpec.of P143_8 A143_8 X143_8 Q143_8 w143_8)], globs := G1 } 9 191 Go.Proofs.Tryz.f191 I143 O143 (a0, a1, ()) = t143 p155 f155 p173 f173 w143_8 a0 a1 := by kernel_rfl
noncomputable def W143_8 : P143_8.D → Option (OutT X143_8 Q143_8) := lfix fun L => h143_8 S155.pre S155.F S173.pre S173.F L some
noncomputable def T143 (x : DenS I143) : Option (DenS O143) := t143 S155.pre S155.F S173.pre S173.F W143_8 x.1 x.2.1
noncomputable def C143 : Cfg := { P := Go.Proofs.Tryz.prog, sums := [(185, S155), (188, S173)], loops := [(191, 8, LoopSpec.of P143_8 A143_8 X143_8 Q143_8 W143_8)], globs := G1 }
noncomputable def S143 : Sum := sumOf I143 O143 T143 (DenS.dflt O143)
theorem S143_sound : Sound Go.Proofs.Tryz.prog G1 191 S143 :=
  fn_sound C143 9 191 Go.Proofs.Tryz.f191 mixedOk (by kernel_rfl) (by kernel_rfl) (by kernel_rfl) ⟨S155_sound, ⟨S173_sound, trivial⟩⟩ ⟨rfl, fun d => loopOk_of (fun L e x => h143_8 S155.pre S155.F S173.pre S173.F L e x) (m143_8 S155.pre S155.F S173.pre S173.F) (fun R L e x => s143_8 S155.pre S155.F S173.pre S173.F W143_8 d R L e x), trivial⟩ I143 O143 T143 _ (fun x => r143 S155.pre S155.F S173.pre S173.F W143_8 x.1 x.2.1)
/-- (vernier/round.number).cut -/
abbrev I150 : Sig := [(true, .pair (.bool) (.pair (.slice (.int .u64)) (.pair (.int .i64) (.pair (.bool) (.unit))))), (false, .int .i64), (false, .int .i64)]
abbrev O150 : Sig := [(false, .slice (.int .u64)), (false, .bool)]
noncomputable def t150 (p175 : DenS I175 → Bool) (f175 : DenS I175 → DenS O175) (p176 : DenS I176 → Bool) (f176 : DenS I176 → DenS O176) (p141 : DenS I141 → Bool) (f141 : DenS I141 → DenS O141) (p177 : DenS I177 → Bool) (f177 : DenS I177 → DenS O177) (p143 : DenS I143 → Bool) (f143 : DenS I143 → DenS O143) (a0 : Den (.pair (.bool) (.pair (.slice (.int .u64)) (.pair (.int .i64) (.pair (.bool) (.unit)))))) (a1 : Den (.int .i64)) (a2 : Den (.int .i64)) : Option (DenS O150) :=
  bif (decide ((Go.IntKind.wrap Go.IntKind.i64 (a2 - a0.2.2.1)) ≥ (2 : Int))) then
  (bif (p175 (a0.2.1, ((Go.IntKind.wrap Go.IntKind.i64 ((Go.IntKind.wrap Go.IntKind.i64 (a2 - a0.2.2.1)) - (2 : Int))), ()))) then
  (bif (decide (((f175 (a0.2.1, ((Go.IntKind.wrap Go.IntKind.i64 ((Go.IntKind.wrap Go.IntKind.i64 (a2 - a0.2.2.1)) - (2 : Int))), ()))).1.length : Int) > (0 : Int))) then
  (bif (decide ((0 : Int) < ((f175 (a0.2.1, ((Go.IntKind.wrap Go.IntKind.i64 ((Go.IntKind.wrap Go.IntKind.i64 (a2 - a0.2.2.1)) - (2 : Int))), ()))).1.length : Int))) then
  (bif a0.2.2.2.1 then
  (bif (p141 ((f175 (a0.2.1, ((Go.IntKind.wrap Go.IntKind.i64 ((Go.IntKind.wrap Go.IntKind.i64 (a2 - a0.2.2.1)) - (2 : Int))), ()))).1, ((2 : Int), ()))) then
  (bif ((decide ((0 : Int) < ((f141 ((f175 (a0.2.1, ((Go.IntKind.wrap Go.IntKind.i64 ((Go.IntKind.wrap Go.IntKind.i64 (a2 - a0.2.2.1)) - (2 : Int))), ()))).1, ((2 : Int), ()))).1.length : Int))) || (!(decide (((f141 ((f175 (a0.2.1, ((Go.IntKind.wrap Go.IntKind.i64 ((Go.IntKind.wrap Go.IntKind.i64 (a2 - a0.2.2.1)) - (2 : Int))), ()))).1, ((2 : Int), ()))).1.length : Int) > (0 : Int))))) then
  (bif ((p177 (a1, (a0.1, (((decide (((f141 ((f175 (a0.2.1, ((Go.IntKind.wrap Go.IntKind.i64 ((Go.IntKind.wrap Go.IntKind.i64 (a2 - a0.2.2.1)) - (2 : Int))), ()))).1, ((2 : Int), ()))).1.length : Int) > (0 : Int))) && ((Vx.andI Go.IntKind.u64 ((f141 ((f175 (a0.2.1, ((Go.IntKind.wrap Go.IntKind.i64 ((Go.IntKind.wrap Go.IntKind.i64 (a2 - a0.2.2.1)) - (2 : Int))), ()))).1, ((2 : Int), ()))).1.getD (Int.toNat (0 : Int)) (0 : Int)) (1 : Int)) == (1 : Int))), ((Vx.orI Go.IntKind.u64 (Vx.andI Go.IntKind.u64 ((f175 (a0.2.1, ((Go.IntKind.wrap Go.IntKind.i64 ((Go.IntKind.wrap Go.IntKind.i64 (a2 - a0.2.2.1)) - (2 : Int))), ()))).1.getD (Int.toNat (0 : Int)) (0 : Int)) (3 : Int)) (1 : Int)), ()))))) || (!(bif ((Vx.orI Go.IntKind.u64 (Vx.andI Go.IntKind.u64 ((f175 (a0.2.1, ((Go.IntKind.wrap Go.IntKind.i64 ((Go.IntKind.wrap Go.IntKind.i64 (a2 - a0.2.2.1)) - (2 : Int))), ()))).1.getD (Int.toNat (0 : Int)) (0 : Int)) (3 : Int)) (1 : Int)) == (0 : Int)) then false else true))) then
  (bif (((Vx.orI Go.IntKind.u64 (Vx.andI Go.IntKind.u64 ((f175 (a0.2.1, ((Go.IntKind.wrap Go.IntKind.i64 ((Go.IntKind.wrap Go.IntKind.i64 (a2 - a0.2.2.1)) - (2 : Int))), ()))).1.getD (Int.toNat (0 : Int)) (0 : Int)) (3 : Int)) (1 : Int)) != (0 : Int)) && (f177 (a1, (a0.1, (((decide (((f141 ((f175 (a0.2.1, ((Go.IntKind.wrap Go.IntKind.i64 ((Go.IntKind.wrap Go.IntKind.i64 (a2 - a0.2.2.1)) - (2 : Int))), ()))).1, ((2 : Int), ()))).1.length : Int) > (0 : Int))) && ((Vx.andI Go.IntKind.u64 ((f141 ((f175 (a0.2.1, ((Go.IntKind.wrap Go.IntKind.i64 ((Go.IntKind.wrap Go.IntKind.i64 (a2 - a0.2.2.1)) - (2 : Int))), ()))).1, ((2 : Int), ()))).1.getD (Int.toNat (0 : Int)) (0 : Int)) (1 : Int)) == (1 : Int))), ((Vx.orI Go.IntKind.u64 (Vx.andI Go.IntKind.u64 ((f175 (a0.2.1, ((Go.IntKind.wrap Go.IntKind.i64 ((Go.IntKind.wrap Go.IntKind.i64 (a2 - a0.2.2.1)) - (2 : Int))), ()))).1.getD (Int.toNat (0 : Int)) (0 : Int)) (3 : Int)) (1 : Int)), ()))))).1) then
  (bif (p143 ((f141 ((f175 (a0.2.1, ((Go.IntKind.wrap Go.IntKind.i64 ((Go.IntKind.wrap Go.IntKind.i64 (a2 - a0.2.2.1)) - (2 : Int))), ()))).1, ((2 : Int), ()))).1, (((1 : Int) :: []), ()))) then
  (some ((f143 ((f141 ((f175 (a0.2.1, ((Go.IntKind.wrap Go.IntKind.i64 ((Go.IntKind.wrap Go.IntKind.i64 (a2 - a0.2.2.1)) - (2 : Int))), ()))).1, ((2 : Int), ()))).1, (((1 : Int) :: []), ()))).1, (((Vx.orI Go.IntKind.u64 (Vx.andI Go.IntKind.u64 ((f175 (a0.2.1, ((Go.IntKind.wrap Go.IntKind.i64 ((Go.IntKind.wrap Go.IntKind.i64 (a2 - a0.2.2.1)) - (2 : Int))), ()))).1.getD (Int.toNat (0 : Int)) (0 : Int)) (3 : Int)) (1 : Int)) != (0 : Int)), ())))
  else none)
  else some ((f141 ((f175 (a0.2.1, ((Go.IntKind.wrap Go.IntKind.i64 ((Go.IntKind.wrap Go.IntKind.i64 (a2 - a0.2.2.1)) - (2 : Int))), ()))).1, ((2 : Int), ()))).1, (((Vx.orI Go.IntKind.u64 (Vx.andI Go.IntKind.u64 ((f175 (a0.2.1, ((Go.IntKind.wrap Go.IntKind.i64 ((Go.IntKind.wrap Go.IntKind.i64 (a2 - a0.2.2.1)) - (2 : Int))), ()))).1.getD (Int.toNat (0 : Int)) (0 : Int)) (3 : Int)) (1 : Int)) != (0 : Int)), ())))
  else none)
  else none)
  else none)
  else bif (p141 ((f175 (a0.2.1, ((Go.IntKind.wrap Go.IntKind.i64 ((Go.IntKind.wrap Go.IntKind.i64 (a2 - a0.2.2.1)) - (2 : Int))), ()))).1, ((2 : Int), ()))) then
  (bif ((decide ((0 : Int) < ((f141 ((f175 (a0.2.1, ((Go.IntKind.wrap Go.IntKind.i64 ((Go.IntKind.wrap Go.IntKind.i64 (a2 - a0.2.2.1)) - (2 : Int))), ()))).1, ((2 : Int), ()))).1.length : Int))) || (!(decide (((f141 ((f175 (a0.2.1, ((Go.IntKind.wrap Go.IntKind.i64 ((Go.IntKind.wrap Go.IntKind.i64 (a2 - a0.2.2.1)) - (2 : Int))), ()))).1, ((2 : Int), ()))).1.length : Int) > (0 : Int))))) then
  (bif ((p177 (a1, (a0.1, (((decide (((f141 ((f175 (a0.2.1, ((Go.IntKind.wrap Go.IntKind.i64 ((Go.IntKind.wrap Go.IntKind.i64 (a2 - a0.2.2.1)) - (2 : Int))), ()))).1, ((2 : Int), ()))).1.length : Int) > (0 : Int))) && ((Vx.andI Go.IntKind.u64 ((f141 ((f175 (a0.2.1, ((Go.IntKind.wrap Go.IntKind.i64 ((Go.IntKind.wrap Go.IntKind.i64 (a2 - a0.2.2.1)) - (2 : Int))), ()))).1, ((2 : Int), ()))).1.getD (Int.toNat (0 : Int)) (0 : Int)) (1 : Int)) == (1 : Int))), ((Vx.andI Go.IntKind.u64 ((f175 (a0.2.1, ((Go.IntKind.wrap Go.IntKind.i64 ((Go.IntKind.wrap Go.IntKind.i64 (a2 - a0.2.2.1)) - (2 : Int))), ()))).1.getD (Int.toNat (0 : Int)) (0 : Int)) (3 : Int)), ()))))) || (!(bif ((Vx.andI Go.IntKind.u64 ((f175 (a0.2.1, ((Go.IntKind.wrap Go.IntKind.i64 ((Go.IntKind.wrap Go.IntKind.i64 (a2 - a0.2.2.1)) - (2 : Int))), ()))).1.getD (Int.toNat (0 : Int)) (0 : Int)) (3 : Int)) == (0 : Int)) then false else true))) then
  (bif (((Vx.andI Go.IntKind.u64 ((f175 (a0.2.1, ((Go.IntKind.wrap Go.IntKind.i64 ((Go.IntKind.wrap Go.IntKind.i64 (a2 - a0.2.2.1)) - (2 : Int))), ()))).1.getD (Int.toNat (0 : Int)) (0 : Int)) (3 : Int)) != (0 : Int)) && (f177 (a1, (a0.1, (((decide (((f141 ((f175 (a0.2.1, ((Go.IntKind.wrap Go.IntKind.i64 ((Go.IntKind.wrap Go.IntKind.i64 (a2 - a0.2.2.1)) - (2 : Int))), ()))).1, ((2 : Int), ()))).1.length : Int) > (0 : Int))) && ((Vx.andI Go.IntKind.u64 ((f141 ((f175 (a0.2.1, ((Go.IntKind.wrap Go.IntKind.i64 ((Go.IntKind.wrap Go.IntKind.i64 (a2 - a0.2.2.1)) - (2 : Int))), ()))).1, ((2 : Int), ()))).1.getD (Int.toNat (0 : Int)) (0 : Int)) (1 : Int)) == (1 : Int))), ((Vx.andI Go.IntKind.u64 ((f175 (a0.2.1, ((Go.IntKind.wrap Go.IntKind.i64 ((Go.IntKind.wrap Go.IntKind.i64 (a2 - a0.2.2.1)) - (2 : Int))), ()))).1.getD (Int.toNat (0 : Int)) (0 : Int)) (3 : Int)), ()))))).1) then
  (bif (p143 ((f141 ((f175 (a0.2.1, ((Go.IntKind.wrap Go.IntKind.i64 ((Go.IntKind.wrap Go.IntKind.i64 (a2 - a0.2.2.1)) - (2 : Int))), ()))).1, ((2 : Int), ()))).1, (((1 : Int) :: []), ()))) then
  (some ((f143 ((f141 ((f175 (a0.2.1, ((Go.IntKind.wrap Go.IntKind.i64 ((Go.IntKind.wrap Go.IntKind.i64 (a2 - a0.2.2.1)) - (2 : Int))), ()))).1, ((2 : Int), ()))).1, (((1 : Int) :: []), ()))).1, (((Vx.andI Go.IntKind.u64 ((f175 (a0.2.1, ((Go.IntKind.wrap Go.IntKind.i64 ((Go.IntKind.wrap Go.IntKind.i64 (a2 - a0.2.2.1)) - (2 : Int))), ()))).1.getD (Int.toNat (0 : Int)) (0 : Int)) (3 : Int)) != (0 : Int)), ())))
  else none)
  else some ((f141 ((f175 (a0.2.1, ((Go.IntKind.wrap Go.IntKind.i64 ((Go.IntKind.wrap Go.IntKind.i64 (a2 - a0.2.2.1)) - (2 : Int))), ()))).1, ((2 : Int), ()))).1, (((Vx.andI Go.IntKind.u64 ((f175 (a0.2.1, ((Go.IntKind.wrap Go.IntKind.i64 ((Go.IntKind.wrap Go.IntKind.i64 (a2 - a0.2.2.1)) - (2 : Int))), ()))).1.getD (Int.toNat (0 : Int)) (0 : Int)) (3 : Int)) != (0 : Int)), ())))
  else none)
  else none)
  else none)
  else none)
  else bif a0.2.2.2.1 then
  (bif (p141 ((f175 (a0.2.1, ((Go.IntKind.wrap Go.IntKind.i64 ((Go.IntKind.wrap Go.IntKind.i64 (a2 - a0.2.2.1)) - (2 : Int))), ()))).1, ((2 : Int), ()))) then
  (bif ((decide ((0 : Int) < ((f141 ((f175 (a0.2.1, ((Go.IntKind.wrap Go.IntKind.i64 ((Go.IntKind.wrap Go.IntKind.i64 (a2 - a0.2.2.1)) - (2 : Int))), ()))).1, ((2 : Int), ()))).1.length : Int))) || (!(decide (((f141 ((f175 (a0.2.1, ((Go.IntKind.wrap Go.IntKind.i64 ((Go.IntKind.wrap Go.IntKind.i64 (a2 - a0.2.2.1)) - (2 : Int))), ()))).1, ((2 : Int), ()))).1.length : Int) > (0 : Int))))) then
  (bif ((p177 (a1, (a0.1, (((decide (((f141 ((f175 (a0.2.1, ((Go.IntKind.wrap Go.IntKind.i64 ((Go.IntKind.wrap Go.IntKind.i64 (a2 - a0.2.2.1)) - (2 : Int))), ()))).1, ((2 : Int), ()))).1.length : Int) > (0 : Int))) && ((Vx.andI Go.IntKind.u64 ((f141 ((f175 (a0.2.1, ((Go.IntKind.wrap Go.IntKind.i64 ((Go.IntKind.wrap Go.IntKind.i64 (a2 - a0.2.2.1)) - (2 : Int))), ()))).1, ((2 : Int), ()))).1.getD (Int.toNat (0 : Int)) (0 : Int)) (1 : Int)) == (1 : Int))), ((Vx.orI Go.IntKind.u64 (0 : Int) (1 : Int)), ()))))) || false) then
  (bif (f177 (a1, (a0.1, (((decide (((f141 ((f175 (a0.2.1, ((Go.IntKind.wrap Go.IntKind.i64 ((Go.IntKind.wrap Go.IntKind.i64 (a2 - a0.2.2.1)) - (2 : Int))), ()))).1, ((2 : Int), ()))).1.length : Int) > (0 : Int))) && ((Vx.andI Go.IntKind.u64 ((f141 ((f175 (a0.2.1, ((Go.IntKind.wrap Go.IntKind.i64 ((Go.IntKind.wrap Go.IntKind.i64 (a2 - a0.2.2.1)) - (2 : Int))), ()))).1, ((2 : Int), ()))).1.getD (Int.toNat (0 : Int)) (0 : Int)) (1 : Int)) == (1 : Int))), ((Vx.orI Go.IntKind.u64 (0 : Int) (1 : Int)), ()))))).1 then
  (bif (p143 ((f141 ((f175 (a0.2.1, ((Go.IntKind.wrap Go.IntKind.i64 ((Go.IntKind.wrap Go.IntKind.i64 (a2 - a0.2.2.1)) - (2 : Int))), ()))).1, ((2 : Int), ()))).1, (((1 : Int) :: []), ()))) then
  (some ((f143 ((f141 ((f175 (a0.2.1, ((Go.IntKind.wrap Go.IntKind.i64 ((Go.IntKind.wrap Go.IntKind.i64 (a2 - a0.2.2.1)) - (2 : Int))), ()))).1, ((2 : Int), ()))).1, (((1 : Int) :: []), ()))).1, (true, ())))
  else none)
  else some ((f141 ((f175 (a0.2.1, ((Go.IntKind.wrap Go.IntKind.i64 ((Go.IntKind.wrap Go.IntKind.i64 (a2 - a0.2.2.1)) - (2 : Int))), ()))).1, ((2 : Int), ()))).1, (true, ())))
  else none)
  else none)
  else none)
  else bif (p141 ((f175 (a0.2.1, ((Go.IntKind.wrap Go.IntKind.i64 ((Go.IntKind.wrap Go.IntKind.i64 (a2 - a0.2.2.1)) - (2 : Int))), ()))).1, ((2 : Int), ()))) then
  (bif ((decide ((0 : Int) < ((f141 ((f175 (a0.2.1, ((Go.IntKind.wrap Go.IntKind.i64 ((Go.IntKind.wrap Go.IntKind.i64 (a2 - a0.2.2.1)) - (2 : Int))), ()))).1, ((2 : Int), ()))).1.length : Int))) || (!(decide (((f141 ((f175 (a0.2.1, ((Go.IntKind.wrap Go.IntKind.i64 ((Go.IntKind.wrap Go.IntKind.i64 (a2 - a0.2.2.1)) - (2 : Int))), ()))).1, ((2 : Int), ()))).1.length : Int) > (0 : Int))))) then
  (bif ((p177 (a1, (a0.1, (((decide (((f141 ((f175 (a0.2.1, ((Go.IntKind.wrap Go.IntKind.i64 ((Go.IntKind.wrap Go.IntKind.i64 (a2 - a0.2.2.1)) - (2 : Int))), ()))).1, ((2 : Int), ()))).1.length : Int) > (0 : Int))) && ((Vx.andI Go.IntKind.u64 ((f141 ((f175 (a0.2.1, ((Go.IntKind.wrap Go.IntKind.i64 ((Go.IntKind.wrap Go.IntKind.i64 (a2 - a0.2.2.1)) - (2 : Int))), ()))).1, ((2 : Int), ()))).1.getD (Int.toNat (0 : Int)) (0 : Int)) (1 : Int)) == (1 : Int))), ((0 : Int), ()))))) || true) then
  (some ((f141 ((f175 (a0.2.1, ((Go.IntKind.wrap Go.IntKind.i64 ((Go.IntKind.wrap Go.IntKind.i64 (a2 - a0.2.2.1)) - (2 : Int))), ()))).1, ((2 : Int), ()))).1, (false, ())))
  else none)
  else none)
  else none)
  else none)
  else bif (p176 (a0.2.1, ((Go.IntKind.wrap Go.IntKind.i64 ((2 : Int) - (Go.IntKind.wrap Go.IntKind.i64 (a2 - a0.2.2.1)))), ()))) then
  (bif (decide (((f176 (a0.2.1, ((Go.IntKind.wrap Go.IntKind.i64 ((2 : Int) - (Go.IntKind.wrap Go.IntKind.i64 (a2 - a0.2.2.1)))), ()))).1.length : Int) > (0 : Int))) then
  (bif (decide ((0 : Int) < ((f176 (a0.2.1, ((Go.IntKind.wrap Go.IntKind.i64 ((2 : Int) - (Go.IntKind.wrap Go.IntKind.i64 (a2 - a0.2.2.1)))), ()))).1.length : Int))) then
  (bif a0.2.2.2.1 then
  (bif (p141 ((f176 (a0.2.1, ((Go.IntKind.wrap Go.IntKind.i64 ((2 : Int) - (Go.IntKind.wrap Go.IntKind.i64 (a2 - a0.2.2.1)))), ()))).1, ((2 : Int), ()))) then
  (bif ((decide ((0 : Int) < ((f141 ((f176 (a0.2.1, ((Go.IntKind.wrap Go.IntKind.i64 ((2 : Int) - (Go.IntKind.wrap Go.IntKind.i64 (a2 - a0.2.2.1)))), ()))).1, ((2 : Int), ()))).1.length : Int))) || (!(decide (((f141 ((f176 (a0.2.1, ((Go.IntKind.wrap Go.IntKind.i64 ((2 : Int) - (Go.IntKind.wrap Go.IntKind.i64 (a2 - a0.2.2.1)))), ()))).1, ((2 : Int), ()))).1.length : Int) > (0 : Int))))) then
  (bif ((p177 (a1, (a0.1, (((decide (((f141 ((f176 (a0.2.1, ((Go.IntKind.wrap Go.IntKind.i64 ((2 : Int) - (Go.IntKind.wrap Go.IntKind.i64 (a2 - a0.2.2.1)))), ()))).1, ((2 : Int), ()))).1.length : Int) > (0 : Int))) && ((Vx.andI Go.IntKind.u64 ((f141 ((f176 (a0.2.1, ((Go.IntKind.wrap Go.IntKind.i64 ((2 : Int) - (Go.IntKind.wrap Go.IntKind.i64 (a2 - a0.2.2.1)))), ()))).1, ((2 : Int), ()))).1.getD (Int.toNat (0 : Int)) (0 : Int)) (1 : Int)) == (1 : Int))), ((Vx.orI Go.IntKind.u64 (Vx.andI Go.IntKind.u64 ((f176 (a0.2.1, ((Go.IntKind.wrap Go.IntKind.i64 ((2 : Int) - (Go.IntKind.wrap Go.IntKind.i64 (a2 - a0.2.2.1)))), ()))).1.getD (Int.toNat (0 : Int)) (0 : Int)) (3 : Int)) (1 : Int)), ()))))) || (!(bif ((Vx.orI Go.IntKind.u64 (Vx.andI Go.IntKind.u64 ((f176 (a0.2.1, ((Go.IntKind.wrap Go.IntKind.i64 ((2 : Int) - (Go.IntKind.wrap Go.IntKind.i64 (a2 - a0.2.2.1)))), ()))).1.getD (Int.toNat (0 : Int)) (0 : Int)) (3 : Int)) (1 : Int)) == (0 : Int)) then false else true))) then
  (bif (((Vx.orI Go.IntKind.u64 (Vx.andI Go.IntKind.u64 ((f176 (a0.2.1, ((Go.IntKind.wrap Go.IntKind.i64 ((2 : Int) - (Go.IntKind.wrap Go.IntKind.i64 (a2 - a0.2.2.1)))), ()))).1.getD (Int.toNat (0 : Int)) (0 : Int)) (3 : Int)) (1 : Int)) != (0 : Int)) && (f177 (a1, (a0.1, (((decide (((f141 ((f176 (a0.2.1, ((Go.IntKind.wrap Go.IntKind.i64 ((2 : Int) - (Go.IntKind.wrap Go.IntKind.i64 (a2 - a0.2.2.1)))), ()))).1, ((2 : Int), ()))).1.length : Int) > (0 : Int))) && ((Vx.andI Go.IntKind.u64 ((f141 ((f176 (a0.2.1, ((Go.IntKind.wrap Go.IntKind.i64 ((2 : Int) - (Go.IntKind.wrap Go.IntKind.i64 (a2 - a0.2.2.1)))), ()))).1, ((2 : Int), ()))).1.getD (Int.toNat (0 : Int)) (0 : Int)) (1 : Int)) == (1 : Int))), ((Vx.orI Go.IntKind.u64 (Vx.andI Go.IntKind.u64 ((f176 (a0.2.1, ((Go.IntKind.wrap Go.IntKind.i64 ((2 : Int) - (Go.IntKind.wrap Go.IntKind.i64 (a2 - a0.2.2.1)))), ()))).1.getD (Int.toNat (0 : Int)) (0 : Int)) (3 : Int)) (1 : Int)), ()))))).1) then
  (bif (p143 ((f141 ((f176 (a0.2.1, ((Go.IntKind.wrap Go.IntKind.i64 ((2 : Int) - (Go.IntKind.wrap Go.IntKind.i64 (a2 - a0.2.2.1)))), ()))).1, ((2 : Int), ()))).1, (((1 : Int) :: []), ()))) then
  (some ((f143 ((f141 ((f176 (a0.2.1, ((Go.IntKind.wrap Go.IntKind.i64 ((2 : Int) - (Go.IntKind.wrap Go.IntKind.i64 (a2 - a0.2.2.1)))), ()))).1, ((2 : Int), ()))).1, (((1 : Int) :: []), ()))).1, (((Vx.orI Go.IntKind.u64 (Vx.andI Go.IntKind.u64 ((f176 (a0.2.1, ((Go.IntKind.wrap Go.IntKind.i64 ((2 : Int) - (Go.IntKind.wrap Go.IntKind.i64 (a2 - a0.2.2.1)))), ()))).1.getD (Int.toNat (0 : Int)) (0 : Int)) (3 : Int)) (1 : Int)) != (0 : Int)), ())))
  else none)
  else some ((f141 ((f176 (a0.2.1, ((Go.IntKind.wrap Go.IntKind.i64 ((2 : Int) - (Go.IntKind.wrap Go.IntKind.i64 (a2 - a0.2.2.1)))), ()))).1, ((2 : Int), ()))).1, (((Vx.orI Go.IntKind.u64 (Vx.andI Go.IntKind.u64 ((f176 (a0.2.1, ((Go.IntKind.wrap Go.IntKind.i64 ((2 : Int) - (Go.IntKind.wrap Go.IntKind.i64 (a2 - a0.2.2.1)))), ()))).1.getD (Int.toNat (0 : Int)) (0 : Int)) (3 : Int)) (1 : Int)) != (0 : Int)), ())))
  else none)
  else none)
  else none)
  else bif (p141 ((f176 (a0.2.1, ((Go.IntKind.wrap Go.IntKind.i64 ((2 : Int) - (Go.IntKind.wrap Go.IntKind.i64 (a2 - a0.2.2.1)))), ()))).1, ((2 : Int), ()))) then
  (bif ((decide ((0 : Int) < ((f141 ((f176 (a0.2.1, ((Go.IntKind.wrap Go.IntKind.i64 ((2 : Int) - (Go.IntKind.wrap Go.IntKind.i64 (a2 - a0.2.2.1)))), ()))).1, ((2 : Int), ()))).1.length : Int))) || (!(decide (((f141 ((f176 (a0.2.1, ((Go.IntKind.wrap Go.IntKind.i64 ((2 : Int) - (Go.IntKind.wrap Go.IntKind.i64 (a2 - a0.2.2.1)))), ()))).1, ((2 : Int), ()))).1.length : Int) > (0 : Int))))) then
  (bif ((p177 (a1, (a0.1, (((decide (((f141 ((f176 (a0.2.1, ((Go.IntKind.wrap Go.IntKind.i64 ((2 : Int) - (Go.IntKind.wrap Go.IntKind.i64 (a2 - a0.2.2.1)))), ()))).1, ((2 : Int), ()))).1.length : Int) > (0 : Int))) && ((Vx.andI Go.IntKind.u64 ((f141 ((f176 (a0.2.1, ((Go.IntKind.wrap Go.IntKind.i64 ((2 : Int) - (Go.IntKind.wrap Go.IntKind.i64 (a2 - a0.2.2.1)))), ()))).1, ((2 : Int), ()))).1.getD (Int.toNat (0 : Int)) (0 : Int)) (1 : Int)) == (1 : Int))), ((Vx.andI Go.IntKind.u64 ((f176 (a0.2.1, ((Go.IntKind.wrap Go.IntKind.i64 ((2 : Int) - (Go.IntKind.wrap Go.IntKind.i64 (a2 - a0.2.2.1)))), ()))).1.getD (Int.toNat (0 : Int)) (0 : Int)) (3 : Int)), ()))))) || (!(bif ((Vx.andI Go.IntKind.u64 ((f176 (a0.2.1, ((Go.IntKind.wrap Go.IntKind.i64 ((2 : Int) - (Go.IntKind.wrap Go.IntKind.i64 (a2 - a0.2.2.1)))), ()))).1.getD (Int.toNat (0 : Int)) (0 : Int)) (3 : Int)) == (0 : Int)) then false else true))) then
  (bif (((Vx.andI Go.IntKind.u64 ((f176 (a0.2.1, ((Go.IntKind.wrap Go.IntKind.i64 ((2 : Int) - (Go.IntKind.wrap Go.IntKind.i64 (a2 - a0.2.2.1)))), ()))).1.getD (Int.toNat (0 : Int)) (0 : Int)) (3 : Int)) != (0 : Int)) && (f177 (a1, (a0.1, (((decide (((f141 ((f176 (a0.2.1, ((Go.IntKind.wrap Go.IntKind.i64 ((2 : Int) - (Go.IntKind.wrap Go.IntKind.i64 (a2 - a0.2.2.1)))), ()))).1, ((2 : Int), ()))).1.length : Int) > (0 : Int))) && ((Vx.andI Go.IntKind.u64 ((f141 ((f176 (a0.2.1, ((Go.IntKind.wrap Go.IntKind.i64 ((2 : Int) - (Go.IntKind.wrap Go.IntKind.i64 (a2 - a0.2.2.1)))), ()))).1, ((2 : Int), ()))).1.getD (Int.toNat (0 : Int)) (0 : Int)) (1 : Int)) == (1 : Int))), ((Vx.andI Go.IntKind.u64 ((f176 (a0.2.1, ((Go.IntKind.wrap Go.IntKind.i64 ((2 : Int) - (Go.IntKind.wrap Go.IntKind.i64 (a2 - a0.2.2.1)))), ()))).1.getD (Int.toNat (0 : Int)) (0 : Int)) (3 : Int)), ()))))).1) then
  (bif (p143 ((f141 ((f176 (a0.2.1, ((Go.IntKind.wrap Go.IntKind.i64 ((2 : Int) - (Go.IntKind.wrap Go.IntKind.i64 (a2 - a0.2.2.1)))), ()))).1, ((2 : Int), ()))).1, (((1 : Int) :: []), ()))) then
  (some ((f143 ((f141 ((f176 (a0.2.1, ((Go.IntKind.wrap Go.IntKind.i64 ((2 : Int) - (Go.IntKind.wrap Go.IntKind.i64 (a2 - a0.2.2.1)))), ()))).1, ((2 : Int), ()))).1, (((1 : Int) :: []), ()))).1, (((Vx.andI Go.IntKind.u64 ((f176 (a0.2.1, ((Go.IntKind.wrap Go.IntKind.i64 ((2 : Int) - (Go.IntKind.wrap Go.IntKind.i64 (a2 - a0.2.2.1)))), ()))).1.getD (Int.toNat (0 : Int)) (0 : Int)) (3 : Int)) != (0 : Int)), ())))
  else none)
  else some ((f141 ((f176 (a0.2.1, ((Go.IntKind.wrap Go.IntKind.i64 ((2 : Int) - (Go.IntKind.wrap Go.IntKind.i64 (a2 - a0.2.2.1)))), ()))).1, ((2 : Int), ()))).1, (((Vx.andI Go.IntKind.u64 ((f176 (a0.2.1, ((Go.IntKind.wrap Go.IntKind.i64 ((2 : Int) - (Go.IntKind.wrap Go.IntKind.i64 (a2 - a0.2.2.1)))), ()))).1.getD (Int.toNat (0 : Int)) (0 : Int)) (3 : Int)) != (0 : Int)), ())))
  else none)
  else none)
  else none)
  else none)
  else bif a0.2.2.2.1 then
  (bif (p141 ((f176 (a0.2.1, ((Go.IntKind.wrap Go.IntKind.i64 ((2 : Int) - (Go.IntKind.wrap Go.IntKind.i64 (a2 - a0.2.2.1)))), ()))).1, ((2 : Int), ()))) then
  (bif ((decide ((0 : Int) < ((f141 ((f176 (a0.2.1, ((Go.IntKind.wrap Go.IntKind.i64 ((2 : Int) - (Go.IntKind.wrap Go.IntKind.i64 (a2 - a0.2.2.1)))), ()))).1, ((2 : Int), ()))).1.length : Int))) || (!(decide (((f141 ((f176 (a0.2.1, ((Go.IntKind.wrap Go.IntKind.i64 ((2 : Int) - (Go.IntKind.wrap Go.IntKind.i64 (a2 - a0.2.2.1)))), ()))).1, ((2 : Int), ()))).1.length : Int) > (0 : Int))))) then
  (bif ((p177 (a1, (a0.1, (((decide (((f141 ((f176 (a0.2.1, ((Go.IntKind.wrap Go.IntKind.i64 ((2 : Int) - (Go.IntKind.wrap Go.IntKind.i64 (a2 - a0.2.2.1)))), ()))).1, ((2 : Int), ()))).1.length : Int) > (0 : Int))) && ((Vx.andI Go.IntKind.u64 ((f141 ((f176 (a0.2.1, ((Go.IntKind.wrap Go.IntKind.i64 ((2 : Int) - (Go.IntKind.wrap Go.IntKind.i64 (a2 - a0.2.2.1)))), ()))).1, ((2 : Int), ()))).1.getD (Int.toNat (0 : Int)) (0 : Int)) (1 : Int)) == (1 : Int))), ((Vx.orI Go.IntKind.u64 (0 : Int) (1 : Int)), ()))))) || false) then
  (bif (f177 (a1, (a0.1, (((decide (((f141 ((f176 (a0.2.1, ((Go.IntKind.wrap Go.IntKind.i64 ((2 : Int) - (Go.IntKind.wrap Go.IntKind.i64 (a2 - a0.2.2.1)))), ()))).1, ((2 : Int), ()))).1.length : Int) > (0 : Int))) && ((Vx.andI Go.IntKind.u64 ((f141 ((f176 (a0.2.1, ((Go.IntKind.wrap Go.IntKind.i64 ((2 : Int) - (Go.IntKind.wrap Go.IntKind.i64 (a2 - a0.2.2.1)))), ()))).1, ((2 : Int), ()))).1.getD (Int.toNat (0 : Int)) (0 : Int)) (1 : Int)) == (1 : Int))), ((Vx.orI Go.IntKind.u64 (0 : Int) (1 : Int)), ()))))).1 then
  (bif (p143 ((f141 ((f176 (a0.2.1, ((Go.IntKind.wrap Go.IntKind.i64 ((2 : Int) - (Go.IntKind.wrap Go.IntKind.i64 (a2 - a0.2.2.1)))), ()))).1, ((2 : Int), ()))).1, (((1 : Int) :: []), ()))) then
  (some ((f143 ((f141 ((f176 (a0.2.1, ((Go.IntKind.wrap Go.IntKind.i64 ((2 : Int) - (Go.IntKind.wrap Go.IntKind.i64 (a2 - a0.2.2.1)))), ()))).1, ((2 : Int), ()))).1, (((1 : Int) :: []), ()))).1, (true, ())))
  else none)
  else some ((f141 ((f176 (a0.2.1, ((Go.IntKind.wrap Go.IntKind.i64 ((2 : Int) - (Go.IntKind.wrap Go.IntKind.i64 (a2 - a0.2.2.1)))), ()))).1, ((2 : Int), ()))).1, (true, ())))
  else none)
  else none)
  else none)
  else bif (p141 ((f176 (a0.2.1, ((Go.IntKind.wrap Go.IntKind.i64 ((2 : Int) - (Go.IntKind.wrap Go.IntKind.i64 (a2 - a0.2.2.1)))), ()))).1, ((2 : Int), ()))) then
  (bif ((decide ((0 : Int) < ((f141 ((f176 (a0.2.1, ((Go.IntKind.wrap Go.IntKind.i64 ((2 : Int) - (Go.IntKind.wrap Go.IntKind.i64 (a2 - a0.2.2.1)))), ()))).1, ((2 : Int), ()))).1.length : Int))) || (!(decide (((f141 ((f176 (a0.2.1, ((Go.IntKind.wrap Go.IntKind.i64 ((2 : Int) - (Go.IntKind.wrap Go.IntKind.i64 (a2 - a0.2.2.1)))), ()))).1, ((2 : Int), ()))).1.length : Int) > (0 : Int))))) then
  (bif ((p177 (a1, (a0.1, (((decide (((f141 ((f176 (a0.2.1, ((Go.IntKind.wrap Go.IntKind.i64 ((2 : Int) - (Go.IntKind.wrap Go.IntKind.i64 (a2 - a0.2.2.1)))), ()))).1, ((2 : Int), ()))).1.length : Int) > (0 : Int))) && ((Vx.andI Go.IntKind.u64 ((f141 ((f176 (a0.2.1, ((Go.IntKind.wrap Go.IntKind.i64 ((2 : Int) - (Go.IntKind.wrap Go.IntKind.i64 (a2 - a0.2.2.1)))), ()))).1, ((2 : Int), ()))).1.getD (Int.toNat (0 : Int)) (0 : Int)) (1 : Int)) == (1 : Int))), ((0 : Int), ()))))) || true) then
  (some ((f141 ((f176 (a0.2.1, ((Go.IntKind.wrap Go.IntKind.i64 ((2 : Int) - (Go.IntKind.wrap Go.IntKind.i64 (a2 - a0.2.2.1)))), ()))).1, ((2 : Int), ()))).1, (false, ())))
  else none)
  else none)
  else none)
  else none
theorem r150 (p175 : DenS I175 → Bool) (f175 : DenS I175 → DenS O175) (p176 : DenS I176 → Bool) (f176 : DenS I176 → DenS O176) (p141 : DenS I141 → Bool) (f141 : DenS I141 → DenS O141) (p177 : DenS I177 → Bool) (f177 : DenS I177 → DenS O177) (p143 : DenS I143 → Bool) (f143 : DenS I143 → DenS O143) (a0 : Den (.pair (.bool) (.pair (.slice (.int .u64)) (.pair (.int .i64) (.pair (.bool) (.unit)))))) (a1 : Den (.int .i64)) (a2 : Den (.int .i64)) :
    run { P := Go.Proofs.Tryz.prog, sums := [(196, ⟨I175, O175, p175, f175⟩), (189, ⟨I176, O176, p176, f176⟩), (197, ⟨I141, O141, p141, f141⟩), (198, ⟨I177, O177, p177, f177⟩), (191, ⟨I143, O143, p143, f143⟩)], loops := [], globs := G1 } 9 166 Go.Proofs.Tryz.f166 I150 O150 (a0, a1, a2, ()) = t150 p175 f175 p176 f176 p141 f141 p177 f177 p143 f143 a0 a1 a2 := by kernel_rfl
noncomputable def T150 (x : DenS I150) : Option (DenS O150) := t150 S175.pre S175.F S176.pre S176.F S141.pre S141.F S177.pre S177.F S143.pre S143.F x.1 x.2.1 x.2.2.1
noncomputable def C150 : Cfg := { P := Go.Proofs.Tryz.prog, sums := [(196, S175), (189, S176), (197, S141), (198, S177), (191, S143)], loops := [], globs := G1 }
noncomputable def S150 : Sum := sumOf I150 O150 T150 (DenS.dflt O150)
theorem S150_sound : Sound Go.Proofs.Tryz.prog G1 166 S150 :=
  fn_sound C150 9 166 Go.Proofs.Tryz.f166 mixedOk (by kernel_rfl) (by kernel_rfl) (by kernel_rfl) ⟨S175_sound, ⟨S176_sound, ⟨S141_sound, ⟨S177_sound, ⟨S143_sound, trivial⟩⟩⟩⟩⟩ trivial I150 O150 T150 _ (fun x => r150 S175.pre S175.F S176.pre S176.F S141.pre S141.F S177.pre S177.F S143.pre S143.F x.1 x.2.1 x.2.2.1)
/-- vernier/format.one -/
abbrev I95 : Sig := [(true, .pair (.int .i64) (.pair (.int .i64) (.pair (.int .i64) (.pair (.int .i64) (.unit)))))]
abbrev O95 : Sig := [(false, .int .u64)]
noncomputable def t95 (a0 : Den (.pair (.int .i64) (.pair (.int .i64) (.pair (.int .i64) (.pair (.int .i64) (.unit)))))) : Option (DenS O95) :=
  some ((1 : Int), ())
theorem r95 (a0 : Den (.pair (.int .i64) (.pair (.int .i64) (.pair (.int .i64) (.pair (.int .i64) (.unit)))))) :
    run { P := Go.Proofs.Tryz.prog, sums := [], loops := [], globs := G1 } 9 208 Go.Proofs.Tryz.f208 I95 O95 (a0, ()) = t95 a0 := by kernel_rfl
noncomputable def T95 (x : DenS I95) : Option (DenS O95) := t95 x.1
noncomputable def C95 : Cfg := { P := Go.Proofs.Tryz.prog, sums := [], loops := [], globs := G1 }
noncomputable def S95 : Sum := sumOf I95 O95 T95 (DenS.dflt O95)
theorem S95_sound : Sound Go.Proofs.Tryz.prog G1 208 S95 :=
  fn_sound C95 9 208 Go.Proofs.Tryz.f208 mixedOk (by kernel_rfl) (by kernel_rfl) (by kernel_rfl) trivial trivial I95 O95 T95 _ (fun x => r95 x.1)
/-- vernier/format.fraction -/
abbrev I96 : Sig := [(true, .pair (.int .i64) (.pair (.int .i64) (.pair (.int .i64) (.pair (.int .i64) (.unit)))))]
abbrev O96 : Sig := [(false, .int .u64)]
noncomputable def t96 (p91 : DenS I91 → Bool) (f91 : DenS I91 → DenS O91) (a0 : Den (.pair (.int .i64) (.pair (.int .i64) (.pair (.int .i64) (.pair (.int .i64) (.unit)))))) : Option (DenS O96) :=
  bif (p91 ((Go.IntKind.wrap Go.IntKind.i64 (a0.2.1 - (1 : Int))), ())) then
  (some (f91 ((Go.IntKind.wrap Go.IntKind.i64 (a0.2.1 - (1 : Int))), ())))
  else none
theorem r96 (p91 : DenS I91 → Bool) (f91 : DenS I91 → DenS O91) (a0 : Den (.pair (.int .i64) (.pair (.int .i64) (.pair (.int .i64) (.pair (.int .i64) (.unit)))))) :
    run { P := Go.Proofs.Tryz.prog, sums := [(134, ⟨I91, O91, p91, f91⟩)], loops := [], globs := G1 } 9 209 Go.Proofs.Tryz.f209 I96 O96 (a0, ()) = t96 p91 f91 a0 := by kernel_rfl
noncomputable def T96 (x : DenS I96) : Option (DenS O96) := t96 S91.pre S91.F x.1
noncomputable def C96 : Cfg := { P := Go.Proofs.Tryz.prog, sums := [(134, S91)], loops := [], globs := G1 }
noncomputable def S96 : Sum := sumOf I96 O96 T96 (DenS.dflt O96)
theorem S96_sound : Sound Go.Proofs.Tryz.prog G1 209 S96 :=
  fn_sound C96 9 209 Go.Proofs.Tryz.f209 mixedOk (by kernel_rfl) (by kernel_rfl) (by kernel_rfl) ⟨S91_sound, trivial⟩ trivial I96 O96 T96 _ (fun x => r96 S91.pre S91.F x.1)
/-- vernier/format.Greatest -/
abbrev I43 : Sig := [(false, .int .i64), (false, .bool)]
abbrev O43 : Sig := [(false, .int .u64), (false, .int .i64)]
noncomputable def t43 (p95 : DenS I95 → Bool) (f95 : DenS I95 → DenS O95) (p96 : DenS I96 → Bool) (f96 : DenS I96 → DenS O96) (p69 : DenS I69 → Bool) (f69 : DenS I69 → DenS O69) (p91 : DenS I91 → Bool) (f91 : DenS I91 → DenS O91) (p140 : DenS I140 → Bool) (f140 : DenS I140 → DenS O140) (a0 : Den (.int .i64)) (a1 : Den (.bool)) : Option (DenS O43) :=
  bif (p69 (a0, ())) then
  (bif ((f69 (a0, ())).2.1 != (0 : Int)) then
  (some ((0 : Int), (f69 (a0, ())).2))
  else bif (p91 ((Go.IntKind.wrap Go.IntKind.i64 ((f69 (a0, ())).1.1 - (f69 (a0, ())).1.2.1)), ())) then
  (bif (p95 ((f69 (a0, ())).1, ())) then
  (bif (p96 ((f69 (a0, ())).1, ())) then
  (bif (p140 ((f69 (a0, ())).1, (a1, ((Go.IntKind.wrap Go.IntKind.u64 ((f91 ((Go.IntKind.wrap Go.IntKind.i64 ((f69 (a0, ())).1.1 - (f69 (a0, ())).1.2.1)), ())).1 - (f95 ((f69 (a0, ())).1, ())).1)), (f96 ((f69 (a0, ())).1, ())))))) then
  (some ((f140 ((f69 (a0, ())).1, (a1, ((Go.IntKind.wrap Go.IntKind.u64 ((f91 ((Go.IntKind.wrap Go.IntKind.i64 ((f69 (a0, ())).1.1 - (f69 (a0, ())).1.2.1)), ())).1 - (f95 ((f69 (a0, ())).1, ())).1)), (f96 ((f69 (a0, ())).1, ())))))).1, ((0 : Int), ())))
  else none)
  else none)
  else none)
  else none)
  else none
theorem r43 (p95 : DenS I95 → Bool) (f95 : DenS I95 → DenS O95) (p96 : DenS I96 → Bool) (f96 : DenS I96 → DenS O96) (p69 : DenS I69 → Bool) (f69 : DenS I69 → DenS O69) (p91 : DenS I91 → Bool) (f91 : DenS I91 → DenS O91) (p140 : DenS I140 → Bool) (f140 : DenS I140 → DenS O140) (a0 : Den (.int .i64)) (a1 : Den (.bool)) :
    run { P := Go.Proofs.Tryz.prog, sums := [(208, ⟨I95, O95, p95, f95⟩), (209, ⟨I96, O96, p96, f96⟩), (55, ⟨I69, O69, p69, f69⟩), (134, ⟨I91, O91, p91, f91⟩), (160, ⟨I140, O140, p140, f140⟩)], loops := [], globs := G1 } 9 195 Go.Proofs.Tryz.f195 I43 O43 (a0, a1, ()) = t43 p95 f95 p96 f96 p69 f69 p91 f91 p140 f140 a0 a1 := by kernel_rfl
noncomputable def T43 (x : DenS I43) : Option (DenS O43) := t43 S95.pre S95.F S96.pre S96.F S69.pre S69.F S91.pre S91.F S140.pre S140.F x.1 x.2.1
noncomputable def C43 : Cfg := { P := Go.Proofs.Tryz.prog, sums := [(208, S95), (209, S96), (55, S69), (134, S91), (160, S140)], loops := [], globs := G1 }
noncomputable def S43 : Sum := sumOf I43 O43 T43 (DenS.dflt O43)
theorem S43_sound : Sound Go.Proofs.Tryz.prog G1 195 S43 :=
  fn_sound C43 9 195 Go.Proofs.Tryz.f195 mixedOk (by kernel_rfl) (by kernel_rfl) (by kernel_rfl) ⟨S95_sound, ⟨S96_sound, ⟨S69_sound, ⟨S91_sound, ⟨S140_sound, trivial⟩⟩⟩⟩⟩ trivial I43 O43 T43 _ (fun x => r43 S95.pre S95.F S96.pre S96.F S69.pre S69.F S91.pre S91.F S140.pre S140.F x.1 x.2.1)
/-- vernier/round.beyond -/
abbrev I149 : Sig := [(false, .int .i64), (false, .int .i64), (false, .bool)]
abbrev O149 : Sig := [(false, .int .u64)]
noncomputable def t149 (p97 : DenS I97 → Bool) (f97 : DenS I97 → DenS O97) (p43 : DenS I43 → Bool) (f43 : DenS I43 → DenS O43) (a0 : Den (.int .i64)) (a1 : Den (.int .i64)) (a2 : Den (.bool)) : Option (DenS O149) :=
  bif ((((a1 == (0 : Int)) || (a1 == (1 : Int))) || ((a1 == (3 : Int)) && (!a2))) || ((a1 == (4 : Int)) && a2)) then
  (bif (p97 (a0, (a2, ()))) then
  (some ((f97 (a0, (a2, ()))).1, ()))
  else none)
  else bif (p43 (a0, (a2, ()))) then
  (some ((f43 (a0, (a2, ()))).1, ()))
  else none
theorem r149 (p97 : DenS I97 → Bool) (f97 : DenS I97 → DenS O97) (p43 : DenS I43 → Bool) (f43 : DenS I43 → DenS O43) (a0 : Den (.int .i64)) (a1 : Den (.int .i64)) (a2 : Den (.bool)) :
    run { P := Go.Proofs.Tryz.prog, sums := [(54, ⟨I97, O97, p97, f97⟩), (195, ⟨I43, O43, p43, f43⟩)], loops := [], globs := G1 } 9 165 Go.Proofs.Tryz.f165 I149 O149 (a0, a1, a2, ()) = t149 p97 f97 p43 f43 a0 a1 a2 := by kernel_rfl
noncomputable def T149 (x : DenS I149) : Option (DenS O149) := t149 S97.pre S97.F S43.pre S43.F x.1 x.2.1 x.2.2.1
noncomputable def C149 : Cfg := { P := Go.Proofs.Tryz.prog, sums := [(54, S97), (195, S43)], loops := [], globs := G1 }
noncomputable def S149 : Sum := sumOf I149 O149 T149 (DenS.dflt O149)
theorem S149_sound : Sound Go.Proofs.Tryz.prog G1 165 S149 :=
  fn_sound C149 9 165 Go.Proofs.Tryz.f165 mixedOk (by kernel_rfl) (by kernel_rfl) (by kernel_rfl) ⟨S97_sound, ⟨S43_sound, trivial⟩⟩ trivial I149 O149 T149 _ (fun x => r149 S97.pre S97.F S43.pre S43.F x.1 x.2.1 x.2.2.1)
/-- (vernier/round.number).tiny -/
abbrev I152 : Sig := [(true, .pair (.bool) (.pair (.slice (.int .u64)) (.pair (.int .i64) (.pair (.bool) (.unit))))), (true, .pair (.int .i64) (.pair (.int .i64) (.pair (.int .i64) (.pair (.int .i64) (.unit))))), (false, .int .i64), (false, .int .i64)]
abbrev O152 : Sig := [(false, .bool)]
noncomputable def t152 (p150 : DenS I150 → Bool) (f150 : DenS I150 → DenS O150) (p151 : DenS I151 → Bool) (f151 : DenS I151 → DenS O151) (a0 : Den (.pair (.bool) (.pair (.slice (.int .u64)) (.pair (.int .i64) (.pair (.bool) (.unit)))))) (a1 : Den (.pair (.int .i64) (.pair (.int .i64) (.pair (.int .i64) (.pair (.int .i64) (.unit)))))) (a2 : Den (.int .i64)) (a3 : Den (.int .i64)) : Option (DenS O152) :=
  bif (decide (a3 ≥ a1.2.2.1)) then
  (some (false, ()))
  else bif (p150 ((a0.1, a0.2), (a2, ((Go.IntKind.wrap Go.IntKind.i64 ((Go.IntKind.wrap Go.IntKind.i64 (a3 - a1.2.1)) + (1 : Int))), ())))) then
  (bif (p151 ((f150 ((a0.1, a0.2), (a2, ((Go.IntKind.wrap Go.IntKind.i64 ((Go.IntKind.wrap Go.IntKind.i64 (a3 - a1.2.1)) + (1 : Int))), ())))).1, ())) then
  (some ((decide ((Go.IntKind.wrap Go.IntKind.i64 ((Go.IntKind.wrap Go.IntKind.i64 (a3 - a1.2.1)) + (f151 ((f150 ((a0.1, a0.2), (a2, ((Go.IntKind.wrap Go.IntKind.i64 ((Go.IntKind.wrap Go.IntKind.i64 (a3 - a1.2.1)) + (1 : Int))), ())))).1, ())).1)) < a1.2.2.1)), ()))
  else none)
  else none
theorem r152 (p150 : DenS I150 → Bool) (f150 : DenS I150 → DenS O150) (p151 : DenS I151 → Bool) (f151 : DenS I151 → DenS O151) (a0 : Den (.pair (.bool) (.pair (.slice (.int .u64)) (.pair (.int .i64) (.pair (.bool) (.unit)))))) (a1 : Den (.pair (.int .i64) (.pair (.int .i64) (.pair (.int .i64) (.pair (.int .i64) (.unit)))))) (a2 : Den (.int .i64)) (a3 : Den (.int .i64)) :
    run { P := Go.Proofs.Tryz.prog, sums := [(166, ⟨I150, O150, p150, f150⟩), (155, ⟨I151, O151, p151, f151⟩)], loops := [], globs := G1 } 9 167 Go.Proofs.Tryz.f167 I152 O152 (a0, a1, a2, a3, ()) = t152 p150 f150 p151 f151 a0 a1 a2 a3 := by kernel_rfl
noncomputable def T152 (x : DenS I152) : Option (DenS O152) := t152 S150.pre S150.F S151.pre S151.F x.1 x.2.1 x.2.2.1 x.2.2.2.1
noncomputable def C152 : Cfg := { P := Go.Proofs.Tryz.prog, sums := [(166, S150), (155, S151)], loops := [], globs := G1 }
noncomputable def S152 : Sum := sumOf I152 O152 T152 (DenS.dflt O152)
theorem S152_sound : Sound Go.Proofs.Tryz.prog G1 167 S152 :=
  fn_sound C152 9 167 Go.Proofs.Tryz.f167 mixedOk (by kernel_rfl) (by kernel_rfl) (by kernel_rfl) ⟨S150_sound, ⟨S151_sound, trivial⟩⟩ trivial I152 O152 T152 _ (fun x => r152 S150.pre S150.F S151.pre S151.F x.1 x.2.1 x.2.2.1 x.2.2.2.1)
/-- (vernier/round.number).into -/
abbrev I107 : Sig := [(true, .pair (.bool) (.pair (.slice (.int .u64)) (.pair (.int .i64) (.pair (.bool) (.unit))))), (false, .int .i64), (true, .pair (.int .i64) (.pair (.int .i64) (.pair (.int .i64) (.pair (.int .i64) (.unit))))), (false, .int .i64)]
abbrev O107 : Sig := [(false, .int .u64), (false, .int .i64)]
noncomputable def t107 (p148 : DenS I148 → Bool) (f148 : DenS I148 → DenS O148) (p150 : DenS I150 → Bool) (f150 : DenS I150 → DenS O150) (p151 : DenS I151 → Bool) (f151 : DenS I151 → DenS O151) (p149 : DenS I149 → Bool) (f149 : DenS I149 → DenS O149) (p152 : DenS I152 → Bool) (f152 : DenS I152 → DenS O152) (a0 : Den (.pair (.bool) (.pair (.slice (.int .u64)) (.pair (.int .i64) (.pair (.bool) (.unit)))))) (a1 : Den (.int .i64)) (a2 : Den (.pair (.int .i64) (.pair (.int .i64) (.pair (.int .i64) (.pair (.int .i64) (.unit)))))) (a3 : Den (.int .i64)) : Option (DenS O107) :=
  bif (p148 ((a0.1, a0.2), ())) then
  (bif (decide ((f148 ((a0.1, a0.2), ())).1 > a2.2.2.2.1)) then
  (bif (p149 (a1, (a3, (a0.1, ())))) then
  (some ((f149 (a1, (a3, (a0.1, ())))).1, ((20 : Int), ())))
  else none)
  else bif (p150 ((a0.1, a0.2), (a3, ((Go.IntKind.wrap Go.IntKind.i64 ((Go.IntKind.wrap Go.IntKind.i64 ((if (a2.2.2.1 > (f148 ((a0.1, a0.2), ())).1) then a2.2.2.1 else (f148 ((a0.1, a0.2), ())).1) - a2.2.1)) + (1 : Int))), ())))) then
  (bif (decide ((0 : Int) ≤ (Go.IntKind.wrap Go.IntKind.i64 (a2.2.1 - (1 : Int))))) then
  (bif (decide (((f150 ((a0.1, a0.2), (a3, ((Go.IntKind.wrap Go.IntKind.i64 ((Go.IntKind.wrap Go.IntKind.i64 ((if (a2.2.2.1 > (f148 ((a0.1, a0.2), ())).1) then a2.2.2.1 else (f148 ((a0.1, a0.2), ())).1) - a2.2.1)) + (1 : Int))), ())))).1.length : Int) > (0 : Int))) then
  (bif (decide ((0 : Int) < ((f150 ((a0.1, a0.2), (a3, ((Go.IntKind.wrap Go.IntKind.i64 ((Go.IntKind.wrap Go.IntKind.i64 ((if (a2.2.2.1 > (f148 ((a0.1, a0.2), ())).1) then a2.2.2.1 else (f148 ((a0.1, a0.2), ())).1) - a2.2.1)) + (1 : Int))), ())))).1.length : Int))) then
  (bif (p151 ((f150 ((a0.1, a0.2), (a3, ((Go.IntKind.wrap Go.IntKind.i64 ((Go.IntKind.wrap Go.IntKind.i64 ((if (a2.2.2.1 > (f148 ((a0.1, a0.2), ())).1) then a2.2.2.1 else (f148 ((a0.1, a0.2), ())).1) - a2.2.1)) + (1 : Int))), ())))).1, ())) then
  (bif (decide ((Go.IntKind.wrap Go.IntKind.i64 ((Go.IntKind.wrap Go.IntKind.i64 ((Go.IntKind.wrap Go.IntKind.i64 ((Go.IntKind.wrap Go.IntKind.i64 ((if (a2.2.2.1 > (f148 ((a0.1, a0.2), ())).1) then a2.2.2.1 else (f148 ((a0.1, a0.2), ())).1) - a2.2.1)) + (1 : Int))) + (f151 ((f150 ((a0.1, a0.2), (a3, ((Go.IntKind.wrap Go.IntKind.i64 ((Go.IntKind.wrap Go.IntKind.i64 ((if (a2.2.2.1 > (f148 ((a0.1, a0.2), ())).1) then a2.2.2.1 else (f148 ((a0.1, a0.2), ())).1) - a2.2.1)) + (1 : Int))), ())))).1, ())).1)) - (1 : Int))) > a2.2.2.2.1)) then
  (bif (p149 (a1, (a3, (a0.1, ())))) then
  (some ((f149 (a1, (a3, (a0.1, ())))).1, ((20 : Int), ())))
  else none)
  else bif a0.1 then
  (bif (decide ((0 : Int) ≤ (Go.IntKind.wrap Go.IntKind.i64 (a2.1 - (1 : Int))))) then
  (bif (!(f150 ((a0.1, a0.2), (a3, ((Go.IntKind.wrap Go.IntKind.i64 ((Go.IntKind.wrap Go.IntKind.i64 ((if (a2.2.2.1 > (f148 ((a0.1, a0.2), ())).1) then a2.2.2.1 else (f148 ((a0.1, a0.2), ())).1) - a2.2.1)) + (1 : Int))), ())))).2.1) then
  (some ((Vx.orI Go.IntKind.u64 (Go.IntKind.wrap Go.IntKind.u64 ((Vx.shlI Go.IntKind.u64 (Go.IntKind.wrap Go.IntKind.u64 (Go.IntKind.wrap Go.IntKind.i64 ((Go.IntKind.wrap Go.IntKind.i64 ((Go.IntKind.wrap Go.IntKind.i64 ((if (a2.2.2.1 > (f148 ((a0.1, a0.2), ())).1) then a2.2.2.1 else (f148 ((a0.1, a0.2), ())).1) - a2.2.1)) + (1 : Int))) - (Go.IntKind.wrap Go.IntKind.i64 ((Go.IntKind.wrap Go.IntKind.i64 (a2.2.2.1 - a2.2.1)) + (1 : Int)))))) (Go.IntKind.wrap Go.IntKind.i64 (a2.2.1 - (1 : Int)))) + ((f150 ((a0.1, a0.2), (a3, ((Go.IntKind.wrap Go.IntKind.i64 ((Go.IntKind.wrap Go.IntKind.i64 ((if (a2.2.2.1 > (f148 ((a0.1, a0.2), ())).1) then a2.2.2.1 else (f148 ((a0.1, a0.2), ())).1) - a2.2.1)) + (1 : Int))), ())))).1.getD (Int.toNat (0 : Int)) (0 : Int)))) (Vx.shlI Go.IntKind.u64 (1 : Int) (Go.IntKind.wrap Go.IntKind.i64 (a2.1 - (1 : Int))))), ((0 : Int), ())))
  else bif (p152 ((a0.1, a0.2), ((a2.1, a2.2), (a3, (f148 ((a0.1, a0.2), ())))))) then
  (bif (f152 ((a0.1, a0.2), ((a2.1, a2.2), (a3, (f148 ((a0.1, a0.2), ())))))).1 then
  (some ((Vx.orI Go.IntKind.u64 (Go.IntKind.wrap Go.IntKind.u64 ((Vx.shlI Go.IntKind.u64 (Go.IntKind.wrap Go.IntKind.u64 (Go.IntKind.wrap Go.IntKind.i64 ((Go.IntKind.wrap Go.IntKind.i64 ((Go.IntKind.wrap Go.IntKind.i64 ((if (a2.2.2.1 > (f148 ((a0.1, a0.2), ())).1) then a2.2.2.1 else (f148 ((a0.1, a0.2), ())).1) - a2.2.1)) + (1 : Int))) - (Go.IntKind.wrap Go.IntKind.i64 ((Go.IntKind.wrap Go.IntKind.i64 (a2.2.2.1 - a2.2.1)) + (1 : Int)))))) (Go.IntKind.wrap Go.IntKind.i64 (a2.2.1 - (1 : Int)))) + ((f150 ((a0.1, a0.2), (a3, ((Go.IntKind.wrap Go.IntKind.i64 ((Go.IntKind.wrap Go.IntKind.i64 ((if (a2.2.2.1 > (f148 ((a0.1, a0.2), ())).1) then a2.2.2.1 else (f148 ((a0.1, a0.2), ())).1) - a2.2.1)) + (1 : Int))), ())))).1.getD (Int.toNat (0 : Int)) (0 : Int)))) (Vx.shlI Go.IntKind.u64 (1 : Int) (Go.IntKind.wrap Go.IntKind.i64 (a2.1 - (1 : Int))))), ((24 : Int), ())))
  else some ((Vx.orI Go.IntKind.u64 (Go.IntKind.wrap Go.IntKind.u64 ((Vx.shlI Go.IntKind.u64 (Go.IntKind.wrap Go.IntKind.u64 (Go.IntKind.wrap Go.IntKind.i64 ((Go.IntKind.wrap Go.IntKind.i64 ((Go.IntKind.wrap Go.IntKind.i64 ((if (a2.2.2.1 > (f148 ((a0.1, a0.2), ())).1) then a2.2.2.1 else (f148 ((a0.1, a0.2), ())).1) - a2.2.1)) + (1 : Int))) - (Go.IntKind.wrap Go.IntKind.i64 ((Go.IntKind.wrap Go.IntKind.i64 (a2.2.2.1 - a2.2.1)) + (1 : Int)))))) (Go.IntKind.wrap Go.IntKind.i64 (a2.2.1 - (1 : Int)))) + ((f150 ((a0.1, a0.2), (a3, ((Go.IntKind.wrap Go.IntKind.i64 ((Go.IntKind.wrap Go.IntKind.i64 ((if (a2.2.2.1 > (f148 ((a0.1, a0.2), ())).1) then a2.2.2.1 else (f148 ((a0.1, a0.2), ())).1) - a2.2.1)) + (1 : Int))), ())))).1.getD (Int.toNat (0 : Int)) (0 : Int)))) (Vx.shlI Go.IntKind.u64 (1 : Int) (Go.IntKind.wrap Go.IntKind.i64 (a2.1 - (1 : Int))))), ((16 : Int), ())))
  else none)
  else none)
  else bif (!(f150 ((a0.1, a0.2), (a3, ((Go.IntKind.wrap Go.IntKind.i64 ((Go.IntKind.wrap Go.IntKind.i64 ((if (a2.2.2.1 > (f148 ((a0.1, a0.2), ())).1) then a2.2.2.1 else (f148 ((a0.1, a0.2), ())).1) - a2.2.1)) + (1 : Int))), ())))).2.1) then
  (some ((Go.IntKind.wrap Go.IntKind.u64 ((Vx.shlI Go.IntKind.u64 (Go.IntKind.wrap Go.IntKind.u64 (Go.IntKind.wrap Go.IntKind.i64 ((Go.IntKind.wrap Go.IntKind.i64 ((Go.IntKind.wrap Go.IntKind.i64 ((if (a2.2.2.1 > (f148 ((a0.1, a0.2), ())).1) then a2.2.2.1 else (f148 ((a0.1, a0.2), ())).1) - a2.2.1)) + (1 : Int))) - (Go.IntKind.wrap Go.IntKind.i64 ((Go.IntKind.wrap Go.IntKind.i64 (a2.2.2.1 - a2.2.1)) + (1 : Int)))))) (Go.IntKind.wrap Go.IntKind.i64 (a2.2.1 - (1 : Int)))) + ((f150 ((a0.1, a0.2), (a3, ((Go.IntKind.wrap Go.IntKind.i64 ((Go.IntKind.wrap Go.IntKind.i64 ((if (a2.2.2.1 > (f148 ((a0.1, a0.2), ())).1) then a2.2.2.1 else (f148 ((a0.1, a0.2), ())).1) - a2.2.1)) + (1 : Int))), ())))).1.getD (Int.toNat (0 : Int)) (0 : Int)))), ((0 : Int), ())))
  else bif (p152 ((a0.1, a0.2), ((a2.1, a2.2), (a3, (f148 ((a0.1, a0.2), ())))))) then
  (bif (f152 ((a0.1, a0.2), ((a2.1, a2.2), (a3, (f148 ((a0.1, a0.2), ())))))).1 then
  (some ((Go.IntKind.wrap Go.IntKind.u64 ((Vx.shlI Go.IntKind.u64 (Go.IntKind.wrap Go.IntKind.u64 (Go.IntKind.wrap Go.IntKind.i64 ((Go.IntKind.wrap Go.IntKind.i64 ((Go.IntKind.wrap Go.IntKind.i64 ((if (a2.2.2.1 > (f148 ((a0.1, a0.2), ())).1) then a2.2.2.1 else (f148 ((a0.1, a0.2), ())).1) - a2.2.1)) + (1 : Int))) - (Go.IntKind.wrap Go.IntKind.i64 ((Go.IntKind.wrap Go.IntKind.i64 (a2.2.2.1 - a2.2.1)) + (1 : Int)))))) (Go.IntKind.wrap Go.IntKind.i64 (a2.2.1 - (1 : Int)))) + ((f150 ((a0.1, a0.2), (a3, ((Go.IntKind.wrap Go.IntKind.i64 ((Go.IntKind.wrap Go.IntKind.i64 ((if (a2.2.2.1 > (f148 ((a0.1, a0.2), ())).1) then a2.2.2.1 else (f148 ((a0.1, a0.2), ())).1) - a2.2.1)) + (1 : Int))), ())))).1.getD (Int.toNat (0 : Int)) (0 : Int)))), ((24 : Int), ())))
  else some ((Go.IntKind.wrap Go.IntKind.u64 ((Vx.shlI Go.IntKind.u64 (Go.IntKind.wrap Go.IntKind.u64 (Go.IntKind.wrap Go.IntKind.i64 ((Go.IntKind.wrap Go.IntKind.i64 ((Go.IntKind.wrap Go.IntKind.i64 ((if (a2.2.2.1 > (f148 ((a0.1, a0.2), ())).1) then a2.2.2.1 else (f148 ((a0.1, a0.2), ())).1) - a2.2.1)) + (1 : Int))) - (Go.IntKind.wrap Go.IntKind.i64 ((Go.IntKind.wrap Go.IntKind.i64 (a2.2.2.1 - a2.2.1)) + (1 : Int)))))) (Go.IntKind.wrap Go.IntKind.i64 (a2.2.1 - (1 : Int)))) + ((f150 ((a0.1, a0.2), (a3, ((Go.IntKind.wrap Go.IntKind.i64 ((Go.IntKind.wrap Go.IntKind.i64 ((if (a2.2.2.1 > (f148 ((a0.1, a0.2), ())).1) then a2.2.2.1 else (f148 ((a0.1, a0.2), ())).1) - a2.2.1)) + (1 : Int))), ())))).1.getD (Int.toNat (0 : Int)) (0 : Int)))), ((16 : Int), ())))
  else none)
  else none)
  else none)
  else bif (p151 ((f150 ((a0.1, a0.2), (a3, ((Go.IntKind.wrap Go.IntKind.i64 ((Go.IntKind.wrap Go.IntKind.i64 ((if (a2.2.2.1 > (f148 ((a0.1, a0.2), ())).1) then a2.2.2.1 else (f148 ((a0.1, a0.2), ())).1) - a2.2.1)) + (1 : Int))), ())))).1, ())) then
  (bif (decide ((Go.IntKind.wrap Go.IntKind.i64 ((Go.IntKind.wrap Go.IntKind.i64 ((Go.IntKind.wrap Go.IntKind.i64 ((Go.IntKind.wrap Go.IntKind.i64 ((if (a2.2.2.1 > (f148 ((a0.1, a0.2), ())).1) then a2.2.2.1 else (f148 ((a0.1, a0.2), ())).1) - a2.2.1)) + (1 : Int))) + (f151 ((f150 ((a0.1, a0.2), (a3, ((Go.IntKind.wrap Go.IntKind.i64 ((Go.IntKind.wrap Go.IntKind.i64 ((if (a2.2.2.1 > (f148 ((a0.1, a0.2), ())).1) then a2.2.2.1 else (f148 ((a0.1, a0.2), ())).1) - a2.2.1)) + (1 : Int))), ())))).1, ())).1)) - (1 : Int))) > a2.2.2.2.1)) then
  (bif (p149 (a1, (a3, (a0.1, ())))) then
  (some ((f149 (a1, (a3, (a0.1, ())))).1, ((20 : Int), ())))
  else none)
  else bif a0.1 then
  (bif (decide ((0 : Int) ≤ (Go.IntKind.wrap Go.IntKind.i64 (a2.1 - (1 : Int))))) then
  (bif (!(f150 ((a0.1, a0.2), (a3, ((Go.IntKind.wrap Go.IntKind.i64 ((Go.IntKind.wrap Go.IntKind.i64 ((if (a2.2.2.1 > (f148 ((a0.1, a0.2), ())).1) then a2.2.2.1 else (f148 ((a0.1, a0.2), ())).1) - a2.2.1)) + (1 : Int))), ())))).2.1) then
  (some ((Vx.orI Go.IntKind.u64 (Vx.shlI Go.IntKind.u64 (Go.IntKind.wrap Go.IntKind.u64 (Go.IntKind.wrap Go.IntKind.i64 ((Go.IntKind.wrap Go.IntKind.i64 ((Go.IntKind.wrap Go.IntKind.i64 ((if (a2.2.2.1 > (f148 ((a0.1, a0.2), ())).1) then a2.2.2.1 else (f148 ((a0.1, a0.2), ())).1) - a2.2.1)) + (1 : Int))) - (Go.IntKind.wrap Go.IntKind.i64 ((Go.IntKind.wrap Go.IntKind.i64 (a2.2.2.1 - a2.2.1)) + (1 : Int)))))) (Go.IntKind.wrap Go.IntKind.i64 (a2.2.1 - (1 : Int)))) (Vx.shlI Go.IntKind.u64 (1 : Int) (Go.IntKind.wrap Go.IntKind.i64 (a2.1 - (1 : Int))))), ((0 : Int), ())))
  else bif (p152 ((a0.1, a0.2), ((a2.1, a2.2), (a3, (f148 ((a0.1, a0.2), ())))))) then
  (bif (f152 ((a0.1, a0.2), ((a2.1, a2.2), (a3, (f148 ((a0.1, a0.2), ())))))).1 then
  (some ((Vx.orI Go.IntKind.u64 (Vx.shlI Go.IntKind.u64 (Go.IntKind.wrap Go.IntKind.u64 (Go.IntKind.wrap Go.IntKind.i64 ((Go.IntKind.wrap Go.IntKind.i64 ((Go.IntKind.wrap Go.IntKind.i64 ((if (a2.2.2.1 > (f148 ((a0.1, a0.2), ())).1) then a2.2.2.1 else (f148 ((a0.1, a0.2), ())).1) - a2.2.1)) + (1 : Int))) - (Go.IntKind.wrap Go.IntKind.i64 ((Go.IntKind.wrap Go.IntKind.i64 (a2.2.2.1 - a2.2.1)) + (1 : Int)))))) (Go.IntKind.wrap Go.IntKind.i64 (a2.2.1 - (1 : Int)))) (Vx.shlI Go.IntKind.u64 (1 : Int) (Go.IntKind.wrap Go.IntKind.i64 (a2.1 - (1 : Int))))), ((24 : Int), ())))
  else some ((Vx.orI Go.IntKind.u64 (Vx.shlI Go.IntKind.u64 (Go.IntKind.wrap Go.IntKind.u64 (Go.IntKind.wrap Go.IntKind.i64 ((Go.IntKind.wrap Go.IntKind.i64 ((Go.IntKind.wrap Go.IntKind.i64 ((if (a2.2.2.1 > (f148 ((a0.1, a0.2), ())).1) then a2.2.2.1 else (f148 ((a0.1, a0.2), ())).1) - a2.2.1)) + (1 : Int))) - (Go.IntKind.wrap Go.IntKind.i64 ((Go.IntKind.wrap Go.IntKind.i64 (a2.2.2.1 - a2.2.1)) + (1 : Int)))))) (Go.IntKind.wrap Go.IntKind.i64 (a2.2.1 - (1 : Int)))) (Vx.shlI Go.IntKind.u64 (1 : Int) (Go.IntKind.wrap Go.IntKind.i64 (a2.1 - (1 : Int))))), ((16 : Int), ())))
  else none)
  else none)
  else bif (!(f150 ((a0.1, a0.2), (a3, ((Go.IntKind.wrap Go.IntKind.i64 ((Go.IntKind.wrap Go.IntKind.i64 ((if (a2.2.2.1 > (f148 ((a0.1, a0.2), ())).1) then a2.2.2.1 else (f148 ((a0.1, a0.2), ())).1) - a2.2.1)) + (1 : Int))), ())))).2.1) then
  (some ((Vx.shlI Go.IntKind.u64 (Go.IntKind.wrap Go.IntKind.u64 (Go.IntKind.wrap Go.IntKind.i64 ((Go.IntKind.wrap Go.IntKind.i64 ((Go.IntKind.wrap Go.IntKind.i64 ((if (a2.2.2.1 > (f148 ((a0.1, a0.2), ())).1) then a2.2.2.1 else (f148 ((a0.1, a0.2), ())).1) - a2.2.1)) + (1 : Int))) - (Go.IntKind.wrap Go.IntKind.i64 ((Go.IntKind.wrap Go.IntKind.i64 (a2.2.2.1 - a2.2.1)) + (1 : Int)))))) (Go.IntKind.wrap Go.IntKind.i64 (a2.2.1 - (1 : Int)))), ((0 : Int), ())))
  else bif (p152 ((a0.1, a0.2), ((a2.1, a2.2), (a3, (f148 ((a0.1, a0.2), ())))))) then
  (bif (f152 ((a0.1, a0.2), ((a2.1, a2.2), (a3, (f148 ((a0.1, a0.2), ())))))).1 then
  (some ((Vx.shlI Go.IntKind.u64 (Go.IntKind.wrap Go.IntKind.u64 (Go.IntKind.wrap Go.IntKind.i64 ((Go.IntKind.wrap Go.IntKind.i64 ((Go.IntKind.wrap Go.IntKind.i64 ((if (a2.2.2.1 > (f148 ((a0.1, a0.2), ())).1) then a2.2.2.1 else (f148 ((a0.1, a0.2), ())).1) - a2.2.1)) + (1 : Int))) - (Go.IntKind.wrap Go.IntKind.i64 ((Go.IntKind.wrap Go.IntKind.i64 (a2.2.2.1 - a2.2.1)) + (1 : Int)))))) (Go.IntKind.wrap Go.IntKind.i64 (a2.2.1 - (1 : Int)))), ((24 : Int), ())))
  else some ((Vx.shlI Go.IntKind.u64 (Go.IntKind.wrap Go.IntKind.u64 (Go.IntKind.wrap Go.IntKind.i64 ((Go.IntKind.wrap Go.IntKind.i64 ((Go.IntKind.wrap Go.IntKind.i64 ((if (a2.2.2.1 > (f148 ((a0.1, a0.2), ())).1) then a2.2.2.1 else (f148 ((a0.1, a0.2), ())).1) - a2.2.1)) + (1 : Int))) - (Go.IntKind.wrap Go.IntKind.i64 ((Go.IntKind.wrap Go.IntKind.i64 (a2.2.2.1 - a2.2.1)) + (1 : Int)))))) (Go.IntKind.wrap Go.IntKind.i64 (a2.2.1 - (1 : Int)))), ((16 : Int), ())))
  else none)
  else none)
  else none)
  else none)
  else none
theorem r107 (p148 : DenS I148 → Bool) (f148 : DenS I148 → DenS O148) (p150 : DenS I150 → Bool) (f150 : DenS I150 → DenS O150) (p151 : DenS I151 → Bool) (f151 : DenS I151 → DenS O151) (p149 : DenS I149 → Bool) (f149 : DenS I149 → DenS O149) (p152 : DenS I152 → Bool) (f152 : DenS I152 → DenS O152) (a0 : Den (.pair (.bool) (.pair (.slice (.int .u64)) (.pair (.int .i64) (.pair (.bool) (.unit)))))) (a1 : Den (.int .i64)) (a2 : Den (.pair (.int .i64) (.pair (.int .i64) (.pair (.int .i64) (.pair (.int .i64) (.unit)))))) (a3 : Den (.int .i64)) :
    run { P := Go.Proofs.Tryz.prog, sums := [(164, ⟨I148, O148, p148, f148⟩), (166, ⟨I150, O150, p150, f150⟩), (155, ⟨I151, O151, p151, f151⟩), (165, ⟨I149, O149, p149, f149⟩), (167, ⟨I152, O152, p152, f152⟩)], loops := [], globs := G1 } 9 125 Go.Proofs.Tryz.f125 I107 O107 (a0, a1, a2, a3, ()) = t107 p148 f148 p150 f150 p151 f151 p149 f149 p152 f152 a0 a1 a2 a3 := by kernel_rfl
noncomputable def T107 (x : DenS I107) : Option (DenS O107) := t107 S148.pre S148.F S150.pre S150.F S151.pre S151.F S149.pre S149.F S152.pre S152.F x.1 x.2.1 x.2.2.1 x.2.2.2.1
noncomputable def C107 : Cfg := { P := Go.Proofs.Tryz.prog, sums := [(164, S148), (166, S150), (155, S151), (165, S149), (167, S152)], loops := [], globs := G1 }
noncomputable def S107 : Sum := sumOf I107 O107 T107 (DenS.dflt O107)
theorem S107_sound : Sound Go.Proofs.Tryz.prog G1 125 S107 :=
  fn_sound C107 9 125 Go.Proofs.Tryz.f125 mixedOk (by kernel_rfl) (by kernel_rfl) (by kernel_rfl) ⟨S148_sound, ⟨S150_sound, ⟨S151_sound, ⟨S149_sound, ⟨S152_sound, trivial⟩⟩⟩⟩⟩ trivial I107 O107 T107 _ (fun x => r107 S148.pre S148.F S150.pre S150.F S151.pre S151.F S149.pre S149.F S152.pre S152.F x.1 x.2.1 x.2.2.1 x.2.2.2.1)
/-- vernier/round.Exact -/
abbrev I51 : Sig := [(false, .int .i64), (false, .int .i64), (true, .pair (.bool) (.pair (.slice (.int .u64)) (.pair (.int .i64) (.unit))))]
abbrev O51 : Sig := [(false, .int .u64), (false, .int .i64), (false, .int .i64)]
noncomputable def t51 (p105 : DenS I105 → Bool) (f105 : DenS I105 → DenS O105) (p106 : DenS I106 → Bool) (f106 : DenS I106 → DenS O106) (p107 : DenS I107 → Bool) (f107 : DenS I107 → DenS O107) (a0 : Den (.int .i64)) (a1 : Den (.int .i64)) (a2 : Den (.pair (.bool) (.pair (.slice (.int .u64)) (.pair (.int .i64) (.unit))))) : Option (DenS O51) :=
  bif (p105 (a0, (a1, ()))) then
  (bif ((f105 (a0, (a1, ()))).2.1 != (0 : Int)) then
  (some ((0 : Int), ((0 : Int), (f105 (a0, (a1, ()))).2)))
  else bif (p106 ((a2.1, a2.2), ())) then
  (bif ((f106 ((a2.1, a2.2), ())).2.1 != (0 : Int)) then
  (some ((0 : Int), ((0 : Int), (f106 ((a2.1, a2.2), ())).2)))
  else bif (((f106 ((a2.1, a2.2), ())).1.2.1.length : Int) == (0 : Int)) then
  (some ((0 : Int), ((0 : Int), ((0 : Int), ()))))
  else bif (p107 (((f106 ((a2.1, a2.2), ())).1.1, ((f106 ((a2.1, a2.2), ())).1.2.1, ((f106 ((a2.1, a2.2), ())).1.2.2.1, (false, ())))), (a0, ((f105 (a0, (a1, ()))).1, (a1, ()))))) then
  (some ((f107 (((f106 ((a2.1, a2.2), ())).1.1, ((f106 ((a2.1, a2.2), ())).1.2.1, ((f106 ((a2.1, a2.2), ())).1.2.2.1, (false, ())))), (a0, ((f105 (a0, (a1, ()))).1, (a1, ()))))).1, ((f107 (((f106 ((a2.1, a2.2), ())).1.1, ((f106 ((a2.1, a2.2), ())).1.2.1, ((f106 ((a2.1, a2.2), ())).1.2.2.1, (false, ())))), (a0, ((f105 (a0, (a1, ()))).1, (a1, ()))))).2.1, ((0 : Int), ()))))
  else none)
  else none)
  else none
theorem r51 (p105 : DenS I105 → Bool) (f105 : DenS I105 → DenS O105) (p106 : DenS I106 → Bool) (f106 : DenS I106 → DenS O106) (p107 : DenS I107 → Bool) (f107 : DenS I107 → DenS O107) (a0 : Den (.int .i64)) (a1 : Den (.int .i64)) (a2 : Den (.pair (.bool) (.pair (.slice (.int .u64)) (.pair (.int .i64) (.unit))))) :
    run { P := Go.Proofs.Tryz.prog, sums := [(123, ⟨I105, O105, p105, f105⟩), (124, ⟨I106, O106, p106, f106⟩), (125, ⟨I107, O107, p107, f107⟩)], loops := [], globs := G1 } 9 57 Go.Proofs.Tryz.f57 I51 O51 (a0, a1, a2, ()) = t51 p105 f105 p106 f106 p107 f107 a0 a1 a2 := by kernel_rfl
noncomputable def T51 (x : DenS I51) : Option (DenS O51) := t51 S105.pre S105.F S106.pre S106.F S107.pre S107.F x.1 x.2.1 x.2.2.1
noncomputable def C51 : Cfg := { P := Go.Proofs.Tryz.prog, sums := [(123, S105), (124, S106), (125, S107)], loops := [], globs := G1 }
noncomputable def S51 : Sum := sumOf I51 O51 T51 (DenS.dflt O51)
theorem S51_sound : Sound Go.Proofs.Tryz.prog G1 57 S51 :=
  fn_sound C51 9 57 Go.Proofs.Tryz.f57 mixedOk (by kernel_rfl) (by kernel_rfl) (by kernel_rfl) ⟨S105_sound, ⟨S106_sound, ⟨S107_sound, trivial⟩⟩⟩ trivial I51 O51 T51 _ (fun x => r51 S105.pre S105.F S106.pre S106.F S107.pre S107.F x.1 x.2.1 x.2.2.1)
/-- vernier/order.Ulp -/
abbrev I45 : Sig := [(false, .int .i64), (false, .int .u64)]
abbrev O45 : Sig := [(false, .int .u64), (false, .int .i64), (false, .int .i64)]
noncomputable def t45 (p82 : DenS I82 → Bool) (f82 : DenS I82 → DenS O82) (p53 : DenS I53 → Bool) (f53 : DenS I53 → DenS O53) (p54 : DenS I54 → Bool) (f54 : DenS I54 → DenS O54) (p70 : DenS I70 → Bool) (f70 : DenS I70 → DenS O70) (p97 : DenS I97 → Bool) (f97 : DenS I97 → DenS O97) (p69 : DenS I69 → Bool) (f69 : DenS I69 → DenS O69) (p98 : DenS I98 → Bool) (f98 : DenS I98 → DenS O98) (p51 : DenS I51 → Bool) (f51 : DenS I51 → DenS O51) (a0 : Den (.int .i64)) (a1 : Den (.int .u64)) : Option (DenS O45) :=
  bif (p82 (a0, (a1, ()))) then
  (bif ((f82 (a0, (a1, ()))).2.1 != (0 : Int)) then
  (some ((0 : Int), ((0 : Int), (f82 (a0, (a1, ()))).2)))
  else bif (p53 ((f82 (a0, (a1, ()))).1, ())) then
  (bif (f53 ((f82 (a0, (a1, ()))).1, ())).1 then
  (bif (p54 ((f82 (a0, (a1, ()))).1, ((f82 (a0, (a1, ()))).1, ()))) then
  (bif (p70 (a0, ())) then
  (some ((f70 (a0, ())).1, ((f54 ((f82 (a0, (a1, ()))).1, ((f82 (a0, (a1, ()))).1, ()))).1, (f70 (a0, ())).2)))
  else none)
  else none)
  else bif (((f82 (a0, (a1, ()))).1.1 == (2 : Int)) || ((f82 (a0, (a1, ()))).1.1 == (9 : Int))) then
  (bif (p97 (a0, (false, ()))) then
  (some ((f97 (a0, (false, ()))).1, ((0 : Int), (f97 (a0, (false, ()))).2)))
  else none)
  else bif (p69 (a0, ())) then
  (bif (p98 (a0, (a1, ()))) then
  (bif (p51 (a0, ((0 : Int), ((false, (((1 : Int) :: []), ((Go.IntKind.wrap Go.IntKind.i64 ((Go.IntKind.wrap Go.IntKind.i64 ((Go.IntKind.wrap Go.IntKind.i64 ((Go.IntKind.wrap Go.IntKind.i64 ((if ((1 : Int) > (Go.IntKind.wrap Go.IntKind.i64 (f98 (a0, (a1, ()))).2.1)) then (1 : Int) else (Go.IntKind.wrap Go.IntKind.i64 (f98 (a0, (a1, ()))).2.1)) - (1 : Int))) + (f69 (a0, ())).1.2.2.1)) - (f69 (a0, ())).1.2.1)) + (1 : Int))), ()))), ())))) then
  (some (f51 (a0, ((0 : Int), ((false, (((1 : Int) :: []), ((Go.IntKind.wrap Go.IntKind.i64 ((Go.IntKind.wrap Go.IntKind.i64 ((Go.IntKind.wrap Go.IntKind.i64 ((Go.IntKind.wrap Go.IntKind.i64 ((if ((1 : Int) > (Go.IntKind.wrap Go.IntKind.i64 (f98 (a0, (a1, ()))).2.1)) then (1 : Int) else (Go.IntKind.wrap Go.IntKind.i64 (f98 (a0, (a1, ()))).2.1)) - (1 : Int))) + (f69 (a0, ())).1.2.2.1)) - (f69 (a0, ())).1.2.1)) + (1 : Int))), ()))), ())))))
  else none)
  else none)
  else none)
  else none)
  else none
theorem r45 (p82 : DenS I82 → Bool) (f82 : DenS I82 → DenS O82) (p53 : DenS I53 → Bool) (f53 : DenS I53 → DenS O53) (p54 : DenS I54 → Bool) (f54 : DenS I54 → DenS O54) (p70 : DenS I70 → Bool) (f70 : DenS I70 → DenS O70) (p97 : DenS I97 → Bool) (f97 : DenS I97 → DenS O97) (p69 : DenS I69 → Bool) (f69 : DenS I69 → DenS O69) (p98 : DenS I98 → Bool) (f98 : DenS I98 → DenS O98) (p51 : DenS I51 → Bool) (f51 : DenS I51 → DenS O51) (a0 : Den (.int .i64)) (a1 : Den (.int .u64)) :
    run { P := Go.Proofs.Tryz.prog, sums := [(50, ⟨I82, O82, p82, f82⟩), (51, ⟨I53, O53, p53, f53⟩), (52, ⟨I54, O54, p54, f54⟩), (53, ⟨I70, O70, p70, f70⟩), (54, ⟨I97, O97, p97, f97⟩), (55, ⟨I69, O69, p69, f69⟩), (56, ⟨I98, O98, p98, f98⟩), (57, ⟨I51, O51, p51, f51⟩)], loops := [], globs := G1 } 9 13 Go.Proofs.Tryz.f13 I45 O45 (a0, a1, ()) = t45 p82 f82 p53 f53 p54 f54 p70 f70 p97 f97 p69 f69 p98 f98 p51 f51 a0 a1 := by kernel_rfl
noncomputable def T45 (x : DenS I45) : Option (DenS O45) := t45 S82.pre S82.F S53.pre S53.F S54.pre S54.F S70.pre S70.F S97.pre S97.F S69.pre S69.F S98.pre S98.F S51.pre S51.F x.1 x.2.1
noncomputable def C45 : Cfg := { P := Go.Proofs.Tryz.prog, sums := [(50, S82), (51, S53), (52, S54), (53, S70), (54, S97), (55, S69), (56, S98), (57, S51)], loops := [], globs := G1 }
noncomputable def S45 : Sum := sumOf I45 O45 T45 (DenS.dflt O45)
theorem S45_sound : Sound Go.Proofs.Tryz.prog G1 13 S45 :=
  fn_sound C45 9 13 Go.Proofs.Tryz.f13 mixedOk (by kernel_rfl) (by kernel_rfl) (by kernel_rfl) ⟨S82_sound, ⟨S53_sound, ⟨S54_sound, ⟨S70_sound, ⟨S97_sound, ⟨S69_sound, ⟨S98_sound, ⟨S51_sound, trivial⟩⟩⟩⟩⟩⟩⟩⟩ trivial I45 O45 T45 _ (fun x => r45 S82.pre S82.F S53.pre S53.F S54.pre S54.F S70.pre S70.F S97.pre S97.F S69.pre S69.F S98.pre S98.F S51.pre S51.F x.1 x.2.1)
/-- vernier/vernierref04.Inf -/
abbrev I169 : Sig := [(false, .int .i64), (false, .int .u64)]
abbrev O169 : Sig := [(false, .int .u64)]
noncomputable def t169 (p131 : DenS I131 → Bool) (f131 : DenS I131 → DenS O131) (p132 : DenS I132 → Bool) (f132 : DenS I132 → DenS O132) (a0 : Den (.int .i64)) (a1 : Den (.int .u64)) : Option (DenS O169) :=
  bif (p131 (a0, ())) then
  (bif (p132 (a0, (a1, ((Go.IntKind.wrap Go.IntKind.u64 (Go.IntKind.wrap Go.IntKind.i64 ((Go.IntKind.wrap Go.IntKind.i64 ((2 : Int) * (f131 (a0, ())).1.2.2.2.1)) + (1 : Int)))), ((0 : Int), ()))))) then
  (some (f132 (a0, (a1, ((Go.IntKind.wrap Go.IntKind.u64 (Go.IntKind.wrap Go.IntKind.i64 ((Go.IntKind.wrap Go.IntKind.i64 ((2 : Int) * (f131 (a0, ())).1.2.2.2.1)) + (1 : Int)))), ((0 : Int), ()))))))
  else none)
  else none
theorem r169 (p131 : DenS I131 → Bool) (f131 : DenS I131 → DenS O131) (p132 : DenS I132 → Bool) (f132 : DenS I132 → DenS O132) (a0 : Den (.int .i64)) (a1 : Den (.int .u64)) :
    run { P := Go.Proofs.Tryz.prog, sums := [(112, ⟨I131, O131, p131, f131⟩), (114, ⟨I132, O132, p132, f132⟩)], loops := [], globs := G1 } 9 59 Go.Proofs.Tryz.f59 I169 O169 (a0, a1, ()) = t169 p131 f131 p132 f132 a0 a1 := by kernel_rfl
noncomputable def T169 (x : DenS I169) : Option (DenS O169) := t169 S131.pre S131.F S132.pre S132.F x.1 x.2.1
noncomputable def C169 : Cfg := { P := Go.Proofs.Tryz.prog, sums := [(112, S131), (114, S132)], loops := [], globs := G1 }
noncomputable def S169 : Sum := sumOf I169 O169 T169 (DenS.dflt O169)
theorem S169_sound : Sound Go.Proofs.Tryz.prog G1 59 S169 :=
  fn_sound C169 9 59 Go.Proofs.Tryz.f59 mixedOk (by kernel_rfl) (by kernel_rfl) (by kernel_rfl) ⟨S131_sound, ⟨S132_sound, trivial⟩⟩ trivial I169 O169 T169 _ (fun x => r169 S131.pre S131.F S132.pre S132.F x.1 x.2.1)
/-- vernier/vernierref04.Number -/
abbrev I87 : Sig := [(false, .int .i64), (false, .int .u64)]
abbrev O87 : Sig := [(false, .int .u64), (false, .int .i64)]
noncomputable def t87 (p131 : DenS I131 → Bool) (f131 : DenS I131 → DenS O131) (p113 : DenS I113 → Bool) (f113 : DenS I113 → DenS O113) (a0 : Den (.int .i64)) (a1 : Den (.int .u64)) : Option (DenS O87) :=
  bif (p131 (a0, ())) then
  (bif (p113 (a0, (a1, ()))) then
  (bif ((f113 (a0, (a1, ()))).2.1 == (0 : Int)) then
  (some ((f113 (a0, (a1, ()))).2.2.1, ((Go.IntKind.wrap Go.IntKind.i64 ((Go.IntKind.wrap Go.IntKind.i64 ((f131 (a0, ())).1.2.2.1 - (f131 (a0, ())).1.2.1)) + (1 : Int))), ())))
  else some ((Go.IntKind.wrap Go.IntKind.u64 ((Vx.shlI Go.IntKind.u64 (1 : Int) (Go.IntKind.wrap Go.IntKind.u64 (Go.IntKind.wrap Go.IntKind.i64 ((f131 (a0, ())).1.2.1 - (1 : Int))))) + (f113 (a0, (a1, ()))).2.2.1)), ((Go.IntKind.wrap Go.IntKind.i64 ((Go.IntKind.wrap Go.IntKind.i64 ((Go.IntKind.wrap Go.IntKind.i64 ((Go.IntKind.wrap Go.IntKind.i64 ((Go.IntKind.wrap Go.IntKind.i64 (f113 (a0, (a1, ()))).2.1) - (1 : Int))) + (f131 (a0, ())).1.2.2.1)) - (f131 (a0, ())).1.2.1)) + (1 : Int))), ())))
  else none)
  else none
theorem r87 (p131 : DenS I131 → Bool) (f131 : DenS I131 → DenS O131) (p113 : DenS I113 → Bool) (f113 : DenS I113 → DenS O113) (a0 : Den (.int .i64)) (a1 : Den (.int .u64)) :
    run { P := Go.Proofs.Tryz.prog, sums := [(112, ⟨I131, O131, p131, f131⟩), (126, ⟨I113, O113, p113, f113⟩)], loops := [], globs := G1 } 9 60 Go.Proofs.Tryz.f60 I87 O87 (a0, a1, ()) = t87 p131 f131 p113 f113 a0 a1 := by kernel_rfl
noncomputable def T87 (x : DenS I87) : Option (DenS O87) := t87 S131.pre S131.F S113.pre S113.F x.1 x.2.1
noncomputable def C87 : Cfg := { P := Go.Proofs.Tryz.prog, sums := [(112, S131), (126, S113)], loops := [], globs := G1 }
noncomputable def S87 : Sum := sumOf I87 O87 T87 (DenS.dflt O87)
theorem S87_sound : Sound Go.Proofs.Tryz.prog G1 60 S87 :=
  fn_sound C87 9 60 Go.Proofs.Tryz.f60 mixedOk (by kernel_rfl) (by kernel_rfl) (by kernel_rfl) ⟨S131_sound, ⟨S113_sound, trivial⟩⟩ trivial I87 O87 T87 _ (fun x => r87 S131.pre S131.F S113.pre S113.F x.1 x.2.1)
/-- vernier/vernierref05.Whole -/
abbrev I89 : Sig := [(false, .bool), (false, .slice (.int .u64)), (false, .int .i64)]
abbrev O89 : Sig := [(true, .pair (.bool) (.pair (.slice (.int .u64)) (.pair (.slice (.int .u64)) (.pair (.int .i64) (.unit)))))]
noncomputable def t89 (a0 : Den (.bool)) (a1 : Den (.slice (.int .u64))) (a2 : Den (.int .i64)) : Option (DenS O89) :=
  some ((a0, (a1, (((1 : Int) :: []), (a2, ())))), ())
theorem r89 (a0 : Den (.bool)) (a1 : Den (.slice (.int .u64))) (a2 : Den (.int .i64)) :
    run { P := Go.Proofs.Tryz.prog, sums := [], loops := [], globs := G1 } 9 62 Go.Proofs.Tryz.f62 I89 O89 (a0, a1, a2, ()) = t89 a0 a1 a2 := by kernel_rfl
noncomputable def T89 (x : DenS I89) : Option (DenS O89) := t89 x.1 x.2.1 x.2.2.1
noncomputable def C89 : Cfg := { P := Go.Proofs.Tryz.prog, sums := [], loops := [], globs := G1 }
noncomputable def S89 : Sum := sumOf I89 O89 T89 (DenS.dflt O89)
theorem S89_sound : Sound Go.Proofs.Tryz.prog G1 62 S89 :=
  fn_sound C89 9 62 Go.Proofs.Tryz.f62 mixedOk (by kernel_rfl) (by kernel_rfl) (by kernel_rfl) trivial trivial I89 O89 T89 _ (fun x => r89 x.1 x.2.1 x.2.2.1)
/-- vernier/vernierref02.size -/
abbrev I163 : Sig := [(false, .slice (.int .u64))]
abbrev O163 : Sig := [(false, .int .i64)]
abbrev P163_2 : Pat := ⟨19, [(0, .one (.sl (.int .u64))), (3, .one (.v .i64))], []⟩
abbrev A163_2 : List (Nat × Shape) := []
abbrev X163_2 : List (Nat × Pat) := [(0, ⟨19, [(3, .one (.v .i64))], []⟩)]
abbrev Q163_2 : Option Pat := none
noncomputable def h163_2 {R : Type} (L : Pat.D P163_2 → Option R) (e : OutT X163_2 Q163_2 → Option R) (x : Pat.D P163_2) : Option R :=
  bif (((decide ((0 : Int) ≤ (Go.IntKind.wrap Go.IntKind.i64 (x.1.2.1 - (1 : Int))))) && (decide ((Go.IntKind.wrap Go.IntKind.i64 (x.1.2.1 - (1 : Int))) < (x.1.1.length : Int)))) || (!(decide (x.1.2.1 > (0 : Int))))) then
  (bif ((decide (x.1.2.1 > (0 : Int))) && ((x.1.1.getD (Int.toNat (Go.IntKind.wrap Go.IntKind.i64 (x.1.2.1 - (1 : Int)))) (0 : Int)) == (0 : Int))) then
  ((L ((x.1.1, ((Go.IntKind.wrap Go.IntKind.i64 (x.1.2.1 - (1 : Int))), ())), ())))
  else (e (.inl (x.1.2, ()))))
  else none
theorem s163_2 (w163_2 : Pat.D P163_2 → Option (OutT X163_2 Q163_2)) (d : Nat) (R : Type) (L : Pat.D P163_2 → Option R) (e : OutT X163_2 Q163_2 → Option R) (x : Pat.D P163_2) :
    lStep { P := Go.Proofs.Tryz.prog, sums := [], loops := [(136, 2, LoopSpec.of P163_2 A163_2 X163_2 Q163_2 w163_2)], globs := G1 } (d + 2) 136 (bodyOf Go.Proofs.Tryz.f136 2) P163_2 A163_2 X163_2 Q163_2 (R := R) L e x = h163_2 L e x := by kernel_rfl
theorem m163_2 : Par fun L e x => h163_2 L e x := by
  intro A B rel L L' e e' h0 hL he x
  unfold h163_2
  repeat' (first | exact h0 | exact hL _ | exact he _ | apply rel_cond | (apply rel_obind h0; intro _) | (apply rel_obind2 <;> intro _))
noncomputable def t163 (w163_2 : Pat.D P163_2 → Option (OutT X163_2 Q163_2)) (a0 : Den (.slice (.int .u64))) : Option (DenS O163) :=
  Vx.obind (w163_2 ((a0, ((a0.length : Int), ())), ())) fun y0 =>
  Vx.obind2 y0 (fun y1 =>
  some y1.1) (fun z1 =>
  none)
theorem r163 (w163_2 : Pat.D P163_2 → Option (OutT X163_2 Q163_2)) (a0 : Den (.slice (.int .u64))) :
    run { P := Go.Proofs.Tryz.prog, sums := [], loops := [(136, 2, LoopSpec.of P163_2 A163_2 X163_2 Q163_2 w163_2)], globs := G1 } 9 136 Go.Proofs.Tryz.f136 I163 O163 (a0, ()) = t163 w163_2 a0 := by kernel_rfl
noncomputable def W163_2 : P163_2.D → Option (OutT X163_2 Q163_2) := lfix fun L => h163_2 L some
noncomputable def T163 (x : DenS I163) : Option (DenS O163) := t163 W163_2 x.1
noncomputable def C163 : Cfg := { P := Go.Proofs.Tryz.prog, sums := [], loops := [(136, 2, LoopSpec.of P163_2 A163_2 X163_2 Q163_2 W163_2)], globs := G1 }
noncomputable def S163 : Sum := sumOf I163 O163 T163 (DenS.dflt O163)
theorem S163_sound : Sound Go.Proofs.Tryz.prog G1 136 S163 :=
  fn_sound C163 9 136 Go.Proofs.Tryz.f136 mixedOk (by kernel_rfl) (by kernel_rfl) (by kernel_rfl) trivial ⟨rfl, fun d => loopOk_of (fun L e x => h163_2 L e x) (m163_2) (fun R L e x => s163_2 W163_2 d R L e x), trivial⟩ I163 O163 T163 _ (fun x => r163 W163_2 x.1)
/-- vernier/vernierref02.Trim -/
abbrev I133 : Sig := [(false, .slice (.int .u64))]
abbrev O133 : Sig := [(false, .slice (.int .u64))]
noncomputable def t133 (p163 : DenS I163 → Bool) (f163 : DenS I163 → DenS O163) (a0 : Den (.slice (.int .u64))) : Option (DenS O133) :=
  bif (p163 (a0, ())) then
  (bif ((decide ((0 : Int) ≤ (f163 (a0, ())).1)) && (decide (((f163 (a0, ())).1 * (8 : Int)) ≤ (140737488355328 : Int)))) then
  (some (((a0.take (List.replicate (Int.toNat (f163 (a0, ())).1) (0 : Int)).length) ++ ((List.replicate (Int.toNat (f163 (a0, ())).1) (0 : Int)).drop a0.length)), ()))
  else none)
  else none
theorem r133 (p163 : DenS I163 → Bool) (f163 : DenS I163 → DenS O163) (a0 : Den (.slice (.int .u64))) :
    run { P := Go.Proofs.Tryz.prog, sums := [(136, ⟨I163, O163, p163, f163⟩)], loops := [], globs := G1 } 9 127 Go.Proofs.Tryz.f127 I133 O133 (a0, ()) = t133 p163 f163 a0 := by kernel_rfl
noncomputable def T133 (x : DenS I133) : Option (DenS O133) := t133 S163.pre S163.F x.1
noncomputable def C133 : Cfg := { P := Go.Proofs.Tryz.prog, sums := [(136, S163)], loops := [], globs := G1 }
noncomputable def S133 : Sum := sumOf I133 O133 T133 (DenS.dflt O133)
theorem S133_sound : Sound Go.Proofs.Tryz.prog G1 127 S133 :=
  fn_sound C133 9 127 Go.Proofs.Tryz.f127 mixedOk (by kernel_rfl) (by kernel_rfl) (by kernel_rfl) ⟨S163_sound, trivial⟩ trivial I133 O133 T133 _ (fun x => r133 S163.pre S163.F x.1)
/-- vernier/vernierref04.Zero -/
abbrev I114 : Sig := [(false, .int .i64), (false, .int .u64)]
abbrev O114 : Sig := [(false, .int .u64)]
noncomputable def t114 (p132 : DenS I132 → Bool) (f132 : DenS I132 → DenS O132) (a0 : Den (.int .i64)) (a1 : Den (.int .u64)) : Option (DenS O114) :=
  bif (p132 (a0, (a1, ((0 : Int), ((0 : Int), ()))))) then
  (some (f132 (a0, (a1, ((0 : Int), ((0 : Int), ()))))))
  else none
theorem r114 (p132 : DenS I132 → Bool) (f132 : DenS I132 → DenS O132) (a0 : Den (.int .i64)) (a1 : Den (.int .u64)) :
    run { P := Go.Proofs.Tryz.prog, sums := [(114, ⟨I132, O132, p132, f132⟩)], loops := [], globs := G1 } 9 128 Go.Proofs.Tryz.f128 I114 O114 (a0, a1, ()) = t114 p132 f132 a0 a1 := by kernel_rfl
noncomputable def T114 (x : DenS I114) : Option (DenS O114) := t114 S132.pre S132.F x.1 x.2.1
noncomputable def C114 : Cfg := { P := Go.Proofs.Tryz.prog, sums := [(114, S132)], loops := [], globs := G1 }
noncomputable def S114 : Sum := sumOf I114 O114 T114 (DenS.dflt O114)
theorem S114_sound : Sound Go.Proofs.Tryz.prog G1 128 S114 :=
  fn_sound C114 9 128 Go.Proofs.Tryz.f128 mixedOk (by kernel_rfl) (by kernel_rfl) (by kernel_rfl) ⟨S132_sound, trivial⟩ trivial I114 O114 T114 _ (fun x => r114 S132.pre S132.F x.1 x.2.1)
/-- vernier/vernierref02.Len -/
abbrev I138 : Sig := [(false, .slice (.int .u64))]
abbrev O138 : Sig := [(false, .int .i64)]
abbrev P138_6 : Pat := ⟨26, [(5, .one (.v .u64)), (3, .one (.v .i64)), (4, .one (.v .i64))], []⟩
abbrev A138_6 : List (Nat × Shape) := []
abbrev X138_6 : List (Nat × Pat) := [(0, ⟨26, [(3, .one (.v .i64)), (4, .one (.v .i64))], []⟩)]
abbrev Q138_6 : Option Pat := none
noncomputable def h138_6 (p163 : DenS I163 → Bool) (f163 : DenS I163 → DenS O163) {R : Type} (L : Pat.D P138_6 → Option R) (e : OutT X138_6 Q138_6 → Option R) (x : Pat.D P138_6) : Option R :=
  bif (decide (x.1.1 > (0 : Int))) then
  ((L (((Vx.shrI Go.IntKind.u64 x.1.1 (1 : Int)), (x.1.2.1, ((Go.IntKind.wrap Go.IntKind.i64 (x.1.2.2.1 + (1 : Int))), ()))), ())))
  else (e (.inl (x.1.2, ())))
theorem s138_6 (p163 : DenS I163 → Bool) (f163 : DenS I163 → DenS O163) (w138_6 : Pat.D P138_6 → Option (OutT X138_6 Q138_6)) (d : Nat) (R : Type) (L : Pat.D P138_6 → Option R) (e : OutT X138_6 Q138_6 → Option R) (x : Pat.D P138_6) :
    lStep { P := Go.Proofs.Tryz.prog, sums := [(136, ⟨I163, O163, p163, f163⟩)], loops := [(65, 6, LoopSpec.of P138_6 A138_6 X138_6 Q138_6 w138_6)], globs := G1 } (d + 2) 65 (bodyOf Go.Proofs.Tryz.f65 6) P138_6 A138_6 X138_6 Q138_6 (R := R) L e x = h138_6 p163 f163 L e x := by kernel_rfl
theorem m138_6 (p163 : DenS I163 → Bool) (f163 : DenS I163 → DenS O163) : Par fun L e x => h138_6 p163 f163 L e x := by
  intro A B rel L L' e e' h0 hL he x
  unfold h138_6
  repeat' (first | exact h0 | exact hL _ | exact he _ | apply rel_cond | (apply rel_obind h0; intro _) | (apply rel_obind2 <;> intro _))
noncomputable def t138 (p163 : DenS I163 → Bool) (f163 : DenS I163 → DenS O163) (w138_6 : Pat.D P138_6 → Option (OutT X138_6 Q138_6)) (a0 : Den (.slice (.int .u64))) : Option (DenS O138) :=
  bif (p163 (a0, ())) then
  (bif ((f163 (a0, ())).1 == (0 : Int)) then
  (some ((0 : Int), ()))
  else bif ((decide ((0 : Int) ≤ (Go.IntKind.wrap Go.IntKind.i64 ((f163 (a0, ())).1 - (1 : Int))))) && (decide ((Go.IntKind.wrap Go.IntKind.i64 ((f163 (a0, ())).1 - (1 : Int))) < (a0.length : Int)))) then
  (Vx.obind (w138_6 (((a0.getD (Int.toNat (Go.IntKind.wrap Go.IntKind.i64 ((f163 (a0, ())).1 - (1 : Int)))) (0 : Int)), ((f163 (a0, ())).1, ((0 : Int), ()))), ())) fun y3 =>
  Vx.obind2 y3 (fun y4 =>
  some ((Go.IntKind.wrap Go.IntKind.i64 ((Go.IntKind.wrap Go.IntKind.i64 ((64 : Int) * (Go.IntKind.wrap Go.IntKind.i64 (y4.1.1 - (1 : Int))))) + y4.1.2.1)), ())) (fun z4 =>
  none))
  else none)
  else none
theorem r138 (p163 : DenS I163 → Bool) (f163 : DenS I163 → DenS O163) (w138_6 : Pat.D P138_6 → Option (OutT X138_6 Q138_6)) (a0 : Den (.slice (.int .u64))) :
    run { P := Go.Proofs.Tryz.prog, sums := [(136, ⟨I163, O163, p163, f163⟩)], loops := [(65, 6, LoopSpec.of P138_6 A138_6 X138_6 Q138_6 w138_6)], globs := G1 } 9 65 Go.Proofs.Tryz.f65 I138 O138 (a0, ()) = t138 p163 f163 w138_6 a0 := by kernel_rfl
noncomputable def W138_6 : P138_6.D → Option (OutT X138_6 Q138_6) := lfix fun L => h138_6 S163.pre S163.F L some
noncomputable def T138 (x : DenS I138) : Option (DenS O138) := t138 S163.pre S163.F W138_6 x.1
noncomputable def C138 : Cfg := { P := Go.Proofs.Tryz.prog, sums := [(136, S163)], loops := [(65, 6, LoopSpec.of P138_6 A138_6 X138_6 Q138_6 W138_6)], globs := G1 }
noncomputable def S138 : Sum := sumOf I138 O138 T138 (DenS.dflt O138)
theorem S138_sound : Sound Go.Proofs.Tryz.prog G1 65 S138 :=
  fn_sound C138 9 65 Go.Proofs.Tryz.f65 mixedOk (by kernel_rfl) (by kernel_rfl) (by kernel_rfl) ⟨S163_sound, trivial⟩ ⟨rfl, fun d => loopOk_of (fun L e x => h138_6 S163.pre S163.F L e x) (m138_6 S163.pre S163.F) (fun R L e x => s138_6 S163.pre S163.F W138_6 d R L e x), trivial⟩ I138 O138 T138 _ (fun x => r138 S163.pre S163.F W138_6 x.1)
/-- vernier/vernierref02.down -/
abbrev I187 : Sig := [(false, .slice (.int .u64)), (false, .int .i64)]
abbrev O187 : Sig := [(false, .slice (.int .u64))]
abbrev P187_6 : Pat := ⟨74, [(5, .one (.v .i64)), (0, .one (.sl (.int .u64))), (1, .one (.v .i64)), (7, .one (.v .i64)), (6, .one (.own 0))], [.arr (.int .u64)]⟩
abbrev A187_6 : List (Nat × Shape) := []
abbrev X187_6 : List (Nat × Pat) := [(0, ⟨74, [(6, .one (.own 0))], [.arr (.int .u64)]⟩)]
abbrev Q187_6 : Option Pat := none
noncomputable def h187_6 (p138 : DenS I138 → Bool) (f138 : DenS I138 → DenS O138) (p163 : DenS I163 → Bool) (f163 : DenS I163 → DenS O163) (p133 : DenS I133 → Bool) (f133 : DenS I133 → DenS O133) {R : Type} (L : Pat.D P187_6 → Option R) (e : OutT X187_6 Q187_6 → Option R) (x : Pat.D P187_6) : Option R :=
  bif (decide (x.1.2.2.2.1 < (x.2.1.length : Int))) then
  (bif ((decide ((0 : Int) ≤ (Go.IntKind.wrap Go.IntKind.i64 (x.1.2.2.2.1 + (Vx.quoI Go.IntKind.i64 x.1.2.2.1 (64 : Int)))))) && (decide ((Go.IntKind.wrap Go.IntKind.i64 (x.1.2.2.2.1 + (Vx.quoI Go.IntKind.i64 x.1.2.2.1 (64 : Int)))) < (x.1.2.1.length : Int)))) then
  (bif ((decide ((0 : Int) ≤ x.1.2.2.2.1)) && (decide (x.1.2.2.2.1 < (x.2.1.length : Int)))) then
  (bif ((decide ((Int.tmod x.1.2.2.1 (64 : Int)) > (0 : Int))) && (decide ((Go.IntKind.wrap Go.IntKind.i64 ((Go.IntKind.wrap Go.IntKind.i64 (x.1.2.2.2.1 + (Vx.quoI Go.IntKind.i64 x.1.2.2.1 (64 : Int)))) + (1 : Int))) < x.1.1))) then
  (bif ((decide ((0 : Int) ≤ x.1.2.2.2.1)) && (decide (x.1.2.2.2.1 < ((x.2.1.set (Int.toNat x.1.2.2.2.1) (Vx.shrI Go.IntKind.u64 (x.1.2.1.getD (Int.toNat (Go.IntKind.wrap Go.IntKind.i64 (x.1.2.2.2.1 + (Vx.quoI Go.IntKind.i64 x.1.2.2.1 (64 : Int))))) (0 : Int)) (Go.IntKind.wrap Go.IntKind.u64 (Int.tmod x.1.2.2.1 (64 : Int))))).length : Int)))) then
  (bif ((decide ((0 : Int) ≤ (Go.IntKind.wrap Go.IntKind.i64 ((Go.IntKind.wrap Go.IntKind.i64 (x.1.2.2.2.1 + (Vx.quoI Go.IntKind.i64 x.1.2.2.1 (64 : Int)))) + (1 : Int))))) && (decide ((Go.IntKind.wrap Go.IntKind.i64 ((Go.IntKind.wrap Go.IntKind.i64 (x.1.2.2.2.1 + (Vx.quoI Go.IntKind.i64 x.1.2.2.1 (64 : Int)))) + (1 : Int))) < (x.1.2.1.length : Int)))) then
  (bif ((decide ((0 : Int) ≤ x.1.2.2.2.1)) && (decide (x.1.2.2.2.1 < ((x.2.1.set (Int.toNat x.1.2.2.2.1) (Vx.shrI Go.IntKind.u64 (x.1.2.1.getD (Int.toNat (Go.IntKind.wrap Go.IntKind.i64 (x.1.2.2.2.1 + (Vx.quoI Go.IntKind.i64 x.1.2.2.1 (64 : Int))))) (0 : Int)) (Go.IntKind.wrap Go.IntKind.u64 (Int.tmod x.1.2.2.1 (64 : Int))))).length : Int)))) then
  ((L ((x.1.1, (x.1.2.1, (x.1.2.2.1, ((Go.IntKind.wrap Go.IntKind.i64 (x.1.2.2.2.1 + (1 : Int))), ((), ()))))), (((x.2.1.set (Int.toNat x.1.2.2.2.1) (Vx.shrI Go.IntKind.u64 (x.1.2.1.getD (Int.toNat (Go.IntKind.wrap Go.IntKind.i64 (x.1.2.2.2.1 + (Vx.quoI Go.IntKind.i64 x.1.2.2.1 (64 : Int))))) (0 : Int)) (Go.IntKind.wrap Go.IntKind.u64 (Int.tmod x.1.2.2.1 (64 : Int))))).set (Int.toNat x.1.2.2.2.1) (Vx.orI Go.IntKind.u64 ((x.2.1.set (Int.toNat x.1.2.2.2.1) (Vx.shrI Go.IntKind.u64 (x.1.2.1.getD (Int.toNat (Go.IntKind.wrap Go.IntKind.i64 (x.1.2.2.2.1 + (Vx.quoI Go.IntKind.i64 x.1.2.2.1 (64 : Int))))) (0 : Int)) (Go.IntKind.wrap Go.IntKind.u64 (Int.tmod x.1.2.2.1 (64 : Int))))).getD (Int.toNat x.1.2.2.2.1) (0 : Int)) (Vx.shlI Go.IntKind.u64 (x.1.2.1.getD (Int.toNat (Go.IntKind.wrap Go.IntKind.i64 ((Go.IntKind.wrap Go.IntKind.i64 (x.1.2.2.2.1 + (Vx.quoI Go.IntKind.i64 x.1.2.2.1 (64 : Int)))) + (1 : Int)))) (0 : Int)) (Go.IntKind.wrap Go.IntKind.u64 (Go.IntKind.wrap Go.IntKind.i64 ((64 : Int) - (Int.tmod x.1.2.2.1 (64 : Int)))))))), ()))))
  else none)
  else none)
  else none)
  else (L ((x.1.1, (x.1.2.1, (x.1.2.2.1, ((Go.IntKind.wrap Go.IntKind.i64 (x.1.2.2.2.1 + (1 : Int))), ((), ()))))), ((x.2.1.set (Int.toNat x.1.2.2.2.1) (Vx.shrI Go.IntKind.u64 (x.1.2.1.getD (Int.toNat (Go.IntKind.wrap Go.IntKind.i64 (x.1.2.2.2.1 + (Vx.quoI Go.IntKind.i64 x.1.2.2.1 (64 : Int))))) (0 : Int)) (Go.IntKind.wrap Go.IntKind.u64 (Int.tmod x.1.2.2.1 (64 : Int))))), ()))))
  else none)
  else none)
  else (e (.inl (((), ()), x.2)))
theorem s187_6 (p138 : DenS I138 → Bool) (f138 : DenS I138 → DenS O138) (p163 : DenS I163 → Bool) (f163 : DenS I163 → DenS O163) (p133 : DenS I133 → Bool) (f133 : DenS I133 → DenS O133) (w187_6 : Pat.D P187_6 → Option (OutT X187_6 Q187_6)) (d : Nat) (R : Type) (L : Pat.D P187_6 → Option R) (e : OutT X187_6 Q187_6 → Option R) (x : Pat.D P187_6) :
    lStep { P := Go.Proofs.Tryz.prog, sums := [(65, ⟨I138, O138, p138, f138⟩), (136, ⟨I163, O163, p163, f163⟩), (127, ⟨I133, O133, p133, f133⟩)], loops := [(184, 6, LoopSpec.of P187_6 A187_6 X187_6 Q187_6 w187_6)], globs := G1 } (d + 2) 184 (bodyOf Go.Proofs.Tryz.f184 6) P187_6 A187_6 X187_6 Q187_6 (R := R) L e x = h187_6 p138 f138 p163 f163 p133 f133 L e x := by kernel_rfl
theorem m187_6 (p138 : DenS I138 → Bool) (f138 : DenS I138 → DenS O138) (p163 : DenS I163 → Bool) (f163 : DenS I163 → DenS O163) (p133 : DenS I133 → Bool) (f133 : DenS I133 → DenS O133) : Par fun L e x => h187_6 p138 f138 p163 f163 p133 f133 L e x := by
  intro A B rel L L' e e' h0 hL he x
  unfold h187_6
  repeat' (first | exact h0 | exact hL _ | exact he _ | apply rel_cond | (apply rel_obind h0; intro _) | (apply rel_obind2 <;> intro _))
noncomputable def t187 (p138 : DenS I138 → Bool) (f138 : DenS I138 → DenS O138) (p163 : DenS I163 → Bool) (f163 : DenS I163 → DenS O163) (p133 : DenS I133 → Bool) (f133 : DenS I133 → DenS O133) (w187_6 : Pat.D P187_6 → Option (OutT X187_6 Q187_6)) (a0 : Den (.slice (.int .u64))) (a1 : Den (.int .i64)) : Option (DenS O187) :=
  bif (p138 (a0, ())) then
  (bif (decide (a1 ≥ (f138 (a0, ())).1)) then
  (some ([], ()))
  else bif (p163 (a0, ())) then
  (bif ((decide ((0 : Int) ≤ (Go.IntKind.wrap Go.IntKind.i64 ((f163 (a0, ())).1 - (Vx.quoI Go.IntKind.i64 a1 (64 : Int)))))) && (decide (((Go.IntKind.wrap Go.IntKind.i64 ((f163 (a0, ())).1 - (Vx.quoI Go.IntKind.i64 a1 (64 : Int)))) * (8 : Int)) ≤ (140737488355328 : Int)))) then
  (Vx.obind (w187_6 (((f163 (a0, ())).1, (a0, (a1, ((0 : Int), ((), ()))))), ((List.replicate (Int.toNat (Go.IntKind.wrap Go.IntKind.i64 ((f163 (a0, ())).1 - (Vx.quoI Go.IntKind.i64 a1 (64 : Int))))) (0 : Int)), ()))) fun y4 =>
  Vx.obind2 y4 (fun y5 =>
  bif (p133 y5.2) then
  (some (f133 y5.2))
  else none) (fun z5 =>
  none))
  else none)
  else none)
  else none
theorem r187 (p138 : DenS I138 → Bool) (f138 : DenS I138 → DenS O138) (p163 : DenS I163 → Bool) (f163 : DenS I163 → DenS O163) (p133 : DenS I133 → Bool) (f133 : DenS I133 → DenS O133) (w187_6 : Pat.D P187_6 → Option (OutT X187_6 Q187_6)) (a0 : Den (.slice (.int .u64))) (a1 : Den (.int .i64)) :
    run { P := Go.Proofs.Tryz.prog, sums := [(65, ⟨I138, O138, p138, f138⟩), (136, ⟨I163, O163, p163, f163⟩), (127, ⟨I133, O133, p133, f133⟩)], loops := [(184, 6, LoopSpec.of P187_6 A187_6 X187_6 Q187_6 w187_6)], globs := G1 } 9 184 Go.Proofs.Tryz.f184 I187 O187 (a0, a1, ()) = t187 p138 f138 p163 f163 p133 f133 w187_6 a0 a1 := by kernel_rfl
noncomputable def W187_6 : P187_6.D → Option (OutT X187_6 Q187_6) := lfix fun L => h187_6 S138.pre S138.F S163.pre S163.F S133.pre S133.F L some
noncomputable def T187 (x : DenS I187) : Option (DenS O187) := t187 S138.pre S138.F S163.pre S163.F S133.pre S133.F W187_6 x.1 x.2.1
noncomputable def C187 : Cfg := { P := Go.Proofs.Tryz.prog, sums := [(65, S138), (136, S163), (127, S133)], loops := [(184, 6, LoopSpec.of P187_6 A187_6 X187_6 Q187_6 W187_6)], globs := G1 }
noncomputable def S187 : Sum := sumOf I187 O187 T187 (DenS.dflt O187)
theorem S187_sound : Sound Go.Proofs.Tryz.prog G1 184 S187 :=
  fn_sound C187 9 184 Go.Proofs.Tryz.f184 mixedOk (by kernel_rfl) (by kernel_rfl) (by kernel_rfl) ⟨S138_sound, ⟨S163_sound, ⟨S133_sound, trivial⟩⟩⟩ ⟨rfl, fun d => loopOk_of (fun L e x => h187_6 S138.pre S138.F S163.pre S163.F S133.pre S133.F L e x) (m187_6 S138.pre S138.F S163.pre S163.F S133.pre S133.F) (fun R L e x => s187_6 S138.pre S138.F S163.pre S163.F S133.pre S133.F W187_6 d R L e x), trivial⟩ I187 O187 T187 _ (fun x => r187 S138.pre S138.F S163.pre S163.F S133.pre S133.F W187_6 x.1 x.2.1)
/-- vernier/vernierref02.up -/
abbrev I181 : Sig := [(false, .slice (.int .u64)), (false, .int .i64)]
abbrev O181 : Sig := [(false, .slice (.int .u64))]
abbrev P181_4 : Pat := ⟨64, [(5, .one (.v .i64)), (0, .one (.sl (.int .u64))), (1, .one (.v .i64)), (7, .one (.v .i64)), (6, .one (.own 0))], [.arr (.int .u64)]⟩
abbrev A181_4 : List (Nat × Shape) := []
abbrev X181_4 : List (Nat × Pat) := [(0, ⟨64, [(6, .one (.own 0))], [.arr (.int .u64)]⟩)]
abbrev Q181_4 : Option Pat := none
noncomputable def h181_4 (p163 : DenS I163 → Bool) (f163 : DenS I163 → DenS O163) (p133 : DenS I133 → Bool) (f133 : DenS I133 → DenS O133) {R : Type} (L : Pat.D P181_4 → Option R) (e : OutT X181_4 Q181_4 → Option R) (x : Pat.D P181_4) : Option R :=
  bif (decide (x.1.2.2.2.1 < x.1.1)) then
  (bif ((decide ((0 : Int) ≤ (Go.IntKind.wrap Go.IntKind.i64 (x.1.2.2.2.1 + (Vx.quoI Go.IntKind.i64 x.1.2.2.1 (64 : Int)))))) && (decide ((Go.IntKind.wrap Go.IntKind.i64 (x.1.2.2.2.1 + (Vx.quoI Go.IntKind.i64 x.1.2.2.1 (64 : Int)))) < (x.2.1.length : Int)))) then
  (bif ((decide ((0 : Int) ≤ x.1.2.2.2.1)) && (decide (x.1.2.2.2.1 < (x.1.2.1.length : Int)))) then
  (bif ((decide ((0 : Int) ≤ (Go.IntKind.wrap Go.IntKind.i64 (x.1.2.2.2.1 + (Vx.quoI Go.IntKind.i64 x.1.2.2.1 (64 : Int)))))) && (decide ((Go.IntKind.wrap Go.IntKind.i64 (x.1.2.2.2.1 + (Vx.quoI Go.IntKind.i64 x.1.2.2.1 (64 : Int)))) < (x.2.1.length : Int)))) then
  (bif (decide ((Int.tmod x.1.2.2.1 (64 : Int)) > (0 : Int))) then
  (bif ((decide ((0 : Int) ≤ x.1.2.2.2.1)) && (decide (x.1.2.2.2.1 < (x.1.2.1.length : Int)))) then
  (bif ((decide ((0 : Int) ≤ (Go.IntKind.wrap Go.IntKind.i64 ((Go.IntKind.wrap Go.IntKind.i64 (x.1.2.2.2.1 + (Vx.quoI Go.IntKind.i64 x.1.2.2.1 (64 : Int)))) + (1 : Int))))) && (decide ((Go.IntKind.wrap Go.IntKind.i64 ((Go.IntKind.wrap Go.IntKind.i64 (x.1.2.2.2.1 + (Vx.quoI Go.IntKind.i64 x.1.2.2.1 (64 : Int)))) + (1 : Int))) < ((x.2.1.set (Int.toNat (Go.IntKind.wrap Go.IntKind.i64 (x.1.2.2.2.1 + (Vx.quoI Go.IntKind.i64 x.1.2.2.1 (64 : Int))))) (Vx.orI Go.IntKind.u64 (x.2.1.getD (Int.toNat (Go.IntKind.wrap Go.IntKind.i64 (x.1.2.2.2.1 + (Vx.quoI Go.IntKind.i64 x.1.2.2.1 (64 : Int))))) (0 : Int)) (Vx.shlI Go.IntKind.u64 (x.1.2.1.getD (Int.toNat x.1.2.2.2.1) (0 : Int)) (Go.IntKind.wrap Go.IntKind.u64 (Int.tmod x.1.2.2.1 (64 : Int)))))).length : Int)))) then
  ((L ((x.1.1, (x.1.2.1, (x.1.2.2.1, ((Go.IntKind.wrap Go.IntKind.i64 (x.1.2.2.2.1 + (1 : Int))), ((), ()))))), (((x.2.1.set (Int.toNat (Go.IntKind.wrap Go.IntKind.i64 (x.1.2.2.2.1 + (Vx.quoI Go.IntKind.i64 x.1.2.2.1 (64 : Int))))) (Vx.orI Go.IntKind.u64 (x.2.1.getD (Int.toNat (Go.IntKind.wrap Go.IntKind.i64 (x.1.2.2.2.1 + (Vx.quoI Go.IntKind.i64 x.1.2.2.1 (64 : Int))))) (0 : Int)) (Vx.shlI Go.IntKind.u64 (x.1.2.1.getD (Int.toNat x.1.2.2.2.1) (0 : Int)) (Go.IntKind.wrap Go.IntKind.u64 (Int.tmod x.1.2.2.1 (64 : Int)))))).set (Int.toNat (Go.IntKind.wrap Go.IntKind.i64 ((Go.IntKind.wrap Go.IntKind.i64 (x.1.2.2.2.1 + (Vx.quoI Go.IntKind.i64 x.1.2.2.1 (64 : Int)))) + (1 : Int)))) (Vx.shrI Go.IntKind.u64 (x.1.2.1.getD (Int.toNat x.1.2.2.2.1) (0 : Int)) (Go.IntKind.wrap Go.IntKind.u64 (Go.IntKind.wrap Go.IntKind.i64 ((64 : Int) - (Int.tmod x.1.2.2.1 (64 : Int))))))), ()))))
  else none)
  else none)
  else (L ((x.1.1, (x.1.2.1, (x.1.2.2.1, ((Go.IntKind.wrap Go.IntKind.i64 (x.1.2.2.2.1 + (1 : Int))), ((), ()))))), ((x.2.1.set (Int.toNat (Go.IntKind.wrap Go.IntKind.i64 (x.1.2.2.2.1 + (Vx.quoI Go.IntKind.i64 x.1.2.2.1 (64 : Int))))) (Vx.orI Go.IntKind.u64 (x.2.1.getD (Int.toNat (Go.IntKind.wrap Go.IntKind.i64 (x.1.2.2.2.1 + (Vx.quoI Go.IntKind.i64 x.1.2.2.1 (64 : Int))))) (0 : Int)) (Vx.shlI Go.IntKind.u64 (x.1.2.1.getD (Int.toNat x.1.2.2.2.1) (0 : Int)) (Go.IntKind.wrap Go.IntKind.u64 (Int.tmod x.1.2.2.1 (64 : Int)))))), ()))))
  else none)
  else none)
  else none)
  else (e (.inl (((), ()), x.2)))
theorem s181_4 (p163 : DenS I163 → Bool) (f163 : DenS I163 → DenS O163) (p133 : DenS I133 → Bool) (f133 : DenS I133 → DenS O133) (w181_4 : Pat.D P181_4 → Option (OutT X181_4 Q181_4)) (d : Nat) (R : Type) (L : Pat.D P181_4 → Option R) (e : OutT X181_4 Q181_4 → Option R) (x : Pat.D P181_4) :
    lStep { P := Go.Proofs.Tryz.prog, sums := [(136, ⟨I163, O163, p163, f163⟩), (127, ⟨I133, O133, p133, f133⟩)], loops := [(183, 4, LoopSpec.of P181_4 A181_4 X181_4 Q181_4 w181_4)], globs := G1 } (d + 2) 183 (bodyOf Go.Proofs.Tryz.f183 4) P181_4 A181_4 X181_4 Q181_4 (R := R) L e x = h181_4 p163 f163 p133 f133 L e x := by kernel_rfl
theorem m181_4 (p163 : DenS I163 → Bool) (f163 : DenS I163 → DenS O163) (p133 : DenS I133 → Bool) (f133 : DenS I133 → DenS O133) : Par fun L e x => h181_4 p163 f163 p133 f133 L e x := by
  intro A B rel L L' e e' h0 hL he x
  unfold h181_4
  repeat' (first | exact h0 | exact hL _ | exact he _ | apply rel_cond | (apply rel_obind h0; intro _) | (apply rel_obind2 <;> intro _))
noncomputable def t181 (p163 : DenS I163 → Bool) (f163 : DenS I163 → DenS O163) (p133 : DenS I133 → Bool) (f133 : DenS I133 → DenS O133) (w181_4 : Pat.D P181_4 → Option (OutT X181_4 Q181_4)) (a0 : Den (.slice (.int .u64))) (a1 : Den (.int .i64)) : Option (DenS O181) :=
  bif (p163 (a0, ())) then
  (bif ((decide ((0 : Int) ≤ (Go.IntKind.wrap Go.IntKind.i64 ((Go.IntKind.wrap Go.IntKind.i64 ((f163 (a0, ())).1 + (Vx.quoI Go.IntKind.i64 a1 (64 : Int)))) + (1 : Int))))) && (decide (((Go.IntKind.wrap Go.IntKind.i64 ((Go.IntKind.wrap Go.IntKind.i64 ((f163 (a0, ())).1 + (Vx.quoI Go.IntKind.i64 a1 (64 : Int)))) + (1 : Int))) * (8 : Int)) ≤ (140737488355328 : Int)))) then
  (Vx.obind (w181_4 (((f163 (a0, ())).1, (a0, (a1, ((0 : Int), ((), ()))))), ((List.replicate (Int.toNat (Go.IntKind.wrap Go.IntKind.i64 ((Go.IntKind.wrap Go.IntKind.i64 ((f163 (a0, ())).1 + (Vx.quoI Go.IntKind.i64 a1 (64 : Int)))) + (1 : Int)))) (0 : Int)), ()))) fun y2 =>
  Vx.obind2 y2 (fun y3 =>
  bif (p133 y3.2) then
  (some (f133 y3.2))
  else none) (fun z3 =>
  none))
  else none)
  else none
theorem r181 (p163 : DenS I163 → Bool) (f163 : DenS I163 → DenS O163) (p133 : DenS I133 → Bool) (f133 : DenS I133 → DenS O133) (w181_4 : Pat.D P181_4 → Option (OutT X181_4 Q181_4)) (a0 : Den (.slice (.int .u64))) (a1 : Den (.int .i64)) :
    run { P := Go.Proofs.Tryz.prog, sums := [(136, ⟨I163, O163, p163, f163⟩), (127, ⟨I133, O133, p133, f133⟩)], loops := [(183, 4, LoopSpec.of P181_4 A181_4 X181_4 Q181_4 w181_4)], globs := G1 } 9 183 Go.Proofs.Tryz.f183 I181 O181 (a0, a1, ()) = t181 p163 f163 p133 f133 w181_4 a0 a1 := by kernel_rfl
noncomputable def W181_4 : P181_4.D → Option (OutT X181_4 Q181_4) := lfix fun L => h181_4 S163.pre S163.F S133.pre S133.F L some
noncomputable def T181 (x : DenS I181) : Option (DenS O181) := t181 S163.pre S163.F S133.pre S133.F W181_4 x.1 x.2.1
noncomputable def C181 : Cfg := { P := Go.Proofs.Tryz.prog, sums := [(136, S163), (127, S133)], loops := [(183, 4, LoopSpec.of P181_4 A181_4 X181_4 Q181_4 W181_4)], globs := G1 }
noncomputable def S181 : Sum := sumOf I181 O181 T181 (DenS.dflt O181)
theorem S181_sound : Sound Go.Proofs.Tryz.prog G1 183 S181 :=
  fn_sound C181 9 183 Go.Proofs.Tryz.f183 mixedOk (by kernel_rfl) (by kernel_rfl) (by kernel_rfl) ⟨S163_sound, ⟨S133_sound, trivial⟩⟩ ⟨rfl, fun d => loopOk_of (fun L e x => h181_4 S163.pre S163.F S133.pre S133.F L e x) (m181_4 S163.pre S163.F S133.pre S133.F) (fun R L e x => s181_4 S163.pre S163.F S133.pre S133.F W181_4 d R L e x), trivial⟩ I181 O181 T181 _ (fun x => r181 S163.pre S163.F S133.pre S133.F W181_4 x.1 x.2.1)
/-- vernier/vernierref02.Bit -/
abbrev I167 : Sig := [(false, .slice (.int .u64)), (false, .int .i64)]
abbrev O167 : Sig := [(false, .int .u64)]
noncomputable def t167 (a0 : Den (.slice (.int .u64))) (a1 : Den (.int .i64)) : Option (DenS O167) :=
  bif ((decide (a1 < (0 : Int))) || (decide ((Vx.quoI Go.IntKind.i64 a1 (64 : Int)) ≥ (a0.length : Int)))) then
  (some ((0 : Int), ()))
  else bif ((decide ((0 : Int) ≤ (Vx.quoI Go.IntKind.i64 a1 (64 : Int)))) && (decide ((Vx.quoI Go.IntKind.i64 a1 (64 : Int)) < (a0.length : Int)))) then
  (some ((Vx.andI Go.IntKind.u64 (Vx.shrI Go.IntKind.u64 (a0.getD (Int.toNat (Vx.quoI Go.IntKind.i64 a1 (64 : Int))) (0 : Int)) (Go.IntKind.wrap Go.IntKind.u64 (Int.tmod a1 (64 : Int)))) (1 : Int)), ()))
  else none
theorem r167 (a0 : Den (.slice (.int .u64))) (a1 : Den (.int .i64)) :
    run { P := Go.Proofs.Tryz.prog, sums := [], loops := [], globs := G1 } 9 170 Go.Proofs.Tryz.f170 I167 O167 (a0, a1, ()) = t167 a0 a1 := by kernel_rfl
noncomputable def T167 (x : DenS I167) : Option (DenS O167) := t167 x.1 x.2.1
noncomputable def C167 : Cfg := { P := Go.Proofs.Tryz.prog, sums := [], loops := [], globs := G1 }
noncomputable def S167 : Sum := sumOf I167 O167 T167 (DenS.dflt O167)
theorem S167_sound : Sound Go.Proofs.Tryz.prog G1 170 S167 :=
  fn_sound C167 9 170 Go.Proofs.Tryz.f170 mixedOk (by kernel_rfl) (by kernel_rfl) (by kernel_rfl) trivial trivial I167 O167 T167 _ (fun x => r167 x.1 x.2.1)
/-- vernier/vernierref02.at -/
abbrev I183 : Sig := [(false, .slice (.int .u64)), (false, .int .i64)]
abbrev O183 : Sig := [(false, .int .u64)]
noncomputable def t183 (a0 : Den (.slice (.int .u64))) (a1 : Den (.int .i64)) : Option (DenS O183) :=
  bif (decide (a1 < (a0.length : Int))) then
  (bif ((decide ((0 : Int) ≤ a1)) && (decide (a1 < (a0.length : Int)))) then
  (some ((a0.getD (Int.toNat a1) (0 : Int)), ()))
  else none)
  else some ((0 : Int), ())
theorem r183 (a0 : Den (.slice (.int .u64))) (a1 : Den (.int .i64)) :
    run { P := Go.Proofs.Tryz.prog, sums := [], loops := [], globs := G1 } 9 200 Go.Proofs.Tryz.f200 I183 O183 (a0, a1, ()) = t183 a0 a1 := by kernel_rfl
noncomputable def T183 (x : DenS I183) : Option (DenS O183) := t183 x.1 x.2.1
noncomputable def C183 : Cfg := { P := Go.Proofs.Tryz.prog, sums := [], loops := [], globs := G1 }
noncomputable def S183 : Sum := sumOf I183 O183 T183 (DenS.dflt O183)
theorem S183_sound : Sound Go.Proofs.Tryz.prog G1 200 S183 :=
  fn_sound C183 9 200 Go.Proofs.Tryz.f200 mixedOk (by kernel_rfl) (by kernel_rfl) (by kernel_rfl) trivial trivial I183 O183 T183 _ (fun x => r183 x.1 x.2.1)
/-- vernier/vernierref02.Add -/
abbrev I168 : Sig := [(false, .slice (.int .u64)), (false, .slice (.int .u64))]
abbrev O168 : Sig := [(false, .slice (.int .u64))]
abbrev P168_7 : Pat := ⟨57, [(0, .one (.sl (.int .u64))), (1, .one (.sl (.int .u64))), (8, .one (.v .i64)), (5, .one (.v .i64)), (7, .one (.v .u64)), (6, .one (.own 0))], [.arr (.int .u64)]⟩
abbrev A168_7 : List (Nat × Shape) := []
abbrev X168_7 : List (Nat × Pat) := [(0, ⟨57, [(5, .one (.v .i64)), (7, .one (.v .u64)), (6, .one (.own 0))], [.arr (.int .u64)]⟩)]
abbrev Q168_7 : Option Pat := none
noncomputable def h168_7 (p163 : DenS I163 → Bool) (f163 : DenS I163 → DenS O163) (p183 : DenS I183 → Bool) (f183 : DenS I183 → DenS O183) (p133 : DenS I133 → Bool) (f133 : DenS I133 → DenS O133) {R : Type} (L : Pat.D P168_7 → Option R) (e : OutT X168_7 Q168_7 → Option R) (x : Pat.D P168_7) : Option R :=
  bif (decide (x.1.2.2.1 < x.1.2.2.2.1)) then
  (bif (p183 (x.1.1, (x.1.2.2.1, ()))) then
  (bif (p183 (x.1.2.1, (x.1.2.2.1, ()))) then
  (bif ((decide ((Go.IntKind.wrap Go.IntKind.u64 ((f183 (x.1.1, (x.1.2.2.1, ()))).1 + (f183 (x.1.2.1, (x.1.2.2.1, ()))).1)) < (f183 (x.1.1, (x.1.2.2.1, ()))).1)) || (decide ((Go.IntKind.wrap Go.IntKind.u64 ((Go.IntKind.wrap Go.IntKind.u64 ((f183 (x.1.1, (x.1.2.2.1, ()))).1 + (f183 (x.1.2.1, (x.1.2.2.1, ()))).1)) + x.1.2.2.2.2.1)) < (Go.IntKind.wrap Go.IntKind.u64 ((f183 (x.1.1, (x.1.2.2.1, ()))).1 + (f183 (x.1.2.1, (x.1.2.2.1, ()))).1))))) then
  (bif ((decide ((0 : Int) ≤ x.1.2.2.1)) && (decide (x.1.2.2.1 < (x.2.1.length : Int)))) then
  ((L ((x.1.1, (x.1.2.1, ((Go.IntKind.wrap Go.IntKind.i64 (x.1.2.2.1 + (1 : Int))), (x.1.2.2.2.1, ((1 : Int), ((), ())))))), ((x.2.1.set (Int.toNat x.1.2.2.1) (Go.IntKind.wrap Go.IntKind.u64 ((Go.IntKind.wrap Go.IntKind.u64 ((f183 (x.1.1, (x.1.2.2.1, ()))).1 + (f183 (x.1.2.1, (x.1.2.2.1, ()))).1)) + x.1.2.2.2.2.1))), ()))))
  else none)
  else bif ((decide ((0 : Int) ≤ x.1.2.2.1)) && (decide (x.1.2.2.1 < (x.2.1.length : Int)))) then
  ((L ((x.1.1, (x.1.2.1, ((Go.IntKind.wrap Go.IntKind.i64 (x.1.2.2.1 + (1 : Int))), (x.1.2.2.2.1, ((0 : Int), ((), ())))))), ((x.2.1.set (Int.toNat x.1.2.2.1) (Go.IntKind.wrap Go.IntKind.u64 ((Go.IntKind.wrap Go.IntKind.u64 ((f183 (x.1.1, (x.1.2.2.1, ()))).1 + (f183 (x.1.2.1, (x.1.2.2.1, ()))).1)) + x.1.2.2.2.2.1))), ()))))
  else none)
  else none)
  else none)
  else (e (.inl ((x.1.2.2.2.1, (x.1.2.2.2.2.1, ((), ()))), x.2)))
theorem s168_7 (p163 : DenS I163 → Bool) (f163 : DenS I163 → DenS O163) (p183 : DenS I183 → Bool) (f183 : DenS I183 → DenS O183) (p133 : DenS I133 → Bool) (f133 : DenS I133 → DenS O133) (w168_7 : Pat.D P168_7 → Option (OutT X168_7 Q168_7)) (d : Nat) (R : Type) (L : Pat.D P168_7 → Option R) (e : OutT X168_7 Q168_7 → Option R) (x : Pat.D P168_7) :
    lStep { P := Go.Proofs.Tryz.prog, sums := [(136, ⟨I163, O163, p163, f163⟩), (200, ⟨I183, O183, p183, f183⟩), (127, ⟨I133, O133, p133, f133⟩)], loops := [(171, 7, LoopSpec.of P168_7 A168_7 X168_7 Q168_7 w168_7)], globs := G1 } (d + 2) 171 (bodyOf Go.Proofs.Tryz.f171 7) P168_7 A168_7 X168_7 Q168_7 (R := R) L e x = h168_7 p163 f163 p183 f183 p133 f133 L e x := by kernel_rfl
theorem m168_7 (p163 : DenS I163 → Bool) (f163 : DenS I163 → DenS O163) (p183 : DenS I183 → Bool) (f183 : DenS I183 → DenS O183) (p133 : DenS I133 → Bool) (f133 : DenS I133 → DenS O133) : Par fun L e x => h168_7 p163 f163 p183 f183 p133 f133 L e x := by
  intro A B rel L L' e e' h0 hL he x
  unfold h168_7
  repeat' (first | exact h0 | exact hL _ | exact he _ | apply rel_cond | (apply rel_obind h0; intro _) | (apply rel_obind2 <;> intro _))
noncomputable def t168 (p163 : DenS I163 → Bool) (f163 : DenS I163 → DenS O163) (p183 : DenS I183 → Bool) (f183 : DenS I183 → DenS O183) (p133 : DenS I133 → Bool) (f133 : DenS I133 → DenS O133) (w168_7 : Pat.D P168_7 → Option (OutT X168_7 Q168_7)) (a0 : Den (.slice (.int .u64))) (a1 : Den (.slice (.int .u64))) : Option (DenS O168) :=
  bif (p163 (a0, ())) then
  (bif (p163 (a1, ())) then
  (bif (decide ((f163 (a1, ())).1 > (f163 (a0, ())).1)) then
  (bif (p163 (a1, ())) then
  (bif ((decide ((0 : Int) ≤ (Go.IntKind.wrap Go.IntKind.i64 ((f163 (a1, ())).1 + (1 : Int))))) && (decide (((Go.IntKind.wrap Go.IntKind.i64 ((f163 (a1, ())).1 + (1 : Int))) * (8 : Int)) ≤ (140737488355328 : Int)))) then
  (Vx.obind (w168_7 ((a0, (a1, ((0 : Int), ((f163 (a1, ())).1, ((0 : Int), ((), ())))))), ((List.replicate (Int.toNat (Go.IntKind.wrap Go.IntKind.i64 ((f163 (a1, ())).1 + (1 : Int)))) (0 : Int)), ()))) fun y5 =>
  Vx.obind2 y5 (fun y6 =>
  bif ((decide ((0 : Int) ≤ y6.1.1)) && (decide (y6.1.1 < (y6.2.1.length : Int)))) then
  (bif (p133 ((y6.2.1.set (Int.toNat y6.1.1) y6.1.2.1), ())) then
  (some (f133 ((y6.2.1.set (Int.toNat y6.1.1) y6.1.2.1), ())))
  else none)
  else none) (fun z6 =>
  none))
  else none)
  else none)
  else bif ((decide ((0 : Int) ≤ (Go.IntKind.wrap Go.IntKind.i64 ((f163 (a0, ())).1 + (1 : Int))))) && (decide (((Go.IntKind.wrap Go.IntKind.i64 ((f163 (a0, ())).1 + (1 : Int))) * (8 : Int)) ≤ (140737488355328 : Int)))) then
  (Vx.obind (w168_7 ((a0, (a1, ((0 : Int), ((f163 (a0, ())).1, ((0 : Int), ((), ())))))), ((List.replicate (Int.toNat (Go.IntKind.wrap Go.IntKind.i64 ((f163 (a0, ())).1 + (1 : Int)))) (0 : Int)), ()))) fun y4 =>
  Vx.obind2 y4 (fun y5 =>
  bif ((decide ((0 : Int) ≤ y5.1.1)) && (decide (y5.1.1 < (y5.2.1.length : Int)))) then
  (bif (p133 ((y5.2.1.set (Int.toNat y5.1.1) y5.1.2.1), ())) then
  (some (f133 ((y5.2.1.set (Int.toNat y5.1.1) y5.1.2.1), ())))
  else none)
  else none) (fun z5 =>
  none))
  else none)
  else none)
  else none
theorem r168 (p163 : DenS I163 → Bool) (f163 : DenS I163 → DenS O163) (p183 : DenS I183 → Bool) (f183 : DenS I183 → DenS O183) (p133 : DenS I133 → Bool) (f133 : DenS I133 → DenS O133) (w168_7 : Pat.D P168_7 → Option (OutT X168_7 Q168_7)) (a0 : Den (.slice (.int .u64))) (a1 : Den (.slice (.int .u64))) :
    run { P := Go.Proofs.Tryz.prog, sums := [(136, ⟨I163, O163, p163, f163⟩), (200, ⟨I183, O183, p183, f183⟩), (127, ⟨I133, O133, p133, f133⟩)], loops := [(171, 7, LoopSpec.of P168_7 A168_7 X168_7 Q168_7 w168_7)], globs := G1 } 9 171 Go.Proofs.Tryz.f171 I168 O168 (a0, a1, ()) = t168 p163 f163 p183 f183 p133 f133 w168_7 a0 a1 := by kernel_rfl
noncomputable def W168_7 : P168_7.D → Option (OutT X168_7 Q168_7) := lfix fun L => h168_7 S163.pre S163.F S183.pre S183.F S133.pre S133.F L some
noncomputable def T168 (x : DenS I168) : Option (DenS O168) := t168 S163.pre S163.F S183.pre S183.F S133.pre S133.F W168_7 x.1 x.2.1
noncomputable def C168 : Cfg := { P := Go.Proofs.Tryz.prog, sums := [(136, S163), (200, S183), (127, S133)], loops := [(171, 7, LoopSpec.of P168_7 A168_7 X168_7 Q168_7 W168_7)], globs := G1 }
noncomputable def S168 : Sum := sumOf I168 O168 T168 (DenS.dflt O168)
theorem S168_sound : Sound Go.Proofs.Tryz.prog G1 171 S168 :=
  fn_sound C168 9 171 Go.Proofs.Tryz.f171 mixedOk (by kernel_rfl) (by kernel_rfl) (by kernel_rfl) ⟨S163_sound, ⟨S183_sound, ⟨S133_sound, trivial⟩⟩⟩ ⟨rfl, fun d => loopOk_of (fun L e x => h168_7 S163.pre S163.F S183.pre S183.F S133.pre S133.F L e x) (m168_7 S163.pre S163.F S183.pre S183.F S133.pre S133.F) (fun R L e x => s168_7 S163.pre S163.F S183.pre S183.F S133.pre S133.F W168_7 d R L e x), trivial⟩ I168 O168 T168 _ (fun x => r168 S163.pre S163.F S183.pre S183.F S133.pre S133.F W168_7 x.1 x.2.1)
/-- vernier/vernierref02.Cmp -/
abbrev I166 : Sig := [(false, .slice (.int .u64)), (false, .slice (.int .u64))]
abbrev O166 : Sig := [(false, .int .i64)]
abbrev P166_8 : Pat := ⟨42, [(0, .one (.sl (.int .u64))), (1, .one (.sl (.int .u64))), (7, .one (.v .i64))], []⟩
abbrev A166_8 : List (Nat × Shape) := []
abbrev X166_8 : List (Nat × Pat) := [(0, ⟨42, [], []⟩)]
abbrev Q166_8 : Option Pat := (some ⟨42, [(4, .one (.v .i64))], []⟩)
noncomputable def h166_8 (p163 : DenS I163 → Bool) (f163 : DenS I163 → DenS O163) {R : Type} (L : Pat.D P166_8 → Option R) (e : OutT X166_8 Q166_8 → Option R) (x : Pat.D P166_8) : Option R :=
  bif (decide (x.1.2.2.1 ≥ (0 : Int))) then
  (bif ((decide ((0 : Int) ≤ x.1.2.2.1)) && (decide (x.1.2.2.1 < (x.1.1.length : Int)))) then
  (bif ((decide ((0 : Int) ≤ x.1.2.2.1)) && (decide (x.1.2.2.1 < (x.1.2.1.length : Int)))) then
  (bif (decide ((x.1.1.getD (Int.toNat x.1.2.2.1) (0 : Int)) < (x.1.2.1.getD (Int.toNat x.1.2.2.1) (0 : Int)))) then
  ((e (.inr (((-(1 : Int)), ()), ()))))
  else bif ((decide ((0 : Int) ≤ x.1.2.2.1)) && (decide (x.1.2.2.1 < (x.1.1.length : Int)))) then
  (bif ((decide ((0 : Int) ≤ x.1.2.2.1)) && (decide (x.1.2.2.1 < (x.1.2.1.length : Int)))) then
  (bif (decide ((x.1.1.getD (Int.toNat x.1.2.2.1) (0 : Int)) > (x.1.2.1.getD (Int.toNat x.1.2.2.1) (0 : Int)))) then
  ((e (.inr (((1 : Int), ()), ()))))
  else (L ((x.1.1, (x.1.2.1, ((Go.IntKind.wrap Go.IntKind.i64 (x.1.2.2.1 - (1 : Int))), ()))), ())))
  else none)
  else none)
  else none)
  else none)
  else (e (.inl ((), ())))
theorem s166_8 (p163 : DenS I163 → Bool) (f163 : DenS I163 → DenS O163) (w166_8 : Pat.D P166_8 → Option (OutT X166_8 Q166_8)) (d : Nat) (R : Type) (L : Pat.D P166_8 → Option R) (e : OutT X166_8 Q166_8 → Option R) (x : Pat.D P166_8) :
    lStep { P := Go.Proofs.Tryz.prog, sums := [(136, ⟨I163, O163, p163, f163⟩)], loops := [(169, 8, LoopSpec.of P166_8 A166_8 X166_8 Q166_8 w166_8)], globs := G1 } (d + 2) 169 (bodyOf Go.Proofs.Tryz.f169 8) P166_8 A166_8 X166_8 Q166_8 (R := R) L e x = h166_8 p163 f163 L e x := by kernel_rfl
theorem m166_8 (p163 : DenS I163 → Bool) (f163 : DenS I163 → DenS O163) : Par fun L e x => h166_8 p163 f163 L e x := by
  intro A B rel L L' e e' h0 hL he x
  unfold h166_8
  repeat' (first | exact h0 | exact hL _ | exact he _ | apply rel_cond | (apply rel_obind h0; intro _) | (apply rel_obind2 <;> intro _))
noncomputable def t166 (p163 : DenS I163 → Bool) (f163 : DenS I163 → DenS O163) (w166_8 : Pat.D P166_8 → Option (OutT X166_8 Q166_8)) (a0 : Den (.slice (.int .u64))) (a1 : Den (.slice (.int .u64))) : Option (DenS O166) :=
  bif (p163 (a0, ())) then
  (bif (p163 (a1, ())) then
  (bif ((f163 (a0, ())).1 != (f163 (a1, ())).1) then
  (bif (decide ((f163 (a0, ())).1 < (f163 (a1, ())).1)) then
  (some ((-(1 : Int)), ()))
  else some ((1 : Int), ()))
  else Vx.obind (w166_8 ((a0, (a1, ((Go.IntKind.wrap Go.IntKind.i64 ((f163 (a1, ())).1 - (1 : Int))), ()))), ())) fun y3 =>
  Vx.obind2 y3 (fun y4 =>
  some ((0 : Int), ())) (fun z4 =>
  some z4.1))
  else none)
  else none
theorem r166 (p163 : DenS I163 → Bool) (f163 : DenS I163 → DenS O163) (w166_8 : Pat.D P166_8 → Option (OutT X166_8 Q166_8)) (a0 : Den (.slice (.int .u64))) (a1 : Den (.slice (.int .u64))) :
    run { P := Go.Proofs.Tryz.prog, sums := [(136, ⟨I163, O163, p163, f163⟩)], loops := [(169, 8, LoopSpec.of P166_8 A166_8 X166_8 Q166_8 w166_8)], globs := G1 } 9 169 Go.Proofs.Tryz.f169 I166 O166 (a0, a1, ()) = t166 p163 f163 w166_8 a0 a1 := by kernel_rfl
noncomputable def W166_8 : P166_8.D → Option (OutT X166_8 Q166_8) := lfix fun L => h166_8 S163.pre S163.F L some
noncomputable def T166 (x : DenS I166) : Option (DenS O166) := t166 S163.pre S163.F W166_8 x.1 x.2.1
noncomputable def C166 : Cfg := { P := Go.Proofs.Tryz.prog, sums := [(136, S163)], loops := [(169, 8, LoopSpec.of P166_8 A166_8 X166_8 Q166_8 W166_8)], globs := G1 }
noncomputable def S166 : Sum := sumOf I166 O166 T166 (DenS.dflt O166)
theorem S166_sound : Sound Go.Proofs.Tryz.prog G1 169 S166 :=
  fn_sound C166 9 169 Go.Proofs.Tryz.f169 mixedOk (by kernel_rfl) (by kernel_rfl) (by kernel_rfl) ⟨S163_sound, trivial⟩ ⟨rfl, fun d => loopOk_of (fun L e x => h166_8 S163.pre S163.F L e x) (m166_8 S163.pre S163.F) (fun R L e x => s166_8 S163.pre S163.F W166_8 d R L e x), trivial⟩ I166 O166 T166 _ (fun x => r166 S163.pre S163.F W166_8 x.1 x.2.1)
/-- vernier/vernierref02.less -/
abbrev I188 : Sig := [(false, .slice (.int .u64)), (false, .slice (.int .u64))]
abbrev O188 : Sig := [(false, .slice (.int .u64))]
abbrev P188_5 : Pat := ⟨49, [(5, .one (.v .i64)), (0, .one (.sl (.int .u64))), (1, .one (.sl (.int .u64))), (7, .one (.v .u64)), (8, .one (.v .i64)), (6, .one (.own 0))], [.arr (.int .u64)]⟩
abbrev A188_5 : List (Nat × Shape) := []
abbrev X188_5 : List (Nat × Pat) := [(0, ⟨49, [(6, .one (.own 0))], [.arr (.int .u64)]⟩)]
abbrev Q188_5 : Option Pat := none
noncomputable def h188_5 (p163 : DenS I163 → Bool) (f163 : DenS I163 → DenS O163) (p183 : DenS I183 → Bool) (f183 : DenS I183 → DenS O183) (p133 : DenS I133 → Bool) (f133 : DenS I133 → DenS O133) {R : Type} (L : Pat.D P188_5 → Option R) (e : OutT X188_5 Q188_5 → Option R) (x : Pat.D P188_5) : Option R :=
  bif (decide (x.1.2.2.2.2.1 < x.1.1)) then
  (bif ((decide ((0 : Int) ≤ x.1.2.2.2.2.1)) && (decide (x.1.2.2.2.2.1 < (x.1.2.1.length : Int)))) then
  (bif (p183 (x.1.2.2.1, (x.1.2.2.2.2.1, ()))) then
  (bif ((decide ((0 : Int) ≤ x.1.2.2.2.2.1)) && (decide (x.1.2.2.2.2.1 < (x.2.1.length : Int)))) then
  (bif ((decide ((x.1.2.1.getD (Int.toNat x.1.2.2.2.2.1) (0 : Int)) < (f183 (x.1.2.2.1, (x.1.2.2.2.2.1, ()))).1)) || (((x.1.2.1.getD (Int.toNat x.1.2.2.2.2.1) (0 : Int)) == (f183 (x.1.2.2.1, (x.1.2.2.2.2.1, ()))).1) && (x.1.2.2.2.1 == (1 : Int)))) then
  ((L ((x.1.1, (x.1.2.1, (x.1.2.2.1, ((1 : Int), ((Go.IntKind.wrap Go.IntKind.i64 (x.1.2.2.2.2.1 + (1 : Int))), ((), ())))))), ((x.2.1.set (Int.toNat x.1.2.2.2.2.1) (Go.IntKind.wrap Go.IntKind.u64 ((Go.IntKind.wrap Go.IntKind.u64 ((x.1.2.1.getD (Int.toNat x.1.2.2.2.2.1) (0 : Int)) - (f183 (x.1.2.2.1, (x.1.2.2.2.2.1, ()))).1)) - x.1.2.2.2.1))), ()))))
  else (L ((x.1.1, (x.1.2.1, (x.1.2.2.1, ((0 : Int), ((Go.IntKind.wrap Go.IntKind.i64 (x.1.2.2.2.2.1 + (1 : Int))), ((), ())))))), ((x.2.1.set (Int.toNat x.1.2.2.2.2.1) (Go.IntKind.wrap Go.IntKind.u64 ((Go.IntKind.wrap Go.IntKind.u64 ((x.1.2.1.getD (Int.toNat x.1.2.2.2.2.1) (0 : Int)) - (f183 (x.1.2.2.1, (x.1.2.2.2.2.1, ()))).1)) - x.1.2.2.2.1))), ()))))
  else none)
  else none)
  else none)
  else (e (.inl (((), ()), x.2)))
theorem s188_5 (p163 : DenS I163 → Bool) (f163 : DenS I163 → DenS O163) (p183 : DenS I183 → Bool) (f183 : DenS I183 → DenS O183) (p133 : DenS I133 → Bool) (f133 : DenS I133 → DenS O133) (w188_5 : Pat.D P188_5 → Option (OutT X188_5 Q188_5)) (d : Nat) (R : Type) (L : Pat.D P188_5 → Option R) (e : OutT X188_5 Q188_5 → Option R) (x : Pat.D P188_5) :
    lStep { P := Go.Proofs.Tryz.prog, sums := [(136, ⟨I163, O163, p163, f163⟩), (200, ⟨I183, O183, p183, f183⟩), (127, ⟨I133, O133, p133, f133⟩)], loops := [(212, 5, LoopSpec.of P188_5 A188_5 X188_5 Q188_5 w188_5)], globs := G1 } (d + 2) 212 (bodyOf Go.Proofs.Tryz.f212 5) P188_5 A188_5 X188_5 Q188_5 (R := R) L e x = h188_5 p163 f163 p183 f183 p133 f133 L e x := by kernel_rfl
theorem m188_5 (p163 : DenS I163 → Bool) (f163 : DenS I163 → DenS O163) (p183 : DenS I183 → Bool) (f183 : DenS I183 → DenS O183) (p133 : DenS I133 → Bool) (f133 : DenS I133 → DenS O133) : Par fun L e x => h188_5 p163 f163 p183 f183 p133 f133 L e x := by
  intro A B rel L L' e e' h0 hL he x
  unfold h188_5
  repeat' (first | exact h0 | exact hL _ | exact he _ | apply rel_cond | (apply rel_obind h0; intro _) | (apply rel_obind2 <;> intro _))
noncomputable def t188 (p163 : DenS I163 → Bool) (f163 : DenS I163 → DenS O163) (p183 : DenS I183 → Bool) (f183 : DenS I183 → DenS O183) (p133 : DenS I133 → Bool) (f133 : DenS I133 → DenS O133) (w188_5 : Pat.D P188_5 → Option (OutT X188_5 Q188_5)) (a0 : Den (.slice (.int .u64))) (a1 : Den (.slice (.int .u64))) : Option (DenS O188) :=
  bif (p163 (a0, ())) then
  (bif ((decide ((0 : Int) ≤ (f163 (a0, ())).1)) && (decide (((f163 (a0, ())).1 * (8 : Int)) ≤ (140737488355328 : Int)))) then
  (Vx.obind (w188_5 (((f163 (a0, ())).1, (a0, (a1, ((0 : Int), ((0 : Int), ((), ())))))), ((List.replicate (Int.toNat (f163 (a0, ())).1) (0 : Int)), ()))) fun y2 =>
  Vx.obind2 y2 (fun y3 =>
  bif (p133 y3.2) then
  (some (f133 y3.2))
  else none) (fun z3 =>
  none))
  else none)
  else none
theorem r188 (p163 : DenS I163 → Bool) (f163 : DenS I163 → DenS O163) (p183 : DenS I183 → Bool) (f183 : DenS I183 → DenS O183) (p133 : DenS I133 → Bool) (f133 : DenS I133 → DenS O133) (w188_5 : Pat.D P188_5 → Option (OutT X188_5 Q188_5)) (a0 : Den (.slice (.int .u64))) (a1 : Den (.slice (.int .u64))) :
    run { P := Go.Proofs.Tryz.prog, sums := [(136, ⟨I163, O163, p163, f163⟩), (200, ⟨I183, O183, p183, f183⟩), (127, ⟨I133, O133, p133, f133⟩)], loops := [(212, 5, LoopSpec.of P188_5 A188_5 X188_5 Q188_5 w188_5)], globs := G1 } 9 212 Go.Proofs.Tryz.f212 I188 O188 (a0, a1, ()) = t188 p163 f163 p183 f183 p133 f133 w188_5 a0 a1 := by kernel_rfl
noncomputable def W188_5 : P188_5.D → Option (OutT X188_5 Q188_5) := lfix fun L => h188_5 S163.pre S163.F S183.pre S183.F S133.pre S133.F L some
noncomputable def T188 (x : DenS I188) : Option (DenS O188) := t188 S163.pre S163.F S183.pre S183.F S133.pre S133.F W188_5 x.1 x.2.1
noncomputable def C188 : Cfg := { P := Go.Proofs.Tryz.prog, sums := [(136, S163), (200, S183), (127, S133)], loops := [(212, 5, LoopSpec.of P188_5 A188_5 X188_5 Q188_5 W188_5)], globs := G1 }
noncomputable def S188 : Sum := sumOf I188 O188 T188 (DenS.dflt O188)
theorem S188_sound : Sound Go.Proofs.Tryz.prog G1 212 S188 :=
  fn_sound C188 9 212 Go.Proofs.Tryz.f212 mixedOk (by kernel_rfl) (by kernel_rfl) (by kernel_rfl) ⟨S163_sound, ⟨S183_sound, ⟨S133_sound, trivial⟩⟩⟩ ⟨rfl, fun d => loopOk_of (fun L e x => h188_5 S163.pre S163.F S183.pre S183.F S133.pre S133.F L e x) (m188_5 S163.pre S163.F S183.pre S183.F S133.pre S133.F) (fun R L e x => s188_5 S163.pre S163.F S183.pre S183.F S133.pre S133.F W188_5 d R L e x), trivial⟩ I188 O188 T188 _ (fun x => r188 S163.pre S163.F S183.pre S183.F S133.pre S133.F W188_5 x.1 x.2.1)
/-- vernier/vernierref02.quotient -/
abbrev I182 : Sig := [(false, .slice (.int .u64)), (false, .slice (.int .u64))]
abbrev O182 : Sig := [(false, .slice (.int .u64)), (false, .slice (.int .u64))]
abbrev P182_8 : Pat := ⟨69, [(0, .one (.sl (.int .u64))), (1, .one (.sl (.int .u64))), (10, .one (.v .i64)), (8, .one (.own 0)), (9, .one (.sl (.int .u64)))], [.arr (.int .u64)]⟩
abbrev A182_8 : List (Nat × Shape) := []
abbrev X182_8 : List (Nat × Pat) := [(0, ⟨69, [(8, .one (.own 0)), (9, .one (.sl (.int .u64)))], [.arr (.int .u64)]⟩)]
abbrev Q182_8 : Option Pat := none
noncomputable def h182_8 (p138 : DenS I138 → Bool) (f138 : DenS I138 → DenS O138) (p163 : DenS I163 → Bool) (f163 : DenS I163 → DenS O163) (p187 : DenS I187 → Bool) (f187 : DenS I187 → DenS O187) (p181 : DenS I181 → Bool) (f181 : DenS I181 → DenS O181) (p167 : DenS I167 → Bool) (f167 : DenS I167 → DenS O167) (p168 : DenS I168 → Bool) (f168 : DenS I168 → DenS O168) (p166 : DenS I166 → Bool) (f166 : DenS I166 → DenS O166) (p188 : DenS I188 → Bool) (f188 : DenS I188 → DenS O188) (p133 : DenS I133 → Bool) (f133 : DenS I133 → DenS O133) {R : Type} (L : Pat.D P182_8 → Option R) (e : OutT X182_8 Q182_8 → Option R) (x : Pat.D P182_8) : Option R :=
  bif (decide (x.1.2.2.1 ≥ (0 : Int))) then
  (bif (p181 (x.1.2.2.2.2.1, ((1 : Int), ()))) then
  (bif (p167 (x.1.1, (x.1.2.2.1, ()))) then
  (bif ((f167 (x.1.1, (x.1.2.2.1, ()))).1 == (1 : Int)) then
  (bif (p168 ((f181 (x.1.2.2.2.2.1, ((1 : Int), ()))).1, (((1 : Int) :: []), ()))) then
  (bif (p166 ((f168 ((f181 (x.1.2.2.2.2.1, ((1 : Int), ()))).1, (((1 : Int) :: []), ()))).1, (x.1.2.1, ()))) then
  (bif (decide ((f166 ((f168 ((f181 (x.1.2.2.2.2.1, ((1 : Int), ()))).1, (((1 : Int) :: []), ()))).1, (x.1.2.1, ()))).1 ≥ (0 : Int))) then
  (bif (p188 ((f168 ((f181 (x.1.2.2.2.2.1, ((1 : Int), ()))).1, (((1 : Int) :: []), ()))).1, (x.1.2.1, ()))) then
  (bif ((decide ((0 : Int) ≤ (Vx.quoI Go.IntKind.i64 x.1.2.2.1 (64 : Int)))) && (decide ((Vx.quoI Go.IntKind.i64 x.1.2.2.1 (64 : Int)) < (x.2.1.length : Int)))) then
  (bif ((decide ((0 : Int) ≤ (Vx.quoI Go.IntKind.i64 x.1.2.2.1 (64 : Int)))) && (decide ((Vx.quoI Go.IntKind.i64 x.1.2.2.1 (64 : Int)) < (x.2.1.length : Int)))) then
  ((L ((x.1.1, (x.1.2.1, ((Go.IntKind.wrap Go.IntKind.i64 (x.1.2.2.1 - (1 : Int))), ((), (f188 ((f168 ((f181 (x.1.2.2.2.2.1, ((1 : Int), ()))).1, (((1 : Int) :: []), ()))).1, (x.1.2.1, ()))))))), ((x.2.1.set (Int.toNat (Vx.quoI Go.IntKind.i64 x.1.2.2.1 (64 : Int))) (Vx.orI Go.IntKind.u64 (x.2.1.getD (Int.toNat (Vx.quoI Go.IntKind.i64 x.1.2.2.1 (64 : Int))) (0 : Int)) (Vx.shlI Go.IntKind.u64 (1 : Int) (Go.IntKind.wrap Go.IntKind.u64 (Int.tmod x.1.2.2.1 (64 : Int)))))), ()))))
  else none)
  else none)
  else none)
  else (L ((x.1.1, (x.1.2.1, ((Go.IntKind.wrap Go.IntKind.i64 (x.1.2.2.1 - (1 : Int))), ((), (f168 ((f181 (x.1.2.2.2.2.1, ((1 : Int), ()))).1, (((1 : Int) :: []), ()))))))), x.2)))
  else none)
  else none)
  else bif (p166 ((f181 (x.1.2.2.2.2.1, ((1 : Int), ()))).1, (x.1.2.1, ()))) then
  (bif (decide ((f166 ((f181 (x.1.2.2.2.2.1, ((1 : Int), ()))).1, (x.1.2.1, ()))).1 ≥ (0 : Int))) then
  (bif (p188 ((f181 (x.1.2.2.2.2.1, ((1 : Int), ()))).1, (x.1.2.1, ()))) then
  (bif ((decide ((0 : Int) ≤ (Vx.quoI Go.IntKind.i64 x.1.2.2.1 (64 : Int)))) && (decide ((Vx.quoI Go.IntKind.i64 x.1.2.2.1 (64 : Int)) < (x.2.1.length : Int)))) then
  (bif ((decide ((0 : Int) ≤ (Vx.quoI Go.IntKind.i64 x.1.2.2.1 (64 : Int)))) && (decide ((Vx.quoI Go.IntKind.i64 x.1.2.2.1 (64 : Int)) < (x.2.1.length : Int)))) then
  ((L ((x.1.1, (x.1.2.1, ((Go.IntKind.wrap Go.IntKind.i64 (x.1.2.2.1 - (1 : Int))), ((), (f188 ((f181 (x.1.2.2.2.2.1, ((1 : Int), ()))).1, (x.1.2.1, ()))))))), ((x.2.1.set (Int.toNat (Vx.quoI Go.IntKind.i64 x.1.2.2.1 (64 : Int))) (Vx.orI Go.IntKind.u64 (x.2.1.getD (Int.toNat (Vx.quoI Go.IntKind.i64 x.1.2.2.1 (64 : Int))) (0 : Int)) (Vx.shlI Go.IntKind.u64 (1 : Int) (Go.IntKind.wrap Go.IntKind.u64 (Int.tmod x.1.2.2.1 (64 : Int)))))), ()))))
  else none)
  else none)
  else none)
  else (L ((x.1.1, (x.1.2.1, ((Go.IntKind.wrap Go.IntKind.i64 (x.1.2.2.1 - (1 : Int))), ((), (f181 (x.1.2.2.2.2.1, ((1 : Int), ()))))))), x.2)))
  else none)
  else none)
  else none)
  else (e (.inl (((), x.1.2.2.2.2), x.2)))
theorem s182_8 (p138 : DenS I138 → Bool) (f138 : DenS I138 → DenS O138) (p163 : DenS I163 → Bool) (f163 : DenS I163 → DenS O163) (p187 : DenS I187 → Bool) (f187 : DenS I187 → DenS O187) (p181 : DenS I181 → Bool) (f181 : DenS I181 → DenS O181) (p167 : DenS I167 → Bool) (f167 : DenS I167 → DenS O167) (p168 : DenS I168 → Bool) (f168 : DenS I168 → DenS O168) (p166 : DenS I166 → Bool) (f166 : DenS I166 → DenS O166) (p188 : DenS I188 → Bool) (f188 : DenS I188 → DenS O188) (p133 : DenS I133 → Bool) (f133 : DenS I133 → DenS O133) (w182_8 : Pat.D P182_8 → Option (OutT X182_8 Q182_8)) (d : Nat) (R : Type) (L : Pat.D P182_8 → Option R) (e : OutT X182_8 Q182_8 → Option R) (x : Pat.D P182_8) :
    lStep { P := Go.Proofs.Tryz.prog, sums := [(65, ⟨I138, O138, p138, f138⟩), (136, ⟨I163, O163, p163, f163⟩), (184, ⟨I187, O187, p187, f187⟩), (183, ⟨I181, O181, p181, f181⟩), (170, ⟨I167, O167, p167, f167⟩), (171, ⟨I168, O168, p168, f168⟩), (169, ⟨I166, O166, p166, f166⟩), (212, ⟨I188, O188, p188, f188⟩), (127, ⟨I133, O133, p133, f133⟩)], loops := [(199, 8, LoopSpec.of P182_8 A182_8 X182_8 Q182_8 w182_8)], globs := G1 } (d + 2) 199 (bodyOf Go.Proofs.Tryz.f199 8) P182_8 A182_8 X182_8 Q182_8 (R := R) L e x = h182_8 p138 f138 p163 f163 p187 f187 p181 f181 p167 f167 p168 f168 p166 f166 p188 f188 p133 f133 L e x := by kernel_rfl
theorem m182_8 (p138 : DenS I138 → Bool) (f138 : DenS I138 → DenS O138) (p163 : DenS I163 → Bool) (f163 : DenS I163 → DenS O163) (p187 : DenS I187 → Bool) (f187 : DenS I187 → DenS O187) (p181 : DenS I181 → Bool) (f181 : DenS I181 → DenS O181) (p167 : DenS I167 → Bool) (f167 : DenS I167 → DenS O167) (p168 : DenS I168 → Bool) (f168 : DenS I168 → DenS O168) (p166 : DenS I166 → Bool) (f166 : DenS I166 → DenS O166) (p188 : DenS I188 → Bool) (f188 : DenS I188 → DenS O188) (p133 : DenS I133 → Bool) (f133 : DenS I133 → DenS O133) : Par fun L e x => h182_8 p138 f138 p163 f163 p187 f187 p181 f181 p167 f167 p168 f168 p166 f166 p188 f188 p133 f133 L e x := by
  intro A B rel L L' e e' h0 hL he x
  unfold h182_8
  repeat' (first | exact h0 | exact hL _ | exact he _ | apply rel_cond | (apply rel_obind h0; intro _) | (apply rel_obind2 <;> intro _))
noncomputable def t182 (p138 : DenS I138 → Bool) (f138 : DenS I138 → DenS O138) (p163 : DenS I163 → Bool) (f163 : DenS I163 → DenS O163) (p187 : DenS I187 → Bool) (f187 : DenS I187 → DenS O187) (p181 : DenS I181 → Bool) (f181 : DenS I181 → DenS O181) (p167 : DenS I167 → Bool) (f167 : DenS I167 → DenS O167) (p168 : DenS I168 → Bool) (f168 : DenS I168 → DenS O168) (p166 : DenS I166 → Bool) (f166 : DenS I166 → DenS O166) (p188 : DenS I188 → Bool) (f188 : DenS I188 → DenS O188) (p133 : DenS I133 → Bool) (f133 : DenS I133 → DenS O133) (w182_8 : Pat.D P182_8 → Option (OutT X182_8 Q182_8)) (a0 : Den (.slice (.int .u64))) (a1 : Den (.slice (.int .u64))) : Option (DenS O182) :=
  bif (p138 (a0, ())) then
  (bif (p138 (a1, ())) then
  (bif (decide ((f138 (a0, ())).1 < (f138 (a1, ())).1)) then
  (bif (p133 (a0, ())) then
  (some ([], (f133 (a0, ()))))
  else none)
  else bif (p163 (a0, ())) then
  (bif ((decide ((0 : Int) ≤ (f163 (a0, ())).1)) && (decide (((f163 (a0, ())).1 * (8 : Int)) ≤ (140737488355328 : Int)))) then
  (bif (p187 (a0, ((Go.IntKind.wrap Go.IntKind.i64 ((Go.IntKind.wrap Go.IntKind.i64 ((f138 (a0, ())).1 - (f138 (a1, ())).1)) + (1 : Int))), ()))) then
  (Vx.obind (w182_8 ((a0, (a1, ((Go.IntKind.wrap Go.IntKind.i64 ((f138 (a0, ())).1 - (f138 (a1, ())).1)), ((), (f187 (a0, ((Go.IntKind.wrap Go.IntKind.i64 ((Go.IntKind.wrap Go.IntKind.i64 ((f138 (a0, ())).1 - (f138 (a1, ())).1)) + (1 : Int))), ()))))))), ((List.replicate (Int.toNat (f163 (a0, ())).1) (0 : Int)), ()))) fun y6 =>
  Vx.obind2 y6 (fun y7 =>
  bif (p133 y7.2) then
  (some ((f133 y7.2).1, y7.1.2))
  else none) (fun z7 =>
  none))
  else none)
  else none)
  else none)
  else none)
  else none
theorem r182 (p138 : DenS I138 → Bool) (f138 : DenS I138 → DenS O138) (p163 : DenS I163 → Bool) (f163 : DenS I163 → DenS O163) (p187 : DenS I187 → Bool) (f187 : DenS I187 → DenS O187) (p181 : DenS I181 → Bool) (f181 : DenS I181 → DenS O181) (p167 : DenS I167 → Bool) (f167 : DenS I167 → DenS O167) (p168 : DenS I168 → Bool) (f168 : DenS I168 → DenS O168) (p166 : DenS I166 → Bool) (f166 : DenS I166 → DenS O166) (p188 : DenS I188 → Bool) (f188 : DenS I188 → DenS O188) (p133 : DenS I133 → Bool) (f133 : DenS I133 → DenS O133) (w182_8 : Pat.D P182_8 → Option (OutT X182_8 Q182_8)) (a0 : Den (.slice (.int .u64))) (a1 : Den (.slice (.int .u64))) :
    run { P := Go.Proofs.Tryz.prog, sums := [(65, ⟨I138, O138, p138, f138⟩), (136, ⟨I163, O163, p163, f163⟩), (184, ⟨I187, O187, p187, f187⟩), (183, ⟨I181, O181, p181, f181⟩), (170, ⟨I167, O167, p167, f167⟩), (171, ⟨I168, O168, p168, f168⟩), (169, ⟨I166, O166, p166, f166⟩), (212, ⟨I188, O188, p188, f188⟩), (127, ⟨I133, O133, p133, f133⟩)], loops := [(199, 8, LoopSpec.of P182_8 A182_8 X182_8 Q182_8 w182_8)], globs := G1 } 9 199 Go.Proofs.Tryz.f199 I182 O182 (a0, a1, ()) = t182 p138 f138 p163 f163 p187 f187 p181 f181 p167 f167 p168 f168 p166 f166 p188 f188 p133 f133 w182_8 a0 a1 := by kernel_rfl
noncomputable def W182_8 : P182_8.D → Option (OutT X182_8 Q182_8) := lfix fun L => h182_8 S138.pre S138.F S163.pre S163.F S187.pre S187.F S181.pre S181.F S167.pre S167.F S168.pre S168.F S166.pre S166.F S188.pre S188.F S133.pre S133.F L some
noncomputable def T182 (x : DenS I182) : Option (DenS O182) := t182 S138.pre S138.F S163.pre S163.F S187.pre S187.F S181.pre S181.F S167.pre S167.F S168.pre S168.F S166.pre S166.F S188.pre S188.F S133.pre S133.F W182_8 x.1 x.2.1
noncomputable def C182 : Cfg := { P := Go.Proofs.Tryz.prog, sums := [(65, S138), (136, S163), (184, S187), (183, S181), (170, S167), (171, S168), (169, S166), (212, S188), (127, S133)], loops := [(199, 8, LoopSpec.of P182_8 A182_8 X182_8 Q182_8 W182_8)], globs := G1 }
noncomputable def S182 : Sum := sumOf I182 O182 T182 (DenS.dflt O182)
theorem S182_sound : Sound Go.Proofs.Tryz.prog G1 199 S182 :=
  fn_sound C182 9 199 Go.Proofs.Tryz.f199 mixedOk (by kernel_rfl) (by kernel_rfl) (by kernel_rfl) ⟨S138_sound, ⟨S163_sound, ⟨S187_sound, ⟨S181_sound, ⟨S167_sound, ⟨S168_sound, ⟨S166_sound, ⟨S188_sound, ⟨S133_sound, trivial⟩⟩⟩⟩⟩⟩⟩⟩⟩ ⟨rfl, fun d => loopOk_of (fun L e x => h182_8 S138.pre S138.F S163.pre S163.F S187.pre S187.F S181.pre S181.F S167.pre S167.F S168.pre S168.F S166.pre S166.F S188.pre S188.F S133.pre S133.F L e x) (m182_8 S138.pre S138.F S163.pre S163.F S187.pre S187.F S181.pre S181.F S167.pre S167.F S168.pre S168.F S166.pre S166.F S188.pre S188.F S133.pre S133.F) (fun R L e x => s182_8 S138.pre S138.F S163.pre S163.F S187.pre S187.F S181.pre S181.F S167.pre S167.F S168.pre S168.F S166.pre S166.F S188.pre S188.F S133.pre S133.F W182_8 d R L e x), trivial⟩ I182 O182 T182 _ (fun x => r182 S138.pre S138.F S163.pre S163.F S187.pre S187.F S181.pre S181.F S167.pre S167.F S168.pre S168.F S166.pre S166.F S188.pre S188.F S133.pre S133.F W182_8 x.1 x.2.1)
/-- vernier/vernierref02.Divide -/
abbrev I165 : Sig := [(false, .slice (.int .u64)), (false, .slice (.int .u64))]
abbrev O165 : Sig := [(false, .slice (.int .u64)), (false, .slice (.int .u64))]
noncomputable def t165 (p182 : DenS I182 → Bool) (f182 : DenS I182 → DenS O182) (a0 : Den (.slice (.int .u64))) (a1 : Den (.slice (.int .u64))) : Option (DenS O165) :=
  bif (p182 (a0, (a1, ()))) then
  (some (f182 (a0, (a1, ()))))
  else none
theorem r165 (p182 : DenS I182 → Bool) (f182 : DenS I182 → DenS O182) (a0 : Den (.slice (.int .u64))) (a1 : Den (.slice (.int .u64))) :
    run { P := Go.Proofs.Tryz.prog, sums := [(199, ⟨I182, O182, p182, f182⟩)], loops := [], globs := G1 } 9 168 Go.Proofs.Tryz.f168 I165 O165 (a0, a1, ()) = t165 p182 f182 a0 a1 := by kernel_rfl
noncomputable def T165 (x : DenS I165) : Option (DenS O165) := t165 S182.pre S182.F x.1 x.2.1
noncomputable def C165 : Cfg := { P := Go.Proofs.Tryz.prog, sums := [(199, S182)], loops := [], globs := G1 }
noncomputable def S165 : Sum := sumOf I165 O165 T165 (DenS.dflt O165)
theorem S165_sound : Sound Go.Proofs.Tryz.prog G1 168 S165 :=
  fn_sound C165 9 168 Go.Proofs.Tryz.f168 mixedOk (by kernel_rfl) (by kernel_rfl) (by kernel_rfl) ⟨S182_sound, trivial⟩ trivial I165 O165 T165 _ (fun x => r165 S182.pre S182.F x.1 x.2.1)
/-- vernier/vernierref02.Up -/
abbrev I164 : Sig := [(false, .slice (.int .u64)), (false, .int .i64)]
abbrev O164 : Sig := [(false, .slice (.int .u64))]
noncomputable def t164 (p181 : DenS I181 → Bool) (f181 : DenS I181 → DenS O181) (a0 : Den (.slice (.int .u64))) (a1 : Den (.int .i64)) : Option (DenS O164) :=
  bif (p181 (a0, (a1, ()))) then
  (some (f181 (a0, (a1, ()))))
  else none
theorem r164 (p181 : DenS I181 → Bool) (f181 : DenS I181 → DenS O181) (a0 : Den (.slice (.int .u64))) (a1 : Den (.int .i64)) :
    run { P := Go.Proofs.Tryz.prog, sums := [(183, ⟨I181, O181, p181, f181⟩)], loops := [], globs := G1 } 9 146 Go.Proofs.Tryz.f146 I164 O164 (a0, a1, ()) = t164 p181 f181 a0 a1 := by kernel_rfl
noncomputable def T164 (x : DenS I164) : Option (DenS O164) := t164 S181.pre S181.F x.1 x.2.1
noncomputable def C164 : Cfg := { P := Go.Proofs.Tryz.prog, sums := [(183, S181)], loops := [], globs := G1 }
noncomputable def S164 : Sum := sumOf I164 O164 T164 (DenS.dflt O164)
theorem S164_sound : Sound Go.Proofs.Tryz.prog G1 146 S164 :=
  fn_sound C164 9 146 Go.Proofs.Tryz.f146 mixedOk (by kernel_rfl) (by kernel_rfl) (by kernel_rfl) ⟨S181_sound, trivial⟩ trivial I164 O164 T164 _ (fun x => r164 S181.pre S181.F x.1 x.2.1)
/-- vernier/vernierref05.places -/
abbrev I136 : Sig := [(true, .pair (.bool) (.pair (.slice (.int .u64)) (.pair (.slice (.int .u64)) (.pair (.int .i64) (.unit))))), (false, .int .i64)]
abbrev O136 : Sig := [(false, .slice (.int .u64)), (false, .int .i64)]
noncomputable def t136 (p165 : DenS I165 → Bool) (f165 : DenS I165 → DenS O165) (p164 : DenS I164 → Bool) (f164 : DenS I164 → DenS O164) (p166 : DenS I166 → Bool) (f166 : DenS I166 → DenS O166) (a0 : Den (.pair (.bool) (.pair (.slice (.int .u64)) (.pair (.slice (.int .u64)) (.pair (.int .i64) (.unit)))))) (a1 : Den (.int .i64)) : Option (DenS O136) :=
  bif (decide (a0.2.2.2.1 ≥ a1)) then
  (bif (p164 (a0.2.1, ((Go.IntKind.wrap Go.IntKind.i64 (a0.2.2.2.1 - a1)), ()))) then
  (bif (p165 ((f164 (a0.2.1, ((Go.IntKind.wrap Go.IntKind.i64 (a0.2.2.2.1 - a1)), ()))).1, (a0.2.2.1, ()))) then
  (bif (((f165 ((f164 (a0.2.1, ((Go.IntKind.wrap Go.IntKind.i64 (a0.2.2.2.1 - a1)), ()))).1, (a0.2.2.1, ()))).2.1.length : Int) == (0 : Int)) then
  (some ((f165 ((f164 (a0.2.1, ((Go.IntKind.wrap Go.IntKind.i64 (a0.2.2.2.1 - a1)), ()))).1, (a0.2.2.1, ()))).1, ((0 : Int), ())))
  else bif (p164 ((f165 ((f164 (a0.2.1, ((Go.IntKind.wrap Go.IntKind.i64 (a0.2.2.2.1 - a1)), ()))).1, (a0.2.2.1, ()))).2.1, ((1 : Int), ()))) then
  (bif (p166 ((f164 ((f165 ((f164 (a0.2.1, ((Go.IntKind.wrap Go.IntKind.i64 (a0.2.2.2.1 - a1)), ()))).1, (a0.2.2.1, ()))).2.1, ((1 : Int), ()))).1, (a0.2.2.1, ()))) then
  (some ((f165 ((f164 (a0.2.1, ((Go.IntKind.wrap Go.IntKind.i64 (a0.2.2.2.1 - a1)), ()))).1, (a0.2.2.1, ()))).1, ((Go.IntKind.wrap Go.IntKind.i64 ((2 : Int) + (f166 ((f164 ((f165 ((f164 (a0.2.1, ((Go.IntKind.wrap Go.IntKind.i64 (a0.2.2.2.1 - a1)), ()))).1, (a0.2.2.1, ()))).2.1, ((1 : Int), ()))).1, (a0.2.2.1, ()))).1)), ())))
  else none)
  else none)
  else none)
  else none)
  else bif (p164 (a0.2.2.1, ((Go.IntKind.wrap Go.IntKind.i64 (a1 - a0.2.2.2.1)), ()))) then
  (bif (p165 (a0.2.1, (f164 (a0.2.2.1, ((Go.IntKind.wrap Go.IntKind.i64 (a1 - a0.2.2.2.1)), ()))))) then
  (bif (((f165 (a0.2.1, (f164 (a0.2.2.1, ((Go.IntKind.wrap Go.IntKind.i64 (a1 - a0.2.2.2.1)), ()))))).2.1.length : Int) == (0 : Int)) then
  (some ((f165 (a0.2.1, (f164 (a0.2.2.1, ((Go.IntKind.wrap Go.IntKind.i64 (a1 - a0.2.2.2.1)), ()))))).1, ((0 : Int), ())))
  else bif (p164 ((f165 (a0.2.1, (f164 (a0.2.2.1, ((Go.IntKind.wrap Go.IntKind.i64 (a1 - a0.2.2.2.1)), ()))))).2.1, ((1 : Int), ()))) then
  (bif (p166 ((f164 ((f165 (a0.2.1, (f164 (a0.2.2.1, ((Go.IntKind.wrap Go.IntKind.i64 (a1 - a0.2.2.2.1)), ()))))).2.1, ((1 : Int), ()))).1, (f164 (a0.2.2.1, ((Go.IntKind.wrap Go.IntKind.i64 (a1 - a0.2.2.2.1)), ()))))) then
  (some ((f165 (a0.2.1, (f164 (a0.2.2.1, ((Go.IntKind.wrap Go.IntKind.i64 (a1 - a0.2.2.2.1)), ()))))).1, ((Go.IntKind.wrap Go.IntKind.i64 ((2 : Int) + (f166 ((f164 ((f165 (a0.2.1, (f164 (a0.2.2.1, ((Go.IntKind.wrap Go.IntKind.i64 (a1 - a0.2.2.2.1)), ()))))).2.1, ((1 : Int), ()))).1, (f164 (a0.2.2.1, ((Go.IntKind.wrap Go.IntKind.i64 (a1 - a0.2.2.2.1)), ()))))).1)), ())))
  else none)
  else none)
  else none)
  else none
theorem r136 (p165 : DenS I165 → Bool) (f165 : DenS I165 → DenS O165) (p164 : DenS I164 → Bool) (f164 : DenS I164 → DenS O164) (p166 : DenS I166 → Bool) (f166 : DenS I166 → DenS O166) (a0 : Den (.pair (.bool) (.pair (.slice (.int .u64)) (.pair (.slice (.int .u64)) (.pair (.int .i64) (.unit)))))) (a1 : Den (.int .i64)) :
    run { P := Go.Proofs.Tryz.prog, sums := [(168, ⟨I165, O165, p165, f165⟩), (146, ⟨I164, O164, p164, f164⟩), (169, ⟨I166, O166, p166, f166⟩)], loops := [], globs := G1 } 9 131 Go.Proofs.Tryz.f131 I136 O136 (a0, a1, ()) = t136 p165 f165 p164 f164 p166 f166 a0 a1 := by kernel_rfl
noncomputable def T136 (x : DenS I136) : Option (DenS O136) := t136 S165.pre S165.F S164.pre S164.F S166.pre S166.F x.1 x.2.1
noncomputable def C136 : Cfg := { P := Go.Proofs.Tryz.prog, sums := [(168, S165), (146, S164), (169, S166)], loops := [], globs := G1 }
noncomputable def S136 : Sum := sumOf I136 O136 T136 (DenS.dflt O136)
theorem S136_sound : Sound Go.Proofs.Tryz.prog G1 131 S136 :=
  fn_sound C136 9 131 Go.Proofs.Tryz.f131 mixedOk (by kernel_rfl) (by kernel_rfl) (by kernel_rfl) ⟨S165_sound, ⟨S164_sound, ⟨S166_sound, trivial⟩⟩⟩ trivial I136 O136 T136 _ (fun x => r136 S165.pre S165.F S164.pre S164.F S166.pre S166.F x.1 x.2.1)
/-- vernier/vernierref05.Top -/
abbrev I135 : Sig := [(true, .pair (.bool) (.pair (.slice (.int .u64)) (.pair (.slice (.int .u64)) (.pair (.int .i64) (.unit)))))]
abbrev O135 : Sig := [(false, .int .i64)]
noncomputable def t135 (p138 : DenS I138 → Bool) (f138 : DenS I138 → DenS O138) (p136 : DenS I136 → Bool) (f136 : DenS I136 → DenS O136) (a0 : Den (.pair (.bool) (.pair (.slice (.int .u64)) (.pair (.slice (.int .u64)) (.pair (.int .i64) (.unit)))))) : Option (DenS O135) :=
  bif (p138 (a0.2.1, ())) then
  (bif (p138 (a0.2.2.1, ())) then
  (bif (p136 ((a0.1, a0.2), ((Go.IntKind.wrap Go.IntKind.i64 ((Go.IntKind.wrap Go.IntKind.i64 ((f138 (a0.2.1, ())).1 - (f138 (a0.2.2.1, ())).1)) + a0.2.2.2.1)), ()))) then
  (bif (((f136 ((a0.1, a0.2), ((Go.IntKind.wrap Go.IntKind.i64 ((Go.IntKind.wrap Go.IntKind.i64 ((f138 (a0.2.1, ())).1 - (f138 (a0.2.2.1, ())).1)) + a0.2.2.2.1)), ()))).1.length : Int) == (0 : Int)) then
  (some ((Go.IntKind.wrap Go.IntKind.i64 ((Go.IntKind.wrap Go.IntKind.i64 ((Go.IntKind.wrap Go.IntKind.i64 ((f138 (a0.2.1, ())).1 - (f138 (a0.2.2.1, ())).1)) + a0.2.2.2.1)) - (1 : Int))), ()))
  else some ((Go.IntKind.wrap Go.IntKind.i64 ((Go.IntKind.wrap Go.IntKind.i64 ((f138 (a0.2.1, ())).1 - (f138 (a0.2.2.1, ())).1)) + a0.2.2.2.1)), ()))
  else none)
  else none)
  else none
theorem r135 (p138 : DenS I138 → Bool) (f138 : DenS I138 → DenS O138) (p136 : DenS I136 → Bool) (f136 : DenS I136 → DenS O136) (a0 : Den (.pair (.bool) (.pair (.slice (.int .u64)) (.pair (.slice (.int .u64)) (.pair (.int .i64) (.unit)))))) :
    run { P := Go.Proofs.Tryz.prog, sums := [(65, ⟨I138, O138, p138, f138⟩), (131, ⟨I136, O136, p136, f136⟩)], loops := [], globs := G1 } 9 130 Go.Proofs.Tryz.f130 I135 O135 (a0, ()) = t135 p138 f138 p136 f136 a0 := by kernel_rfl
noncomputable def T135 (x : DenS I135) : Option (DenS O135) := t135 S138.pre S138.F S136.pre S136.F x.1
noncomputable def C135 : Cfg := { P := Go.Proofs.Tryz.prog, sums := [(65, S138), (131, S136)], loops := [], globs := G1 }
noncomputable def S135 : Sum := sumOf I135 O135 T135 (DenS.dflt O135)
theorem S135_sound : Sound Go.Proofs.Tryz.prog G1 130 S135 :=
  fn_sound C135 9 130 Go.Proofs.Tryz.f130 mixedOk (by kernel_rfl) (by kernel_rfl) (by kernel_rfl) ⟨S138_sound, ⟨S136_sound, trivial⟩⟩ trivial I135 O135 T135 _ (fun x => r135 S138.pre S138.F S136.pre S136.F x.1)
/-- vernier/vernierref05.sign -/
abbrev I134 : Sig := [(false, .bool)]
abbrev O134 : Sig := [(false, .int .u64)]
noncomputable def t134 (a0 : Den (.bool)) : Option (DenS O134) :=
  bif a0 then
  (some ((1 : Int), ()))
  else some ((0 : Int), ())
theorem r134 (a0 : Den (.bool)) :
    run { P := Go.Proofs.Tryz.prog, sums := [], loops := [], globs := G1 } 9 129 Go.Proofs.Tryz.f129 I134 O134 (a0, ()) = t134 a0 := by kernel_rfl
noncomputable def T134 (x : DenS I134) : Option (DenS O134) := t134 x.1
noncomputable def C134 : Cfg := { P := Go.Proofs.Tryz.prog, sums := [], loops := [], globs := G1 }
noncomputable def S134 : Sum := sumOf I134 O134 T134 (DenS.dflt O134)
theorem S134_sound : Sound Go.Proofs.Tryz.prog G1 129 S134 :=
  fn_sound C134 9 129 Go.Proofs.Tryz.f129 mixedOk (by kernel_rfl) (by kernel_rfl) (by kernel_rfl) trivial trivial I134 O134 T134 _ (fun x => r134 x.1)
/-- vernier/vernierref04.Greatest -/
abbrev I170 : Sig := [(false, .int .i64), (false, .int .u64)]
abbrev O170 : Sig := [(false, .int .u64)]
noncomputable def t170 (p131 : DenS I131 → Bool) (f131 : DenS I131 → DenS O131) (p132 : DenS I132 → Bool) (f132 : DenS I132 → DenS O132) (a0 : Den (.int .i64)) (a1 : Den (.int .u64)) : Option (DenS O170) :=
  bif (p131 (a0, ())) then
  (bif (p132 (a0, (a1, ((Go.IntKind.wrap Go.IntKind.u64 (Go.IntKind.wrap Go.IntKind.i64 ((2 : Int) * (f131 (a0, ())).1.2.2.2.1))), ((Go.IntKind.wrap Go.IntKind.u64 ((Vx.shlI Go.IntKind.u64 (1 : Int) (Go.IntKind.wrap Go.IntKind.u64 (Go.IntKind.wrap Go.IntKind.i64 ((f131 (a0, ())).1.2.1 - (1 : Int))))) - (1 : Int))), ()))))) then
  (some (f132 (a0, (a1, ((Go.IntKind.wrap Go.IntKind.u64 (Go.IntKind.wrap Go.IntKind.i64 ((2 : Int) * (f131 (a0, ())).1.2.2.2.1))), ((Go.IntKind.wrap Go.IntKind.u64 ((Vx.shlI Go.IntKind.u64 (1 : Int) (Go.IntKind.wrap Go.IntKind.u64 (Go.IntKind.wrap Go.IntKind.i64 ((f131 (a0, ())).1.2.1 - (1 : Int))))) - (1 : Int))), ()))))))
  else none)
  else none
theorem r170 (p131 : DenS I131 → Bool) (f131 : DenS I131 → DenS O131) (p132 : DenS I132 → Bool) (f132 : DenS I132 → DenS O132) (a0 : Den (.int .i64)) (a1 : Den (.int .u64)) :
    run { P := Go.Proofs.Tryz.prog, sums := [(112, ⟨I131, O131, p131, f131⟩), (114, ⟨I132, O132, p132, f132⟩)], loops := [], globs := G1 } 9 172 Go.Proofs.Tryz.f172 I170 O170 (a0, a1, ()) = t170 p131 f131 p132 f132 a0 a1 := by kernel_rfl
noncomputable def T170 (x : DenS I170) : Option (DenS O170) := t170 S131.pre S131.F S132.pre S132.F x.1 x.2.1
noncomputable def C170 : Cfg := { P := Go.Proofs.Tryz.prog, sums := [(112, S131), (114, S132)], loops := [], globs := G1 }
noncomputable def S170 : Sum := sumOf I170 O170 T170 (DenS.dflt O170)
theorem S170_sound : Sound Go.Proofs.Tryz.prog G1 172 S170 :=
  fn_sound C170 9 172 Go.Proofs.Tryz.f172 mixedOk (by kernel_rfl) (by kernel_rfl) (by kernel_rfl) ⟨S131_sound, ⟨S132_sound, trivial⟩⟩ trivial I170 O170 T170 _ (fun x => r170 S131.pre S131.F S132.pre S132.F x.1 x.2.1)
/-- vernier/vernierref05.Beyond -/
abbrev I139 : Sig := [(false, .int .i64), (false, .int .i64), (false, .bool)]
abbrev O139 : Sig := [(false, .int .u64)]
noncomputable def t139 (p169 : DenS I169 → Bool) (f169 : DenS I169 → DenS O169) (p134 : DenS I134 → Bool) (f134 : DenS I134 → DenS O134) (p170 : DenS I170 → Bool) (f170 : DenS I170 → DenS O170) (a0 : Den (.int .i64)) (a1 : Den (.int .i64)) (a2 : Den (.bool)) : Option (DenS O139) :=
  bif ((((a1 == (0 : Int)) || (a1 == (1 : Int))) || ((a1 == (3 : Int)) && (!a2))) || ((a1 == (4 : Int)) && a2)) then
  (bif (p134 (a2, ())) then
  (bif (p169 (a0, (f134 (a2, ())))) then
  (some (f169 (a0, (f134 (a2, ())))))
  else none)
  else none)
  else bif (p134 (a2, ())) then
  (bif (p170 (a0, (f134 (a2, ())))) then
  (some (f170 (a0, (f134 (a2, ())))))
  else none)
  else none
theorem r139 (p169 : DenS I169 → Bool) (f169 : DenS I169 → DenS O169) (p134 : DenS I134 → Bool) (f134 : DenS I134 → DenS O134) (p170 : DenS I170 → Bool) (f170 : DenS I170 → DenS O170) (a0 : Den (.int .i64)) (a1 : Den (.int .i64)) (a2 : Den (.bool)) :
    run { P := Go.Proofs.Tryz.prog, sums := [(59, ⟨I169, O169, p169, f169⟩), (129, ⟨I134, O134, p134, f134⟩), (172, ⟨I170, O170, p170, f170⟩)], loops := [], globs := G1 } 9 133 Go.Proofs.Tryz.f133 I139 O139 (a0, a1, a2, ()) = t139 p169 f169 p134 f134 p170 f170 a0 a1 a2 := by kernel_rfl
noncomputable def T139 (x : DenS I139) : Option (DenS O139) := t139 S169.pre S169.F S134.pre S134.F S170.pre S170.F x.1 x.2.1 x.2.2.1
noncomputable def C139 : Cfg := { P := Go.Proofs.Tryz.prog, sums := [(59, S169), (129, S134), (172, S170)], loops := [], globs := G1 }
noncomputable def S139 : Sum := sumOf I139 O139 T139 (DenS.dflt O139)
theorem S139_sound : Sound Go.Proofs.Tryz.prog G1 133 S139 :=
  fn_sound C139 9 133 Go.Proofs.Tryz.f133 mixedOk (by kernel_rfl) (by kernel_rfl) (by kernel_rfl) ⟨S169_sound, ⟨S134_sound, ⟨S170_sound, trivial⟩⟩⟩ trivial I139 O139 T139 _ (fun x => r139 S169.pre S169.F S134.pre S134.F S170.pre S170.F x.1 x.2.1 x.2.2.1)
/-- vernier/vernierref05.chosen -/
abbrev I137 : Sig := [(false, .int .i64), (false, .bool), (false, .slice (.int .u64)), (false, .int .i64)]
abbrev O137 : Sig := [(false, .slice (.int .u64))]
noncomputable def t137 (p167 : DenS I167 → Bool) (f167 : DenS I167 → DenS O167) (p168 : DenS I168 → Bool) (f168 : DenS I168 → DenS O168) (a0 : Den (.int .i64)) (a1 : Den (.bool)) (a2 : Den (.slice (.int .u64))) (a3 : Den (.int .i64)) : Option (DenS O137) :=
  bif (p167 (a2, ((0 : Int), ()))) then
  (bif (a0 == (0 : Int)) then
  (bif ((decide (a3 > (0 : Int))) && ((a3 == (3 : Int)) || ((a3 == (2 : Int)) && ((f167 (a2, ((0 : Int), ()))).1 == (1 : Int))))) then
  (bif (p168 (a2, (((1 : Int) :: []), ()))) then
  (some (f168 (a2, (((1 : Int) :: []), ()))))
  else none)
  else some (a2, ()))
  else bif (a0 == (1 : Int)) then
  (bif ((decide (a3 > (0 : Int))) && (decide (a3 ≥ (2 : Int)))) then
  (bif (p168 (a2, (((1 : Int) :: []), ()))) then
  (some (f168 (a2, (((1 : Int) :: []), ()))))
  else none)
  else some (a2, ()))
  else bif (a0 == (3 : Int)) then
  (bif ((decide (a3 > (0 : Int))) && (!a1)) then
  (bif (p168 (a2, (((1 : Int) :: []), ()))) then
  (some (f168 (a2, (((1 : Int) :: []), ()))))
  else none)
  else some (a2, ()))
  else bif (a0 == (4 : Int)) then
  (bif ((decide (a3 > (0 : Int))) && a1) then
  (bif (p168 (a2, (((1 : Int) :: []), ()))) then
  (some (f168 (a2, (((1 : Int) :: []), ()))))
  else none)
  else some (a2, ()))
  else bif (a0 == (5 : Int)) then
  (bif ((decide (a3 > (0 : Int))) && (!((f167 (a2, ((0 : Int), ()))).1 == (1 : Int)))) then
  (bif (p168 (a2, (((1 : Int) :: []), ()))) then
  (some (f168 (a2, (((1 : Int) :: []), ()))))
  else none)
  else some (a2, ()))
  else bif ((decide (a3 > (0 : Int))) && false) then
  (bif (p168 (a2, (((1 : Int) :: []), ()))) then
  (some (f168 (a2, (((1 : Int) :: []), ()))))
  else none)
  else some (a2, ()))
  else none
theorem r137 (p167 : DenS I167 → Bool) (f167 : DenS I167 → DenS O167) (p168 : DenS I168 → Bool) (f168 : DenS I168 → DenS O168) (a0 : Den (.int .i64)) (a1 : Den (.bool)) (a2 : Den (.slice (.int .u64))) (a3 : Den (.int .i64)) :
    run { P := Go.Proofs.Tryz.prog, sums := [(170, ⟨I167, O167, p167, f167⟩), (171, ⟨I168, O168, p168, f168⟩)], loops := [], globs := G1 } 9 132 Go.Proofs.Tryz.f132 I137 O137 (a0, a1, a2, a3, ()) = t137 p167 f167 p168 f168 a0 a1 a2 a3 := by kernel_rfl
noncomputable def T137 (x : DenS I137) : Option (DenS O137) := t137 S167.pre S167.F S168.pre S168.F x.1 x.2.1 x.2.2.1 x.2.2.2.1
noncomputable def C137 : Cfg := { P := Go.Proofs.Tryz.prog, sums := [(170, S167), (171, S168)], loops := [], globs := G1 }
noncomputable def S137 : Sum := sumOf I137 O137 T137 (DenS.dflt O137)
theorem S137_sound : Sound Go.Proofs.Tryz.prog G1 132 S137 :=
  fn_sound C137 9 132 Go.Proofs.Tryz.f132 mixedOk (by kernel_rfl) (by kernel_rfl) (by kernel_rfl) ⟨S167_sound, ⟨S168_sound, trivial⟩⟩ trivial I137 O137 T137 _ (fun x => r137 S167.pre S167.F S168.pre S168.F x.1 x.2.1 x.2.2.1 x.2.2.2.1)
end Vx
namespace Vx
open Go Go.Proofs
/-- vernier/vernierref05.Round -/
abbrev I88 : Sig := [(false, .int .i64), (false, .int .i64), (true, .pair (.bool) (.pair (.slice (.int .u64)) (.pair (.slice (.int .u64)) (.pair (.int .i64) (.unit)))))]
abbrev O88 : Sig := [(false, .int .u64), (false, .int .i64)]
noncomputable def t88 (p133 : DenS I133 → Bool) (f133 : DenS I133 → DenS O133) (p114 : DenS I114 → Bool) (f114 : DenS I114 → DenS O114) (p131 : DenS I131 → Bool) (f131 : DenS I131 → DenS O131) (p135 : DenS I135 → Bool) (f135 : DenS I135 → DenS O135) (p139 : DenS I139 → Bool) (f139 : DenS I139 → DenS O139) (p136 : DenS I136 → Bool) (f136 : DenS I136 → DenS O136) (p137 : DenS I137 → Bool) (f137 : DenS I137 → DenS O137) (p138 : DenS I138 → Bool) (f138 : DenS I138 → DenS O138) (p134 : DenS I134 → Bool) (f134 : DenS I134 → DenS O134) (p132 : DenS I132 → Bool) (f132 : DenS I132 → DenS O132) (a0 : Den (.int .i64)) (a1 : Den (.int .i64)) (a2 : Den (.pair (.bool) (.pair (.slice (.int .u64)) (.pair (.slice (.int .u64)) (.pair (.int .i64) (.unit)))))) : Option (DenS O88) :=
  bif (p133 (a2.2.1, ())) then
  (bif (((f133 (a2.2.1, ())).1.length : Int) == (0 : Int)) then
  (bif (p134 (a2.1, ())) then
  (bif (p114 (a0, (f134 (a2.1, ())))) then
  (some ((f114 (a0, (f134 (a2.1, ())))).1, ((0 : Int), ())))
  else none)
  else none)
  else bif (p131 (a0, ())) then
  (bif (p135 ((a2.1, a2.2), ())) then
  (bif (decide ((Go.IntKind.wrap Go.IntKind.i64 ((Go.IntKind.wrap Go.IntKind.i64 ((f135 ((a2.1, a2.2), ())).1 - (f131 (a0, ())).1.2.1)) + (1 : Int))) < (Go.IntKind.wrap Go.IntKind.i64 ((Go.IntKind.wrap Go.IntKind.i64 ((f131 (a0, ())).1.2.2.1 - (f131 (a0, ())).1.2.1)) + (1 : Int))))) then
  (bif (p136 ((a2.1, a2.2), ((Go.IntKind.wrap Go.IntKind.i64 ((Go.IntKind.wrap Go.IntKind.i64 ((f131 (a0, ())).1.2.2.1 - (f131 (a0, ())).1.2.1)) + (1 : Int))), ()))) then
  (bif (p137 (a1, (a2.1, (f136 ((a2.1, a2.2), ((Go.IntKind.wrap Go.IntKind.i64 ((Go.IntKind.wrap Go.IntKind.i64 ((f131 (a0, ())).1.2.2.1 - (f131 (a0, ())).1.2.1)) + (1 : Int))), ())))))) then
  (bif (p138 (f137 (a1, (a2.1, (f136 ((a2.1, a2.2), ((Go.IntKind.wrap Go.IntKind.i64 ((Go.IntKind.wrap Go.IntKind.i64 ((f131 (a0, ())).1.2.2.1 - (f131 (a0, ())).1.2.1)) + (1 : Int))), ()))))))) then
  (bif (decide ((Go.IntKind.wrap Go.IntKind.i64 ((f138 (f137 (a1, (a2.1, (f136 ((a2.1, a2.2), ((Go.IntKind.wrap Go.IntKind.i64 ((Go.IntKind.wrap Go.IntKind.i64 ((f131 (a0, ())).1.2.2.1 - (f131 (a0, ())).1.2.1)) + (1 : Int))), ()))))))).1 + (Go.IntKind.wrap Go.IntKind.i64 ((Go.IntKind.wrap Go.IntKind.i64 ((f131 (a0, ())).1.2.2.1 - (f131 (a0, ())).1.2.1)) + (1 : Int))))) > (Go.IntKind.wrap Go.IntKind.i64 ((f131 (a0, ())).1.2.2.2.1 + (1 : Int))))) then
  (bif (p139 (a0, (a1, (a2.1, ())))) then
  (some ((f139 (a0, (a1, (a2.1, ())))).1, ((20 : Int), ())))
  else none)
  else bif (decide ((f136 ((a2.1, a2.2), ((Go.IntKind.wrap Go.IntKind.i64 ((Go.IntKind.wrap Go.IntKind.i64 ((f131 (a0, ())).1.2.2.1 - (f131 (a0, ())).1.2.1)) + (1 : Int))), ()))).2.1 > (0 : Int))) then
  (bif (p136 ((a2.1, a2.2), ((Go.IntKind.wrap Go.IntKind.i64 ((Go.IntKind.wrap Go.IntKind.i64 ((f135 ((a2.1, a2.2), ())).1 - (f131 (a0, ())).1.2.1)) + (1 : Int))), ()))) then
  (bif (p137 (a1, (a2.1, (f136 ((a2.1, a2.2), ((Go.IntKind.wrap Go.IntKind.i64 ((Go.IntKind.wrap Go.IntKind.i64 ((f135 ((a2.1, a2.2), ())).1 - (f131 (a0, ())).1.2.1)) + (1 : Int))), ())))))) then
  (bif (p138 (f137 (a1, (a2.1, (f136 ((a2.1, a2.2), ((Go.IntKind.wrap Go.IntKind.i64 ((Go.IntKind.wrap Go.IntKind.i64 ((f135 ((a2.1, a2.2), ())).1 - (f131 (a0, ())).1.2.1)) + (1 : Int))), ()))))))) then
  (bif (decide ((Go.IntKind.wrap Go.IntKind.i64 ((Go.IntKind.wrap Go.IntKind.i64 ((Go.IntKind.wrap Go.IntKind.i64 ((f138 (f137 (a1, (a2.1, (f136 ((a2.1, a2.2), ((Go.IntKind.wrap Go.IntKind.i64 ((Go.IntKind.wrap Go.IntKind.i64 ((f135 ((a2.1, a2.2), ())).1 - (f131 (a0, ())).1.2.1)) + (1 : Int))), ()))))))).1 + (f135 ((a2.1, a2.2), ())).1)) - (f131 (a0, ())).1.2.1)) + (1 : Int))) ≤ (f131 (a0, ())).1.2.2.1)) then
  (bif (decide (((f137 (a1, (a2.1, (f136 ((a2.1, a2.2), ((Go.IntKind.wrap Go.IntKind.i64 ((Go.IntKind.wrap Go.IntKind.i64 ((f131 (a0, ())).1.2.2.1 - (f131 (a0, ())).1.2.1)) + (1 : Int))), ())))))).1.length : Int) > (0 : Int))) then
  (bif (decide ((0 : Int) < ((f137 (a1, (a2.1, (f136 ((a2.1, a2.2), ((Go.IntKind.wrap Go.IntKind.i64 ((Go.IntKind.wrap Go.IntKind.i64 ((f131 (a0, ())).1.2.2.1 - (f131 (a0, ())).1.2.1)) + (1 : Int))), ())))))).1.length : Int))) then
  (bif (p134 (a2.1, ())) then
  (bif (p132 (a0, ((f134 (a2.1, ())).1, ((0 : Int), ((0 : Int), ()))))) then
  (some ((Vx.orI Go.IntKind.u64 (f132 (a0, ((f134 (a2.1, ())).1, ((0 : Int), ((0 : Int), ()))))).1 (Go.IntKind.wrap Go.IntKind.u64 ((Vx.shlI Go.IntKind.u64 (Go.IntKind.wrap Go.IntKind.u64 (Go.IntKind.wrap Go.IntKind.i64 ((Go.IntKind.wrap Go.IntKind.i64 ((Go.IntKind.wrap Go.IntKind.i64 ((f131 (a0, ())).1.2.2.1 - (f131 (a0, ())).1.2.1)) + (1 : Int))) - (Go.IntKind.wrap Go.IntKind.i64 ((Go.IntKind.wrap Go.IntKind.i64 ((f131 (a0, ())).1.2.2.1 - (f131 (a0, ())).1.2.1)) + (1 : Int)))))) (Go.IntKind.wrap Go.IntKind.u64 (Go.IntKind.wrap Go.IntKind.i64 ((f131 (a0, ())).1.2.1 - (1 : Int))))) + ((f137 (a1, (a2.1, (f136 ((a2.1, a2.2), ((Go.IntKind.wrap Go.IntKind.i64 ((Go.IntKind.wrap Go.IntKind.i64 ((f131 (a0, ())).1.2.2.1 - (f131 (a0, ())).1.2.1)) + (1 : Int))), ())))))).1.getD (Int.toNat (0 : Int)) (0 : Int))))), ((24 : Int), ())))
  else none)
  else none)
  else none)
  else bif (p134 (a2.1, ())) then
  (bif (p132 (a0, ((f134 (a2.1, ())).1, ((0 : Int), ((0 : Int), ()))))) then
  (some ((Vx.orI Go.IntKind.u64 (f132 (a0, ((f134 (a2.1, ())).1, ((0 : Int), ((0 : Int), ()))))).1 (Go.IntKind.wrap Go.IntKind.u64 ((Vx.shlI Go.IntKind.u64 (Go.IntKind.wrap Go.IntKind.u64 (Go.IntKind.wrap Go.IntKind.i64 ((Go.IntKind.wrap Go.IntKind.i64 ((Go.IntKind.wrap Go.IntKind.i64 ((f131 (a0, ())).1.2.2.1 - (f131 (a0, ())).1.2.1)) + (1 : Int))) - (Go.IntKind.wrap Go.IntKind.i64 ((Go.IntKind.wrap Go.IntKind.i64 ((f131 (a0, ())).1.2.2.1 - (f131 (a0, ())).1.2.1)) + (1 : Int)))))) (Go.IntKind.wrap Go.IntKind.u64 (Go.IntKind.wrap Go.IntKind.i64 ((f131 (a0, ())).1.2.1 - (1 : Int))))) + (0 : Int)))), ((24 : Int), ())))
  else none)
  else none)
  else bif (decide (((f137 (a1, (a2.1, (f136 ((a2.1, a2.2), ((Go.IntKind.wrap Go.IntKind.i64 ((Go.IntKind.wrap Go.IntKind.i64 ((f131 (a0, ())).1.2.2.1 - (f131 (a0, ())).1.2.1)) + (1 : Int))), ())))))).1.length : Int) > (0 : Int))) then
  (bif (decide ((0 : Int) < ((f137 (a1, (a2.1, (f136 ((a2.1, a2.2), ((Go.IntKind.wrap Go.IntKind.i64 ((Go.IntKind.wrap Go.IntKind.i64 ((f131 (a0, ())).1.2.2.1 - (f131 (a0, ())).1.2.1)) + (1 : Int))), ())))))).1.length : Int))) then
  (bif (p134 (a2.1, ())) then
  (bif (p132 (a0, ((f134 (a2.1, ())).1, ((0 : Int), ((0 : Int), ()))))) then
  (some ((Vx.orI Go.IntKind.u64 (f132 (a0, ((f134 (a2.1, ())).1, ((0 : Int), ((0 : Int), ()))))).1 (Go.IntKind.wrap Go.IntKind.u64 ((Vx.shlI Go.IntKind.u64 (Go.IntKind.wrap Go.IntKind.u64 (Go.IntKind.wrap Go.IntKind.i64 ((Go.IntKind.wrap Go.IntKind.i64 ((Go.IntKind.wrap Go.IntKind.i64 ((f131 (a0, ())).1.2.2.1 - (f131 (a0, ())).1.2.1)) + (1 : Int))) - (Go.IntKind.wrap Go.IntKind.i64 ((Go.IntKind.wrap Go.IntKind.i64 ((f131 (a0, ())).1.2.2.1 - (f131 (a0, ())).1.2.1)) + (1 : Int)))))) (Go.IntKind.wrap Go.IntKind.u64 (Go.IntKind.wrap Go.IntKind.i64 ((f131 (a0, ())).1.2.1 - (1 : Int))))) + ((f137 (a1, (a2.1, (f136 ((a2.1, a2.2), ((Go.IntKind.wrap Go.IntKind.i64 ((Go.IntKind.wrap Go.IntKind.i64 ((f131 (a0, ())).1.2.2.1 - (f131 (a0, ())).1.2.1)) + (1 : Int))), ())))))).1.getD (Int.toNat (0 : Int)) (0 : Int))))), ((16 : Int), ())))
  else none)
  else none)
  else none)
  else bif (p134 (a2.1, ())) then
  (bif (p132 (a0, ((f134 (a2.1, ())).1, ((0 : Int), ((0 : Int), ()))))) then
  (some ((Vx.orI Go.IntKind.u64 (f132 (a0, ((f134 (a2.1, ())).1, ((0 : Int), ((0 : Int), ()))))).1 (Go.IntKind.wrap Go.IntKind.u64 ((Vx.shlI Go.IntKind.u64 (Go.IntKind.wrap Go.IntKind.u64 (Go.IntKind.wrap Go.IntKind.i64 ((Go.IntKind.wrap Go.IntKind.i64 ((Go.IntKind.wrap Go.IntKind.i64 ((f131 (a0, ())).1.2.2.1 - (f131 (a0, ())).1.2.1)) + (1 : Int))) - (Go.IntKind.wrap Go.IntKind.i64 ((Go.IntKind.wrap Go.IntKind.i64 ((f131 (a0, ())).1.2.2.1 - (f131 (a0, ())).1.2.1)) + (1 : Int)))))) (Go.IntKind.wrap Go.IntKind.u64 (Go.IntKind.wrap Go.IntKind.i64 ((f131 (a0, ())).1.2.1 - (1 : Int))))) + (0 : Int)))), ((16 : Int), ())))
  else none)
  else none)
  else none)
  else none)
  else none)
  else bif (decide (((f137 (a1, (a2.1, (f136 ((a2.1, a2.2), ((Go.IntKind.wrap Go.IntKind.i64 ((Go.IntKind.wrap Go.IntKind.i64 ((f131 (a0, ())).1.2.2.1 - (f131 (a0, ())).1.2.1)) + (1 : Int))), ())))))).1.length : Int) > (0 : Int))) then
  (bif (decide ((0 : Int) < ((f137 (a1, (a2.1, (f136 ((a2.1, a2.2), ((Go.IntKind.wrap Go.IntKind.i64 ((Go.IntKind.wrap Go.IntKind.i64 ((f131 (a0, ())).1.2.2.1 - (f131 (a0, ())).1.2.1)) + (1 : Int))), ())))))).1.length : Int))) then
  (bif (p134 (a2.1, ())) then
  (bif (p132 (a0, ((f134 (a2.1, ())).1, ((0 : Int), ((0 : Int), ()))))) then
  (some ((Vx.orI Go.IntKind.u64 (f132 (a0, ((f134 (a2.1, ())).1, ((0 : Int), ((0 : Int), ()))))).1 (Go.IntKind.wrap Go.IntKind.u64 ((Vx.shlI Go.IntKind.u64 (Go.IntKind.wrap Go.IntKind.u64 (Go.IntKind.wrap Go.IntKind.i64 ((Go.IntKind.wrap Go.IntKind.i64 ((Go.IntKind.wrap Go.IntKind.i64 ((f131 (a0, ())).1.2.2.1 - (f131 (a0, ())).1.2.1)) + (1 : Int))) - (Go.IntKind.wrap Go.IntKind.i64 ((Go.IntKind.wrap Go.IntKind.i64 ((f131 (a0, ())).1.2.2.1 - (f131 (a0, ())).1.2.1)) + (1 : Int)))))) (Go.IntKind.wrap Go.IntKind.u64 (Go.IntKind.wrap Go.IntKind.i64 ((f131 (a0, ())).1.2.1 - (1 : Int))))) + ((f137 (a1, (a2.1, (f136 ((a2.1, a2.2), ((Go.IntKind.wrap Go.IntKind.i64 ((Go.IntKind.wrap Go.IntKind.i64 ((f131 (a0, ())).1.2.2.1 - (f131 (a0, ())).1.2.1)) + (1 : Int))), ())))))).1.getD (Int.toNat (0 : Int)) (0 : Int))))), ((0 : Int), ())))
  else none)
  else none)
  else none)
  else bif (p134 (a2.1, ())) then
  (bif (p132 (a0, ((f134 (a2.1, ())).1, ((0 : Int), ((0 : Int), ()))))) then
  (some ((Vx.orI Go.IntKind.u64 (f132 (a0, ((f134 (a2.1, ())).1, ((0 : Int), ((0 : Int), ()))))).1 (Go.IntKind.wrap Go.IntKind.u64 ((Vx.shlI Go.IntKind.u64 (Go.IntKind.wrap Go.IntKind.u64 (Go.IntKind.wrap Go.IntKind.i64 ((Go.IntKind.wrap Go.IntKind.i64 ((Go.IntKind.wrap Go.IntKind.i64 ((f131 (a0, ())).1.2.2.1 - (f131 (a0, ())).1.2.1)) + (1 : Int))) - (Go.IntKind.wrap Go.IntKind.i64 ((Go.IntKind.wrap Go.IntKind.i64 ((f131 (a0, ())).1.2.2.1 - (f131 (a0, ())).1.2.1)) + (1 : Int)))))) (Go.IntKind.wrap Go.IntKind.u64 (Go.IntKind.wrap Go.IntKind.i64 ((f131 (a0, ())).1.2.1 - (1 : Int))))) + (0 : Int)))), ((0 : Int), ())))
  else none)
  else none)
  else none)
  else none)
  else none)
  else bif (p136 ((a2.1, a2.2), ((Go.IntKind.wrap Go.IntKind.i64 ((Go.IntKind.wrap Go.IntKind.i64 ((f135 ((a2.1, a2.2), ())).1 - (f131 (a0, ())).1.2.1)) + (1 : Int))), ()))) then
  (bif (p137 (a1, (a2.1, (f136 ((a2.1, a2.2), ((Go.IntKind.wrap Go.IntKind.i64 ((Go.IntKind.wrap Go.IntKind.i64 ((f135 ((a2.1, a2.2), ())).1 - (f131 (a0, ())).1.2.1)) + (1 : Int))), ())))))) then
  (bif (p138 (f137 (a1, (a2.1, (f136 ((a2.1, a2.2), ((Go.IntKind.wrap Go.IntKind.i64 ((Go.IntKind.wrap Go.IntKind.i64 ((f135 ((a2.1, a2.2), ())).1 - (f131 (a0, ())).1.2.1)) + (1 : Int))), ()))))))) then
  (bif (decide ((Go.IntKind.wrap Go.IntKind.i64 ((f138 (f137 (a1, (a2.1, (f136 ((a2.1, a2.2), ((Go.IntKind.wrap Go.IntKind.i64 ((Go.IntKind.wrap Go.IntKind.i64 ((f135 ((a2.1, a2.2), ())).1 - (f131 (a0, ())).1.2.1)) + (1 : Int))), ()))))))).1 + (Go.IntKind.wrap Go.IntKind.i64 ((Go.IntKind.wrap Go.IntKind.i64 ((f135 ((a2.1, a2.2), ())).1 - (f131 (a0, ())).1.2.1)) + (1 : Int))))) > (Go.IntKind.wrap Go.IntKind.i64 ((f131 (a0, ())).1.2.2.2.1 + (1 : Int))))) then
  (bif (p139 (a0, (a1, (a2.1, ())))) then
  (some ((f139 (a0, (a1, (a2.1, ())))).1, ((20 : Int), ())))
  else none)
  else bif (decide ((f136 ((a2.1, a2.2), ((Go.IntKind.wrap Go.IntKind.i64 ((Go.IntKind.wrap Go.IntKind.i64 ((f135 ((a2.1, a2.2), ())).1 - (f131 (a0, ())).1.2.1)) + (1 : Int))), ()))).2.1 > (0 : Int))) then
  (bif (p136 ((a2.1, a2.2), ((Go.IntKind.wrap Go.IntKind.i64 ((Go.IntKind.wrap Go.IntKind.i64 ((f135 ((a2.1, a2.2), ())).1 - (f131 (a0, ())).1.2.1)) + (1 : Int))), ()))) then
  (bif (p137 (a1, (a2.1, (f136 ((a2.1, a2.2), ((Go.IntKind.wrap Go.IntKind.i64 ((Go.IntKind.wrap Go.IntKind.i64 ((f135 ((a2.1, a2.2), ())).1 - (f131 (a0, ())).1.2.1)) + (1 : Int))), ())))))) then
  (bif (p138 (f137 (a1, (a2.1, (f136 ((a2.1, a2.2), ((Go.IntKind.wrap Go.IntKind.i64 ((Go.IntKind.wrap Go.IntKind.i64 ((f135 ((a2.1, a2.2), ())).1 - (f131 (a0, ())).1.2.1)) + (1 : Int))), ()))))))) then
  (bif (decide ((Go.IntKind.wrap Go.IntKind.i64 ((Go.IntKind.wrap Go.IntKind.i64 ((Go.IntKind.wrap Go.IntKind.i64 ((f138 (f137 (a1, (a2.1, (f136 ((a2.1, a2.2), ((Go.IntKind.wrap Go.IntKind.i64 ((Go.IntKind.wrap Go.IntKind.i64 ((f135 ((a2.1, a2.2), ())).1 - (f131 (a0, ())).1.2.1)) + (1 : Int))), ()))))))).1 + (f135 ((a2.1, a2.2), ())).1)) - (f131 (a0, ())).1.2.1)) + (1 : Int))) ≤ (f131 (a0, ())).1.2.2.1)) then
  (bif (decide (((f137 (a1, (a2.1, (f136 ((a2.1, a2.2), ((Go.IntKind.wrap Go.IntKind.i64 ((Go.IntKind.wrap Go.IntKind.i64 ((f135 ((a2.1, a2.2), ())).1 - (f131 (a0, ())).1.2.1)) + (1 : Int))), ())))))).1.length : Int) > (0 : Int))) then
  (bif (decide ((0 : Int) < ((f137 (a1, (a2.1, (f136 ((a2.1, a2.2), ((Go.IntKind.wrap Go.IntKind.i64 ((Go.IntKind.wrap Go.IntKind.i64 ((f135 ((a2.1, a2.2), ())).1 - (f131 (a0, ())).1.2.1)) + (1 : Int))), ())))))).1.length : Int))) then
  (bif (p134 (a2.1, ())) then
  (bif (p132 (a0, ((f134 (a2.1, ())).1, ((0 : Int), ((0 : Int), ()))))) then
  (some ((Vx.orI Go.IntKind.u64 (f132 (a0, ((f134 (a2.1, ())).1, ((0 : Int), ((0 : Int), ()))))).1 (Go.IntKind.wrap Go.IntKind.u64 ((Vx.shlI Go.IntKind.u64 (Go.IntKind.wrap Go.IntKind.u64 (Go.IntKind.wrap Go.IntKind.i64 ((Go.IntKind.wrap Go.IntKind.i64 ((Go.IntKind.wrap Go.IntKind.i64 ((f135 ((a2.1, a2.2), ())).1 - (f131 (a0, ())).1.2.1)) + (1 : Int))) - (Go.IntKind.wrap Go.IntKind.i64 ((Go.IntKind.wrap Go.IntKind.i64 ((f131 (a0, ())).1.2.2.1 - (f131 (a0, ())).1.2.1)) + (1 : Int)))))) (Go.IntKind.wrap Go.IntKind.u64 (Go.IntKind.wrap Go.IntKind.i64 ((f131 (a0, ())).1.2.1 - (1 : Int))))) + ((f137 (a1, (a2.1, (f136 ((a2.1, a2.2), ((Go.IntKind.wrap Go.IntKind.i64 ((Go.IntKind.wrap Go.IntKind.i64 ((f135 ((a2.1, a2.2), ())).1 - (f131 (a0, ())).1.2.1)) + (1 : Int))), ())))))).1.getD (Int.toNat (0 : Int)) (0 : Int))))), ((24 : Int), ())))
  else none)
  else none)
  else none)
  else bif (p134 (a2.1, ())) then
  (bif (p132 (a0, ((f134 (a2.1, ())).1, ((0 : Int), ((0 : Int), ()))))) then
  (some ((Vx.orI Go.IntKind.u64 (f132 (a0, ((f134 (a2.1, ())).1, ((0 : Int), ((0 : Int), ()))))).1 (Go.IntKind.wrap Go.IntKind.u64 ((Vx.shlI Go.IntKind.u64 (Go.IntKind.wrap Go.IntKind.u64 (Go.IntKind.wrap Go.IntKind.i64 ((Go.IntKind.wrap Go.IntKind.i64 ((Go.IntKind.wrap Go.IntKind.i64 ((f135 ((a2.1, a2.2), ())).1 - (f131 (a0, ())).1.2.1)) + (1 : Int))) - (Go.IntKind.wrap Go.IntKind.i64 ((Go.IntKind.wrap Go.IntKind.i64 ((f131 (a0, ())).1.2.2.1 - (f131 (a0, ())).1.2.1)) + (1 : Int)))))) (Go.IntKind.wrap Go.IntKind.u64 (Go.IntKind.wrap Go.IntKind.i64 ((f131 (a0, ())).1.2.1 - (1 : Int))))) + (0 : Int)))), ((24 : Int), ())))
  else none)
  else none)
  else bif (decide (((f137 (a1, (a2.1, (f136 ((a2.1, a2.2), ((Go.IntKind.wrap Go.IntKind.i64 ((Go.IntKind.wrap Go.IntKind.i64 ((f135 ((a2.1, a2.2), ())).1 - (f131 (a0, ())).1.2.1)) + (1 : Int))), ())))))).1.length : Int) > (0 : Int))) then
  (bif (decide ((0 : Int) < ((f137 (a1, (a2.1, (f136 ((a2.1, a2.2), ((Go.IntKind.wrap Go.IntKind.i64 ((Go.IntKind.wrap Go.IntKind.i64 ((f135 ((a2.1, a2.2), ())).1 - (f131 (a0, ())).1.2.1)) + (1 : Int))), ())))))).1.length : Int))) then
  (bif (p134 (a2.1, ())) then
  (bif (p132 (a0, ((f134 (a2.1, ())).1, ((0 : Int), ((0 : Int), ()))))) then
  (some ((Vx.orI Go.IntKind.u64 (f132 (a0, ((f134 (a2.1, ())).1, ((0 : Int), ((0 : Int), ()))))).1 (Go.IntKind.wrap Go.IntKind.u64 ((Vx.shlI Go.IntKind.u64 (Go.IntKind.wrap Go.IntKind.u64 (Go.IntKind.wrap Go.IntKind.i64 ((Go.IntKind.wrap Go.IntKind.i64 ((Go.IntKind.wrap Go.IntKind.i64 ((f135 ((a2.1, a2.2), ())).1 - (f131 (a0, ())).1.2.1)) + (1 : Int))) - (Go.IntKind.wrap Go.IntKind.i64 ((Go.IntKind.wrap Go.IntKind.i64 ((f131 (a0, ())).1.2.2.1 - (f131 (a0, ())).1.2.1)) + (1 : Int)))))) (Go.IntKind.wrap Go.IntKind.u64 (Go.IntKind.wrap Go.IntKind.i64 ((f131 (a0, ())).1.2.1 - (1 : Int))))) + ((f137 (a1, (a2.1, (f136 ((a2.1, a2.2), ((Go.IntKind.wrap Go.IntKind.i64 ((Go.IntKind.wrap Go.IntKind.i64 ((f135 ((a2.1, a2.2), ())).1 - (f131 (a0, ())).1.2.1)) + (1 : Int))), ())))))).1.getD (Int.toNat (0 : Int)) (0 : Int))))), ((16 : Int), ())))
  else none)
  else none)
  else none)
  else bif (p134 (a2.1, ())) then
  (bif (p132 (a0, ((f134 (a2.1, ())).1, ((0 : Int), ((0 : Int), ()))))) then
  (some ((Vx.orI Go.IntKind.u64 (f132 (a0, ((f134 (a2.1, ())).1, ((0 : Int), ((0 : Int), ()))))).1 (Go.IntKind.wrap Go.IntKind.u64 ((Vx.shlI Go.IntKind.u64 (Go.IntKind.wrap Go.IntKind.u64 (Go.IntKind.wrap Go.IntKind.i64 ((Go.IntKind.wrap Go.IntKind.i64 ((Go.IntKind.wrap Go.IntKind.i64 ((f135 ((a2.1, a2.2), ())).1 - (f131 (a0, ())).1.2.1)) + (1 : Int))) - (Go.IntKind.wrap Go.IntKind.i64 ((Go.IntKind.wrap Go.IntKind.i64 ((f131 (a0, ())).1.2.2.1 - (f131 (a0, ())).1.2.1)) + (1 : Int)))))) (Go.IntKind.wrap Go.IntKind.u64 (Go.IntKind.wrap Go.IntKind.i64 ((f131 (a0, ())).1.2.1 - (1 : Int))))) + (0 : Int)))), ((16 : Int), ())))
  else none)
  else none)
  else none)
  else none)
  else none)
  else bif (decide (((f137 (a1, (a2.1, (f136 ((a2.1, a2.2), ((Go.IntKind.wrap Go.IntKind.i64 ((Go.IntKind.wrap Go.IntKind.i64 ((f135 ((a2.1, a2.2), ())).1 - (f131 (a0, ())).1.2.1)) + (1 : Int))), ())))))).1.length : Int) > (0 : Int))) then
  (bif (decide ((0 : Int) < ((f137 (a1, (a2.1, (f136 ((a2.1, a2.2), ((Go.IntKind.wrap Go.IntKind.i64 ((Go.IntKind.wrap Go.IntKind.i64 ((f135 ((a2.1, a2.2), ())).1 - (f131 (a0, ())).1.2.1)) + (1 : Int))), ())))))).1.length : Int))) then
  (bif (p134 (a2.1, ())) then
  (bif (p132 (a0, ((f134 (a2.1, ())).1, ((0 : Int), ((0 : Int), ()))))) then
  (some ((Vx.orI Go.IntKind.u64 (f132 (a0, ((f134 (a2.1, ())).1, ((0 : Int), ((0 : Int), ()))))).1 (Go.IntKind.wrap Go.IntKind.u64 ((Vx.shlI Go.IntKind.u64 (Go.IntKind.wrap Go.IntKind.u64 (Go.IntKind.wrap Go.IntKind.i64 ((Go.IntKind.wrap Go.IntKind.i64 ((Go.IntKind.wrap Go.IntKind.i64 ((f135 ((a2.1, a2.2), ())).1 - (f131 (a0, ())).1.2.1)) + (1 : Int))) - (Go.IntKind.wrap Go.IntKind.i64 ((Go.IntKind.wrap Go.IntKind.i64 ((f131 (a0, ())).1.2.2.1 - (f131 (a0, ())).1.2.1)) + (1 : Int)))))) (Go.IntKind.wrap Go.IntKind.u64 (Go.IntKind.wrap Go.IntKind.i64 ((f131 (a0, ())).1.2.1 - (1 : Int))))) + ((f137 (a1, (a2.1, (f136 ((a2.1, a2.2), ((Go.IntKind.wrap Go.IntKind.i64 ((Go.IntKind.wrap Go.IntKind.i64 ((f135 ((a2.1, a2.2), ())).1 - (f131 (a0, ())).1.2.1)) + (1 : Int))), ())))))).1.getD (Int.toNat (0 : Int)) (0 : Int))))), ((0 : Int), ())))
  else none)
  else none)
  else none)
  else bif (p134 (a2.1, ())) then
  (bif (p132 (a0, ((f134 (a2.1, ())).1, ((0 : Int), ((0 : Int), ()))))) then
  (some ((Vx.orI Go.IntKind.u64 (f132 (a0, ((f134 (a2.1, ())).1, ((0 : Int), ((0 : Int), ()))))).1 (Go.IntKind.wrap Go.IntKind.u64 ((Vx.shlI Go.IntKind.u64 (Go.IntKind.wrap Go.IntKind.u64 (Go.IntKind.wrap Go.IntKind.i64 ((Go.IntKind.wrap Go.IntKind.i64 ((Go.IntKind.wrap Go.IntKind.i64 ((f135 ((a2.1, a2.2), ())).1 - (f131 (a0, ())).1.2.1)) + (1 : Int))) - (Go.IntKind.wrap Go.IntKind.i64 ((Go.IntKind.wrap Go.IntKind.i64 ((f131 (a0, ())).1.2.2.1 - (f131 (a0, ())).1.2.1)) + (1 : Int)))))) (Go.IntKind.wrap Go.IntKind.u64 (Go.IntKind.wrap Go.IntKind.i64 ((f131 (a0, ())).1.2.1 - (1 : Int))))) + (0 : Int)))), ((0 : Int), ())))
  else none)
  else none)
  else none)
  else none)
  else none)
  else none)
  else none)
  else none
theorem r88 (p133 : DenS I133 → Bool) (f133 : DenS I133 → DenS O133) (p114 : DenS I114 → Bool) (f114 : DenS I114 → DenS O114) (p131 : DenS I131 → Bool) (f131 : DenS I131 → DenS O131) (p135 : DenS I135 → Bool) (f135 : DenS I135 → DenS O135) (p139 : DenS I139 → Bool) (f139 : DenS I139 → DenS O139) (p136 : DenS I136 → Bool) (f136 : DenS I136 → DenS O136) (p137 : DenS I137 → Bool) (f137 : DenS I137 → DenS O137) (p138 : DenS I138 → Bool) (f138 : DenS I138 → DenS O138) (p134 : DenS I134 → Bool) (f134 : DenS I134 → DenS O134) (p132 : DenS I132 → Bool) (f132 : DenS I132 → DenS O132) (a0 : Den (.int .i64)) (a1 : Den (.int .i64)) (a2 : Den (.pair (.bool) (.pair (.slice (.int .u64)) (.pair (.slice (.int .u64)) (.pair (.int .i64) (.unit)))))) :
    run { P := Go.Proofs.Tryz.prog, sums := [(127, ⟨I133, O133, p133, f133⟩), (128, ⟨I114, O114, p114, f114⟩), (112, ⟨I131, O131, p131, f131⟩), (130, ⟨I135, O135, p135, f135⟩), (133, ⟨I139, O139, p139, f139⟩), (131, ⟨I136, O136, p136, f136⟩), (132, ⟨I137, O137, p137, f137⟩), (65, ⟨I138, O138, p138, f138⟩), (129, ⟨I134, O134, p134, f134⟩), (114, ⟨I132, O132, p132, f132⟩)], loops := [], globs := G1 } 9 61 Go.Proofs.Tryz.f61 I88 O88 (a0, a1, a2, ()) = t88 p133 f133 p114 f114 p131 f131 p135 f135 p139 f139 p136 f136 p137 f137 p138 f138 p134 f134 p132 f132 a0 a1 a2 := by kernel_rfl
noncomputable def T88 (x : DenS I88) : Option (DenS O88) := t88 S133.pre S133.F S114.pre S114.F S131.pre S131.F S135.pre S135.F S139.pre S139.F S136.pre S136.F S137.pre S137.F S138.pre S138.F S134.pre S134.F S132.pre S132.F x.1 x.2.1 x.2.2.1
noncomputable def C88 : Cfg := { P := Go.Proofs.Tryz.prog, sums := [(127, S133), (128, S114), (112, S131), (130, S135), (133, S139), (131, S136), (132, S137), (65, S138), (129, S134), (114, S132)], loops := [], globs := G1 }
noncomputable def S88 : Sum := sumOf I88 O88 T88 (DenS.dflt O88)
theorem S88_sound : Sound Go.Proofs.Tryz.prog G1 61 S88 :=
  fn_sound C88 9 61 Go.Proofs.Tryz.f61 mixedOk (by kernel_rfl) (by kernel_rfl) (by kernel_rfl) ⟨S133_sound, ⟨S114_sound, ⟨S131_sound, ⟨S135_sound, ⟨S139_sound, ⟨S136_sound, ⟨S137_sound, ⟨S138_sound, ⟨S134_sound, ⟨S132_sound, trivial⟩⟩⟩⟩⟩⟩⟩⟩⟩⟩ trivial I88 O88 T88 _ (fun x => r88 S133.pre S133.F S114.pre S114.F S131.pre S131.F S135.pre S135.F S139.pre S139.F S136.pre S136.F S137.pre S137.F S138.pre S138.F S134.pre S134.F S132.pre S132.F x.1 x.2.1 x.2.2.1)
/-- vernier/vernierref13.Ulp -/
abbrev I372 : Sig := [(false, .int .i64), (false, .int .u64)]
abbrev O372 : Sig := [(false, .int .u64), (false, .int .i64), (false, .int .i64)]
noncomputable def t372 (p108 : DenS I108 → Bool) (f108 : DenS I108 → DenS O108) (p56 : DenS I56 → Bool) (f56 : DenS I56 → DenS O56) (p84 : DenS I84 → Bool) (f84 : DenS I84 → DenS O84) (p85 : DenS I85 → Bool) (f85 : DenS I85 → DenS O85) (p169 : DenS I169 → Bool) (f169 : DenS I169 → DenS O169) (p87 : DenS I87 → Bool) (f87 : DenS I87 → DenS O87) (p89 : DenS I89 → Bool) (f89 : DenS I89 → DenS O89) (p88 : DenS I88 → Bool) (f88 : DenS I88 → DenS O88) (a0 : Den (.int .i64)) (a1 : Den (.int .u64)) : Option (DenS O372) :=
  let e2_ := (false, (((1 : Int) :: []), (f87 (a0, (a1, ()))).2))
  let e1_ := (a0, ((0 : Int), (f89 e2_)))
  bif (p108 (a0, (a1, ()))) then
  (bif ((f108 (a0, (a1, ()))).1 != (0 : Int)) then
  (some ((0 : Int), ((0 : Int), (f108 (a0, (a1, ()))))))
  else bif (p56 (a0, ((a1 :: []), ()))) then
  (bif (f56 (a0, ((a1 :: []), ()))).1 then
  (bif (p84 (a0, ())) then
  (some ((f84 (a0, ())).1, ((f56 (a0, ((a1 :: []), ()))).2.1, ((0 : Int), ()))))
  else none)
  else bif (p85 (a0, (a1, ()))) then
  (bif (f85 (a0, (a1, ()))).1 then
  (bif (p169 (a0, ((0 : Int), ()))) then
  (some ((f169 (a0, ((0 : Int), ()))).1, ((0 : Int), ((0 : Int), ()))))
  else none)
  else bif (p87 (a0, (a1, ()))) then
  (bif (p89 e2_) then
  (bif (p88 e1_) then
  (some ((f88 e1_).1, ((0 : Int), ((0 : Int), ()))))
  else none)
  else none)
  else none)
  else none)
  else none)
  else none
theorem r372 (p108 : DenS I108 → Bool) (f108 : DenS I108 → DenS O108) (p56 : DenS I56 → Bool) (f56 : DenS I56 → DenS O56) (p84 : DenS I84 → Bool) (f84 : DenS I84 → DenS O84) (p85 : DenS I85 → Bool) (f85 : DenS I85 → DenS O85) (p169 : DenS I169 → Bool) (f169 : DenS I169 → DenS O169) (p87 : DenS I87 → Bool) (f87 : DenS I87 → DenS O87) (p89 : DenS I89 → Bool) (f89 : DenS I89 → DenS O89) (p88 : DenS I88 → Bool) (f88 : DenS I88 → DenS O88) (a0 : Den (.int .i64)) (a1 : Den (.int .u64)) :
    run { P := Go.Proofs.Tryz.prog, sums := [(45, ⟨I108, O108, p108, f108⟩), (46, ⟨I56, O56, p56, f56⟩), (47, ⟨I84, O84, p84, f84⟩), (58, ⟨I85, O85, p85, f85⟩), (59, ⟨I169, O169, p169, f169⟩), (60, ⟨I87, O87, p87, f87⟩), (62, ⟨I89, O89, p89, f89⟩), (61, ⟨I88, O88, p88, f88⟩)], loops := [], globs := G1 } 9 14 Go.Proofs.Tryz.f14 I372 O372 (a0, a1, ()) = t372 p108 f108 p56 f56 p84 f84 p85 f85 p169 f169 p87 f87 p89 f89 p88 f88 a0 a1 := by kernel_rfl
noncomputable def T372 (x : DenS I372) : Option (DenS O372) := t372 S108.pre S108.F S56.pre S56.F S84.pre S84.F S85.pre S85.F S169.pre S169.F S87.pre S87.F S89.pre S89.F S88.pre S88.F x.1 x.2.1
noncomputable def C372 : Cfg := { P := Go.Proofs.Tryz.prog, sums := [(45, S108), (46, S56), (47, S84), (58, S85), (59, S169), (60, S87), (62, S89), (61, S88)], loops := [], globs := G1 }
noncomputable def S372 : Sum := sumOf I372 O372 T372 (DenS.dflt O372)
theorem S372_sound : Sound Go.Proofs.Tryz.prog G1 14 S372 :=
  fn_sound C372 9 14 Go.Proofs.Tryz.f14 mixedOk (by kernel_rfl) (by kernel_rfl) (by kernel_rfl) ⟨S108_sound, ⟨S56_sound, ⟨S84_sound, ⟨S85_sound, ⟨S169_sound, ⟨S87_sound, ⟨S89_sound, ⟨S88_sound, trivial⟩⟩⟩⟩⟩⟩⟩⟩ trivial I372 O372 T372 _ (fun x => r372 S108.pre S108.F S56.pre S56.F S84.pre S84.F S85.pre S85.F S169.pre S169.F S87.pre S87.F S89.pre S89.F S88.pre S88.F x.1 x.2.1)
/-- vernier/format.Value -/
abbrev I40 : Sig := [(false, .int .i64), (false, .int .u64)]
abbrev O40 : Sig := [(true, .pair (.bool) (.pair (.slice (.int .u64)) (.pair (.int .i64) (.unit)))), (false, .int .i64)]
noncomputable def t40 (p66 : DenS I66 → Bool) (f66 : DenS I66 → DenS O66) (p90 : DenS I90 → Bool) (f90 : DenS I90 → DenS O90) (p91 : DenS I91 → Bool) (f91 : DenS I91 → DenS O91) (p92 : DenS I92 → Bool) (f92 : DenS I92 → DenS O92) (a0 : Den (.int .i64)) (a1 : Den (.int .u64)) : Option (DenS O40) :=
  bif (p66 (a0, (a1, ()))) then
  (bif ((f66 (a0, (a1, ()))).1 != (0 : Int)) then
  (some ((false, ([], ((0 : Int), ()))), (f66 (a0, (a1, ())))))
  else bif (bif (decide ((0 : Int) ≤ a0)) then (decide (a0 < ((4 : Nat) : Int))) else false) then
  (bif (p90 ((Vx.k_rows.getD (Int.toNat a0) ((0 : Int), ((0 : Int), ((0 : Int), ((0 : Int), ()))))), (a1, ()))) then
  (bif (p91 ((Go.IntKind.wrap Go.IntKind.i64 ((Vx.k_rows.getD (Int.toNat a0) ((0 : Int), ((0 : Int), ((0 : Int), ((0 : Int), ()))))).1 - (Vx.k_rows.getD (Int.toNat a0) ((0 : Int), ((0 : Int), ((0 : Int), ((0 : Int), ()))))).2.1)), ())) then
  (bif ((f90 ((Vx.k_rows.getD (Int.toNat a0) ((0 : Int), ((0 : Int), ((0 : Int), ((0 : Int), ()))))), (a1, ()))).2.1 == (f91 ((Go.IntKind.wrap Go.IntKind.i64 ((Vx.k_rows.getD (Int.toNat a0) ((0 : Int), ((0 : Int), ((0 : Int), ((0 : Int), ()))))).1 - (Vx.k_rows.getD (Int.toNat a0) ((0 : Int), ((0 : Int), ((0 : Int), ((0 : Int), ()))))).2.1)), ())).1) then
  (some ((false, ([], ((0 : Int), ()))), ((40 : Int), ())))
  else bif ((f90 ((Vx.k_rows.getD (Int.toNat a0) ((0 : Int), ((0 : Int), ((0 : Int), ((0 : Int), ()))))), (a1, ()))).2.1 == (0 : Int)) then
  (bif ((f90 ((Vx.k_rows.getD (Int.toNat a0) ((0 : Int), ((0 : Int), ((0 : Int), ((0 : Int), ()))))), (a1, ()))).2.2.1 == (0 : Int)) then
  (some ((false, ([], ((0 : Int), ()))), ((0 : Int), ())))
  else bif (p92 (f90 ((Vx.k_rows.getD (Int.toNat a0) ((0 : Int), ((0 : Int), ((0 : Int), ((0 : Int), ()))))), (a1, ()))).2.2) then
  (bif (decide ((0 : Int) ≤ (f92 (f90 ((Vx.k_rows.getD (Int.toNat a0) ((0 : Int), ((0 : Int), ((0 : Int), ((0 : Int), ()))))), (a1, ()))).2.2).1)) then
  (some (((f90 ((Vx.k_rows.getD (Int.toNat a0) ((0 : Int), ((0 : Int), ((0 : Int), ((0 : Int), ()))))), (a1, ()))).1, (((Vx.shrI Go.IntKind.u64 (f90 ((Vx.k_rows.getD (Int.toNat a0) ((0 : Int), ((0 : Int), ((0 : Int), ((0 : Int), ()))))), (a1, ()))).2.2.1 (f92 (f90 ((Vx.k_rows.getD (Int.toNat a0) ((0 : Int), ((0 : Int), ((0 : Int), ((0 : Int), ()))))), (a1, ()))).2.2).1) :: []), ((Go.IntKind.wrap Go.IntKind.i64 ((Go.IntKind.wrap Go.IntKind.i64 ((Go.IntKind.wrap Go.IntKind.i64 ((Go.IntKind.wrap Go.IntKind.i64 ((Go.IntKind.wrap Go.IntKind.i64 ((Go.IntKind.wrap Go.IntKind.i64 (1 : Int)) - (1 : Int))) + (Vx.k_rows.getD (Int.toNat a0) ((0 : Int), ((0 : Int), ((0 : Int), ((0 : Int), ()))))).2.2.1)) - (Vx.k_rows.getD (Int.toNat a0) ((0 : Int), ((0 : Int), ((0 : Int), ((0 : Int), ()))))).2.1)) + (1 : Int))) + (f92 (f90 ((Vx.k_rows.getD (Int.toNat a0) ((0 : Int), ((0 : Int), ((0 : Int), ((0 : Int), ()))))), (a1, ()))).2.2).1)), ()))), ((0 : Int), ())))
  else none)
  else none)
  else bif (decide ((0 : Int) ≤ (Go.IntKind.wrap Go.IntKind.i64 ((Vx.k_rows.getD (Int.toNat a0) ((0 : Int), ((0 : Int), ((0 : Int), ((0 : Int), ()))))).2.1 - (1 : Int))))) then
  (bif ((Vx.orI Go.IntKind.u64 (f90 ((Vx.k_rows.getD (Int.toNat a0) ((0 : Int), ((0 : Int), ((0 : Int), ((0 : Int), ()))))), (a1, ()))).2.2.1 (Vx.shlI Go.IntKind.u64 (1 : Int) (Go.IntKind.wrap Go.IntKind.i64 ((Vx.k_rows.getD (Int.toNat a0) ((0 : Int), ((0 : Int), ((0 : Int), ((0 : Int), ()))))).2.1 - (1 : Int))))) == (0 : Int)) then
  (some ((false, ([], ((0 : Int), ()))), ((0 : Int), ())))
  else bif (p92 ((Vx.orI Go.IntKind.u64 (f90 ((Vx.k_rows.getD (Int.toNat a0) ((0 : Int), ((0 : Int), ((0 : Int), ((0 : Int), ()))))), (a1, ()))).2.2.1 (Vx.shlI Go.IntKind.u64 (1 : Int) (Go.IntKind.wrap Go.IntKind.i64 ((Vx.k_rows.getD (Int.toNat a0) ((0 : Int), ((0 : Int), ((0 : Int), ((0 : Int), ()))))).2.1 - (1 : Int))))), ())) then
  (bif (decide ((0 : Int) ≤ (f92 ((Vx.orI Go.IntKind.u64 (f90 ((Vx.k_rows.getD (Int.toNat a0) ((0 : Int), ((0 : Int), ((0 : Int), ((0 : Int), ()))))), (a1, ()))).2.2.1 (Vx.shlI Go.IntKind.u64 (1 : Int) (Go.IntKind.wrap Go.IntKind.i64 ((Vx.k_rows.getD (Int.toNat a0) ((0 : Int), ((0 : Int), ((0 : Int), ((0 : Int), ()))))).2.1 - (1 : Int))))), ())).1)) then
  (some (((f90 ((Vx.k_rows.getD (Int.toNat a0) ((0 : Int), ((0 : Int), ((0 : Int), ((0 : Int), ()))))), (a1, ()))).1, (((Vx.shrI Go.IntKind.u64 (Vx.orI Go.IntKind.u64 (f90 ((Vx.k_rows.getD (Int.toNat a0) ((0 : Int), ((0 : Int), ((0 : Int), ((0 : Int), ()))))), (a1, ()))).2.2.1 (Vx.shlI Go.IntKind.u64 (1 : Int) (Go.IntKind.wrap Go.IntKind.i64 ((Vx.k_rows.getD (Int.toNat a0) ((0 : Int), ((0 : Int), ((0 : Int), ((0 : Int), ()))))).2.1 - (1 : Int))))) (f92 ((Vx.orI Go.IntKind.u64 (f90 ((Vx.k_rows.getD (Int.toNat a0) ((0 : Int), ((0 : Int), ((0 : Int), ((0 : Int), ()))))), (a1, ()))).2.2.1 (Vx.shlI Go.IntKind.u64 (1 : Int) (Go.IntKind.wrap Go.IntKind.i64 ((Vx.k_rows.getD (Int.toNat a0) ((0 : Int), ((0 : Int), ((0 : Int), ((0 : Int), ()))))).2.1 - (1 : Int))))), ())).1) :: []), ((Go.IntKind.wrap Go.IntKind.i64 ((Go.IntKind.wrap Go.IntKind.i64 ((Go.IntKind.wrap Go.IntKind.i64 ((Go.IntKind.wrap Go.IntKind.i64 ((Go.IntKind.wrap Go.IntKind.i64 ((Go.IntKind.wrap Go.IntKind.i64 (f90 ((Vx.k_rows.getD (Int.toNat a0) ((0 : Int), ((0 : Int), ((0 : Int), ((0 : Int), ()))))), (a1, ()))).2.1) - (1 : Int))) + (Vx.k_rows.getD (Int.toNat a0) ((0 : Int), ((0 : Int), ((0 : Int), ((0 : Int), ()))))).2.2.1)) - (Vx.k_rows.getD (Int.toNat a0) ((0 : Int), ((0 : Int), ((0 : Int), ((0 : Int), ()))))).2.1)) + (1 : Int))) + (f92 ((Vx.orI Go.IntKind.u64 (f90 ((Vx.k_rows.getD (Int.toNat a0) ((0 : Int), ((0 : Int), ((0 : Int), ((0 : Int), ()))))), (a1, ()))).2.2.1 (Vx.shlI Go.IntKind.u64 (1 : Int) (Go.IntKind.wrap Go.IntKind.i64 ((Vx.k_rows.getD (Int.toNat a0) ((0 : Int), ((0 : Int), ((0 : Int), ((0 : Int), ()))))).2.1 - (1 : Int))))), ())).1)), ()))), ((0 : Int), ())))
  else none)
  else none)
  else none)
  else none)
  else none)
  else none)
  else none
theorem r40 (p66 : DenS I66 → Bool) (f66 : DenS I66 → DenS O66) (p90 : DenS I90 → Bool) (f90 : DenS I90 → DenS O90) (p91 : DenS I91 → Bool) (f91 : DenS I91 → DenS O91) (p92 : DenS I92 → Bool) (f92 : DenS I92 → DenS O92) (a0 : Den (.int .i64)) (a1 : Den (.int .u64)) :
    run { P := Go.Proofs.Tryz.prog, sums := [(83, ⟨I66, O66, p66, f66⟩), (122, ⟨I90, O90, p90, f90⟩), (134, ⟨I91, O91, p91, f91⟩), (135, ⟨I92, O92, p92, f92⟩)], loops := [], globs := G1 } 9 63 Go.Proofs.Tryz.f63 I40 O40 (a0, a1, ()) = t40 p66 f66 p90 f90 p91 f91 p92 f92 a0 a1 := by kernel_rfl
noncomputable def T40 (x : DenS I40) : Option (DenS O40) := t40 S66.pre S66.F S90.pre S90.F S91.pre S91.F S92.pre S92.F x.1 x.2.1
noncomputable def C40 : Cfg := { P := Go.Proofs.Tryz.prog, sums := [(83, S66), (122, S90), (134, S91), (135, S92)], loops := [], globs := G1 }
noncomputable def S40 : Sum := sumOf I40 O40 T40 (DenS.dflt O40)
theorem S40_sound : Sound Go.Proofs.Tryz.prog G1 63 S40 :=
  fn_sound C40 9 63 Go.Proofs.Tryz.f63 mixedOk (by kernel_rfl) (by kernel_rfl) (by kernel_rfl) ⟨S66_sound, ⟨S90_sound, ⟨S91_sound, ⟨S92_sound, trivial⟩⟩⟩⟩ trivial I40 O40 T40 _ (fun x => r40 S66.pre S66.F S90.pre S90.F S91.pre S91.F S92.pre S92.F x.1 x.2.1)
/-- vernier/order.LogB -/
abbrev I373 : Sig := [(false, .int .i64), (false, .int .u64)]
abbrev O373 : Sig := [(false, .int .i64), (false, .int .i64)]
abbrev P373_8 : Pat := ⟨36, [(9, .one (.v .u64)), (8, .one (.v .i64))], []⟩
abbrev A373_8 : List (Nat × Shape) := []
abbrev X373_8 : List (Nat × Pat) := [(0, ⟨36, [(8, .one (.v .i64))], []⟩)]
abbrev Q373_8 : Option Pat := none
noncomputable def h373_8 (p40 : DenS I40 → Bool) (f40 : DenS I40 → DenS O40) {R : Type} (L : Pat.D P373_8 → Option R) (e : OutT X373_8 Q373_8 → Option R) (x : Pat.D P373_8) : Option R :=
  bif (decide (x.1.1 > (1 : Int))) then
  ((L (((Vx.shrI Go.IntKind.u64 x.1.1 (1 : Int)), ((Go.IntKind.wrap Go.IntKind.i64 (x.1.2.1 + (1 : Int))), ())), ())))
  else (e (.inl (x.1.2, ())))
theorem s373_8 (p40 : DenS I40 → Bool) (f40 : DenS I40 → DenS O40) (w373_8 : Pat.D P373_8 → Option (OutT X373_8 Q373_8)) (d : Nat) (R : Type) (L : Pat.D P373_8 → Option R) (e : OutT X373_8 Q373_8 → Option R) (x : Pat.D P373_8) :
    lStep { P := Go.Proofs.Tryz.prog, sums := [(63, ⟨I40, O40, p40, f40⟩)], loops := [(15, 8, LoopSpec.of P373_8 A373_8 X373_8 Q373_8 w373_8)], globs := G1 } (d + 2) 15 (bodyOf Go.Proofs.Tryz.f15 8) P373_8 A373_8 X373_8 Q373_8 (R := R) L e x = h373_8 p40 f40 L e x := by kernel_rfl
theorem m373_8 (p40 : DenS I40 → Bool) (f40 : DenS I40 → DenS O40) : Par fun L e x => h373_8 p40 f40 L e x := by
  intro A B rel L L' e e' h0 hL he x
  unfold h373_8
  repeat' (first | exact h0 | exact hL _ | exact he _ | apply rel_cond | (apply rel_obind h0; intro _) | (apply rel_obind2 <;> intro _))
noncomputable def t373 (p40 : DenS I40 → Bool) (f40 : DenS I40 → DenS O40) (w373_8 : Pat.D P373_8 → Option (OutT X373_8 Q373_8)) (a0 : Den (.int .i64)) (a1 : Den (.int .u64)) : Option (DenS O373) :=
  bif (p40 (a0, (a1, ()))) then
  (bif ((f40 (a0, (a1, ()))).2.1 != (0 : Int)) then
  (some ((0 : Int), (f40 (a0, (a1, ()))).2))
  else bif (((f40 (a0, (a1, ()))).1.2.1.length : Int) == (0 : Int)) then
  (some ((0 : Int), ((31 : Int), ())))
  else bif (decide ((0 : Int) < ((f40 (a0, (a1, ()))).1.2.1.length : Int))) then
  (Vx.obind (w373_8 ((((f40 (a0, (a1, ()))).1.2.1.getD (Int.toNat (0 : Int)) (0 : Int)), (f40 (a0, (a1, ()))).1.2.2), ())) fun y4 =>
  Vx.obind2 y4 (fun y5 =>
  some (y5.1.1, ((0 : Int), ()))) (fun z5 =>
  none))
  else none)
  else none
theorem r373 (p40 : DenS I40 → Bool) (f40 : DenS I40 → DenS O40) (w373_8 : Pat.D P373_8 → Option (OutT X373_8 Q373_8)) (a0 : Den (.int .i64)) (a1 : Den (.int .u64)) :
    run { P := Go.Proofs.Tryz.prog, sums := [(63, ⟨I40, O40, p40, f40⟩)], loops := [(15, 8, LoopSpec.of P373_8 A373_8 X373_8 Q373_8 w373_8)], globs := G1 } 9 15 Go.Proofs.Tryz.f15 I373 O373 (a0, a1, ()) = t373 p40 f40 w373_8 a0 a1 := by kernel_rfl
noncomputable def W373_8 : P373_8.D → Option (OutT X373_8 Q373_8) := lfix fun L => h373_8 S40.pre S40.F L some
noncomputable def T373 (x : DenS I373) : Option (DenS O373) := t373 S40.pre S40.F W373_8 x.1 x.2.1
noncomputable def C373 : Cfg := { P := Go.Proofs.Tryz.prog, sums := [(63, S40)], loops := [(15, 8, LoopSpec.of P373_8 A373_8 X373_8 Q373_8 W373_8)], globs := G1 }
noncomputable def S373 : Sum := sumOf I373 O373 T373 (DenS.dflt O373)
theorem S373_sound : Sound Go.Proofs.Tryz.prog G1 15 S373 :=
  fn_sound C373 9 15 Go.Proofs.Tryz.f15 mixedOk (by kernel_rfl) (by kernel_rfl) (by kernel_rfl) ⟨S40_sound, trivial⟩ ⟨rfl, fun d => loopOk_of (fun L e x => h373_8 S40.pre S40.F L e x) (m373_8 S40.pre S40.F) (fun R L e x => s373_8 S40.pre S40.F W373_8 d R L e x), trivial⟩ I373 O373 T373 _ (fun x => r373 S40.pre S40.F W373_8 x.1 x.2.1)
/-- vernier/vernierref13.LogB -/
abbrev I374 : Sig := [(false, .int .i64), (false, .int .u64)]
abbrev O374 : Sig := [(false, .int .i64), (false, .int .i64)]
noncomputable def t374 (p108 : DenS I108 → Bool) (f108 : DenS I108 → DenS O108) (p109 : DenS I109 → Bool) (f109 : DenS I109 → DenS O109) (p85 : DenS I85 → Bool) (f85 : DenS I85 → DenS O85) (p87 : DenS I87 → Bool) (f87 : DenS I87 → DenS O87) (p138 : DenS I138 → Bool) (f138 : DenS I138 → DenS O138) (a0 : Den (.int .i64)) (a1 : Den (.int .u64)) : Option (DenS O374) :=
  bif (p108 (a0, (a1, ()))) then
  (bif ((f108 (a0, (a1, ()))).1 != (0 : Int)) then
  (some ((0 : Int), (f108 (a0, (a1, ())))))
  else bif (p109 (a0, (a1, ()))) then
  (bif ((p85 (a0, (a1, ()))) || (!(bif (f109 (a0, (a1, ()))).1 then false else true))) then
  (bif ((f109 (a0, (a1, ()))).1 || (f85 (a0, (a1, ()))).1) then
  (some ((0 : Int), ((40 : Int), ())))
  else bif (p87 (a0, (a1, ()))) then
  (bif ((f87 (a0, (a1, ()))).1 == (0 : Int)) then
  (some ((0 : Int), ((31 : Int), ())))
  else bif (p138 (((f87 (a0, (a1, ()))).1 :: []), ())) then
  (some ((Go.IntKind.wrap Go.IntKind.i64 ((Go.IntKind.wrap Go.IntKind.i64 ((f138 (((f87 (a0, (a1, ()))).1 :: []), ())).1 - (1 : Int))) + (f87 (a0, (a1, ()))).2.1)), ((0 : Int), ())))
  else none)
  else none)
  else none)
  else none)
  else none
theorem r374 (p108 : DenS I108 → Bool) (f108 : DenS I108 → DenS O108) (p109 : DenS I109 → Bool) (f109 : DenS I109 → DenS O109) (p85 : DenS I85 → Bool) (f85 : DenS I85 → DenS O85) (p87 : DenS I87 → Bool) (f87 : DenS I87 → DenS O87) (p138 : DenS I138 → Bool) (f138 : DenS I138 → DenS O138) (a0 : Den (.int .i64)) (a1 : Den (.int .u64)) :
    run { P := Go.Proofs.Tryz.prog, sums := [(45, ⟨I108, O108, p108, f108⟩), (64, ⟨I109, O109, p109, f109⟩), (58, ⟨I85, O85, p85, f85⟩), (60, ⟨I87, O87, p87, f87⟩), (65, ⟨I138, O138, p138, f138⟩)], loops := [], globs := G1 } 9 16 Go.Proofs.Tryz.f16 I374 O374 (a0, a1, ()) = t374 p108 f108 p109 f109 p85 f85 p87 f87 p138 f138 a0 a1 := by kernel_rfl
noncomputable def T374 (x : DenS I374) : Option (DenS O374) := t374 S108.pre S108.F S109.pre S109.F S85.pre S85.F S87.pre S87.F S138.pre S138.F x.1 x.2.1
noncomputable def C374 : Cfg := { P := Go.Proofs.Tryz.prog, sums := [(45, S108), (64, S109), (58, S85), (60, S87), (65, S138)], loops := [], globs := G1 }
noncomputable def S374 : Sum := sumOf I374 O374 T374 (DenS.dflt O374)
theorem S374_sound : Sound Go.Proofs.Tryz.prog G1 16 S374 :=
  fn_sound C374 9 16 Go.Proofs.Tryz.f16 mixedOk (by kernel_rfl) (by kernel_rfl) (by kernel_rfl) ⟨S108_sound, ⟨S109_sound, ⟨S85_sound, ⟨S87_sound, ⟨S138_sound, trivial⟩⟩⟩⟩⟩ trivial I374 O374 T374 _ (fun x => r374 S108.pre S108.F S109.pre S109.F S85.pre S85.F S87.pre S87.F S138.pre S138.F x.1 x.2.1)
/-- vernier/vernierlaw13.OrderSteps -/
abbrev I375 : Sig := [(false, .int .i64), (false, .int .u64)]
abbrev O375 : Sig := [(false, .bool)]
noncomputable def t375 (p41 : DenS I41 → Bool) (f41 : DenS I41 → DenS O41) (p369 : DenS I369 → Bool) (f369 : DenS I369 → DenS O369) (p16 : DenS I16 → Bool) (f16 : DenS I16 → DenS O16) (p42 : DenS I42 → Bool) (f42 : DenS I42 → DenS O42) (p371 : DenS I371 → Bool) (f371 : DenS I371 → DenS O371) (p45 : DenS I45 → Bool) (f45 : DenS I45 → DenS O45) (p372 : DenS I372 → Bool) (f372 : DenS I372 → DenS O372) (p373 : DenS I373 → Bool) (f373 : DenS I373 → DenS O373) (p374 : DenS I374 → Bool) (f374 : DenS I374 → DenS O374) (a0 : Den (.int .i64)) (a1 : Den (.int .u64)) : Option (DenS O375) :=
  bif (p41 (a0, (a1, ()))) then
  (bif (p369 (a0, (a1, ()))) then
  (bif (p16 ()) then
  (bif ((((!(f16 ()).1) || ((f41 (a0, (a1, ()))).1 != (f369 (a0, (a1, ()))).1)) || ((f41 (a0, (a1, ()))).2.1 != (f369 (a0, (a1, ()))).2.1)) || ((f41 (a0, (a1, ()))).2.2.1 != (f369 (a0, (a1, ()))).2.2.1)) then
  (some (false, ()))
  else bif (p42 (a0, (a1, ()))) then
  (bif (p371 (a0, (a1, ()))) then
  (bif ((((f42 (a0, (a1, ()))).1 != (f371 (a0, (a1, ()))).1) || ((f42 (a0, (a1, ()))).2.1 != (f371 (a0, (a1, ()))).2.1)) || ((f42 (a0, (a1, ()))).2.2.1 != (f371 (a0, (a1, ()))).2.2.1)) then
  (some (false, ()))
  else bif (p45 (a0, (a1, ()))) then
  (bif (p372 (a0, (a1, ()))) then
  (bif ((((f45 (a0, (a1, ()))).1 != (f372 (a0, (a1, ()))).1) || ((f45 (a0, (a1, ()))).2.1 != (f372 (a0, (a1, ()))).2.1)) || ((f45 (a0, (a1, ()))).2.2.1 != (f372 (a0, (a1, ()))).2.2.1)) then
  (some (false, ()))
  else bif (p373 (a0, (a1, ()))) then
  (bif (p374 (a0, (a1, ()))) then
  (some ((((f373 (a0, (a1, ()))).1 == (f374 (a0, (a1, ()))).1) && ((f373 (a0, (a1, ()))).2.1 == (f374 (a0, (a1, ()))).2.1)), ()))
  else none)
  else none)
  else none)
  else none)
  else none)
  else none)
  else none)
  else none)
  else none
theorem r375 (p41 : DenS I41 → Bool) (f41 : DenS I41 → DenS O41) (p369 : DenS I369 → Bool) (f369 : DenS I369 → DenS O369) (p16 : DenS I16 → Bool) (f16 : DenS I16 → DenS O16) (p42 : DenS I42 → Bool) (f42 : DenS I42 → DenS O42) (p371 : DenS I371 → Bool) (f371 : DenS I371 → DenS O371) (p45 : DenS I45 → Bool) (f45 : DenS I45 → DenS O45) (p372 : DenS I372 → Bool) (f372 : DenS I372 → DenS O372) (p373 : DenS I373 → Bool) (f373 : DenS I373 → DenS O373) (p374 : DenS I374 → Bool) (f374 : DenS I374 → DenS O374) (a0 : Den (.int .i64)) (a1 : Den (.int .u64)) :
    run { P := Go.Proofs.Tryz.prog, sums := [(8, ⟨I41, O41, p41, f41⟩), (9, ⟨I369, O369, p369, f369⟩), (10, ⟨I16, O16, p16, f16⟩), (11, ⟨I42, O42, p42, f42⟩), (12, ⟨I371, O371, p371, f371⟩), (13, ⟨I45, O45, p45, f45⟩), (14, ⟨I372, O372, p372, f372⟩), (15, ⟨I373, O373, p373, f373⟩), (16, ⟨I374, O374, p374, f374⟩)], loops := [], globs := G1 } 9 3 Go.Proofs.Tryz.f3 I375 O375 (a0, a1, ()) = t375 p41 f41 p369 f369 p16 f16 p42 f42 p371 f371 p45 f45 p372 f372 p373 f373 p374 f374 a0 a1 := by kernel_rfl
noncomputable def T375 (x : DenS I375) : Option (DenS O375) := t375 S41.pre S41.F S369.pre S369.F S16.pre S16.F S42.pre S42.F S371.pre S371.F S45.pre S45.F S372.pre S372.F S373.pre S373.F S374.pre S374.F x.1 x.2.1
noncomputable def C375 : Cfg := { P := Go.Proofs.Tryz.prog, sums := [(8, S41), (9, S369), (10, S16), (11, S42), (12, S371), (13, S45), (14, S372), (15, S373), (16, S374)], loops := [], globs := G1 }
noncomputable def S375 : Sum := sumOf I375 O375 T375 (DenS.dflt O375)
theorem S375_sound : Sound Go.Proofs.Tryz.prog G1 3 S375 :=
  fn_sound C375 9 3 Go.Proofs.Tryz.f3 mixedOk (by kernel_rfl) (by kernel_rfl) (by kernel_rfl) ⟨S41_sound, ⟨S369_sound, ⟨S16_sound, ⟨S42_sound, ⟨S371_sound, ⟨S45_sound, ⟨S372_sound, ⟨S373_sound, ⟨S374_sound, trivial⟩⟩⟩⟩⟩⟩⟩⟩⟩ trivial I375 O375 T375 _ (fun x => r375 S41.pre S41.F S369.pre S369.F S16.pre S16.F S42.pre S42.F S371.pre S371.F S45.pre S45.F S372.pre S372.F S373.pre S373.F S374.pre S374.F x.1 x.2.1)
end Vx
namespace Vx
open Go
theorem sum_pre {I O : Sig} {T : DenS I → Option (DenS O)} {d : DenS O} {x : DenS I} {y : DenS O} (h : T x = some y) : (sumOf I O T d).pre x = true := by
  show (T x).isSome = true
  rw [h]; rfl
theorem sum_F {I O : Sig} {T : DenS I → Option (DenS O)} {d : DenS O} {x : DenS I} {y : DenS O} (h : T x = some y) : (sumOf I O T d).F x = y := by
  show (T x).getD d = y
  rw [h]; rfl
theorem pre69 {x : DenS I69} {y : DenS O69} (h : T69 x = some y) : S69.pre x = true := sum_pre (T := T69) h
theorem fun69 {x : DenS I69} {y : DenS O69} (h : T69 x = some y) : S69.F x = y := sum_F (T := T69) h
theorem pre66 {x : DenS I66} {y : DenS O66} (h : T66 x = some y) : S66.pre x = true := sum_pre (T := T66) h
theorem fun66 {x : DenS I66} {y : DenS O66} (h : T66 x = some y) : S66.F x = y := sum_F (T := T66) h
theorem pre91 {x : DenS I91} {y : DenS O91} (h : T91 x = some y) : S91.pre x = true := sum_pre (T := T91) h
theorem fun91 {x : DenS I91} {y : DenS O91} (h : T91 x = some y) : S91.F x = y := sum_F (T := T91) h
theorem pre90 {x : DenS I90} {y : DenS O90} (h : T90 x = some y) : S90.pre x = true := sum_pre (T := T90) h
theorem fun90 {x : DenS I90} {y : DenS O90} (h : T90 x = some y) : S90.F x = y := sum_F (T := T90) h
theorem pre65 {x : DenS I65} {y : DenS O65} (h : T65 x = some y) : S65.pre x = true := sum_pre (T := T65) h
theorem fun65 {x : DenS I65} {y : DenS O65} (h : T65 x = some y) : S65.F x = y := sum_F (T := T65) h
theorem pre115 {x : DenS I115} {y : DenS O115} (h : T115 x = some y) : S115.pre x = true := sum_pre (T := T115) h
theorem fun115 {x : DenS I115} {y : DenS O115} (h : T115 x = some y) : S115.F x = y := sum_F (T := T115) h
theorem pre112 {x : DenS I112} {y : DenS O112} (h : T112 x = some y) : S112.pre x = true := sum_pre (T := T112) h
theorem fun112 {x : DenS I112} {y : DenS O112} (h : T112 x = some y) : S112.F x = y := sum_F (T := T112) h
theorem pre82 {x : DenS I82} {y : DenS O82} (h : T82 x = some y) : S82.pre x = true := sum_pre (T := T82) h
theorem fun82 {x : DenS I82} {y : DenS O82} (h : T82 x = some y) : S82.F x = y := sum_F (T := T82) h
theorem pre53 {x : DenS I53} {y : DenS O53} (h : T53 x = some y) : S53.pre x = true := sum_pre (T := T53) h
theorem fun53 {x : DenS I53} {y : DenS O53} (h : T53 x = some y) : S53.F x = y := sum_F (T := T53) h
theorem pre70 {x : DenS I70} {y : DenS O70} (h : T70 x = some y) : S70.pre x = true := sum_pre (T := T70) h
theorem fun70 {x : DenS I70} {y : DenS O70} (h : T70 x = some y) : S70.F x = y := sum_F (T := T70) h
theorem pre54 {x : DenS I54} {y : DenS O54} (h : T54 x = some y) : S54.pre x = true := sum_pre (T := T54) h
theorem fun54 {x : DenS I54} {y : DenS O54} (h : T54 x = some y) : S54.F x = y := sum_F (T := T54) h
theorem pre64 {x : DenS I64} {y : DenS O64} (h : T64 x = some y) : S64.pre x = true := sum_pre (T := T64) h
theorem fun64 {x : DenS I64} {y : DenS O64} (h : T64 x = some y) : S64.F x = y := sum_F (T := T64) h
theorem pre93 {x : DenS I93} {y : DenS O93} (h : T93 x = some y) : S93.pre x = true := sum_pre (T := T93) h
theorem fun93 {x : DenS I93} {y : DenS O93} (h : T93 x = some y) : S93.F x = y := sum_F (T := T93) h
theorem pre41 {x : DenS I41} {y : DenS O41} (h : T41 x = some y) : S41.pre x = true := sum_pre (T := T41) h
theorem fun41 {x : DenS I41} {y : DenS O41} (h : T41 x = some y) : S41.F x = y := sum_F (T := T41) h
theorem pre131 {x : DenS I131} {y : DenS O131} (h : T131 x = some y) : S131.pre x = true := sum_pre (T := T131) h
theorem fun131 {x : DenS I131} {y : DenS O131} (h : T131 x = some y) : S131.F x = y := sum_F (T := T131) h
theorem pre108 {x : DenS I108} {y : DenS O108} (h : T108 x = some y) : S108.pre x = true := sum_pre (T := T108) h
theorem fun108 {x : DenS I108} {y : DenS O108} (h : T108 x = some y) : S108.F x = y := sum_F (T := T108) h
theorem pre113 {x : DenS I113} {y : DenS O113} (h : T113 x = some y) : S113.pre x = true := sum_pre (T := T113) h
theorem fun113 {x : DenS I113} {y : DenS O113} (h : T113 x = some y) : S113.F x = y := sum_F (T := T113) h
theorem pre109 {x : DenS I109} {y : DenS O109} (h : T109 x = some y) : S109.pre x = true := sum_pre (T := T109) h
theorem fun109 {x : DenS I109} {y : DenS O109} (h : T109 x = some y) : S109.F x = y := sum_F (T := T109) h
theorem pre110 {x : DenS I110} {y : DenS O110} (h : T110 x = some y) : S110.pre x = true := sum_pre (T := T110) h
theorem fun110 {x : DenS I110} {y : DenS O110} (h : T110 x = some y) : S110.F x = y := sum_F (T := T110) h
theorem pre56 {x : DenS I56} {y : DenS O56} (h : T56 x = some y) : S56.pre x = true := sum_pre (T := T56) h
theorem fun56 {x : DenS I56} {y : DenS O56} (h : T56 x = some y) : S56.F x = y := sum_F (T := T56) h
theorem pre132 {x : DenS I132} {y : DenS O132} (h : T132 x = some y) : S132.pre x = true := sum_pre (T := T132) h
theorem fun132 {x : DenS I132} {y : DenS O132} (h : T132 x = some y) : S132.F x = y := sum_F (T := T132) h
theorem pre84 {x : DenS I84} {y : DenS O84} (h : T84 x = some y) : S84.pre x = true := sum_pre (T := T84) h
theorem fun84 {x : DenS I84} {y : DenS O84} (h : T84 x = some y) : S84.F x = y := sum_F (T := T84) h
theorem pre86 {x : DenS I86} {y : DenS O86} (h : T86 x = some y) : S86.pre x = true := sum_pre (T := T86) h
theorem fun86 {x : DenS I86} {y : DenS O86} (h : T86 x = some y) : S86.F x = y := sum_F (T := T86) h
theorem pre367 {x : DenS I367} {y : DenS O367} (h : T367 x = some y) : S367.pre x = true := sum_pre (T := T367) h
theorem fun367 {x : DenS I367} {y : DenS O367} (h : T367 x = some y) : S367.F x = y := sum_F (T := T367) h
theorem pre59 {x : DenS I59} {y : DenS O59} (h : T59 x = some y) : S59.pre x = true := sum_pre (T := T59) h
theorem fun59 {x : DenS I59} {y : DenS O59} (h : T59 x = some y) : S59.F x = y := sum_F (T := T59) h
theorem pre85 {x : DenS I85} {y : DenS O85} (h : T85 x = some y) : S85.pre x = true := sum_pre (T := T85) h
theorem fun85 {x : DenS I85} {y : DenS O85} (h : T85 x = some y) : S85.F x = y := sum_F (T := T85) h
theorem pre368 {x : DenS I368} {y : DenS O368} (h : T368 x = some y) : S368.pre x = true := sum_pre (T := T368) h
theorem fun368 {x : DenS I368} {y : DenS O368} (h : T368 x = some y) : S368.F x = y := sum_F (T := T368) h
theorem pre369 {x : DenS I369} {y : DenS O369} (h : T369 x = some y) : S369.pre x = true := sum_pre (T := T369) h
theorem fun369 {x : DenS I369} {y : DenS O369} (h : T369 x = some y) : S369.F x = y := sum_F (T := T369) h
theorem pre16 {x : DenS I16} {y : DenS O16} (h : T16 x = some y) : S16.pre x = true := sum_pre (T := T16) h
theorem fun16 {x : DenS I16} {y : DenS O16} (h : T16 x = some y) : S16.F x = y := sum_F (T := T16) h
theorem pre42 {x : DenS I42} {y : DenS O42} (h : T42 x = some y) : S42.pre x = true := sum_pre (T := T42) h
theorem fun42 {x : DenS I42} {y : DenS O42} (h : T42 x = some y) : S42.F x = y := sum_F (T := T42) h
theorem pre370 {x : DenS I370} {y : DenS O370} (h : T370 x = some y) : S370.pre x = true := sum_pre (T := T370) h
theorem fun370 {x : DenS I370} {y : DenS O370} (h : T370 x = some y) : S370.F x = y := sum_F (T := T370) h
theorem pre371 {x : DenS I371} {y : DenS O371} (h : T371 x = some y) : S371.pre x = true := sum_pre (T := T371) h
theorem fun371 {x : DenS I371} {y : DenS O371} (h : T371 x = some y) : S371.F x = y := sum_F (T := T371) h
theorem pre97 {x : DenS I97} {y : DenS O97} (h : T97 x = some y) : S97.pre x = true := sum_pre (T := T97) h
theorem fun97 {x : DenS I97} {y : DenS O97} (h : T97 x = some y) : S97.F x = y := sum_F (T := T97) h
theorem pre98 {x : DenS I98} {y : DenS O98} (h : T98 x = some y) : S98.pre x = true := sum_pre (T := T98) h
theorem fun98 {x : DenS I98} {y : DenS O98} (h : T98 x = some y) : S98.F x = y := sum_F (T := T98) h
theorem pre147 {x : DenS I147} {y : DenS O147} (h : T147 x = some y) : S147.pre x = true := sum_pre (T := T147) h
theorem fun147 {x : DenS I147} {y : DenS O147} (h : T147 x = some y) : S147.F x = y := sum_F (T := T147) h
theorem pre105 {x : DenS I105} {y : DenS O105} (h : T105 x = some y) : S105.pre x = true := sum_pre (T := T105) h
theorem fun105 {x : DenS I105} {y : DenS O105} (h : T105 x = some y) : S105.F x = y := sum_F (T := T105) h
theorem pre103 {x : DenS I103} {y : DenS O103} (h : T103 x = some y) : S103.pre x = true := sum_pre (T := T103) h
theorem fun103 {x : DenS I103} {y : DenS O103} (h : T103 x = some y) : S103.F x = y := sum_F (T := T103) h
theorem pre173 {x : DenS I173} {y : DenS O173} (h : T173 x = some y) : S173.pre x = true := sum_pre (T := T173) h
theorem fun173 {x : DenS I173} {y : DenS O173} (h : T173 x = some y) : S173.F x = y := sum_F (T := T173) h
theorem pre146 {x : DenS I146} {y : DenS O146} (h : T146 x = some y) : S146.pre x = true := sum_pre (T := T146) h
theorem fun146 {x : DenS I146} {y : DenS O146} (h : T146 x = some y) : S146.F x = y := sum_F (T := T146) h
theorem pre102 {x : DenS I102} {y : DenS O102} (h : T102 x = some y) : S102.pre x = true := sum_pre (T := T102) h
theorem fun102 {x : DenS I102} {y : DenS O102} (h : T102 x = some y) : S102.F x = y := sum_F (T := T102) h
theorem pre92 {x : DenS I92} {y : DenS O92} (h : T92 x = some y) : S92.pre x = true := sum_pre (T := T92) h
theorem fun92 {x : DenS I92} {y : DenS O92} (h : T92 x = some y) : S92.F x = y := sum_F (T := T92) h
theorem pre171 {x : DenS I171} {y : DenS O171} (h : T171 x = some y) : S171.pre x = true := sum_pre (T := T171) h
theorem fun171 {x : DenS I171} {y : DenS O171} (h : T171 x = some y) : S171.F x = y := sum_F (T := T171) h
theorem pre141 {x : DenS I141} {y : DenS O141} (h : T141 x = some y) : S141.pre x = true := sum_pre (T := T141) h
theorem fun141 {x : DenS I141} {y : DenS O141} (h : T141 x = some y) : S141.F x = y := sum_F (T := T141) h
theorem pre100 {x : DenS I100} {y : DenS O100} (h : T100 x = some y) : S100.pre x = true := sum_pre (T := T100) h
theorem fun100 {x : DenS I100} {y : DenS O100} (h : T100 x = some y) : S100.F x = y := sum_F (T := T100) h
theorem pre104 {x : DenS I104} {y : DenS O104} (h : T104 x = some y) : S104.pre x = true := sum_pre (T := T104) h
theorem fun104 {x : DenS I104} {y : DenS O104} (h : T104 x = some y) : S104.F x = y := sum_F (T := T104) h
theorem pre106 {x : DenS I106} {y : DenS O106} (h : T106 x = some y) : S106.pre x = true := sum_pre (T := T106) h
theorem fun106 {x : DenS I106} {y : DenS O106} (h : T106 x = some y) : S106.F x = y := sum_F (T := T106) h
theorem pre178 {x : DenS I178} {y : DenS O178} (h : T178 x = some y) : S178.pre x = true := sum_pre (T := T178) h
theorem fun178 {x : DenS I178} {y : DenS O178} (h : T178 x = some y) : S178.F x = y := sum_F (T := T178) h
theorem pre151 {x : DenS I151} {y : DenS O151} (h : T151 x = some y) : S151.pre x = true := sum_pre (T := T151) h
theorem fun151 {x : DenS I151} {y : DenS O151} (h : T151 x = some y) : S151.F x = y := sum_F (T := T151) h
theorem pre148 {x : DenS I148} {y : DenS O148} (h : T148 x = some y) : S148.pre x = true := sum_pre (T := T148) h
theorem fun148 {x : DenS I148} {y : DenS O148} (h : T148 x = some y) : S148.F x = y := sum_F (T := T148) h
theorem pre1173 {x : DenS I1173} {y : DenS O1173} (h : T1173 x = some y) : S1173.pre x = true := sum_pre (T := T1173) h
theorem fun1173 {x : DenS I1173} {y : DenS O1173} (h : T1173 x = some y) : S1173.F x = y := sum_F (T := T1173) h
theorem pre1171 {x : DenS I1171} {y : DenS O1171} (h : T1171 x = some y) : S1171.pre x = true := sum_pre (T := T1171) h
theorem fun1171 {x : DenS I1171} {y : DenS O1171} (h : T1171 x = some y) : S1171.F x = y := sum_F (T := T1171) h
theorem pre184 {x : DenS I184} {y : DenS O184} (h : T184 x = some y) : S184.pre x = true := sum_pre (T := T184) h
theorem fun184 {x : DenS I184} {y : DenS O184} (h : T184 x = some y) : S184.F x = y := sum_F (T := T184) h
theorem pre175 {x : DenS I175} {y : DenS O175} (h : T175 x = some y) : S175.pre x = true := sum_pre (T := T175) h
theorem fun175 {x : DenS I175} {y : DenS O175} (h : T175 x = some y) : S175.F x = y := sum_F (T := T175) h
theorem pre186 {x : DenS I186} {y : DenS O186} (h : T186 x = some y) : S186.pre x = true := sum_pre (T := T186) h
theorem fun186 {x : DenS I186} {y : DenS O186} (h : T186 x = some y) : S186.F x = y := sum_F (T := T186) h
theorem pre185 {x : DenS I185} {y : DenS O185} (h : T185 x = some y) : S185.pre x = true := sum_pre (T := T185) h
theorem fun185 {x : DenS I185} {y : DenS O185} (h : T185 x = some y) : S185.F x = y := sum_F (T := T185) h
theorem pre176 {x : DenS I176} {y : DenS O176} (h : T176 x = some y) : S176.pre x = true := sum_pre (T := T176) h
theorem fun176 {x : DenS I176} {y : DenS O176} (h : T176 x = some y) : S176.F x = y := sum_F (T := T176) h
theorem pre177 {x : DenS I177} {y : DenS O177} (h : T177 x = some y) : S177.pre x = true := sum_pre (T := T177) h
theorem fun177 {x : DenS I177} {y : DenS O177} (h : T177 x = some y) : S177.F x = y := sum_F (T := T177) h
theorem pre143 {x : DenS I143} {y : DenS O143} (h : T143 x = some y) : S143.pre x = true := sum_pre (T := T143) h
theorem fun143 {x : DenS I143} {y : DenS O143} (h : T143 x = some y) : S143.F x = y := sum_F (T := T143) h
theorem pre150 {x : DenS I150} {y : DenS O150} (h : T150 x = some y) : S150.pre x = true := sum_pre (T := T150) h
theorem fun150 {x : DenS I150} {y : DenS O150} (h : T150 x = some y) : S150.F x = y := sum_F (T := T150) h
theorem pre43 {x : DenS I43} {y : DenS O43} (h : T43 x = some y) : S43.pre x = true := sum_pre (T := T43) h
theorem fun43 {x : DenS I43} {y : DenS O43} (h : T43 x = some y) : S43.F x = y := sum_F (T := T43) h
theorem pre149 {x : DenS I149} {y : DenS O149} (h : T149 x = some y) : S149.pre x = true := sum_pre (T := T149) h
theorem fun149 {x : DenS I149} {y : DenS O149} (h : T149 x = some y) : S149.F x = y := sum_F (T := T149) h
theorem pre152 {x : DenS I152} {y : DenS O152} (h : T152 x = some y) : S152.pre x = true := sum_pre (T := T152) h
theorem fun152 {x : DenS I152} {y : DenS O152} (h : T152 x = some y) : S152.F x = y := sum_F (T := T152) h
theorem pre107 {x : DenS I107} {y : DenS O107} (h : T107 x = some y) : S107.pre x = true := sum_pre (T := T107) h
theorem fun107 {x : DenS I107} {y : DenS O107} (h : T107 x = some y) : S107.F x = y := sum_F (T := T107) h
theorem pre51 {x : DenS I51} {y : DenS O51} (h : T51 x = some y) : S51.pre x = true := sum_pre (T := T51) h
theorem fun51 {x : DenS I51} {y : DenS O51} (h : T51 x = some y) : S51.F x = y := sum_F (T := T51) h
theorem pre45 {x : DenS I45} {y : DenS O45} (h : T45 x = some y) : S45.pre x = true := sum_pre (T := T45) h
theorem fun45 {x : DenS I45} {y : DenS O45} (h : T45 x = some y) : S45.F x = y := sum_F (T := T45) h
theorem pre169 {x : DenS I169} {y : DenS O169} (h : T169 x = some y) : S169.pre x = true := sum_pre (T := T169) h
theorem fun169 {x : DenS I169} {y : DenS O169} (h : T169 x = some y) : S169.F x = y := sum_F (T := T169) h
theorem pre87 {x : DenS I87} {y : DenS O87} (h : T87 x = some y) : S87.pre x = true := sum_pre (T := T87) h
theorem fun87 {x : DenS I87} {y : DenS O87} (h : T87 x = some y) : S87.F x = y := sum_F (T := T87) h
theorem pre89 {x : DenS I89} {y : DenS O89} (h : T89 x = some y) : S89.pre x = true := sum_pre (T := T89) h
theorem fun89 {x : DenS I89} {y : DenS O89} (h : T89 x = some y) : S89.F x = y := sum_F (T := T89) h
theorem pre163 {x : DenS I163} {y : DenS O163} (h : T163 x = some y) : S163.pre x = true := sum_pre (T := T163) h
theorem fun163 {x : DenS I163} {y : DenS O163} (h : T163 x = some y) : S163.F x = y := sum_F (T := T163) h
theorem pre133 {x : DenS I133} {y : DenS O133} (h : T133 x = some y) : S133.pre x = true := sum_pre (T := T133) h
theorem fun133 {x : DenS I133} {y : DenS O133} (h : T133 x = some y) : S133.F x = y := sum_F (T := T133) h
theorem pre138 {x : DenS I138} {y : DenS O138} (h : T138 x = some y) : S138.pre x = true := sum_pre (T := T138) h
theorem fun138 {x : DenS I138} {y : DenS O138} (h : T138 x = some y) : S138.F x = y := sum_F (T := T138) h
theorem pre187 {x : DenS I187} {y : DenS O187} (h : T187 x = some y) : S187.pre x = true := sum_pre (T := T187) h
theorem fun187 {x : DenS I187} {y : DenS O187} (h : T187 x = some y) : S187.F x = y := sum_F (T := T187) h
theorem pre181 {x : DenS I181} {y : DenS O181} (h : T181 x = some y) : S181.pre x = true := sum_pre (T := T181) h
theorem fun181 {x : DenS I181} {y : DenS O181} (h : T181 x = some y) : S181.F x = y := sum_F (T := T181) h
theorem pre167 {x : DenS I167} {y : DenS O167} (h : T167 x = some y) : S167.pre x = true := sum_pre (T := T167) h
theorem fun167 {x : DenS I167} {y : DenS O167} (h : T167 x = some y) : S167.F x = y := sum_F (T := T167) h
theorem pre183 {x : DenS I183} {y : DenS O183} (h : T183 x = some y) : S183.pre x = true := sum_pre (T := T183) h
theorem fun183 {x : DenS I183} {y : DenS O183} (h : T183 x = some y) : S183.F x = y := sum_F (T := T183) h
theorem pre168 {x : DenS I168} {y : DenS O168} (h : T168 x = some y) : S168.pre x = true := sum_pre (T := T168) h
theorem fun168 {x : DenS I168} {y : DenS O168} (h : T168 x = some y) : S168.F x = y := sum_F (T := T168) h
theorem pre166 {x : DenS I166} {y : DenS O166} (h : T166 x = some y) : S166.pre x = true := sum_pre (T := T166) h
theorem fun166 {x : DenS I166} {y : DenS O166} (h : T166 x = some y) : S166.F x = y := sum_F (T := T166) h
theorem pre188 {x : DenS I188} {y : DenS O188} (h : T188 x = some y) : S188.pre x = true := sum_pre (T := T188) h
theorem fun188 {x : DenS I188} {y : DenS O188} (h : T188 x = some y) : S188.F x = y := sum_F (T := T188) h
theorem pre182 {x : DenS I182} {y : DenS O182} (h : T182 x = some y) : S182.pre x = true := sum_pre (T := T182) h
theorem fun182 {x : DenS I182} {y : DenS O182} (h : T182 x = some y) : S182.F x = y := sum_F (T := T182) h
theorem pre165 {x : DenS I165} {y : DenS O165} (h : T165 x = some y) : S165.pre x = true := sum_pre (T := T165) h
theorem fun165 {x : DenS I165} {y : DenS O165} (h : T165 x = some y) : S165.F x = y := sum_F (T := T165) h
theorem pre164 {x : DenS I164} {y : DenS O164} (h : T164 x = some y) : S164.pre x = true := sum_pre (T := T164) h
theorem fun164 {x : DenS I164} {y : DenS O164} (h : T164 x = some y) : S164.F x = y := sum_F (T := T164) h
theorem pre136 {x : DenS I136} {y : DenS O136} (h : T136 x = some y) : S136.pre x = true := sum_pre (T := T136) h
theorem fun136 {x : DenS I136} {y : DenS O136} (h : T136 x = some y) : S136.F x = y := sum_F (T := T136) h
theorem pre135 {x : DenS I135} {y : DenS O135} (h : T135 x = some y) : S135.pre x = true := sum_pre (T := T135) h
theorem fun135 {x : DenS I135} {y : DenS O135} (h : T135 x = some y) : S135.F x = y := sum_F (T := T135) h
theorem pre134 {x : DenS I134} {y : DenS O134} (h : T134 x = some y) : S134.pre x = true := sum_pre (T := T134) h
theorem fun134 {x : DenS I134} {y : DenS O134} (h : T134 x = some y) : S134.F x = y := sum_F (T := T134) h
theorem pre170 {x : DenS I170} {y : DenS O170} (h : T170 x = some y) : S170.pre x = true := sum_pre (T := T170) h
theorem fun170 {x : DenS I170} {y : DenS O170} (h : T170 x = some y) : S170.F x = y := sum_F (T := T170) h
theorem pre139 {x : DenS I139} {y : DenS O139} (h : T139 x = some y) : S139.pre x = true := sum_pre (T := T139) h
theorem fun139 {x : DenS I139} {y : DenS O139} (h : T139 x = some y) : S139.F x = y := sum_F (T := T139) h
theorem pre137 {x : DenS I137} {y : DenS O137} (h : T137 x = some y) : S137.pre x = true := sum_pre (T := T137) h
theorem fun137 {x : DenS I137} {y : DenS O137} (h : T137 x = some y) : S137.F x = y := sum_F (T := T137) h
theorem pre88 {x : DenS I88} {y : DenS O88} (h : T88 x = some y) : S88.pre x = true := sum_pre (T := T88) h
theorem fun88 {x : DenS I88} {y : DenS O88} (h : T88 x = some y) : S88.F x = y := sum_F (T := T88) h
theorem pre372 {x : DenS I372} {y : DenS O372} (h : T372 x = some y) : S372.pre x = true := sum_pre (T := T372) h
theorem fun372 {x : DenS I372} {y : DenS O372} (h : T372 x = some y) : S372.F x = y := sum_F (T := T372) h
theorem pre40 {x : DenS I40} {y : DenS O40} (h : T40 x = some y) : S40.pre x = true := sum_pre (T := T40) h
theorem fun40 {x : DenS I40} {y : DenS O40} (h : T40 x = some y) : S40.F x = y := sum_F (T := T40) h
theorem pre373 {x : DenS I373} {y : DenS O373} (h : T373 x = some y) : S373.pre x = true := sum_pre (T := T373) h
theorem fun373 {x : DenS I373} {y : DenS O373} (h : T373 x = some y) : S373.F x = y := sum_F (T := T373) h
theorem pre374 {x : DenS I374} {y : DenS O374} (h : T374 x = some y) : S374.pre x = true := sum_pre (T := T374) h
theorem fun374 {x : DenS I374} {y : DenS O374} (h : T374 x = some y) : S374.F x = y := sum_F (T := T374) h
end Vx
namespace Vx
open Go
theorem t16_true : T16 () = some (true, ()) := by kernel_rfl
theorem shrI_u64 {a : Int} (n : Nat) (hn : n ≤ 64) : shrI .u64 a (n : Int) = a / 2 ^ n := by
  unfold shrI
  rw [Int.fdiv_eq_ediv_of_nonneg]
  · congr 2
    simp [IntKind.bits]
    omega
  · exact Int.pow_nonneg (by omega)
theorem ofInt_u64 {m : Nat} (h : m < 2 ^ 64) : (BitVec.ofInt 64 (m : Int)).toNat = m := by
  rw [BitVec.toNat_ofInt]
  omega
theorem andI_mask {m n : Nat} (h : m < 2 ^ 64) (hn : n ≤ 64) : andI .u64 (m : Int) ((2 ^ n - 1 : Nat) : Int) = ((m % 2 ^ n : Nat) : Int) := by
  have h2 : 2 ^ n ≤ 2 ^ 64 := Nat.pow_le_pow_right (by omega) hn
  have h3 : 0 < 2 ^ n := Nat.two_pow_pos n
  have hlt : m % 2 ^ n < 2 ^ n := Nat.mod_lt _ h3
  have key : (BitVec.ofInt 64 (m : Int) &&& BitVec.ofInt 64 ((2 ^ n - 1 : Nat) : Int)).toNat = m % 2 ^ n := by
    rw [BitVec.toNat_and, ofInt_u64 h, ofInt_u64 (by omega), Nat.and_two_pow_sub_one_eq_mod]
  show IntKind.u64.wrap (((BitVec.ofInt 64 (m : Int) &&& BitVec.ofInt 64 ((2 ^ n - 1 : Nat) : Int)).toNat : Nat) : Int) = _
  rw [key]
  exact IntWalk.u64_in _ (by omega)
theorem shlI_one {n : Nat} (hn : n ≤ 63) : shlI .u64 1 (n : Int) = ((2 ^ n : Nat) : Int) := by
  have h2 : 2 ^ n ≤ 2 ^ 63 := Nat.pow_le_pow_right (by omega) hn
  have : (min (n : Int).toNat IntKind.u64.bits) = n := by simp [IntKind.bits]; omega
  unfold shlI
  rw [this, Int.one_mul]
  have e : (2 : Int) ^ n = ((2 ^ n : Nat) : Int) := by simp
  rw [e]
  refine IntWalk.u64_in _ ⟨Int.natCast_nonneg _, ?_⟩
  have : ((2 ^ n : Nat) : Int) ≤ ((2 ^ 63 : Nat) : Int) := Int.ofNat_le.2 h2
  exact Int.le_trans this (by decide)
theorem andNotI_bit {m n : Nat} (hn : n ≤ 63) (h : m < 2 ^ (n + 1)) : andNotI .u64 (m : Int) ((2 ^ n : Nat) : Int) = ((m % 2 ^ n : Nat) : Int) := by
  have h1 : 2 ^ (n + 1) ≤ 2 ^ 64 := Nat.pow_le_pow_right (by omega) (by omega)
  have h2 : 2 ^ n < 2 ^ 64 := Nat.pow_lt_pow_right (by omega) (by omega)
  have hlt : m % 2 ^ n < 2 ^ n := Nat.mod_lt _ (Nat.two_pow_pos n)
  have key : (BitVec.ofInt 64 (m : Int) &&& ~~~(BitVec.ofInt 64 ((2 ^ n : Nat) : Int))).toNat = m % 2 ^ n := by
    apply Nat.eq_of_testBit_eq
    intro i
    rw [BitVec.toNat_and, Nat.testBit_and, ofInt_u64 (by omega), Nat.testBit_mod_two_pow]
    have e : (~~~(BitVec.ofInt 64 ((2 ^ n : Nat) : Int))).toNat.testBit i = (decide (i < 64) && !decide (n = i)) := by
      rw [← BitVec.getLsbD, BitVec.getLsbD_not, BitVec.getLsbD, ofInt_u64 h2, Nat.testBit_two_pow]
    rw [e]
    rcases Nat.lt_trichotomy i n with hi | hi | hi
    · have : i < 64 := by omega
      have hne : ¬ n = i := by omega
      simp [this, hne, hi]
    · subst hi; simp
    · have hz : m.testBit i = false := Nat.testBit_lt_two_pow (Nat.lt_of_lt_of_le h (Nat.pow_le_pow_right (by omega) (by omega)))
      simp [hz]
  show IntKind.u64.wrap (((BitVec.ofInt 64 (m : Int) &&& ~~~(BitVec.ofInt 64 ((2 ^ n : Nat) : Int))).toNat : Nat) : Int) = _
  rw [key]
  exact IntWalk.u64_in _ (by omega)
end Vx
