/- Part 6 of the proof. What is proved: symbolic execution of the functions, proved sound; what each function of the program computes, and that every run ends with it; what these functions compute, in plain numbers. Conditions: each theorem bears its own. -/
import Derived.Test.YtkkdblemeoehpaaDoorVxG5
set_option linter.all false
set_option exponentiation.threshold 1000000
namespace Vx
open Go Go.Proofs
/-- vernier/vernierref06.Nought -/
abbrev I37 : Sig := [(false, .int .i64), (false, .bool)]
abbrev O37 : Sig := [(false, .int .u64)]
noncomputable def t37 (p81 : DenS I81 → Bool) (f81 : DenS I81 → DenS O81) (a0 : Den (.int .i64)) (a1 : Den (.bool)) : Option (DenS O37) :=
  bif (p81 (a0, (a1, ()))) then
  (some (f81 (a0, (a1, ()))))
  else none
theorem r37 (p81 : DenS I81 → Bool) (f81 : DenS I81 → DenS O81) (a0 : Den (.int .i64)) (a1 : Den (.bool)) :
    run { P := Go.Proofs.Tryd.prog, sums := [(81, ⟨I81, O81, p81, f81⟩)], loops := [], globs := G1 } 9 37 Go.Proofs.Tryd.f37 I37 O37 (a0, a1, ()) = t37 p81 f81 a0 a1 := by kernel_rfl
noncomputable def T37 (x : DenS I37) : Option (DenS O37) := t37 S81.pre S81.F x.1 x.2.1
noncomputable def C37 : Cfg := { P := Go.Proofs.Tryd.prog, sums := [(81, S81)], loops := [], globs := G1 }
noncomputable def S37 : Sum := sumOf I37 O37 T37 (DenS.dflt O37)
theorem S37_sound : Sound Go.Proofs.Tryd.prog G1 37 S37 :=
  fn_sound C37 9 37 Go.Proofs.Tryd.f37 mixedOk (by kernel_rfl) (by kernel_rfl) (by kernel_rfl) ⟨S81_sound, trivial⟩ trivial I37 O37 T37 _ fun x => r37 S81.pre S81.F x.1 x.2.1
/-- vernier/vernierref06.Infinity -/
abbrev I179 : Sig := [(false, .int .i64), (false, .bool)]
abbrev O179 : Sig := [(false, .int .u64)]
noncomputable def t179 (p67 : DenS I67 → Bool) (f67 : DenS I67 → DenS O67) (p81 : DenS I81 → Bool) (f81 : DenS I81 → DenS O81) (a0 : Den (.int .i64)) (a1 : Den (.bool)) : Option (DenS O179) :=
  bif (p67 (a0, ())) then
  (bif (p81 (a0, (a1, ()))) then
  (some ((Go.IntKind.wrap Go.IntKind.u64 ((Go.IntKind.wrap Go.IntKind.u64 ((Vx.shlI Go.IntKind.u64 (1 : Int) (Go.IntKind.wrap Go.IntKind.u64 (Go.IntKind.wrap Go.IntKind.i64 ((f67 (a0, ())).1 - (1 : Int))))) - (Vx.shlI Go.IntKind.u64 (1 : Int) (Go.IntKind.wrap Go.IntKind.u64 (Go.IntKind.wrap Go.IntKind.i64 ((f67 (a0, ())).2.1 - (1 : Int))))))) + (f81 (a0, (a1, ()))).1)), ()))
  else none)
  else none
theorem r179 (p67 : DenS I67 → Bool) (f67 : DenS I67 → DenS O67) (p81 : DenS I81 → Bool) (f81 : DenS I81 → DenS O81) (a0 : Den (.int .i64)) (a1 : Den (.bool)) :
    run { P := Go.Proofs.Tryd.prog, sums := [(67, ⟨I67, O67, p67, f67⟩), (81, ⟨I81, O81, p81, f81⟩)], loops := [], globs := G1 } 9 179 Go.Proofs.Tryd.f179 I179 O179 (a0, a1, ()) = t179 p67 f67 p81 f81 a0 a1 := by kernel_rfl
noncomputable def T179 (x : DenS I179) : Option (DenS O179) := t179 S67.pre S67.F S81.pre S81.F x.1 x.2.1
noncomputable def C179 : Cfg := { P := Go.Proofs.Tryd.prog, sums := [(67, S67), (81, S81)], loops := [], globs := G1 }
noncomputable def S179 : Sum := sumOf I179 O179 T179 (DenS.dflt O179)
theorem S179_sound : Sound Go.Proofs.Tryd.prog G1 179 S179 :=
  fn_sound C179 9 179 Go.Proofs.Tryd.f179 mixedOk (by kernel_rfl) (by kernel_rfl) (by kernel_rfl) ⟨S67_sound, ⟨S81_sound, trivial⟩⟩ trivial I179 O179 T179 _ fun x => r179 S67.pre S67.F S81.pre S81.F x.1 x.2.1
/-- vernier/vernierref06.Beyond -/
abbrev I160 : Sig := [(false, .int .i64), (false, .int .i64), (false, .bool)]
abbrev O160 : Sig := [(false, .int .u64)]
noncomputable def t160 (p179 : DenS I179 → Bool) (f179 : DenS I179 → DenS O179) (a0 : Den (.int .i64)) (a1 : Den (.int .i64)) (a2 : Den (.bool)) : Option (DenS O160) :=
  bif ((((a1 == (0 : Int)) || (a1 == (1 : Int))) || ((a1 == (3 : Int)) && (!a2))) || ((a1 == (4 : Int)) && a2)) then
  (bif (p179 (a0, (a2, ()))) then
  (some (f179 (a0, (a2, ()))))
  else none)
  else bif (p179 (a0, (a2, ()))) then
  (some ((Go.IntKind.wrap Go.IntKind.u64 ((f179 (a0, (a2, ()))).1 - (1 : Int))), ()))
  else none
theorem r160 (p179 : DenS I179 → Bool) (f179 : DenS I179 → DenS O179) (a0 : Den (.int .i64)) (a1 : Den (.int .i64)) (a2 : Den (.bool)) :
    run { P := Go.Proofs.Tryd.prog, sums := [(179, ⟨I179, O179, p179, f179⟩)], loops := [], globs := G1 } 9 160 Go.Proofs.Tryd.f160 I160 O160 (a0, a1, a2, ()) = t160 p179 f179 a0 a1 a2 := by kernel_rfl
noncomputable def T160 (x : DenS I160) : Option (DenS O160) := t160 S179.pre S179.F x.1 x.2.1 x.2.2.1
noncomputable def C160 : Cfg := { P := Go.Proofs.Tryd.prog, sums := [(179, S179)], loops := [], globs := G1 }
noncomputable def S160 : Sum := sumOf I160 O160 T160 (DenS.dflt O160)
theorem S160_sound : Sound Go.Proofs.Tryd.prog G1 160 S160 :=
  fn_sound C160 9 160 Go.Proofs.Tryd.f160 mixedOk (by kernel_rfl) (by kernel_rfl) (by kernel_rfl) ⟨S179_sound, trivial⟩ trivial I160 O160 T160 _ fun x => r160 S179.pre S179.F x.1 x.2.1 x.2.2.1
/-- vernier/vernierref03.Words -/
abbrev I162 : Sig := [(false, .slice (.int .u64))]
abbrev O162 : Sig := [(false, .slice (.int .u64))]
abbrev P162_3 : Pat := ⟨41, [(0, .one (.sl (.int .u64))), (4, .one (.v .i64)), (3, .one (.own 0))], [.arr (.int .u64)]⟩
abbrev A162_3 : List (Nat × Shape) := []
abbrev X162_3 : List (Nat × Pat) := [(0, ⟨41, [(3, .one (.own 0))], [.arr (.int .u64)]⟩)]
abbrev Q162_3 : Option Pat := none
noncomputable def h162_3 (p158 : DenS I158 → Bool) (f158 : DenS I158 → DenS O158) {R : Type} (L : Pat.D P162_3 → Option R) (e : OutT X162_3 Q162_3 → Option R) (x : Pat.D P162_3) : Option R :=
  bif (decide (x.1.2.1 < (x.1.1.length : Int))) then
  (bif ((Int.tmod x.1.2.1 (2 : Int)) == (0 : Int)) then
  (bif ((decide ((0 : Int) ≤ x.1.2.1)) && (decide (x.1.2.1 < (x.1.1.length : Int)))) then
  (bif ((decide ((0 : Int) ≤ (Vx.quoI Go.IntKind.i64 x.1.2.1 (2 : Int)))) && (decide ((Vx.quoI Go.IntKind.i64 x.1.2.1 (2 : Int)) < (x.2.1.length : Int)))) then
  ((L ((x.1.1, ((Go.IntKind.wrap Go.IntKind.i64 (x.1.2.1 + (1 : Int))), ((), ()))), ((x.2.1.set (Int.toNat (Vx.quoI Go.IntKind.i64 x.1.2.1 (2 : Int))) (x.1.1.getD (Int.toNat x.1.2.1) (0 : Int))), ()))))
  else none)
  else none)
  else bif ((decide ((0 : Int) ≤ (Vx.quoI Go.IntKind.i64 x.1.2.1 (2 : Int)))) && (decide ((Vx.quoI Go.IntKind.i64 x.1.2.1 (2 : Int)) < (x.2.1.length : Int)))) then
  (bif ((decide ((0 : Int) ≤ x.1.2.1)) && (decide (x.1.2.1 < (x.1.1.length : Int)))) then
  (bif ((decide ((0 : Int) ≤ (Vx.quoI Go.IntKind.i64 x.1.2.1 (2 : Int)))) && (decide ((Vx.quoI Go.IntKind.i64 x.1.2.1 (2 : Int)) < (x.2.1.length : Int)))) then
  ((L ((x.1.1, ((Go.IntKind.wrap Go.IntKind.i64 (x.1.2.1 + (1 : Int))), ((), ()))), ((x.2.1.set (Int.toNat (Vx.quoI Go.IntKind.i64 x.1.2.1 (2 : Int))) (Go.IntKind.wrap Go.IntKind.u64 ((x.2.1.getD (Int.toNat (Vx.quoI Go.IntKind.i64 x.1.2.1 (2 : Int))) (0 : Int)) + (Go.IntKind.wrap Go.IntKind.u64 ((x.1.1.getD (Int.toNat x.1.2.1) (0 : Int)) * (4294967296 : Int)))))), ()))))
  else none)
  else none)
  else none)
  else (e (.inl (((), ()), x.2)))
theorem s162_3 (p158 : DenS I158 → Bool) (f158 : DenS I158 → DenS O158) (w162_3 : Pat.D P162_3 → Option (OutT X162_3 Q162_3)) (d : Nat) (R : Type) (L : Pat.D P162_3 → Option R) (e : OutT X162_3 Q162_3 → Option R) (x : Pat.D P162_3) :
    lStep { P := Go.Proofs.Tryd.prog, sums := [(158, ⟨I158, O158, p158, f158⟩)], loops := [(162, 3, LoopSpec.of P162_3 A162_3 X162_3 Q162_3 w162_3)], globs := G1 } (d + 2) 162 (bodyOf Go.Proofs.Tryd.f162 3) P162_3 A162_3 X162_3 Q162_3 (R := R) L e x = h162_3 p158 f158 L e x := by kernel_rfl
theorem m162_3 (p158 : DenS I158 → Bool) (f158 : DenS I158 → DenS O158) : Par fun L e x => h162_3 p158 f158 L e x := by
  intro A B rel L L' e e' h0 hL he x
  unfold h162_3
  repeat' (first | exact h0 | exact hL _ | exact he _ | apply rel_cond | (apply rel_obind h0; intro _) | (apply rel_obind2 <;> intro _))
noncomputable def t162 (p158 : DenS I158 → Bool) (f158 : DenS I158 → DenS O158) (w162_3 : Pat.D P162_3 → Option (OutT X162_3 Q162_3)) (a0 : Den (.slice (.int .u64))) : Option (DenS O162) :=
  bif ((decide ((0 : Int) ≤ (Vx.quoI Go.IntKind.i64 (Go.IntKind.wrap Go.IntKind.i64 ((a0.length : Int) + (1 : Int))) (2 : Int)))) && (decide (((Vx.quoI Go.IntKind.i64 (Go.IntKind.wrap Go.IntKind.i64 ((a0.length : Int) + (1 : Int))) (2 : Int)) * (8 : Int)) ≤ (140737488355328 : Int)))) then
  (Vx.obind (w162_3 ((a0, ((0 : Int), ((), ()))), ((List.replicate (Int.toNat (Vx.quoI Go.IntKind.i64 (Go.IntKind.wrap Go.IntKind.i64 ((a0.length : Int) + (1 : Int))) (2 : Int))) (0 : Int)), ()))) fun y1 =>
  Vx.obind2 y1 (fun y2 =>
  bif (p158 y2.2) then
  (some (f158 y2.2))
  else none) (fun z2 =>
  none))
  else none
theorem r162 (p158 : DenS I158 → Bool) (f158 : DenS I158 → DenS O158) (w162_3 : Pat.D P162_3 → Option (OutT X162_3 Q162_3)) (a0 : Den (.slice (.int .u64))) :
    run { P := Go.Proofs.Tryd.prog, sums := [(158, ⟨I158, O158, p158, f158⟩)], loops := [(162, 3, LoopSpec.of P162_3 A162_3 X162_3 Q162_3 w162_3)], globs := G1 } 9 162 Go.Proofs.Tryd.f162 I162 O162 (a0, ()) = t162 p158 f158 w162_3 a0 := by kernel_rfl
noncomputable def W162_3 : P162_3.D → Option (OutT X162_3 Q162_3) := lfix fun L => h162_3 S158.pre S158.F L some
noncomputable def T162 (x : DenS I162) : Option (DenS O162) := t162 S158.pre S158.F W162_3 x.1
noncomputable def C162 : Cfg := { P := Go.Proofs.Tryd.prog, sums := [(158, S158)], loops := [(162, 3, LoopSpec.of P162_3 A162_3 X162_3 Q162_3 W162_3)], globs := G1 }
noncomputable def S162 : Sum := sumOf I162 O162 T162 (DenS.dflt O162)
theorem S162_sound : Sound Go.Proofs.Tryd.prog G1 162 S162 :=
  fn_sound C162 9 162 Go.Proofs.Tryd.f162 mixedOk (by kernel_rfl) (by kernel_rfl) (by kernel_rfl) ⟨S158_sound, trivial⟩ ⟨rfl, fun d => loopOk_of (fun L e x => h162_3 S158.pre S158.F L e x) (m162_3 S158.pre S158.F) (fun R L e x => s162_3 S158.pre S158.F W162_3 d R L e x), trivial⟩ I162 O162 T162 _ fun x => r162 S158.pre S158.F W162_3 x.1
/-- vernier/vernierref03.Right -/
abbrev I180 : Sig := [(false, .slice (.int .u64)), (false, .int .i64)]
abbrev O180 : Sig := [(false, .slice (.int .u64))]
abbrev P180_4 : Pat := ⟨47, [(0, .one (.sl (.int .u64))), (6, .one (.v .u64)), (7, .one (.v .i64)), (5, .one (.own 0))], [.acc (.int .u64)]⟩
abbrev A180_4 : List (Nat × Shape) := [(5, .int .u64)]
abbrev X180_4 : List (Nat × Pat) := [(0, ⟨47, [(5, .one (.own 0))], [.acc (.int .u64)]⟩)]
abbrev Q180_4 : Option Pat := none
noncomputable def h180_4 (p158 : DenS I158 → Bool) (f158 : DenS I158 → DenS O158) {R : Type} (L : Pat.D P180_4 → Option R) (e : OutT X180_4 Q180_4 → Option R) (x : Pat.D P180_4) : Option R :=
  bif (decide (x.1.2.2.1 < (x.1.1.length : Int))) then
  (bif ((decide ((0 : Int) ≤ x.1.2.2.1)) && (decide (x.1.2.2.1 < (x.1.1.length : Int)))) then
  (bif (decide ((Go.IntKind.wrap Go.IntKind.i64 (x.1.2.2.1 + (1 : Int))) < (x.1.1.length : Int))) then
  (bif ((decide ((0 : Int) ≤ (Go.IntKind.wrap Go.IntKind.i64 (x.1.2.2.1 + (1 : Int))))) && (decide ((Go.IntKind.wrap Go.IntKind.i64 (x.1.2.2.1 + (1 : Int))) < (x.1.1.length : Int)))) then
  (bif (x.1.2.1 != (0 : Int)) then
  (bif (((Vx.roomOk (x.2.1.length + ((Int.tmod (Vx.quoI Go.IntKind.u64 (Go.IntKind.wrap Go.IntKind.u64 ((x.1.1.getD (Int.toNat x.1.2.2.1) (0 : Int)) + (Go.IntKind.wrap Go.IntKind.u64 ((x.1.1.getD (Int.toNat (Go.IntKind.wrap Go.IntKind.i64 (x.1.2.2.1 + (1 : Int)))) (0 : Int)) * (4294967296 : Int))))) x.1.2.1) (4294967296 : Int)) :: []).length) 8) && true) && true) then
  ((L ((x.1.1, (x.1.2.1, ((Go.IntKind.wrap Go.IntKind.i64 (x.1.2.2.1 + (1 : Int))), ((), ())))), ((x.2.1 ++ ((Int.tmod (Vx.quoI Go.IntKind.u64 (Go.IntKind.wrap Go.IntKind.u64 ((x.1.1.getD (Int.toNat x.1.2.2.1) (0 : Int)) + (Go.IntKind.wrap Go.IntKind.u64 ((x.1.1.getD (Int.toNat (Go.IntKind.wrap Go.IntKind.i64 (x.1.2.2.1 + (1 : Int)))) (0 : Int)) * (4294967296 : Int))))) x.1.2.1) (4294967296 : Int)) :: [])), ()))))
  else none)
  else none)
  else none)
  else bif (x.1.2.1 != (0 : Int)) then
  (bif (((Vx.roomOk (x.2.1.length + ((Int.tmod (Vx.quoI Go.IntKind.u64 (x.1.1.getD (Int.toNat x.1.2.2.1) (0 : Int)) x.1.2.1) (4294967296 : Int)) :: []).length) 8) && true) && true) then
  ((L ((x.1.1, (x.1.2.1, ((Go.IntKind.wrap Go.IntKind.i64 (x.1.2.2.1 + (1 : Int))), ((), ())))), ((x.2.1 ++ ((Int.tmod (Vx.quoI Go.IntKind.u64 (x.1.1.getD (Int.toNat x.1.2.2.1) (0 : Int)) x.1.2.1) (4294967296 : Int)) :: [])), ()))))
  else none)
  else none)
  else none)
  else (e (.inl (((), ()), x.2)))
theorem s180_4 (p158 : DenS I158 → Bool) (f158 : DenS I158 → DenS O158) (w180_4 : Pat.D P180_4 → Option (OutT X180_4 Q180_4)) (d : Nat) (R : Type) (L : Pat.D P180_4 → Option R) (e : OutT X180_4 Q180_4 → Option R) (x : Pat.D P180_4) :
    lStep { P := Go.Proofs.Tryd.prog, sums := [(158, ⟨I158, O158, p158, f158⟩)], loops := [(180, 4, LoopSpec.of P180_4 A180_4 X180_4 Q180_4 w180_4)], globs := G1 } (d + 2) 180 (bodyOf Go.Proofs.Tryd.f180 4) P180_4 A180_4 X180_4 Q180_4 (R := R) L e x = h180_4 p158 f158 L e x := by kernel_rfl
theorem m180_4 (p158 : DenS I158 → Bool) (f158 : DenS I158 → DenS O158) : Par fun L e x => h180_4 p158 f158 L e x := by
  intro A B rel L L' e e' h0 hL he x
  unfold h180_4
  repeat' (first | exact h0 | exact hL _ | exact he _ | apply rel_cond | (apply rel_obind h0; intro _) | (apply rel_obind2 <;> intro _))
noncomputable def t180 (p158 : DenS I158 → Bool) (f158 : DenS I158 → DenS O158) (w180_4 : Pat.D P180_4 → Option (OutT X180_4 Q180_4)) (a0 : Den (.slice (.int .u64))) (a1 : Den (.int .i64)) : Option (DenS O180) :=
  Vx.obind (w180_4 ((a0, ((Vx.shlI Go.IntKind.u64 (1 : Int) (Go.IntKind.wrap Go.IntKind.u64 (Int.tmod a1 (32 : Int)))), ((Vx.quoI Go.IntKind.i64 a1 (32 : Int)), ((), ())))), ([], ()))) fun y0 =>
  Vx.obind2 y0 (fun y1 =>
  bif (p158 y1.2) then
  (some (f158 y1.2))
  else none) (fun z1 =>
  none)
theorem r180 (p158 : DenS I158 → Bool) (f158 : DenS I158 → DenS O158) (w180_4 : Pat.D P180_4 → Option (OutT X180_4 Q180_4)) (a0 : Den (.slice (.int .u64))) (a1 : Den (.int .i64)) :
    run { P := Go.Proofs.Tryd.prog, sums := [(158, ⟨I158, O158, p158, f158⟩)], loops := [(180, 4, LoopSpec.of P180_4 A180_4 X180_4 Q180_4 w180_4)], globs := G1 } 9 180 Go.Proofs.Tryd.f180 I180 O180 (a0, a1, ()) = t180 p158 f158 w180_4 a0 a1 := by kernel_rfl
noncomputable def W180_4 : P180_4.D → Option (OutT X180_4 Q180_4) := lfix fun L => h180_4 S158.pre S158.F L some
noncomputable def T180 (x : DenS I180) : Option (DenS O180) := t180 S158.pre S158.F W180_4 x.1 x.2.1
noncomputable def C180 : Cfg := { P := Go.Proofs.Tryd.prog, sums := [(158, S158)], loops := [(180, 4, LoopSpec.of P180_4 A180_4 X180_4 Q180_4 W180_4)], globs := G1 }
noncomputable def S180 : Sum := sumOf I180 O180 T180 (DenS.dflt O180)
theorem S180_sound : Sound Go.Proofs.Tryd.prog G1 180 S180 :=
  fn_sound C180 9 180 Go.Proofs.Tryd.f180 mixedOk (by kernel_rfl) (by kernel_rfl) (by kernel_rfl) ⟨S158_sound, trivial⟩ ⟨rfl, fun d => loopOk_of (fun L e x => h180_4 S158.pre S158.F L e x) (m180_4 S158.pre S158.F) (fun R L e x => s180_4 S158.pre S158.F W180_4 d R L e x), trivial⟩ I180 O180 T180 _ fun x => r180 S158.pre S158.F W180_4 x.1 x.2.1
/-- vernier/vernierref06.Whole -/
abbrev I161 : Sig := [(false, .int .i64), (true, .pair (.bool) (.pair (.slice (.int .u64)) (.pair (.int .i64) (.unit)))), (false, .int .i64)]
abbrev O161 : Sig := [(false, .slice (.int .u64)), (false, .bool)]
noncomputable def t161 (p180 : DenS I180 → Bool) (f180 : DenS I180 → DenS O180) (p130 : DenS I130 → Bool) (f130 : DenS I130 → DenS O130) (p127 : DenS I127 → Bool) (f127 : DenS I127 → DenS O127) (p129 : DenS I129 → Bool) (f129 : DenS I129 → DenS O129) (p128 : DenS I128 → Bool) (f128 : DenS I128 → DenS O128) (a0 : Den (.int .i64)) (a1 : Den (.pair (.bool) (.pair (.slice (.int .u64)) (.pair (.int .i64) (.unit))))) (a2 : Den (.int .i64)) : Option (DenS O161) :=
  bif (decide (a2 ≤ a1.2.2.1)) then
  (bif (p127 (a1.2.1, ((Go.IntKind.wrap Go.IntKind.i64 (a1.2.2.1 - a2)), ()))) then
  (some ((f127 (a1.2.1, ((Go.IntKind.wrap Go.IntKind.i64 (a1.2.2.1 - a2)), ()))).1, (false, ())))
  else none)
  else bif (p180 (a1.2.1, ((Go.IntKind.wrap Go.IntKind.i64 (a2 - a1.2.2.1)), ()))) then
  (bif (p127 ((f180 (a1.2.1, ((Go.IntKind.wrap Go.IntKind.i64 (a2 - a1.2.2.1)), ()))).1, ((Go.IntKind.wrap Go.IntKind.i64 (a2 - a1.2.2.1)), ()))) then
  (bif (p130 (a1.2.1, (f127 ((f180 (a1.2.1, ((Go.IntKind.wrap Go.IntKind.i64 (a2 - a1.2.2.1)), ()))).1, ((Go.IntKind.wrap Go.IntKind.i64 (a2 - a1.2.2.1)), ()))))) then
  (bif (((f130 (a1.2.1, (f127 ((f180 (a1.2.1, ((Go.IntKind.wrap Go.IntKind.i64 (a2 - a1.2.2.1)), ()))).1, ((Go.IntKind.wrap Go.IntKind.i64 (a2 - a1.2.2.1)), ()))))).1.length : Int) == (0 : Int)) then
  (some ((f180 (a1.2.1, ((Go.IntKind.wrap Go.IntKind.i64 (a2 - a1.2.2.1)), ()))).1, (false, ())))
  else bif (p127 (((1 : Int) :: []), ((Go.IntKind.wrap Go.IntKind.i64 ((Go.IntKind.wrap Go.IntKind.i64 (a2 - a1.2.2.1)) - (1 : Int))), ()))) then
  (bif (p129 ((f130 (a1.2.1, (f127 ((f180 (a1.2.1, ((Go.IntKind.wrap Go.IntKind.i64 (a2 - a1.2.2.1)), ()))).1, ((Go.IntKind.wrap Go.IntKind.i64 (a2 - a1.2.2.1)), ()))))).1, (f127 (((1 : Int) :: []), ((Go.IntKind.wrap Go.IntKind.i64 ((Go.IntKind.wrap Go.IntKind.i64 (a2 - a1.2.2.1)) - (1 : Int))), ()))))) then
  (bif ((decide ((0 : Int) < ((f180 (a1.2.1, ((Go.IntKind.wrap Go.IntKind.i64 (a2 - a1.2.2.1)), ()))).1.length : Int))) || (!(decide (((f180 (a1.2.1, ((Go.IntKind.wrap Go.IntKind.i64 (a2 - a1.2.2.1)), ()))).1.length : Int) > (0 : Int))))) then
  (bif (a0 == (0 : Int)) then
  (bif ((decide ((f129 ((f130 (a1.2.1, (f127 ((f180 (a1.2.1, ((Go.IntKind.wrap Go.IntKind.i64 (a2 - a1.2.2.1)), ()))).1, ((Go.IntKind.wrap Go.IntKind.i64 (a2 - a1.2.2.1)), ()))))).1, (f127 (((1 : Int) :: []), ((Go.IntKind.wrap Go.IntKind.i64 ((Go.IntKind.wrap Go.IntKind.i64 (a2 - a1.2.2.1)) - (1 : Int))), ()))))).1 > (0 : Int))) || (((f129 ((f130 (a1.2.1, (f127 ((f180 (a1.2.1, ((Go.IntKind.wrap Go.IntKind.i64 (a2 - a1.2.2.1)), ()))).1, ((Go.IntKind.wrap Go.IntKind.i64 (a2 - a1.2.2.1)), ()))))).1, (f127 (((1 : Int) :: []), ((Go.IntKind.wrap Go.IntKind.i64 ((Go.IntKind.wrap Go.IntKind.i64 (a2 - a1.2.2.1)) - (1 : Int))), ()))))).1 == (0 : Int)) && ((decide (((f180 (a1.2.1, ((Go.IntKind.wrap Go.IntKind.i64 (a2 - a1.2.2.1)), ()))).1.length : Int) > (0 : Int))) && ((Int.tmod ((f180 (a1.2.1, ((Go.IntKind.wrap Go.IntKind.i64 (a2 - a1.2.2.1)), ()))).1.getD (Int.toNat (0 : Int)) (0 : Int)) (2 : Int)) == (1 : Int))))) then
  (bif (p128 ((f180 (a1.2.1, ((Go.IntKind.wrap Go.IntKind.i64 (a2 - a1.2.2.1)), ()))).1, (((1 : Int) :: []), ()))) then
  (some ((f128 ((f180 (a1.2.1, ((Go.IntKind.wrap Go.IntKind.i64 (a2 - a1.2.2.1)), ()))).1, (((1 : Int) :: []), ()))).1, (true, ())))
  else none)
  else some ((f180 (a1.2.1, ((Go.IntKind.wrap Go.IntKind.i64 (a2 - a1.2.2.1)), ()))).1, (true, ())))
  else bif (a0 == (1 : Int)) then
  (bif (decide ((f129 ((f130 (a1.2.1, (f127 ((f180 (a1.2.1, ((Go.IntKind.wrap Go.IntKind.i64 (a2 - a1.2.2.1)), ()))).1, ((Go.IntKind.wrap Go.IntKind.i64 (a2 - a1.2.2.1)), ()))))).1, (f127 (((1 : Int) :: []), ((Go.IntKind.wrap Go.IntKind.i64 ((Go.IntKind.wrap Go.IntKind.i64 (a2 - a1.2.2.1)) - (1 : Int))), ()))))).1 ≥ (0 : Int))) then
  (bif (p128 ((f180 (a1.2.1, ((Go.IntKind.wrap Go.IntKind.i64 (a2 - a1.2.2.1)), ()))).1, (((1 : Int) :: []), ()))) then
  (some ((f128 ((f180 (a1.2.1, ((Go.IntKind.wrap Go.IntKind.i64 (a2 - a1.2.2.1)), ()))).1, (((1 : Int) :: []), ()))).1, (true, ())))
  else none)
  else some ((f180 (a1.2.1, ((Go.IntKind.wrap Go.IntKind.i64 (a2 - a1.2.2.1)), ()))).1, (true, ())))
  else bif (a0 == (3 : Int)) then
  (bif (!a1.1) then
  (bif (p128 ((f180 (a1.2.1, ((Go.IntKind.wrap Go.IntKind.i64 (a2 - a1.2.2.1)), ()))).1, (((1 : Int) :: []), ()))) then
  (some ((f128 ((f180 (a1.2.1, ((Go.IntKind.wrap Go.IntKind.i64 (a2 - a1.2.2.1)), ()))).1, (((1 : Int) :: []), ()))).1, (true, ())))
  else none)
  else some ((f180 (a1.2.1, ((Go.IntKind.wrap Go.IntKind.i64 (a2 - a1.2.2.1)), ()))).1, (true, ())))
  else bif (a0 == (4 : Int)) then
  (bif a1.1 then
  (bif (p128 ((f180 (a1.2.1, ((Go.IntKind.wrap Go.IntKind.i64 (a2 - a1.2.2.1)), ()))).1, (((1 : Int) :: []), ()))) then
  (some ((f128 ((f180 (a1.2.1, ((Go.IntKind.wrap Go.IntKind.i64 (a2 - a1.2.2.1)), ()))).1, (((1 : Int) :: []), ()))).1, (true, ())))
  else none)
  else some ((f180 (a1.2.1, ((Go.IntKind.wrap Go.IntKind.i64 (a2 - a1.2.2.1)), ()))).1, (true, ())))
  else bif (a0 == (5 : Int)) then
  (bif (!((decide (((f180 (a1.2.1, ((Go.IntKind.wrap Go.IntKind.i64 (a2 - a1.2.2.1)), ()))).1.length : Int) > (0 : Int))) && ((Int.tmod ((f180 (a1.2.1, ((Go.IntKind.wrap Go.IntKind.i64 (a2 - a1.2.2.1)), ()))).1.getD (Int.toNat (0 : Int)) (0 : Int)) (2 : Int)) == (1 : Int)))) then
  (bif (p128 ((f180 (a1.2.1, ((Go.IntKind.wrap Go.IntKind.i64 (a2 - a1.2.2.1)), ()))).1, (((1 : Int) :: []), ()))) then
  (some ((f128 ((f180 (a1.2.1, ((Go.IntKind.wrap Go.IntKind.i64 (a2 - a1.2.2.1)), ()))).1, (((1 : Int) :: []), ()))).1, (true, ())))
  else none)
  else some ((f180 (a1.2.1, ((Go.IntKind.wrap Go.IntKind.i64 (a2 - a1.2.2.1)), ()))).1, (true, ())))
  else some ((f180 (a1.2.1, ((Go.IntKind.wrap Go.IntKind.i64 (a2 - a1.2.2.1)), ()))).1, (true, ())))
  else none)
  else none)
  else none)
  else none)
  else none)
  else none
theorem r161 (p180 : DenS I180 → Bool) (f180 : DenS I180 → DenS O180) (p130 : DenS I130 → Bool) (f130 : DenS I130 → DenS O130) (p127 : DenS I127 → Bool) (f127 : DenS I127 → DenS O127) (p129 : DenS I129 → Bool) (f129 : DenS I129 → DenS O129) (p128 : DenS I128 → Bool) (f128 : DenS I128 → DenS O128) (a0 : Den (.int .i64)) (a1 : Den (.pair (.bool) (.pair (.slice (.int .u64)) (.pair (.int .i64) (.unit))))) (a2 : Den (.int .i64)) :
    run { P := Go.Proofs.Tryd.prog, sums := [(180, ⟨I180, O180, p180, f180⟩), (130, ⟨I130, O130, p130, f130⟩), (127, ⟨I127, O127, p127, f127⟩), (129, ⟨I129, O129, p129, f129⟩), (128, ⟨I128, O128, p128, f128⟩)], loops := [], globs := G1 } 9 161 Go.Proofs.Tryd.f161 I161 O161 (a0, a1, a2, ()) = t161 p180 f180 p130 f130 p127 f127 p129 f129 p128 f128 a0 a1 a2 := by kernel_rfl
noncomputable def T161 (x : DenS I161) : Option (DenS O161) := t161 S180.pre S180.F S130.pre S130.F S127.pre S127.F S129.pre S129.F S128.pre S128.F x.1 x.2.1 x.2.2.1
noncomputable def C161 : Cfg := { P := Go.Proofs.Tryd.prog, sums := [(180, S180), (130, S130), (127, S127), (129, S129), (128, S128)], loops := [], globs := G1 }
noncomputable def S161 : Sum := sumOf I161 O161 T161 (DenS.dflt O161)
theorem S161_sound : Sound Go.Proofs.Tryd.prog G1 161 S161 :=
  fn_sound C161 9 161 Go.Proofs.Tryd.f161 mixedOk (by kernel_rfl) (by kernel_rfl) (by kernel_rfl) ⟨S180_sound, ⟨S130_sound, ⟨S127_sound, ⟨S129_sound, ⟨S128_sound, trivial⟩⟩⟩⟩⟩ trivial I161 O161 T161 _ fun x => r161 S180.pre S180.F S130.pre S130.F S127.pre S127.F S129.pre S129.F S128.pre S128.F x.1 x.2.1 x.2.2.1
/-- vernier/vernierref03.Bits -/
abbrev I159 : Sig := [(false, .slice (.int .u64))]
abbrev O159 : Sig := [(false, .int .i64)]
abbrev P159_6 : Pat := ⟨27, [(4, .one (.v .u64)), (3, .one (.v .i64))], []⟩
abbrev A159_6 : List (Nat × Shape) := []
abbrev X159_6 : List (Nat × Pat) := [(0, ⟨27, [(3, .one (.v .i64))], []⟩)]
abbrev Q159_6 : Option Pat := none
noncomputable def h159_6 (p158 : DenS I158 → Bool) (f158 : DenS I158 → DenS O158) {R : Type} (L : Pat.D P159_6 → Option R) (e : OutT X159_6 Q159_6 → Option R) (x : Pat.D P159_6) : Option R :=
  bif (decide (x.1.1 > (0 : Int))) then
  ((L (((Vx.quoI Go.IntKind.u64 x.1.1 (2 : Int)), ((Go.IntKind.wrap Go.IntKind.i64 (x.1.2.1 + (1 : Int))), ())), ())))
  else (e (.inl (x.1.2, ())))
theorem s159_6 (p158 : DenS I158 → Bool) (f158 : DenS I158 → DenS O158) (w159_6 : Pat.D P159_6 → Option (OutT X159_6 Q159_6)) (d : Nat) (R : Type) (L : Pat.D P159_6 → Option R) (e : OutT X159_6 Q159_6 → Option R) (x : Pat.D P159_6) :
    lStep { P := Go.Proofs.Tryd.prog, sums := [(158, ⟨I158, O158, p158, f158⟩)], loops := [(159, 6, LoopSpec.of P159_6 A159_6 X159_6 Q159_6 w159_6)], globs := G1 } (d + 2) 159 (bodyOf Go.Proofs.Tryd.f159 6) P159_6 A159_6 X159_6 Q159_6 (R := R) L e x = h159_6 p158 f158 L e x := by kernel_rfl
theorem m159_6 (p158 : DenS I158 → Bool) (f158 : DenS I158 → DenS O158) : Par fun L e x => h159_6 p158 f158 L e x := by
  intro A B rel L L' e e' h0 hL he x
  unfold h159_6
  repeat' (first | exact h0 | exact hL _ | exact he _ | apply rel_cond | (apply rel_obind h0; intro _) | (apply rel_obind2 <;> intro _))
noncomputable def t159 (p158 : DenS I158 → Bool) (f158 : DenS I158 → DenS O158) (w159_6 : Pat.D P159_6 → Option (OutT X159_6 Q159_6)) (a0 : Den (.slice (.int .u64))) : Option (DenS O159) :=
  bif (p158 (a0, ())) then
  (bif (((f158 (a0, ())).1.length : Int) == (0 : Int)) then
  (some ((0 : Int), ()))
  else bif ((decide ((0 : Int) ≤ (Go.IntKind.wrap Go.IntKind.i64 (((f158 (a0, ())).1.length : Int) - (1 : Int))))) && (decide ((Go.IntKind.wrap Go.IntKind.i64 (((f158 (a0, ())).1.length : Int) - (1 : Int))) < ((f158 (a0, ())).1.length : Int)))) then
  (Vx.obind (w159_6 ((((f158 (a0, ())).1.getD (Int.toNat (Go.IntKind.wrap Go.IntKind.i64 (((f158 (a0, ())).1.length : Int) - (1 : Int)))) (0 : Int)), ((Go.IntKind.wrap Go.IntKind.i64 ((32 : Int) * (Go.IntKind.wrap Go.IntKind.i64 (((f158 (a0, ())).1.length : Int) - (1 : Int))))), ())), ())) fun y3 =>
  Vx.obind2 y3 (fun y4 =>
  some y4.1) (fun z4 =>
  none))
  else none)
  else none
theorem r159 (p158 : DenS I158 → Bool) (f158 : DenS I158 → DenS O158) (w159_6 : Pat.D P159_6 → Option (OutT X159_6 Q159_6)) (a0 : Den (.slice (.int .u64))) :
    run { P := Go.Proofs.Tryd.prog, sums := [(158, ⟨I158, O158, p158, f158⟩)], loops := [(159, 6, LoopSpec.of P159_6 A159_6 X159_6 Q159_6 w159_6)], globs := G1 } 9 159 Go.Proofs.Tryd.f159 I159 O159 (a0, ()) = t159 p158 f158 w159_6 a0 := by kernel_rfl
noncomputable def W159_6 : P159_6.D → Option (OutT X159_6 Q159_6) := lfix fun L => h159_6 S158.pre S158.F L some
noncomputable def T159 (x : DenS I159) : Option (DenS O159) := t159 S158.pre S158.F W159_6 x.1
noncomputable def C159 : Cfg := { P := Go.Proofs.Tryd.prog, sums := [(158, S158)], loops := [(159, 6, LoopSpec.of P159_6 A159_6 X159_6 Q159_6 W159_6)], globs := G1 }
noncomputable def S159 : Sum := sumOf I159 O159 T159 (DenS.dflt O159)
theorem S159_sound : Sound Go.Proofs.Tryd.prog G1 159 S159 :=
  fn_sound C159 9 159 Go.Proofs.Tryd.f159 mixedOk (by kernel_rfl) (by kernel_rfl) (by kernel_rfl) ⟨S158_sound, trivial⟩ ⟨rfl, fun d => loopOk_of (fun L e x => h159_6 S158.pre S158.F L e x) (m159_6 S158.pre S158.F) (fun R L e x => s159_6 S158.pre S158.F W159_6 d R L e x), trivial⟩ I159 O159 T159 _ fun x => r159 S158.pre S158.F W159_6 x.1
/-- vernier/vernierref06.Round -/
abbrev I126 : Sig := [(false, .int .i64), (false, .int .i64), (true, .pair (.bool) (.pair (.slice (.int .u64)) (.pair (.int .i64) (.unit))))]
abbrev O126 : Sig := [(false, .int .u64), (false, .int .i64)]
noncomputable def t126 (p67 : DenS I67 → Bool) (f67 : DenS I67 → DenS O67) (p160 : DenS I160 → Bool) (f160 : DenS I160 → DenS O160) (p81 : DenS I81 → Bool) (f81 : DenS I81 → DenS O81) (p162 : DenS I162 → Bool) (f162 : DenS I162 → DenS O162) (p161 : DenS I161 → Bool) (f161 : DenS I161 → DenS O161) (p159 : DenS I159 → Bool) (f159 : DenS I159 → DenS O159) (a0 : Den (.int .i64)) (a1 : Den (.int .i64)) (a2 : Den (.pair (.bool) (.pair (.slice (.int .u64)) (.pair (.int .i64) (.unit))))) : Option (DenS O126) :=
  bif (p67 (a0, ())) then
  (bif (p159 (a2.2.1, ())) then
  (bif (decide ((Go.IntKind.wrap Go.IntKind.i64 ((Go.IntKind.wrap Go.IntKind.i64 (a2.2.2.1 + (f159 (a2.2.1, ())).1)) - (1 : Int))) > (Go.IntKind.wrap Go.IntKind.i64 ((1 : Int) - (f67 (a0, ())).2.2.1)))) then
  (bif (p160 (a0, (a1, (a2.1, ())))) then
  (some ((f160 (a0, (a1, (a2.1, ())))).1, ((20 : Int), ())))
  else none)
  else bif (p161 (a1, ((a2.1, a2.2), ((Go.IntKind.wrap Go.IntKind.i64 ((Go.IntKind.wrap Go.IntKind.i64 ((if ((f67 (a0, ())).2.2.1 > (Go.IntKind.wrap Go.IntKind.i64 ((Go.IntKind.wrap Go.IntKind.i64 (a2.2.2.1 + (f159 (a2.2.1, ())).1)) - (1 : Int)))) then (f67 (a0, ())).2.2.1 else (Go.IntKind.wrap Go.IntKind.i64 ((Go.IntKind.wrap Go.IntKind.i64 (a2.2.2.1 + (f159 (a2.2.1, ())).1)) - (1 : Int)))) - (f67 (a0, ())).2.1)) + (1 : Int))), ())))) then
  (bif (p159 ((f161 (a1, ((a2.1, a2.2), ((Go.IntKind.wrap Go.IntKind.i64 ((Go.IntKind.wrap Go.IntKind.i64 ((if ((f67 (a0, ())).2.2.1 > (Go.IntKind.wrap Go.IntKind.i64 ((Go.IntKind.wrap Go.IntKind.i64 (a2.2.2.1 + (f159 (a2.2.1, ())).1)) - (1 : Int)))) then (f67 (a0, ())).2.2.1 else (Go.IntKind.wrap Go.IntKind.i64 ((Go.IntKind.wrap Go.IntKind.i64 (a2.2.2.1 + (f159 (a2.2.1, ())).1)) - (1 : Int)))) - (f67 (a0, ())).2.1)) + (1 : Int))), ())))).1, ())) then
  (bif (decide ((Go.IntKind.wrap Go.IntKind.i64 ((Go.IntKind.wrap Go.IntKind.i64 ((Go.IntKind.wrap Go.IntKind.i64 ((Go.IntKind.wrap Go.IntKind.i64 ((if ((f67 (a0, ())).2.2.1 > (Go.IntKind.wrap Go.IntKind.i64 ((Go.IntKind.wrap Go.IntKind.i64 (a2.2.2.1 + (f159 (a2.2.1, ())).1)) - (1 : Int)))) then (f67 (a0, ())).2.2.1 else (Go.IntKind.wrap Go.IntKind.i64 ((Go.IntKind.wrap Go.IntKind.i64 (a2.2.2.1 + (f159 (a2.2.1, ())).1)) - (1 : Int)))) - (f67 (a0, ())).2.1)) + (1 : Int))) + (f159 ((f161 (a1, ((a2.1, a2.2), ((Go.IntKind.wrap Go.IntKind.i64 ((Go.IntKind.wrap Go.IntKind.i64 ((if ((f67 (a0, ())).2.2.1 > (Go.IntKind.wrap Go.IntKind.i64 ((Go.IntKind.wrap Go.IntKind.i64 (a2.2.2.1 + (f159 (a2.2.1, ())).1)) - (1 : Int)))) then (f67 (a0, ())).2.2.1 else (Go.IntKind.wrap Go.IntKind.i64 ((Go.IntKind.wrap Go.IntKind.i64 (a2.2.2.1 + (f159 (a2.2.1, ())).1)) - (1 : Int)))) - (f67 (a0, ())).2.1)) + (1 : Int))), ())))).1, ())).1)) - (1 : Int))) > (Go.IntKind.wrap Go.IntKind.i64 ((1 : Int) - (f67 (a0, ())).2.2.1)))) then
  (bif (p160 (a0, (a1, (a2.1, ())))) then
  (some ((f160 (a0, (a1, (a2.1, ())))).1, ((20 : Int), ())))
  else none)
  else bif (p81 (a0, (a2.1, ()))) then
  (bif (p162 ((f161 (a1, ((a2.1, a2.2), ((Go.IntKind.wrap Go.IntKind.i64 ((Go.IntKind.wrap Go.IntKind.i64 ((if ((f67 (a0, ())).2.2.1 > (Go.IntKind.wrap Go.IntKind.i64 ((Go.IntKind.wrap Go.IntKind.i64 (a2.2.2.1 + (f159 (a2.2.1, ())).1)) - (1 : Int)))) then (f67 (a0, ())).2.2.1 else (Go.IntKind.wrap Go.IntKind.i64 ((Go.IntKind.wrap Go.IntKind.i64 (a2.2.2.1 + (f159 (a2.2.1, ())).1)) - (1 : Int)))) - (f67 (a0, ())).2.1)) + (1 : Int))), ())))).1, ())) then
  (bif (decide (((f162 ((f161 (a1, ((a2.1, a2.2), ((Go.IntKind.wrap Go.IntKind.i64 ((Go.IntKind.wrap Go.IntKind.i64 ((if ((f67 (a0, ())).2.2.1 > (Go.IntKind.wrap Go.IntKind.i64 ((Go.IntKind.wrap Go.IntKind.i64 (a2.2.2.1 + (f159 (a2.2.1, ())).1)) - (1 : Int)))) then (f67 (a0, ())).2.2.1 else (Go.IntKind.wrap Go.IntKind.i64 ((Go.IntKind.wrap Go.IntKind.i64 (a2.2.2.1 + (f159 (a2.2.1, ())).1)) - (1 : Int)))) - (f67 (a0, ())).2.1)) + (1 : Int))), ())))).1, ())).1.length : Int) > (0 : Int))) then
  (bif (decide ((0 : Int) < ((f162 ((f161 (a1, ((a2.1, a2.2), ((Go.IntKind.wrap Go.IntKind.i64 ((Go.IntKind.wrap Go.IntKind.i64 ((if ((f67 (a0, ())).2.2.1 > (Go.IntKind.wrap Go.IntKind.i64 ((Go.IntKind.wrap Go.IntKind.i64 (a2.2.2.1 + (f159 (a2.2.1, ())).1)) - (1 : Int)))) then (f67 (a0, ())).2.2.1 else (Go.IntKind.wrap Go.IntKind.i64 ((Go.IntKind.wrap Go.IntKind.i64 (a2.2.2.1 + (f159 (a2.2.1, ())).1)) - (1 : Int)))) - (f67 (a0, ())).2.1)) + (1 : Int))), ())))).1, ())).1.length : Int))) then
  (bif (!(f161 (a1, ((a2.1, a2.2), ((Go.IntKind.wrap Go.IntKind.i64 ((Go.IntKind.wrap Go.IntKind.i64 ((if ((f67 (a0, ())).2.2.1 > (Go.IntKind.wrap Go.IntKind.i64 ((Go.IntKind.wrap Go.IntKind.i64 (a2.2.2.1 + (f159 (a2.2.1, ())).1)) - (1 : Int)))) then (f67 (a0, ())).2.2.1 else (Go.IntKind.wrap Go.IntKind.i64 ((Go.IntKind.wrap Go.IntKind.i64 (a2.2.2.1 + (f159 (a2.2.1, ())).1)) - (1 : Int)))) - (f67 (a0, ())).2.1)) + (1 : Int))), ())))).2.1) then
  (some ((Go.IntKind.wrap Go.IntKind.u64 ((f81 (a0, (a2.1, ()))).1 + (Go.IntKind.wrap Go.IntKind.u64 (((f162 ((f161 (a1, ((a2.1, a2.2), ((Go.IntKind.wrap Go.IntKind.i64 ((Go.IntKind.wrap Go.IntKind.i64 ((if ((f67 (a0, ())).2.2.1 > (Go.IntKind.wrap Go.IntKind.i64 ((Go.IntKind.wrap Go.IntKind.i64 (a2.2.2.1 + (f159 (a2.2.1, ())).1)) - (1 : Int)))) then (f67 (a0, ())).2.2.1 else (Go.IntKind.wrap Go.IntKind.i64 ((Go.IntKind.wrap Go.IntKind.i64 (a2.2.2.1 + (f159 (a2.2.1, ())).1)) - (1 : Int)))) - (f67 (a0, ())).2.1)) + (1 : Int))), ())))).1, ())).1.getD (Int.toNat (0 : Int)) (0 : Int)) + (Vx.shlI Go.IntKind.u64 (Go.IntKind.wrap Go.IntKind.u64 (Go.IntKind.wrap Go.IntKind.i64 ((Go.IntKind.wrap Go.IntKind.i64 ((Go.IntKind.wrap Go.IntKind.i64 ((if ((f67 (a0, ())).2.2.1 > (Go.IntKind.wrap Go.IntKind.i64 ((Go.IntKind.wrap Go.IntKind.i64 (a2.2.2.1 + (f159 (a2.2.1, ())).1)) - (1 : Int)))) then (f67 (a0, ())).2.2.1 else (Go.IntKind.wrap Go.IntKind.i64 ((Go.IntKind.wrap Go.IntKind.i64 (a2.2.2.1 + (f159 (a2.2.1, ())).1)) - (1 : Int)))) - (f67 (a0, ())).2.1)) + (1 : Int))) - (Go.IntKind.wrap Go.IntKind.i64 ((Go.IntKind.wrap Go.IntKind.i64 ((f67 (a0, ())).2.2.1 - (f67 (a0, ())).2.1)) + (1 : Int)))))) (Go.IntKind.wrap Go.IntKind.u64 (Go.IntKind.wrap Go.IntKind.i64 ((f67 (a0, ())).2.1 - (1 : Int))))))))), ((0 : Int), ())))
  else bif (decide ((Go.IntKind.wrap Go.IntKind.i64 ((Go.IntKind.wrap Go.IntKind.i64 (a2.2.2.1 + (f159 (a2.2.1, ())).1)) - (1 : Int))) < (f67 (a0, ())).2.2.1)) then
  (bif (p161 (a1, ((a2.1, a2.2), ((Go.IntKind.wrap Go.IntKind.i64 ((Go.IntKind.wrap Go.IntKind.i64 ((Go.IntKind.wrap Go.IntKind.i64 ((Go.IntKind.wrap Go.IntKind.i64 (a2.2.2.1 + (f159 (a2.2.1, ())).1)) - (1 : Int))) - (f67 (a0, ())).2.1)) + (1 : Int))), ())))) then
  (bif (p159 ((f161 (a1, ((a2.1, a2.2), ((Go.IntKind.wrap Go.IntKind.i64 ((Go.IntKind.wrap Go.IntKind.i64 ((Go.IntKind.wrap Go.IntKind.i64 ((Go.IntKind.wrap Go.IntKind.i64 (a2.2.2.1 + (f159 (a2.2.1, ())).1)) - (1 : Int))) - (f67 (a0, ())).2.1)) + (1 : Int))), ())))).1, ())) then
  (bif (decide ((Go.IntKind.wrap Go.IntKind.i64 ((Go.IntKind.wrap Go.IntKind.i64 ((Go.IntKind.wrap Go.IntKind.i64 ((Go.IntKind.wrap Go.IntKind.i64 (a2.2.2.1 + (f159 (a2.2.1, ())).1)) - (1 : Int))) - (f67 (a0, ())).2.1)) + (f159 ((f161 (a1, ((a2.1, a2.2), ((Go.IntKind.wrap Go.IntKind.i64 ((Go.IntKind.wrap Go.IntKind.i64 ((Go.IntKind.wrap Go.IntKind.i64 ((Go.IntKind.wrap Go.IntKind.i64 (a2.2.2.1 + (f159 (a2.2.1, ())).1)) - (1 : Int))) - (f67 (a0, ())).2.1)) + (1 : Int))), ())))).1, ())).1)) < (f67 (a0, ())).2.2.1)) then
  (some ((Go.IntKind.wrap Go.IntKind.u64 ((f81 (a0, (a2.1, ()))).1 + (Go.IntKind.wrap Go.IntKind.u64 (((f162 ((f161 (a1, ((a2.1, a2.2), ((Go.IntKind.wrap Go.IntKind.i64 ((Go.IntKind.wrap Go.IntKind.i64 ((if ((f67 (a0, ())).2.2.1 > (Go.IntKind.wrap Go.IntKind.i64 ((Go.IntKind.wrap Go.IntKind.i64 (a2.2.2.1 + (f159 (a2.2.1, ())).1)) - (1 : Int)))) then (f67 (a0, ())).2.2.1 else (Go.IntKind.wrap Go.IntKind.i64 ((Go.IntKind.wrap Go.IntKind.i64 (a2.2.2.1 + (f159 (a2.2.1, ())).1)) - (1 : Int)))) - (f67 (a0, ())).2.1)) + (1 : Int))), ())))).1, ())).1.getD (Int.toNat (0 : Int)) (0 : Int)) + (Vx.shlI Go.IntKind.u64 (Go.IntKind.wrap Go.IntKind.u64 (Go.IntKind.wrap Go.IntKind.i64 ((Go.IntKind.wrap Go.IntKind.i64 ((Go.IntKind.wrap Go.IntKind.i64 ((if ((f67 (a0, ())).2.2.1 > (Go.IntKind.wrap Go.IntKind.i64 ((Go.IntKind.wrap Go.IntKind.i64 (a2.2.2.1 + (f159 (a2.2.1, ())).1)) - (1 : Int)))) then (f67 (a0, ())).2.2.1 else (Go.IntKind.wrap Go.IntKind.i64 ((Go.IntKind.wrap Go.IntKind.i64 (a2.2.2.1 + (f159 (a2.2.1, ())).1)) - (1 : Int)))) - (f67 (a0, ())).2.1)) + (1 : Int))) - (Go.IntKind.wrap Go.IntKind.i64 ((Go.IntKind.wrap Go.IntKind.i64 ((f67 (a0, ())).2.2.1 - (f67 (a0, ())).2.1)) + (1 : Int)))))) (Go.IntKind.wrap Go.IntKind.u64 (Go.IntKind.wrap Go.IntKind.i64 ((f67 (a0, ())).2.1 - (1 : Int))))))))), ((Vx.orI Go.IntKind.i64 (16 : Int) (8 : Int)), ())))
  else some ((Go.IntKind.wrap Go.IntKind.u64 ((f81 (a0, (a2.1, ()))).1 + (Go.IntKind.wrap Go.IntKind.u64 (((f162 ((f161 (a1, ((a2.1, a2.2), ((Go.IntKind.wrap Go.IntKind.i64 ((Go.IntKind.wrap Go.IntKind.i64 ((if ((f67 (a0, ())).2.2.1 > (Go.IntKind.wrap Go.IntKind.i64 ((Go.IntKind.wrap Go.IntKind.i64 (a2.2.2.1 + (f159 (a2.2.1, ())).1)) - (1 : Int)))) then (f67 (a0, ())).2.2.1 else (Go.IntKind.wrap Go.IntKind.i64 ((Go.IntKind.wrap Go.IntKind.i64 (a2.2.2.1 + (f159 (a2.2.1, ())).1)) - (1 : Int)))) - (f67 (a0, ())).2.1)) + (1 : Int))), ())))).1, ())).1.getD (Int.toNat (0 : Int)) (0 : Int)) + (Vx.shlI Go.IntKind.u64 (Go.IntKind.wrap Go.IntKind.u64 (Go.IntKind.wrap Go.IntKind.i64 ((Go.IntKind.wrap Go.IntKind.i64 ((Go.IntKind.wrap Go.IntKind.i64 ((if ((f67 (a0, ())).2.2.1 > (Go.IntKind.wrap Go.IntKind.i64 ((Go.IntKind.wrap Go.IntKind.i64 (a2.2.2.1 + (f159 (a2.2.1, ())).1)) - (1 : Int)))) then (f67 (a0, ())).2.2.1 else (Go.IntKind.wrap Go.IntKind.i64 ((Go.IntKind.wrap Go.IntKind.i64 (a2.2.2.1 + (f159 (a2.2.1, ())).1)) - (1 : Int)))) - (f67 (a0, ())).2.1)) + (1 : Int))) - (Go.IntKind.wrap Go.IntKind.i64 ((Go.IntKind.wrap Go.IntKind.i64 ((f67 (a0, ())).2.2.1 - (f67 (a0, ())).2.1)) + (1 : Int)))))) (Go.IntKind.wrap Go.IntKind.u64 (Go.IntKind.wrap Go.IntKind.i64 ((f67 (a0, ())).2.1 - (1 : Int))))))))), ((16 : Int), ())))
  else none)
  else none)
  else some ((Go.IntKind.wrap Go.IntKind.u64 ((f81 (a0, (a2.1, ()))).1 + (Go.IntKind.wrap Go.IntKind.u64 (((f162 ((f161 (a1, ((a2.1, a2.2), ((Go.IntKind.wrap Go.IntKind.i64 ((Go.IntKind.wrap Go.IntKind.i64 ((if ((f67 (a0, ())).2.2.1 > (Go.IntKind.wrap Go.IntKind.i64 ((Go.IntKind.wrap Go.IntKind.i64 (a2.2.2.1 + (f159 (a2.2.1, ())).1)) - (1 : Int)))) then (f67 (a0, ())).2.2.1 else (Go.IntKind.wrap Go.IntKind.i64 ((Go.IntKind.wrap Go.IntKind.i64 (a2.2.2.1 + (f159 (a2.2.1, ())).1)) - (1 : Int)))) - (f67 (a0, ())).2.1)) + (1 : Int))), ())))).1, ())).1.getD (Int.toNat (0 : Int)) (0 : Int)) + (Vx.shlI Go.IntKind.u64 (Go.IntKind.wrap Go.IntKind.u64 (Go.IntKind.wrap Go.IntKind.i64 ((Go.IntKind.wrap Go.IntKind.i64 ((Go.IntKind.wrap Go.IntKind.i64 ((if ((f67 (a0, ())).2.2.1 > (Go.IntKind.wrap Go.IntKind.i64 ((Go.IntKind.wrap Go.IntKind.i64 (a2.2.2.1 + (f159 (a2.2.1, ())).1)) - (1 : Int)))) then (f67 (a0, ())).2.2.1 else (Go.IntKind.wrap Go.IntKind.i64 ((Go.IntKind.wrap Go.IntKind.i64 (a2.2.2.1 + (f159 (a2.2.1, ())).1)) - (1 : Int)))) - (f67 (a0, ())).2.1)) + (1 : Int))) - (Go.IntKind.wrap Go.IntKind.i64 ((Go.IntKind.wrap Go.IntKind.i64 ((f67 (a0, ())).2.2.1 - (f67 (a0, ())).2.1)) + (1 : Int)))))) (Go.IntKind.wrap Go.IntKind.u64 (Go.IntKind.wrap Go.IntKind.i64 ((f67 (a0, ())).2.1 - (1 : Int))))))))), ((16 : Int), ())))
  else none)
  else bif (!(f161 (a1, ((a2.1, a2.2), ((Go.IntKind.wrap Go.IntKind.i64 ((Go.IntKind.wrap Go.IntKind.i64 ((if ((f67 (a0, ())).2.2.1 > (Go.IntKind.wrap Go.IntKind.i64 ((Go.IntKind.wrap Go.IntKind.i64 (a2.2.2.1 + (f159 (a2.2.1, ())).1)) - (1 : Int)))) then (f67 (a0, ())).2.2.1 else (Go.IntKind.wrap Go.IntKind.i64 ((Go.IntKind.wrap Go.IntKind.i64 (a2.2.2.1 + (f159 (a2.2.1, ())).1)) - (1 : Int)))) - (f67 (a0, ())).2.1)) + (1 : Int))), ())))).2.1) then
  (some ((f81 (a0, (a2.1, ()))).1, ((0 : Int), ())))
  else bif (decide ((Go.IntKind.wrap Go.IntKind.i64 ((Go.IntKind.wrap Go.IntKind.i64 (a2.2.2.1 + (f159 (a2.2.1, ())).1)) - (1 : Int))) < (f67 (a0, ())).2.2.1)) then
  (bif (p161 (a1, ((a2.1, a2.2), ((Go.IntKind.wrap Go.IntKind.i64 ((Go.IntKind.wrap Go.IntKind.i64 ((Go.IntKind.wrap Go.IntKind.i64 ((Go.IntKind.wrap Go.IntKind.i64 (a2.2.2.1 + (f159 (a2.2.1, ())).1)) - (1 : Int))) - (f67 (a0, ())).2.1)) + (1 : Int))), ())))) then
  (bif (p159 ((f161 (a1, ((a2.1, a2.2), ((Go.IntKind.wrap Go.IntKind.i64 ((Go.IntKind.wrap Go.IntKind.i64 ((Go.IntKind.wrap Go.IntKind.i64 ((Go.IntKind.wrap Go.IntKind.i64 (a2.2.2.1 + (f159 (a2.2.1, ())).1)) - (1 : Int))) - (f67 (a0, ())).2.1)) + (1 : Int))), ())))).1, ())) then
  (bif (decide ((Go.IntKind.wrap Go.IntKind.i64 ((Go.IntKind.wrap Go.IntKind.i64 ((Go.IntKind.wrap Go.IntKind.i64 ((Go.IntKind.wrap Go.IntKind.i64 (a2.2.2.1 + (f159 (a2.2.1, ())).1)) - (1 : Int))) - (f67 (a0, ())).2.1)) + (f159 ((f161 (a1, ((a2.1, a2.2), ((Go.IntKind.wrap Go.IntKind.i64 ((Go.IntKind.wrap Go.IntKind.i64 ((Go.IntKind.wrap Go.IntKind.i64 ((Go.IntKind.wrap Go.IntKind.i64 (a2.2.2.1 + (f159 (a2.2.1, ())).1)) - (1 : Int))) - (f67 (a0, ())).2.1)) + (1 : Int))), ())))).1, ())).1)) < (f67 (a0, ())).2.2.1)) then
  (some ((f81 (a0, (a2.1, ()))).1, ((Vx.orI Go.IntKind.i64 (16 : Int) (8 : Int)), ())))
  else some ((f81 (a0, (a2.1, ()))).1, ((16 : Int), ())))
  else none)
  else none)
  else some ((f81 (a0, (a2.1, ()))).1, ((16 : Int), ())))
  else none)
  else none)
  else none)
  else none)
  else none)
  else none
theorem r126 (p67 : DenS I67 → Bool) (f67 : DenS I67 → DenS O67) (p160 : DenS I160 → Bool) (f160 : DenS I160 → DenS O160) (p81 : DenS I81 → Bool) (f81 : DenS I81 → DenS O81) (p162 : DenS I162 → Bool) (f162 : DenS I162 → DenS O162) (p161 : DenS I161 → Bool) (f161 : DenS I161 → DenS O161) (p159 : DenS I159 → Bool) (f159 : DenS I159 → DenS O159) (a0 : Den (.int .i64)) (a1 : Den (.int .i64)) (a2 : Den (.pair (.bool) (.pair (.slice (.int .u64)) (.pair (.int .i64) (.unit))))) :
    run { P := Go.Proofs.Tryd.prog, sums := [(67, ⟨I67, O67, p67, f67⟩), (160, ⟨I160, O160, p160, f160⟩), (81, ⟨I81, O81, p81, f81⟩), (162, ⟨I162, O162, p162, f162⟩), (161, ⟨I161, O161, p161, f161⟩), (159, ⟨I159, O159, p159, f159⟩)], loops := [], globs := G1 } 9 126 Go.Proofs.Tryd.f126 I126 O126 (a0, a1, a2, ()) = t126 p67 f67 p160 f160 p81 f81 p162 f162 p161 f161 p159 f159 a0 a1 a2 := by kernel_rfl
noncomputable def T126 (x : DenS I126) : Option (DenS O126) := t126 S67.pre S67.F S160.pre S160.F S81.pre S81.F S162.pre S162.F S161.pre S161.F S159.pre S159.F x.1 x.2.1 x.2.2.1
noncomputable def C126 : Cfg := { P := Go.Proofs.Tryd.prog, sums := [(67, S67), (160, S160), (81, S81), (162, S162), (161, S161), (159, S159)], loops := [], globs := G1 }
noncomputable def S126 : Sum := sumOf I126 O126 T126 (DenS.dflt O126)
theorem S126_sound : Sound Go.Proofs.Tryd.prog G1 126 S126 :=
  fn_sound C126 9 126 Go.Proofs.Tryd.f126 mixedOk (by kernel_rfl) (by kernel_rfl) (by kernel_rfl) ⟨S67_sound, ⟨S160_sound, ⟨S81_sound, ⟨S162_sound, ⟨S161_sound, ⟨S159_sound, trivial⟩⟩⟩⟩⟩⟩ trivial I126 O126 T126 _ fun x => r126 S67.pre S67.F S160.pre S160.F S81.pre S81.F S162.pre S162.F S161.pre S161.F S159.pre S159.F x.1 x.2.1 x.2.2.1
/-- vernier/vernierref06.Final -/
abbrev I77 : Sig := [(false, .int .i64), (false, .int .i64), (true, .pair (.bool) (.pair (.slice (.int .u64)) (.pair (.int .i64) (.unit)))), (false, .bool)]
abbrev O77 : Sig := [(false, .int .u64), (false, .int .i64)]
noncomputable def t77 (p37 : DenS I37 → Bool) (f37 : DenS I37 → DenS O37) (p126 : DenS I126 → Bool) (f126 : DenS I126 → DenS O126) (a0 : Den (.int .i64)) (a1 : Den (.int .i64)) (a2 : Den (.pair (.bool) (.pair (.slice (.int .u64)) (.pair (.int .i64) (.unit))))) (a3 : Den (.bool)) : Option (DenS O77) :=
  bif ((a2.2.1.length : Int) == (0 : Int)) then
  (bif (p37 (a0, (a3, ()))) then
  (some ((f37 (a0, (a3, ()))).1, ((0 : Int), ())))
  else none)
  else bif (p126 (a0, (a1, ((a2.1, a2.2), ())))) then
  (some (f126 (a0, (a1, ((a2.1, a2.2), ())))))
  else none
theorem r77 (p37 : DenS I37 → Bool) (f37 : DenS I37 → DenS O37) (p126 : DenS I126 → Bool) (f126 : DenS I126 → DenS O126) (a0 : Den (.int .i64)) (a1 : Den (.int .i64)) (a2 : Den (.pair (.bool) (.pair (.slice (.int .u64)) (.pair (.int .i64) (.unit))))) (a3 : Den (.bool)) :
    run { P := Go.Proofs.Tryd.prog, sums := [(37, ⟨I37, O37, p37, f37⟩), (126, ⟨I126, O126, p126, f126⟩)], loops := [], globs := G1 } 9 77 Go.Proofs.Tryd.f77 I77 O77 (a0, a1, a2, a3, ()) = t77 p37 f37 p126 f126 a0 a1 a2 a3 := by kernel_rfl
noncomputable def T77 (x : DenS I77) : Option (DenS O77) := t77 S37.pre S37.F S126.pre S126.F x.1 x.2.1 x.2.2.1 x.2.2.2.1
noncomputable def C77 : Cfg := { P := Go.Proofs.Tryd.prog, sums := [(37, S37), (126, S126)], loops := [], globs := G1 }
noncomputable def S77 : Sum := sumOf I77 O77 T77 (DenS.dflt O77)
theorem S77_sound : Sound Go.Proofs.Tryd.prog G1 77 S77 :=
  fn_sound C77 9 77 Go.Proofs.Tryd.f77 mixedOk (by kernel_rfl) (by kernel_rfl) (by kernel_rfl) ⟨S37_sound, ⟨S126_sound, trivial⟩⟩ trivial I77 O77 T77 _ fun x => r77 S37.pre S37.F S126.pre S126.F x.1 x.2.1 x.2.2.1 x.2.2.2.1
/-- vernier/vernierref06.Add -/
abbrev I28 : Sig := [(false, .int .i64), (false, .int .i64), (false, .int .u64), (false, .int .u64)]
abbrev O28 : Sig := [(false, .int .u64), (false, .int .i64), (false, .int .i64)]
noncomputable def t28 (p73 : DenS I73 → Bool) (f73 : DenS I73 → DenS O73) (p68 : DenS I68 → Bool) (f68 : DenS I68 → DenS O68) (p74 : DenS I74 → Bool) (f74 : DenS I74 → DenS O74) (p75 : DenS I75 → Bool) (f75 : DenS I75 → DenS O75) (p76 : DenS I76 → Bool) (f76 : DenS I76 → DenS O76) (p78 : DenS I78 → Bool) (f78 : DenS I78 → DenS O78) (p77 : DenS I77 → Bool) (f77 : DenS I77 → DenS O77) (a0 : Den (.int .i64)) (a1 : Den (.int .i64)) (a2 : Den (.int .u64)) (a3 : Den (.int .u64)) : Option (DenS O28) :=
  bif (p73 (a0, (a1, ()))) then
  (bif ((f73 (a0, (a1, ()))).1 != (0 : Int)) then
  (some ((0 : Int), ((0 : Int), (f73 (a0, (a1, ()))))))
  else bif (p68 (a0, (a2, ()))) then
  (bif ((p68 (a0, (a3, ()))) || (!(bif (!(f68 (a0, (a2, ()))).1) then false else true))) then
  (bif ((!(f68 (a0, (a2, ()))).1) || (!(f68 (a0, (a3, ()))).1)) then
  (some ((0 : Int), ((0 : Int), ((4 : Int), ()))))
  else bif (p74 (a0, (a2, ()))) then
  (bif (p74 (a0, (a3, ()))) then
  (bif ((f74 (a0, (a2, ()))).1.2.1 || (f74 (a0, (a3, ()))).1.2.1) then
  (bif (p75 (a0, ())) then
  (some ((f75 (a0, ())).1, ((1 : Int), ((0 : Int), ()))))
  else none)
  else bif ((f74 (a0, (a2, ()))).1.1 || (f74 (a0, (a3, ()))).1.1) then
  (bif (p75 (a0, ())) then
  (some ((f75 (a0, ())).1, ((0 : Int), ((0 : Int), ()))))
  else none)
  else bif (((f74 (a0, (a2, ()))).1.2.2.1 && (f74 (a0, (a3, ()))).1.2.2.1) && (!((f74 (a0, (a2, ()))).1.2.2.2.1 == (f74 (a0, (a3, ()))).1.2.2.2.1))) then
  (bif (p75 (a0, ())) then
  (some ((f75 (a0, ())).1, ((1 : Int), ((0 : Int), ()))))
  else none)
  else bif (f74 (a0, (a2, ()))).1.2.2.1 then
  (some (a2, ((0 : Int), ((0 : Int), ()))))
  else bif (f74 (a0, (a3, ()))).1.2.2.1 then
  (some (a3, ((0 : Int), ((0 : Int), ()))))
  else bif (p76 (f74 (a0, (a2, ())))) then
  (bif ((p76 (f74 (a0, (a3, ())))) || (!(f76 (f74 (a0, (a2, ())))).1)) then
  (bif (((f76 (f74 (a0, (a2, ())))).1 && (f76 (f74 (a0, (a3, ())))).1) && ((f74 (a0, (a2, ()))).1.2.2.2.1 == (f74 (a0, (a3, ()))).1.2.2.2.1)) then
  (bif (p78 ((f74 (a0, (a2, ()))).1.2.2.2.2.1, (f74 (a0, (a3, ()))).1.2.2.2.2)) then
  (bif (p77 (a0, (a1, ((f78 ((f74 (a0, (a2, ()))).1.2.2.2.2.1, (f74 (a0, (a3, ()))).1.2.2.2.2)).1, ((f74 (a0, (a2, ()))).1.2.2.2.1, ()))))) then
  (some ((f77 (a0, (a1, ((f78 ((f74 (a0, (a2, ()))).1.2.2.2.2.1, (f74 (a0, (a3, ()))).1.2.2.2.2)).1, ((f74 (a0, (a2, ()))).1.2.2.2.1, ()))))).1, ((f77 (a0, (a1, ((f78 ((f74 (a0, (a2, ()))).1.2.2.2.2.1, (f74 (a0, (a3, ()))).1.2.2.2.2)).1, ((f74 (a0, (a2, ()))).1.2.2.2.1, ()))))).2.1, ((0 : Int), ()))))
  else none)
  else none)
  else bif (p78 ((f74 (a0, (a2, ()))).1.2.2.2.2.1, (f74 (a0, (a3, ()))).1.2.2.2.2)) then
  (bif (p77 (a0, (a1, ((f78 ((f74 (a0, (a2, ()))).1.2.2.2.2.1, (f74 (a0, (a3, ()))).1.2.2.2.2)).1, ((a1 == (4 : Int)), ()))))) then
  (some ((f77 (a0, (a1, ((f78 ((f74 (a0, (a2, ()))).1.2.2.2.2.1, (f74 (a0, (a3, ()))).1.2.2.2.2)).1, ((a1 == (4 : Int)), ()))))).1, ((f77 (a0, (a1, ((f78 ((f74 (a0, (a2, ()))).1.2.2.2.2.1, (f74 (a0, (a3, ()))).1.2.2.2.2)).1, ((a1 == (4 : Int)), ()))))).2.1, ((0 : Int), ()))))
  else none)
  else none)
  else none)
  else none)
  else none)
  else none)
  else none)
  else none)
  else none
theorem r28 (p73 : DenS I73 → Bool) (f73 : DenS I73 → DenS O73) (p68 : DenS I68 → Bool) (f68 : DenS I68 → DenS O68) (p74 : DenS I74 → Bool) (f74 : DenS I74 → DenS O74) (p75 : DenS I75 → Bool) (f75 : DenS I75 → DenS O75) (p76 : DenS I76 → Bool) (f76 : DenS I76 → DenS O76) (p78 : DenS I78 → Bool) (f78 : DenS I78 → DenS O78) (p77 : DenS I77 → Bool) (f77 : DenS I77 → DenS O77) (a0 : Den (.int .i64)) (a1 : Den (.int .i64)) (a2 : Den (.int .u64)) (a3 : Den (.int .u64)) :
    run { P := Go.Proofs.Tryd.prog, sums := [(73, ⟨I73, O73, p73, f73⟩), (68, ⟨I68, O68, p68, f68⟩), (74, ⟨I74, O74, p74, f74⟩), (75, ⟨I75, O75, p75, f75⟩), (76, ⟨I76, O76, p76, f76⟩), (78, ⟨I78, O78, p78, f78⟩), (77, ⟨I77, O77, p77, f77⟩)], loops := [], globs := G1 } 9 28 Go.Proofs.Tryd.f28 I28 O28 (a0, a1, a2, a3, ()) = t28 p73 f73 p68 f68 p74 f74 p75 f75 p76 f76 p78 f78 p77 f77 a0 a1 a2 a3 := by kernel_rfl
noncomputable def T28 (x : DenS I28) : Option (DenS O28) := t28 S73.pre S73.F S68.pre S68.F S74.pre S74.F S75.pre S75.F S76.pre S76.F S78.pre S78.F S77.pre S77.F x.1 x.2.1 x.2.2.1 x.2.2.2.1
noncomputable def C28 : Cfg := { P := Go.Proofs.Tryd.prog, sums := [(73, S73), (68, S68), (74, S74), (75, S75), (76, S76), (78, S78), (77, S77)], loops := [], globs := G1 }
noncomputable def S28 : Sum := sumOf I28 O28 T28 (DenS.dflt O28)
theorem S28_sound : Sound Go.Proofs.Tryd.prog G1 28 S28 :=
  fn_sound C28 9 28 Go.Proofs.Tryd.f28 mixedOk (by kernel_rfl) (by kernel_rfl) (by kernel_rfl) ⟨S73_sound, ⟨S68_sound, ⟨S74_sound, ⟨S75_sound, ⟨S76_sound, ⟨S78_sound, ⟨S77_sound, trivial⟩⟩⟩⟩⟩⟩⟩ trivial I28 O28 T28 _ fun x => r28 S73.pre S73.F S68.pre S68.F S74.pre S74.F S75.pre S75.F S76.pre S76.F S78.pre S78.F S77.pre S77.F x.1 x.2.1 x.2.2.1 x.2.2.2.1
/-- vernier/vernierref06.Sub -/
abbrev I26 : Sig := [(false, .int .i64), (false, .int .i64), (false, .int .u64), (false, .int .u64)]
abbrev O26 : Sig := [(false, .int .u64), (false, .int .i64), (false, .int .i64)]
noncomputable def t26 (p67 : DenS I67 → Bool) (f67 : DenS I67 → DenS O67) (p68 : DenS I68 → Bool) (f68 : DenS I68 → DenS O68) (p32 : DenS I32 → Bool) (f32 : DenS I32 → DenS O32) (p28 : DenS I28 → Bool) (f28 : DenS I28 → DenS O28) (a0 : Den (.int .i64)) (a1 : Den (.int .i64)) (a2 : Den (.int .u64)) (a3 : Den (.int .u64)) : Option (DenS O26) :=
  bif (p67 (a0, ())) then
  (bif ((p68 (a0, (a3, ()))) || (!(bif ((f67 (a0, ())).1 == (0 : Int)) then false else true))) then
  (bif (((f67 (a0, ())).1 == (0 : Int)) || (!(f68 (a0, (a3, ()))).1)) then
  (bif (p28 (a0, (a1, (a2, (a3, ()))))) then
  (some (f28 (a0, (a1, (a2, (a3, ()))))))
  else none)
  else bif (p32 (a0, (a3, ()))) then
  (bif (p28 (a0, (a1, (a2, (f32 (a0, (a3, ()))))))) then
  (some (f28 (a0, (a1, (a2, (f32 (a0, (a3, ()))))))))
  else none)
  else none)
  else none)
  else none
theorem r26 (p67 : DenS I67 → Bool) (f67 : DenS I67 → DenS O67) (p68 : DenS I68 → Bool) (f68 : DenS I68 → DenS O68) (p32 : DenS I32 → Bool) (f32 : DenS I32 → DenS O32) (p28 : DenS I28 → Bool) (f28 : DenS I28 → DenS O28) (a0 : Den (.int .i64)) (a1 : Den (.int .i64)) (a2 : Den (.int .u64)) (a3 : Den (.int .u64)) :
    run { P := Go.Proofs.Tryd.prog, sums := [(67, ⟨I67, O67, p67, f67⟩), (68, ⟨I68, O68, p68, f68⟩), (32, ⟨I32, O32, p32, f32⟩), (28, ⟨I28, O28, p28, f28⟩)], loops := [], globs := G1 } 9 26 Go.Proofs.Tryd.f26 I26 O26 (a0, a1, a2, a3, ()) = t26 p67 f67 p68 f68 p32 f32 p28 f28 a0 a1 a2 a3 := by kernel_rfl
noncomputable def T26 (x : DenS I26) : Option (DenS O26) := t26 S67.pre S67.F S68.pre S68.F S32.pre S32.F S28.pre S28.F x.1 x.2.1 x.2.2.1 x.2.2.2.1
noncomputable def C26 : Cfg := { P := Go.Proofs.Tryd.prog, sums := [(67, S67), (68, S68), (32, S32), (28, S28)], loops := [], globs := G1 }
noncomputable def S26 : Sum := sumOf I26 O26 T26 (DenS.dflt O26)
theorem S26_sound : Sound Go.Proofs.Tryd.prog G1 26 S26 :=
  fn_sound C26 9 26 Go.Proofs.Tryd.f26 mixedOk (by kernel_rfl) (by kernel_rfl) (by kernel_rfl) ⟨S67_sound, ⟨S68_sound, ⟨S32_sound, ⟨S28_sound, trivial⟩⟩⟩⟩ trivial I26 O26 T26 _ fun x => r26 S67.pre S67.F S68.pre S68.F S32.pre S32.F S28.pre S28.F x.1 x.2.1 x.2.2.1 x.2.2.2.1
/-- vernier/vernierlaw06.AddsubAlls -/
abbrev I6 : Sig := [(false, .slice (.pair (.int .i64) (.pair (.int .i64) (.pair (.int .u64) (.pair (.int .u64) (.pair (.bool) (.unit)))))))]
abbrev O6 : Sig := [(false, .bool)]
abbrev P6_4 : Pat := ⟨90, [(0, .one (.sl (.pair (.int .i64) (.pair (.int .i64) (.pair (.int .u64) (.pair (.int .u64) (.pair (.bool) (.unit)))))))), (3, .one (.v .i64))], []⟩
abbrev A6_4 : List (Nat × Shape) := []
abbrev X6_4 : List (Nat × Pat) := [(0, ⟨90, [], []⟩)]
abbrev Q6_4 : Option Pat := (some ⟨90, [(2, .one (.bool))], []⟩)
noncomputable def h6_4 (p24 : DenS I24 → Bool) (f24 : DenS I24 → DenS O24) (p25 : DenS I25 → Bool) (f25 : DenS I25 → DenS O25) (p26 : DenS I26 → Bool) (f26 : DenS I26 → DenS O26) (p27 : DenS I27 → Bool) (f27 : DenS I27 → DenS O27) (p28 : DenS I28 → Bool) (f28 : DenS I28 → DenS O28) {R : Type} (L : Pat.D P6_4 → Option R) (e : OutT X6_4 Q6_4 → Option R) (x : Pat.D P6_4) : Option R :=
  bif (decide (x.1.2.1 < (x.1.1.length : Int))) then
  (bif ((decide ((0 : Int) ≤ x.1.2.1)) && (decide (x.1.2.1 < (x.1.1.length : Int)))) then
  (bif (x.1.1.getD (Int.toNat x.1.2.1) ((0 : Int), ((0 : Int), ((0 : Int), ((0 : Int), (false, ())))))).2.2.2.2.1 then
  (bif (p25 ((x.1.1.getD (Int.toNat x.1.2.1) ((0 : Int), ((0 : Int), ((0 : Int), ((0 : Int), (false, ())))))).1, ((x.1.1.getD (Int.toNat x.1.2.1) ((0 : Int), ((0 : Int), ((0 : Int), ((0 : Int), (false, ())))))).2.1, ((x.1.1.getD (Int.toNat x.1.2.1) ((0 : Int), ((0 : Int), ((0 : Int), ((0 : Int), (false, ())))))).2.2.1, ((x.1.1.getD (Int.toNat x.1.2.1) ((0 : Int), ((0 : Int), ((0 : Int), ((0 : Int), (false, ())))))).2.2.2.1, ()))))) then
  (bif (p26 ((x.1.1.getD (Int.toNat x.1.2.1) ((0 : Int), ((0 : Int), ((0 : Int), ((0 : Int), (false, ())))))).1, ((x.1.1.getD (Int.toNat x.1.2.1) ((0 : Int), ((0 : Int), ((0 : Int), ((0 : Int), (false, ())))))).2.1, ((x.1.1.getD (Int.toNat x.1.2.1) ((0 : Int), ((0 : Int), ((0 : Int), ((0 : Int), (false, ())))))).2.2.1, ((x.1.1.getD (Int.toNat x.1.2.1) ((0 : Int), ((0 : Int), ((0 : Int), ((0 : Int), (false, ())))))).2.2.2.1, ()))))) then
  (bif ((((f25 ((x.1.1.getD (Int.toNat x.1.2.1) ((0 : Int), ((0 : Int), ((0 : Int), ((0 : Int), (false, ())))))).1, ((x.1.1.getD (Int.toNat x.1.2.1) ((0 : Int), ((0 : Int), ((0 : Int), ((0 : Int), (false, ())))))).2.1, ((x.1.1.getD (Int.toNat x.1.2.1) ((0 : Int), ((0 : Int), ((0 : Int), ((0 : Int), (false, ())))))).2.2.1, ((x.1.1.getD (Int.toNat x.1.2.1) ((0 : Int), ((0 : Int), ((0 : Int), ((0 : Int), (false, ())))))).2.2.2.1, ()))))).1 != (f26 ((x.1.1.getD (Int.toNat x.1.2.1) ((0 : Int), ((0 : Int), ((0 : Int), ((0 : Int), (false, ())))))).1, ((x.1.1.getD (Int.toNat x.1.2.1) ((0 : Int), ((0 : Int), ((0 : Int), ((0 : Int), (false, ())))))).2.1, ((x.1.1.getD (Int.toNat x.1.2.1) ((0 : Int), ((0 : Int), ((0 : Int), ((0 : Int), (false, ())))))).2.2.1, ((x.1.1.getD (Int.toNat x.1.2.1) ((0 : Int), ((0 : Int), ((0 : Int), ((0 : Int), (false, ())))))).2.2.2.1, ()))))).1) || ((f25 ((x.1.1.getD (Int.toNat x.1.2.1) ((0 : Int), ((0 : Int), ((0 : Int), ((0 : Int), (false, ())))))).1, ((x.1.1.getD (Int.toNat x.1.2.1) ((0 : Int), ((0 : Int), ((0 : Int), ((0 : Int), (false, ())))))).2.1, ((x.1.1.getD (Int.toNat x.1.2.1) ((0 : Int), ((0 : Int), ((0 : Int), ((0 : Int), (false, ())))))).2.2.1, ((x.1.1.getD (Int.toNat x.1.2.1) ((0 : Int), ((0 : Int), ((0 : Int), ((0 : Int), (false, ())))))).2.2.2.1, ()))))).2.1 != (f26 ((x.1.1.getD (Int.toNat x.1.2.1) ((0 : Int), ((0 : Int), ((0 : Int), ((0 : Int), (false, ())))))).1, ((x.1.1.getD (Int.toNat x.1.2.1) ((0 : Int), ((0 : Int), ((0 : Int), ((0 : Int), (false, ())))))).2.1, ((x.1.1.getD (Int.toNat x.1.2.1) ((0 : Int), ((0 : Int), ((0 : Int), ((0 : Int), (false, ())))))).2.2.1, ((x.1.1.getD (Int.toNat x.1.2.1) ((0 : Int), ((0 : Int), ((0 : Int), ((0 : Int), (false, ())))))).2.2.2.1, ()))))).2.1)) || ((f25 ((x.1.1.getD (Int.toNat x.1.2.1) ((0 : Int), ((0 : Int), ((0 : Int), ((0 : Int), (false, ())))))).1, ((x.1.1.getD (Int.toNat x.1.2.1) ((0 : Int), ((0 : Int), ((0 : Int), ((0 : Int), (false, ())))))).2.1, ((x.1.1.getD (Int.toNat x.1.2.1) ((0 : Int), ((0 : Int), ((0 : Int), ((0 : Int), (false, ())))))).2.2.1, ((x.1.1.getD (Int.toNat x.1.2.1) ((0 : Int), ((0 : Int), ((0 : Int), ((0 : Int), (false, ())))))).2.2.2.1, ()))))).2.2.1 != (f26 ((x.1.1.getD (Int.toNat x.1.2.1) ((0 : Int), ((0 : Int), ((0 : Int), ((0 : Int), (false, ())))))).1, ((x.1.1.getD (Int.toNat x.1.2.1) ((0 : Int), ((0 : Int), ((0 : Int), ((0 : Int), (false, ())))))).2.1, ((x.1.1.getD (Int.toNat x.1.2.1) ((0 : Int), ((0 : Int), ((0 : Int), ((0 : Int), (false, ())))))).2.2.1, ((x.1.1.getD (Int.toNat x.1.2.1) ((0 : Int), ((0 : Int), ((0 : Int), ((0 : Int), (false, ())))))).2.2.2.1, ()))))).2.2.1)) then
  ((e (.inr ((false, ()), ()))))
  else (L ((x.1.1, ((Go.IntKind.wrap Go.IntKind.i64 (x.1.2.1 + (1 : Int))), ())), ())))
  else none)
  else none)
  else bif (p27 ((x.1.1.getD (Int.toNat x.1.2.1) ((0 : Int), ((0 : Int), ((0 : Int), ((0 : Int), (false, ())))))).1, ((x.1.1.getD (Int.toNat x.1.2.1) ((0 : Int), ((0 : Int), ((0 : Int), ((0 : Int), (false, ())))))).2.1, ((x.1.1.getD (Int.toNat x.1.2.1) ((0 : Int), ((0 : Int), ((0 : Int), ((0 : Int), (false, ())))))).2.2.1, ((x.1.1.getD (Int.toNat x.1.2.1) ((0 : Int), ((0 : Int), ((0 : Int), ((0 : Int), (false, ())))))).2.2.2.1, ()))))) then
  (bif (p28 ((x.1.1.getD (Int.toNat x.1.2.1) ((0 : Int), ((0 : Int), ((0 : Int), ((0 : Int), (false, ())))))).1, ((x.1.1.getD (Int.toNat x.1.2.1) ((0 : Int), ((0 : Int), ((0 : Int), ((0 : Int), (false, ())))))).2.1, ((x.1.1.getD (Int.toNat x.1.2.1) ((0 : Int), ((0 : Int), ((0 : Int), ((0 : Int), (false, ())))))).2.2.1, ((x.1.1.getD (Int.toNat x.1.2.1) ((0 : Int), ((0 : Int), ((0 : Int), ((0 : Int), (false, ())))))).2.2.2.1, ()))))) then
  (bif ((((f27 ((x.1.1.getD (Int.toNat x.1.2.1) ((0 : Int), ((0 : Int), ((0 : Int), ((0 : Int), (false, ())))))).1, ((x.1.1.getD (Int.toNat x.1.2.1) ((0 : Int), ((0 : Int), ((0 : Int), ((0 : Int), (false, ())))))).2.1, ((x.1.1.getD (Int.toNat x.1.2.1) ((0 : Int), ((0 : Int), ((0 : Int), ((0 : Int), (false, ())))))).2.2.1, ((x.1.1.getD (Int.toNat x.1.2.1) ((0 : Int), ((0 : Int), ((0 : Int), ((0 : Int), (false, ())))))).2.2.2.1, ()))))).1 != (f28 ((x.1.1.getD (Int.toNat x.1.2.1) ((0 : Int), ((0 : Int), ((0 : Int), ((0 : Int), (false, ())))))).1, ((x.1.1.getD (Int.toNat x.1.2.1) ((0 : Int), ((0 : Int), ((0 : Int), ((0 : Int), (false, ())))))).2.1, ((x.1.1.getD (Int.toNat x.1.2.1) ((0 : Int), ((0 : Int), ((0 : Int), ((0 : Int), (false, ())))))).2.2.1, ((x.1.1.getD (Int.toNat x.1.2.1) ((0 : Int), ((0 : Int), ((0 : Int), ((0 : Int), (false, ())))))).2.2.2.1, ()))))).1) || ((f27 ((x.1.1.getD (Int.toNat x.1.2.1) ((0 : Int), ((0 : Int), ((0 : Int), ((0 : Int), (false, ())))))).1, ((x.1.1.getD (Int.toNat x.1.2.1) ((0 : Int), ((0 : Int), ((0 : Int), ((0 : Int), (false, ())))))).2.1, ((x.1.1.getD (Int.toNat x.1.2.1) ((0 : Int), ((0 : Int), ((0 : Int), ((0 : Int), (false, ())))))).2.2.1, ((x.1.1.getD (Int.toNat x.1.2.1) ((0 : Int), ((0 : Int), ((0 : Int), ((0 : Int), (false, ())))))).2.2.2.1, ()))))).2.1 != (f28 ((x.1.1.getD (Int.toNat x.1.2.1) ((0 : Int), ((0 : Int), ((0 : Int), ((0 : Int), (false, ())))))).1, ((x.1.1.getD (Int.toNat x.1.2.1) ((0 : Int), ((0 : Int), ((0 : Int), ((0 : Int), (false, ())))))).2.1, ((x.1.1.getD (Int.toNat x.1.2.1) ((0 : Int), ((0 : Int), ((0 : Int), ((0 : Int), (false, ())))))).2.2.1, ((x.1.1.getD (Int.toNat x.1.2.1) ((0 : Int), ((0 : Int), ((0 : Int), ((0 : Int), (false, ())))))).2.2.2.1, ()))))).2.1)) || ((f27 ((x.1.1.getD (Int.toNat x.1.2.1) ((0 : Int), ((0 : Int), ((0 : Int), ((0 : Int), (false, ())))))).1, ((x.1.1.getD (Int.toNat x.1.2.1) ((0 : Int), ((0 : Int), ((0 : Int), ((0 : Int), (false, ())))))).2.1, ((x.1.1.getD (Int.toNat x.1.2.1) ((0 : Int), ((0 : Int), ((0 : Int), ((0 : Int), (false, ())))))).2.2.1, ((x.1.1.getD (Int.toNat x.1.2.1) ((0 : Int), ((0 : Int), ((0 : Int), ((0 : Int), (false, ())))))).2.2.2.1, ()))))).2.2.1 != (f28 ((x.1.1.getD (Int.toNat x.1.2.1) ((0 : Int), ((0 : Int), ((0 : Int), ((0 : Int), (false, ())))))).1, ((x.1.1.getD (Int.toNat x.1.2.1) ((0 : Int), ((0 : Int), ((0 : Int), ((0 : Int), (false, ())))))).2.1, ((x.1.1.getD (Int.toNat x.1.2.1) ((0 : Int), ((0 : Int), ((0 : Int), ((0 : Int), (false, ())))))).2.2.1, ((x.1.1.getD (Int.toNat x.1.2.1) ((0 : Int), ((0 : Int), ((0 : Int), ((0 : Int), (false, ())))))).2.2.2.1, ()))))).2.2.1)) then
  ((e (.inr ((false, ()), ()))))
  else (L ((x.1.1, ((Go.IntKind.wrap Go.IntKind.i64 (x.1.2.1 + (1 : Int))), ())), ())))
  else none)
  else none)
  else none)
  else (e (.inl ((), ())))
theorem s6_4 (p24 : DenS I24 → Bool) (f24 : DenS I24 → DenS O24) (p25 : DenS I25 → Bool) (f25 : DenS I25 → DenS O25) (p26 : DenS I26 → Bool) (f26 : DenS I26 → DenS O26) (p27 : DenS I27 → Bool) (f27 : DenS I27 → DenS O27) (p28 : DenS I28 → Bool) (f28 : DenS I28 → DenS O28) (w6_4 : Pat.D P6_4 → Option (OutT X6_4 Q6_4)) (d : Nat) (R : Type) (L : Pat.D P6_4 → Option R) (e : OutT X6_4 Q6_4 → Option R) (x : Pat.D P6_4) :
    lStep { P := Go.Proofs.Tryd.prog, sums := [(24, ⟨I24, O24, p24, f24⟩), (25, ⟨I25, O25, p25, f25⟩), (26, ⟨I26, O26, p26, f26⟩), (27, ⟨I27, O27, p27, f27⟩), (28, ⟨I28, O28, p28, f28⟩)], loops := [(6, 4, LoopSpec.of P6_4 A6_4 X6_4 Q6_4 w6_4)], globs := G1 } (d + 2) 6 (bodyOf Go.Proofs.Tryd.f6 4) P6_4 A6_4 X6_4 Q6_4 (R := R) L e x = h6_4 p24 f24 p25 f25 p26 f26 p27 f27 p28 f28 L e x := by kernel_rfl
theorem m6_4 (p24 : DenS I24 → Bool) (f24 : DenS I24 → DenS O24) (p25 : DenS I25 → Bool) (f25 : DenS I25 → DenS O25) (p26 : DenS I26 → Bool) (f26 : DenS I26 → DenS O26) (p27 : DenS I27 → Bool) (f27 : DenS I27 → DenS O27) (p28 : DenS I28 → Bool) (f28 : DenS I28 → DenS O28) : Par fun L e x => h6_4 p24 f24 p25 f25 p26 f26 p27 f27 p28 f28 L e x := by
  intro A B rel L L' e e' h0 hL he x
  unfold h6_4
  repeat' (first | exact h0 | exact hL _ | exact he _ | apply rel_cond | (apply rel_obind h0; intro _) | (apply rel_obind2 <;> intro _))
noncomputable def t6 (p24 : DenS I24 → Bool) (f24 : DenS I24 → DenS O24) (p25 : DenS I25 → Bool) (f25 : DenS I25 → DenS O25) (p26 : DenS I26 → Bool) (f26 : DenS I26 → DenS O26) (p27 : DenS I27 → Bool) (f27 : DenS I27 → DenS O27) (p28 : DenS I28 → Bool) (f28 : DenS I28 → DenS O28) (w6_4 : Pat.D P6_4 → Option (OutT X6_4 Q6_4)) (a0 : Den (.slice (.pair (.int .i64) (.pair (.int .i64) (.pair (.int .u64) (.pair (.int .u64) (.pair (.bool) (.unit)))))))) : Option (DenS O6) :=
  bif (p24 ()) then
  (bif (!(f24 ()).1) then
  (some (false, ()))
  else Vx.obind (w6_4 ((a0, ((0 : Int), ())), ())) fun y2 =>
  Vx.obind2 y2 (fun y3 =>
  some (true, ())) (fun z3 =>
  some z3.1))
  else none
theorem r6 (p24 : DenS I24 → Bool) (f24 : DenS I24 → DenS O24) (p25 : DenS I25 → Bool) (f25 : DenS I25 → DenS O25) (p26 : DenS I26 → Bool) (f26 : DenS I26 → DenS O26) (p27 : DenS I27 → Bool) (f27 : DenS I27 → DenS O27) (p28 : DenS I28 → Bool) (f28 : DenS I28 → DenS O28) (w6_4 : Pat.D P6_4 → Option (OutT X6_4 Q6_4)) (a0 : Den (.slice (.pair (.int .i64) (.pair (.int .i64) (.pair (.int .u64) (.pair (.int .u64) (.pair (.bool) (.unit)))))))) :
    run { P := Go.Proofs.Tryd.prog, sums := [(24, ⟨I24, O24, p24, f24⟩), (25, ⟨I25, O25, p25, f25⟩), (26, ⟨I26, O26, p26, f26⟩), (27, ⟨I27, O27, p27, f27⟩), (28, ⟨I28, O28, p28, f28⟩)], loops := [(6, 4, LoopSpec.of P6_4 A6_4 X6_4 Q6_4 w6_4)], globs := G1 } 9 6 Go.Proofs.Tryd.f6 I6 O6 (a0, ()) = t6 p24 f24 p25 f25 p26 f26 p27 f27 p28 f28 w6_4 a0 := by kernel_rfl
noncomputable def W6_4 : P6_4.D → Option (OutT X6_4 Q6_4) := lfix fun L => h6_4 S24.pre S24.F S25.pre S25.F S26.pre S26.F S27.pre S27.F S28.pre S28.F L some
noncomputable def T6 (x : DenS I6) : Option (DenS O6) := t6 S24.pre S24.F S25.pre S25.F S26.pre S26.F S27.pre S27.F S28.pre S28.F W6_4 x.1
noncomputable def C6 : Cfg := { P := Go.Proofs.Tryd.prog, sums := [(24, S24), (25, S25), (26, S26), (27, S27), (28, S28)], loops := [(6, 4, LoopSpec.of P6_4 A6_4 X6_4 Q6_4 W6_4)], globs := G1 }
noncomputable def S6 : Sum := sumOf I6 O6 T6 (DenS.dflt O6)
theorem S6_sound : Sound Go.Proofs.Tryd.prog G1 6 S6 :=
  fn_sound C6 9 6 Go.Proofs.Tryd.f6 mixedOk (by kernel_rfl) (by kernel_rfl) (by kernel_rfl) ⟨S24_sound, ⟨S25_sound, ⟨S26_sound, ⟨S27_sound, ⟨S28_sound, trivial⟩⟩⟩⟩⟩ ⟨rfl, fun d => loopOk_of (fun L e x => h6_4 S24.pre S24.F S25.pre S25.F S26.pre S26.F S27.pre S27.F S28.pre S28.F L e x) (m6_4 S24.pre S24.F S25.pre S25.F S26.pre S26.F S27.pre S27.F S28.pre S28.F) (fun R L e x => s6_4 S24.pre S24.F S25.pre S25.F S26.pre S26.F S27.pre S27.F S28.pre S28.F W6_4 d R L e x), trivial⟩ I6 O6 T6 _ fun x => r6 S24.pre S24.F S25.pre S25.F S26.pre S26.F S27.pre S27.F S28.pre S28.F W6_4 x.1
end Vx
namespace Vx
open Go
theorem pre98 {x : DenS I98} {y : DenS O98} (h : T98 x = some y) : S98.pre x = true := sum_pre (T := T98) h
theorem fun98 {x : DenS I98} {y : DenS O98} (h : T98 x = some y) : S98.F x = y := sum_F (T := T98) h
theorem pre72 {x : DenS I72} {y : DenS O72} (h : T72 x = some y) : S72.pre x = true := sum_pre (T := T72) h
theorem fun72 {x : DenS I72} {y : DenS O72} (h : T72 x = some y) : S72.F x = y := sum_F (T := T72) h
theorem pre119 {x : DenS I119} {y : DenS O119} (h : T119 x = some y) : S119.pre x = true := sum_pre (T := T119) h
theorem fun119 {x : DenS I119} {y : DenS O119} (h : T119 x = some y) : S119.F x = y := sum_F (T := T119) h
theorem pre120 {x : DenS I120} {y : DenS O120} (h : T120 x = some y) : S120.pre x = true := sum_pre (T := T120) h
theorem fun120 {x : DenS I120} {y : DenS O120} (h : T120 x = some y) : S120.F x = y := sum_F (T := T120) h
theorem pre121 {x : DenS I121} {y : DenS O121} (h : T121 x = some y) : S121.pre x = true := sum_pre (T := T121) h
theorem fun121 {x : DenS I121} {y : DenS O121} (h : T121 x = some y) : S121.F x = y := sum_F (T := T121) h
theorem pre123 {x : DenS I123} {y : DenS O123} (h : T123 x = some y) : S123.pre x = true := sum_pre (T := T123) h
theorem fun123 {x : DenS I123} {y : DenS O123} (h : T123 x = some y) : S123.F x = y := sum_F (T := T123) h
theorem pre124 {x : DenS I124} {y : DenS O124} (h : T124 x = some y) : S124.pre x = true := sum_pre (T := T124) h
theorem fun124 {x : DenS I124} {y : DenS O124} (h : T124 x = some y) : S124.F x = y := sum_F (T := T124) h
theorem pre118 {x : DenS I118} {y : DenS O118} (h : T118 x = some y) : S118.pre x = true := sum_pre (T := T118) h
theorem fun118 {x : DenS I118} {y : DenS O118} (h : T118 x = some y) : S118.F x = y := sum_F (T := T118) h
theorem pre147 {x : DenS I147} {y : DenS O147} (h : T147 x = some y) : S147.pre x = true := sum_pre (T := T147) h
theorem fun147 {x : DenS I147} {y : DenS O147} (h : T147 x = some y) : S147.F x = y := sum_F (T := T147) h
theorem pre105 {x : DenS I105} {y : DenS O105} (h : T105 x = some y) : S105.pre x = true := sum_pre (T := T105) h
theorem fun105 {x : DenS I105} {y : DenS O105} (h : T105 x = some y) : S105.F x = y := sum_F (T := T105) h
theorem pre173 {x : DenS I173} {y : DenS O173} (h : T173 x = some y) : S173.pre x = true := sum_pre (T := T173) h
theorem fun173 {x : DenS I173} {y : DenS O173} (h : T173 x = some y) : S173.F x = y := sum_F (T := T173) h
theorem pre146 {x : DenS I146} {y : DenS O146} (h : T146 x = some y) : S146.pre x = true := sum_pre (T := T146) h
theorem fun146 {x : DenS I146} {y : DenS O146} (h : T146 x = some y) : S146.F x = y := sum_F (T := T146) h
theorem pre102 {x : DenS I102} {y : DenS O102} (h : T102 x = some y) : S102.pre x = true := sum_pre (T := T102) h
theorem fun102 {x : DenS I102} {y : DenS O102} (h : T102 x = some y) : S102.F x = y := sum_F (T := T102) h
theorem pre178 {x : DenS I178} {y : DenS O178} (h : T178 x = some y) : S178.pre x = true := sum_pre (T := T178) h
theorem fun178 {x : DenS I178} {y : DenS O178} (h : T178 x = some y) : S178.F x = y := sum_F (T := T178) h
theorem pre151 {x : DenS I151} {y : DenS O151} (h : T151 x = some y) : S151.pre x = true := sum_pre (T := T151) h
theorem fun151 {x : DenS I151} {y : DenS O151} (h : T151 x = some y) : S151.F x = y := sum_F (T := T151) h
theorem pre156 {x : DenS I156} {y : DenS O156} (h : T156 x = some y) : S156.pre x = true := sum_pre (T := T156) h
theorem fun156 {x : DenS I156} {y : DenS O156} (h : T156 x = some y) : S156.F x = y := sum_F (T := T156) h
theorem pre148 {x : DenS I148} {y : DenS O148} (h : T148 x = some y) : S148.pre x = true := sum_pre (T := T148) h
theorem fun148 {x : DenS I148} {y : DenS O148} (h : T148 x = some y) : S148.F x = y := sum_F (T := T148) h
theorem pre1173 {x : DenS I1173} {y : DenS O1173} (h : T1173 x = some y) : S1173.pre x = true := sum_pre (T := T1173) h
theorem fun1173 {x : DenS I1173} {y : DenS O1173} (h : T1173 x = some y) : S1173.F x = y := sum_F (T := T1173) h
theorem pre1171 {x : DenS I1171} {y : DenS O1171} (h : T1171 x = some y) : S1171.pre x = true := sum_pre (T := T1171) h
theorem fun1171 {x : DenS I1171} {y : DenS O1171} (h : T1171 x = some y) : S1171.F x = y := sum_F (T := T1171) h
theorem pre171 {x : DenS I171} {y : DenS O171} (h : T171 x = some y) : S171.pre x = true := sum_pre (T := T171) h
theorem fun171 {x : DenS I171} {y : DenS O171} (h : T171 x = some y) : S171.F x = y := sum_F (T := T171) h
theorem pre92 {x : DenS I92} {y : DenS O92} (h : T92 x = some y) : S92.pre x = true := sum_pre (T := T92) h
theorem fun92 {x : DenS I92} {y : DenS O92} (h : T92 x = some y) : S92.F x = y := sum_F (T := T92) h
theorem pre184 {x : DenS I184} {y : DenS O184} (h : T184 x = some y) : S184.pre x = true := sum_pre (T := T184) h
theorem fun184 {x : DenS I184} {y : DenS O184} (h : T184 x = some y) : S184.F x = y := sum_F (T := T184) h
theorem pre175 {x : DenS I175} {y : DenS O175} (h : T175 x = some y) : S175.pre x = true := sum_pre (T := T175) h
theorem fun175 {x : DenS I175} {y : DenS O175} (h : T175 x = some y) : S175.F x = y := sum_F (T := T175) h
theorem pre186 {x : DenS I186} {y : DenS O186} (h : T186 x = some y) : S186.pre x = true := sum_pre (T := T186) h
theorem fun186 {x : DenS I186} {y : DenS O186} (h : T186 x = some y) : S186.F x = y := sum_F (T := T186) h
theorem pre185 {x : DenS I185} {y : DenS O185} (h : T185 x = some y) : S185.pre x = true := sum_pre (T := T185) h
theorem fun185 {x : DenS I185} {y : DenS O185} (h : T185 x = some y) : S185.F x = y := sum_F (T := T185) h
theorem pre176 {x : DenS I176} {y : DenS O176} (h : T176 x = some y) : S176.pre x = true := sum_pre (T := T176) h
theorem fun176 {x : DenS I176} {y : DenS O176} (h : T176 x = some y) : S176.F x = y := sum_F (T := T176) h
theorem pre141 {x : DenS I141} {y : DenS O141} (h : T141 x = some y) : S141.pre x = true := sum_pre (T := T141) h
theorem fun141 {x : DenS I141} {y : DenS O141} (h : T141 x = some y) : S141.F x = y := sum_F (T := T141) h
theorem pre177 {x : DenS I177} {y : DenS O177} (h : T177 x = some y) : S177.pre x = true := sum_pre (T := T177) h
theorem fun177 {x : DenS I177} {y : DenS O177} (h : T177 x = some y) : S177.F x = y := sum_F (T := T177) h
theorem pre143 {x : DenS I143} {y : DenS O143} (h : T143 x = some y) : S143.pre x = true := sum_pre (T := T143) h
theorem fun143 {x : DenS I143} {y : DenS O143} (h : T143 x = some y) : S143.F x = y := sum_F (T := T143) h
theorem pre150 {x : DenS I150} {y : DenS O150} (h : T150 x = some y) : S150.pre x = true := sum_pre (T := T150) h
theorem fun150 {x : DenS I150} {y : DenS O150} (h : T150 x = some y) : S150.F x = y := sum_F (T := T150) h
theorem pre97 {x : DenS I97} {y : DenS O97} (h : T97 x = some y) : S97.pre x = true := sum_pre (T := T97) h
theorem fun97 {x : DenS I97} {y : DenS O97} (h : T97 x = some y) : S97.F x = y := sum_F (T := T97) h
theorem pre43 {x : DenS I43} {y : DenS O43} (h : T43 x = some y) : S43.pre x = true := sum_pre (T := T43) h
theorem fun43 {x : DenS I43} {y : DenS O43} (h : T43 x = some y) : S43.F x = y := sum_F (T := T43) h
theorem pre149 {x : DenS I149} {y : DenS O149} (h : T149 x = some y) : S149.pre x = true := sum_pre (T := T149) h
theorem fun149 {x : DenS I149} {y : DenS O149} (h : T149 x = some y) : S149.F x = y := sum_F (T := T149) h
theorem pre152 {x : DenS I152} {y : DenS O152} (h : T152 x = some y) : S152.pre x = true := sum_pre (T := T152) h
theorem fun152 {x : DenS I152} {y : DenS O152} (h : T152 x = some y) : S152.F x = y := sum_F (T := T152) h
theorem pre107 {x : DenS I107} {y : DenS O107} (h : T107 x = some y) : S107.pre x = true := sum_pre (T := T107) h
theorem fun107 {x : DenS I107} {y : DenS O107} (h : T107 x = some y) : S107.F x = y := sum_F (T := T107) h
theorem pre122 {x : DenS I122} {y : DenS O122} (h : T122 x = some y) : S122.pre x = true := sum_pre (T := T122) h
theorem fun122 {x : DenS I122} {y : DenS O122} (h : T122 x = some y) : S122.F x = y := sum_F (T := T122) h
theorem pre71 {x : DenS I71} {y : DenS O71} (h : T71 x = some y) : S71.pre x = true := sum_pre (T := T71) h
theorem fun71 {x : DenS I71} {y : DenS O71} (h : T71 x = some y) : S71.F x = y := sum_F (T := T71) h
theorem pre27 {x : DenS I27} {y : DenS O27} (h : T27 x = some y) : S27.pre x = true := sum_pre (T := T27) h
theorem fun27 {x : DenS I27} {y : DenS O27} (h : T27 x = some y) : S27.F x = y := sum_F (T := T27) h
theorem pre25 {x : DenS I25} {y : DenS O25} (h : T25 x = some y) : S25.pre x = true := sum_pre (T := T25) h
theorem fun25 {x : DenS I25} {y : DenS O25} (h : T25 x = some y) : S25.F x = y := sum_F (T := T25) h
theorem pre24 {x : DenS I24} {y : DenS O24} (h : T24 x = some y) : S24.pre x = true := sum_pre (T := T24) h
theorem fun24 {x : DenS I24} {y : DenS O24} (h : T24 x = some y) : S24.F x = y := sum_F (T := T24) h
theorem pre67 {x : DenS I67} {y : DenS O67} (h : T67 x = some y) : S67.pre x = true := sum_pre (T := T67) h
theorem fun67 {x : DenS I67} {y : DenS O67} (h : T67 x = some y) : S67.F x = y := sum_F (T := T67) h
theorem pre68 {x : DenS I68} {y : DenS O68} (h : T68 x = some y) : S68.pre x = true := sum_pre (T := T68) h
theorem fun68 {x : DenS I68} {y : DenS O68} (h : T68 x = some y) : S68.F x = y := sum_F (T := T68) h
theorem pre81 {x : DenS I81} {y : DenS O81} (h : T81 x = some y) : S81.pre x = true := sum_pre (T := T81) h
theorem fun81 {x : DenS I81} {y : DenS O81} (h : T81 x = some y) : S81.F x = y := sum_F (T := T81) h
theorem pre32 {x : DenS I32} {y : DenS O32} (h : T32 x = some y) : S32.pre x = true := sum_pre (T := T32) h
theorem fun32 {x : DenS I32} {y : DenS O32} (h : T32 x = some y) : S32.F x = y := sum_F (T := T32) h
theorem pre73 {x : DenS I73} {y : DenS O73} (h : T73 x = some y) : S73.pre x = true := sum_pre (T := T73) h
theorem fun73 {x : DenS I73} {y : DenS O73} (h : T73 x = some y) : S73.F x = y := sum_F (T := T73) h
theorem pre158 {x : DenS I158} {y : DenS O158} (h : T158 x = some y) : S158.pre x = true := sum_pre (T := T158) h
theorem fun158 {x : DenS I158} {y : DenS O158} (h : T158 x = some y) : S158.F x = y := sum_F (T := T158) h
theorem pre125 {x : DenS I125} {y : DenS O125} (h : T125 x = some y) : S125.pre x = true := sum_pre (T := T125) h
theorem fun125 {x : DenS I125} {y : DenS O125} (h : T125 x = some y) : S125.F x = y := sum_F (T := T125) h
theorem pre74 {x : DenS I74} {y : DenS O74} (h : T74 x = some y) : S74.pre x = true := sum_pre (T := T74) h
theorem fun74 {x : DenS I74} {y : DenS O74} (h : T74 x = some y) : S74.F x = y := sum_F (T := T74) h
theorem pre75 {x : DenS I75} {y : DenS O75} (h : T75 x = some y) : S75.pre x = true := sum_pre (T := T75) h
theorem fun75 {x : DenS I75} {y : DenS O75} (h : T75 x = some y) : S75.F x = y := sum_F (T := T75) h
theorem pre76 {x : DenS I76} {y : DenS O76} (h : T76 x = some y) : S76.pre x = true := sum_pre (T := T76) h
theorem fun76 {x : DenS I76} {y : DenS O76} (h : T76 x = some y) : S76.F x = y := sum_F (T := T76) h
theorem pre127 {x : DenS I127} {y : DenS O127} (h : T127 x = some y) : S127.pre x = true := sum_pre (T := T127) h
theorem fun127 {x : DenS I127} {y : DenS O127} (h : T127 x = some y) : S127.F x = y := sum_F (T := T127) h
theorem pre128 {x : DenS I128} {y : DenS O128} (h : T128 x = some y) : S128.pre x = true := sum_pre (T := T128) h
theorem fun128 {x : DenS I128} {y : DenS O128} (h : T128 x = some y) : S128.F x = y := sum_F (T := T128) h
theorem pre129 {x : DenS I129} {y : DenS O129} (h : T129 x = some y) : S129.pre x = true := sum_pre (T := T129) h
theorem fun129 {x : DenS I129} {y : DenS O129} (h : T129 x = some y) : S129.F x = y := sum_F (T := T129) h
theorem pre130 {x : DenS I130} {y : DenS O130} (h : T130 x = some y) : S130.pre x = true := sum_pre (T := T130) h
theorem fun130 {x : DenS I130} {y : DenS O130} (h : T130 x = some y) : S130.F x = y := sum_F (T := T130) h
theorem pre78 {x : DenS I78} {y : DenS O78} (h : T78 x = some y) : S78.pre x = true := sum_pre (T := T78) h
theorem fun78 {x : DenS I78} {y : DenS O78} (h : T78 x = some y) : S78.F x = y := sum_F (T := T78) h
theorem pre37 {x : DenS I37} {y : DenS O37} (h : T37 x = some y) : S37.pre x = true := sum_pre (T := T37) h
theorem fun37 {x : DenS I37} {y : DenS O37} (h : T37 x = some y) : S37.F x = y := sum_F (T := T37) h
theorem pre179 {x : DenS I179} {y : DenS O179} (h : T179 x = some y) : S179.pre x = true := sum_pre (T := T179) h
theorem fun179 {x : DenS I179} {y : DenS O179} (h : T179 x = some y) : S179.F x = y := sum_F (T := T179) h
theorem pre160 {x : DenS I160} {y : DenS O160} (h : T160 x = some y) : S160.pre x = true := sum_pre (T := T160) h
theorem fun160 {x : DenS I160} {y : DenS O160} (h : T160 x = some y) : S160.F x = y := sum_F (T := T160) h
theorem pre162 {x : DenS I162} {y : DenS O162} (h : T162 x = some y) : S162.pre x = true := sum_pre (T := T162) h
theorem fun162 {x : DenS I162} {y : DenS O162} (h : T162 x = some y) : S162.F x = y := sum_F (T := T162) h
theorem pre180 {x : DenS I180} {y : DenS O180} (h : T180 x = some y) : S180.pre x = true := sum_pre (T := T180) h
theorem fun180 {x : DenS I180} {y : DenS O180} (h : T180 x = some y) : S180.F x = y := sum_F (T := T180) h
theorem pre161 {x : DenS I161} {y : DenS O161} (h : T161 x = some y) : S161.pre x = true := sum_pre (T := T161) h
theorem fun161 {x : DenS I161} {y : DenS O161} (h : T161 x = some y) : S161.F x = y := sum_F (T := T161) h
theorem pre159 {x : DenS I159} {y : DenS O159} (h : T159 x = some y) : S159.pre x = true := sum_pre (T := T159) h
theorem fun159 {x : DenS I159} {y : DenS O159} (h : T159 x = some y) : S159.F x = y := sum_F (T := T159) h
theorem pre126 {x : DenS I126} {y : DenS O126} (h : T126 x = some y) : S126.pre x = true := sum_pre (T := T126) h
theorem fun126 {x : DenS I126} {y : DenS O126} (h : T126 x = some y) : S126.F x = y := sum_F (T := T126) h
theorem pre77 {x : DenS I77} {y : DenS O77} (h : T77 x = some y) : S77.pre x = true := sum_pre (T := T77) h
theorem fun77 {x : DenS I77} {y : DenS O77} (h : T77 x = some y) : S77.F x = y := sum_F (T := T77) h
theorem pre28 {x : DenS I28} {y : DenS O28} (h : T28 x = some y) : S28.pre x = true := sum_pre (T := T28) h
theorem fun28 {x : DenS I28} {y : DenS O28} (h : T28 x = some y) : S28.F x = y := sum_F (T := T28) h
theorem pre26 {x : DenS I26} {y : DenS O26} (h : T26 x = some y) : S26.pre x = true := sum_pre (T := T26) h
theorem fun26 {x : DenS I26} {y : DenS O26} (h : T26 x = some y) : S26.F x = y := sum_F (T := T26) h
end Vx
namespace VL
open Go Vx
/-- words: below 2^64 each, not too many -/
def Ws (l : List Nat) : Prop := (∀ x ∈ l, x < 2 ^ 64) ∧ l.length ≤ 1000000
theorem W173_eq (l : List Nat) (hl : l.length ≤ 1000000) (n : Nat) (hn : n ≤ l.length) (ht : (trimL l).length ≤ n) :
    W173_2 ((Wd l, ((n : Int), ())), ()) = some (.inl ((Wd l, (((trimL l).length : Int), ())), ())) := by
  have key := lfix_ind m173_2 (fun x => x.1.2.1.toNat)
    (fun x => ∃ n : Nat, n ≤ l.length ∧ (trimL l).length ≤ n ∧ x = ((Wd l, ((n : Int), ())), ()))
    (fun _ => .inl ((Wd l, (((trimL l).length : Int), ())), ())) ?_ ((Wd l, ((n : Int), ())), ()) ⟨n, hn, ht, rfl⟩
  · exact key
  intro L x hx hL
  obtain ⟨n, hn, ht, rfl⟩ := hx
  unfold h173_2
  rcases Nat.eq_zero_or_pos n with rfl | hpos
  · have e1 : decide (((0 : Nat) : Int) > 0) = false := rfl
    simp only [e1, Bool.not_false, Bool.or_true, cond_true, Bool.false_and, cond_false]
    have : (trimL l).length = 0 := by omega
    rw [this]
  · have e0 : IntKind.wrap .i64 ((n : Int) - 1) = ((n - 1 : Nat) : Int) := wsub n 1 (by omega) (by omega)
    have e1 : decide ((n : Int) > 0) = true := by simp; omega
    have e2 : (decide ((0 : Int) ≤ ((n - 1 : Nat) : Int)) && decide (((n - 1 : Nat) : Int) < ((Wd l).length : Int))) = true := by
      rw [Wd_len]; simp; omega
    simp only [e0, e1, e2, Bool.true_or, cond_true, Bool.true_and, Int.toNat_natCast, Wd_getD, nbeq0]
    cases hz : (l.getD (n - 1) 0 == 0) with
    | true =>
      simp only [cond_true]
      refine hL _ ⟨n - 1, by omega, ?_, rfl⟩ (by simp only [Int.toNat_natCast]; omega)
      rcases Nat.lt_or_ge (n - 1) (trimL l).length with h | h
      · exfalso
        have e : n = (trimL l).length := by omega
        have := trim_last l (by omega)
        rw [← e] at this
        exact this (by simpa using hz)
      · exact h
    | false =>
      simp only [cond_false]
      have : (trimL l).length = n := by
        rcases Nat.lt_or_ge (n - 1) (trimL l).length with h | h
        · omega
        · exfalso
          have := trim_out l (n - 1) h
          rw [this] at hz
          simp at hz
      rw [this]
theorem T173_eq (l : List Nat) (hl : l.length ≤ 1000000) : T173 (Wd l, ()) = some (Wd (trimL l), ()) := by
  show t173 W173_2 (Wd l) = _
  unfold t173
  have h := W173_eq l hl l.length (Nat.le_refl _) (trim_len l).1
  rw [Wd_len]
  rw [h]
  have e : (decide ((0 : Int) ≤ ((trimL l).length : Int)) && decide (((trimL l).length : Int) ≤ ((Wd l).length : Int))) = true := by
    rw [Wd_len]; have := (trim_len l).1; simp; omega
  show (bif (decide ((0 : Int) ≤ ((trimL l).length : Int)) && decide (((trimL l).length : Int) ≤ ((Wd l).length : Int))) then some (List.drop (Int.toNat 0) (List.take (Int.toNat ((trimL l).length : Int)) (Wd l)), ()) else none) = _
  rw [e, cond_true, Int.toNat_natCast, Int.toNat_zero, List.drop_zero, Wd_take]
  have := (trim_len l).2
  rw [← this]
/-- how many bits -/
def blen (n : Nat) : Nat := if n = 0 then 0 else Nat.log2 n + 1
theorem blen_lt (n : Nat) : n < 2 ^ blen n := by
  unfold blen
  split
  · subst_vars; decide
  · exact Nat.lt_log2_self
theorem blen_le {n : Nat} (h : n ≠ 0) : 2 ^ (blen n - 1) ≤ n := by
  unfold blen
  rw [if_neg h]
  exact Nat.log2_self_le h
theorem blen_of {n k : Nat} (h1 : 2 ^ k ≤ n) (h2 : n < 2 ^ (k + 1)) : blen n = k + 1 := by
  have hp := Nat.two_pow_pos k
  have hn : n ≠ 0 := by omega
  have a1 := blen_lt n
  have a2 := blen_le hn
  have b1 : blen n - 1 < k + 1 := (Nat.pow_lt_pow_iff_right (by decide)).1 (Nat.lt_of_le_of_lt a2 h2)
  have b2 : k < blen n := (Nat.pow_lt_pow_iff_right (by decide)).1 (Nat.lt_of_le_of_lt h1 a1)
  omega
theorem blen_shift {n k : Nat} (h : 2 ^ k ≤ n) : blen n = k + blen (n / 2 ^ k) := by
  have hp := Nat.two_pow_pos k
  have hq : 0 < n / 2 ^ k := Nat.div_pos h hp
  have a1 := blen_lt (n / 2 ^ k)
  have a2 := blen_le (n := n / 2 ^ k) (by omega)
  have hb : 0 < blen (n / 2 ^ k) := by unfold blen; rw [if_neg (by omega)]; omega
  have h1 : 2 ^ (k + (blen (n / 2 ^ k) - 1)) ≤ n := by
    rw [Nat.pow_add]
    calc 2 ^ k * 2 ^ (blen (n / 2 ^ k) - 1) ≤ 2 ^ k * (n / 2 ^ k) := Nat.mul_le_mul_left _ a2
      _ ≤ n := Nat.mul_div_le n _
  have h2 : n < 2 ^ (k + (blen (n / 2 ^ k) - 1) + 1) := by
    rw [show k + (blen (n / 2 ^ k) - 1) + 1 = k + blen (n / 2 ^ k) by omega, Nat.pow_add, Nat.mul_comm]
    exact (Nat.div_lt_iff_lt_mul hp).1 a1
  have := blen_of h1 h2
  omega
theorem len8 : ∀ i : Nat, i < 256 → (k_len8.getD i 0).toNat = blen i := by
  have h : ((List.range 256).all fun i => decide ((k_len8.getD i 0).toNat = blen i)) = true := by decide +kernel
  intro i hi
  have := List.all_eq_true.1 h i (List.mem_range.2 hi)
  simpa using this
theorem T178_eq (n : Nat) (hn : n < 2 ^ 64) : T178 ((n : Int), ()) = some ((blen n : Int), ()) := by
  have hs : ∀ m k : Nat, k ≤ 64 → shrI .u64 (m : Int) (k : Int) = ((m / 2 ^ k : Nat) : Int) := fun m k hk => shrN m k hk
  have s32 : ∀ m : Nat, shrI .u64 (m : Int) 32 = ((m / 2 ^ 32 : Nat) : Int) := fun m => hs m 32 (by decide)
  have s16 : ∀ m : Nat, shrI .u64 (m : Int) 16 = ((m / 2 ^ 16 : Nat) : Int) := fun m => hs m 16 (by decide)
  have s8 : ∀ m : Nat, shrI .u64 (m : Int) 8 = ((m / 2 ^ 8 : Nat) : Int) := fun m => hs m 8 (by decide)
  have ge : ∀ m k : Nat, decide ((m : Int) ≥ (k : Int)) = decide (k ≤ m) := fun m k => by rw [Bool.eq_iff_iff]; simp
  have g32 : ∀ m : Nat, decide ((m : Int) ≥ 4294967296) = decide (2 ^ 32 ≤ m) := fun m => ge m (2 ^ 32)
  have g16 : ∀ m : Nat, decide ((m : Int) ≥ 65536) = decide (2 ^ 16 ≤ m) := fun m => ge m (2 ^ 16)
  have g8 : ∀ m : Nat, decide ((m : Int) ≥ 256) = decide (2 ^ 8 ≤ m) := fun m => ge m (2 ^ 8)
  -- the last look
  have tab : ∀ m : Nat, m < 256 → IntKind.wrap .u8 (m : Int) = (m : Int) := fun m hm => IntWalk.u8_in _ (by omega)
  have look : ∀ (m : Nat) (c : Int) (d : Nat), m < 256 → c = (d : Int) → d ≤ 56 → (bif (decide ((0 : Int) ≤ IntKind.wrap .u8 (m : Int)) && decide (IntKind.wrap .u8 (m : Int) < (256 : Int))) then (some (IntKind.wrap .i64 (c + IntKind.wrap .i64 ((UInt8.toNat (k_len8.getD (Int.toNat (IntKind.wrap .u8 (m : Int))) 0) : Nat) : Int)), ()) : Option (DenS O178)) else none) = some (((d + blen m : Nat) : Int), ()) := fun m c d hm hc hd => by
    have e : (decide ((0 : Int) ≤ (m : Int)) && decide ((m : Int) < (256 : Int))) = true := by simp; omega
    have hb : blen m ≤ 8 := by
      have := len8 m hm
      rcases Nat.eq_zero_or_pos m with rfl | hpos
      · decide
      · have := blen_le (n := m) (by omega)
        have h8 : blen m - 1 < 8 := (Nat.pow_lt_pow_iff_right (a := 2) (by decide)).1 (Nat.lt_of_le_of_lt this hm)
        omega
    rw [tab m hm, e, cond_true, Int.toNat_natCast, len8 m hm, hc, wrapI (n := ((blen m : Nat) : Int)) (by omega), wrapI (by omega)]
    rfl
  show t178 n = _
  unfold t178
  have fin : ∀ (k : Nat), 2 ^ k ≤ n → k + blen (n / 2 ^ k) = blen n := fun k h => (blen_shift h).symm
  have dd : ∀ a b : Nat, n / 2 ^ a / 2 ^ b = n / 2 ^ (a + b) := fun a b => by rw [Nat.div_div_eq_div_mul, ← Nat.pow_add]
  have up : ∀ a b : Nat, 2 ^ b ≤ n / 2 ^ a → 2 ^ (a + b) ≤ n := fun a b h => by
    rw [Nat.pow_add, Nat.mul_comm]
    exact (Nat.le_div_iff_mul_le (Nat.two_pow_pos a)).1 h
  have down : ∀ a b : Nat, n / 2 ^ a < 2 ^ b → n < 2 ^ (a + b) := fun a b h => by
    rw [Nat.pow_add, Nat.mul_comm]
    exact (Nat.div_lt_iff_lt_mul (Nat.two_pow_pos a)).1 h
  have small : ∀ a : Nat, n < 2 ^ (a + 8) → n / 2 ^ a < 256 := fun a h => by
    rw [Nat.div_lt_iff_lt_mul (Nat.two_pow_pos a), Nat.mul_comm]
    rw [Nat.pow_add] at h; exact h
  simp only [s32, s16, s8, g32, g16, g8]
  by_cases h1 : 2 ^ 32 ≤ n
  · rw [decide_eq_true h1, cond_true]
    by_cases h2 : 2 ^ 16 ≤ n / 2 ^ 32
    · rw [decide_eq_true h2, cond_true]
      by_cases h3 : 2 ^ 8 ≤ n / 2 ^ 32 / 2 ^ 16
      · rw [decide_eq_true h3, cond_true]
        rw [dd 32 16] at h3
        have hm : n / 2 ^ 32 / 2 ^ 16 / 2 ^ 8 = n / 2 ^ 56 := by rw [dd 32 16, dd 48 8]
        refine (look (n / 2 ^ 32 / 2 ^ 16 / 2 ^ 8) _ 56 (by rw [hm]; exact small 56 hn) rfl (by decide)).trans ?_
        rw [hm, fin 56 (up 48 8 h3)]
      · rw [decide_eq_false h3, cond_false]
        rw [dd 32 16] at h3
        refine (look (n / 2 ^ 32 / 2 ^ 16) _ 48 (by rw [dd 32 16]; exact small 48 (down 48 8 (by omega))) rfl (by decide)).trans ?_
        rw [dd 32 16, fin 48 (up 32 16 h2)]
    · rw [decide_eq_false h2, cond_false]
      by_cases h3 : 2 ^ 8 ≤ n / 2 ^ 32
      · rw [decide_eq_true h3, cond_true]
        refine (look (n / 2 ^ 32 / 2 ^ 8) _ 40 (by rw [dd 32 8]; exact small 40 (down 32 16 (by omega))) rfl (by decide)).trans ?_
        rw [dd 32 8, fin 40 (up 32 8 h3)]
      · rw [decide_eq_false h3, cond_false]
        refine (look (n / 2 ^ 32) _ 32 (small 32 (down 32 8 (by omega))) rfl (by decide)).trans ?_
        rw [fin 32 h1]
  · rw [decide_eq_false h1, cond_false]
    by_cases h2 : 2 ^ 16 ≤ n
    · rw [decide_eq_true h2, cond_true]
      by_cases h3 : 2 ^ 8 ≤ n / 2 ^ 16
      · rw [decide_eq_true h3, cond_true]
        refine (look (n / 2 ^ 16 / 2 ^ 8) _ 24 (by rw [dd 16 8]; exact small 24 (by omega)) rfl (by decide)).trans ?_
        rw [dd 16 8, fin 24 (up 16 8 h3)]
      · rw [decide_eq_false h3, cond_false]
        refine (look (n / 2 ^ 16) _ 16 (small 16 (down 16 8 (by omega))) rfl (by decide)).trans ?_
        rw [fin 16 h2]
    · rw [decide_eq_false h2, cond_false]
      by_cases h3 : 2 ^ 8 ≤ n
      · rw [decide_eq_true h3, cond_true]
        refine (look (n / 2 ^ 8) _ 8 (small 8 (by omega)) rfl (by decide)).trans ?_
        rw [fin 8 h3]
      · rw [decide_eq_false h3, cond_false]
        refine (look n 0 0 (by omega) rfl (by decide)).trans ?_
        rw [Nat.zero_add]
end VL
namespace VL
open Go Vx
theorem nv_append (B : Nat) : ∀ (l m : List Nat), nv B (l ++ m) = nv B l + B ^ l.length * nv B m
  | [], m => by simp [nv]
  | x :: r, m => by
    simp only [List.cons_append, nv, List.length_cons]
    rw [nv_append B r m, Nat.pow_succ, Nat.mul_add, Nat.add_assoc]
    congr 2
    rw [Nat.mul_comm (B ^ r.length) B, Nat.mul_assoc]
theorem nv_lt {B : Nat} (hB : 2 ≤ B) : ∀ (l : List Nat), (∀ x ∈ l, x < B) → nv B l < B ^ l.length
  | [], _ => by simp [nv]
  | x :: r, h => by
    have ih := nv_lt hB r fun y hy => h y (by simp [hy])
    have hx := h x (by simp)
    simp only [nv, List.length_cons, Nat.pow_succ]
    have : B * nv B r ≤ B * (B ^ r.length - 1) := Nat.mul_le_mul_left _ (by omega)
    have hp : 0 < B ^ r.length := Nat.pow_pos (by omega)
    rw [Nat.mul_sub] at this
    have h1 : B * 1 ≤ B * B ^ r.length := Nat.mul_le_mul_left _ hp
    rw [Nat.mul_comm (B ^ r.length) B]
    omega
theorem nv_split (B : Nat) (l : List Nat) (i : Nat) (h : i ≤ l.length) : nv B l = nv B (l.take i) + B ^ i * nv B (l.drop i) := by
  conv => lhs; rw [← List.take_append_drop i l]
  rw [nv_append]
  simp [h]
theorem nv_trim {B : Nat} (hB : 2 ≤ B) {l : List Nat} (h : ∀ x ∈ l, x < B) : nv B (trimL l) = nv B l := by
  rw [trim_dg hB l h, nv_dg hB]
theorem trim_mem {l : List Nat} {x : Nat} (h : x ∈ trimL l) : x ∈ l := by
  rw [(trim_len l).2] at h
  exact List.mem_of_mem_take h
theorem trim_get {l : List Nat} {i : Nat} (h : i < (trimL l).length) : (trimL l)[i]? = l[i]? := by
  have : (trimL l)[i]? = (l.take (trimL l).length)[i]? := congrArg (fun t : List Nat => t[i]?) (trim_len l).2
  rw [this, List.getElem?_take_of_lt h]
/-- the value that two powers of two split -/
theorem blen_split {a b k : Nat} (ha : a < 2 ^ k) (hb : 0 < b) : blen (a + 2 ^ k * b) = k + blen b := by
  have hp := Nat.two_pow_pos k
  have h1 : 2 ^ k * 1 ≤ 2 ^ k * b := Nat.mul_le_mul_left _ hb
  rw [blen_shift (n := a + 2 ^ k * b) (k := k) (by omega), Nat.add_mul_div_left _ _ hp, Nat.div_eq_of_lt ha, Nat.zero_add]
theorem pow64 (i : Nat) : (2 ^ 64) ^ i = 2 ^ (64 * i) := by rw [← Nat.pow_mul]
/-- the bits of a row -/
theorem blen_row {l : List Nat} (h : ∀ x ∈ l, x < 2 ^ 64) (hl : 0 < (trimL l).length) : blen (nv (2 ^ 64) l) = 64 * ((trimL l).length - 1) + blen (l.getD ((trimL l).length - 1) 0) := by
  have hlast := trim_last l hl
  have hle := (trim_len l).1
  rw [← nv_trim (by decide) h]
  have hm : ∀ x ∈ trimL l, x < 2 ^ 64 := fun x hx => h x (trim_mem hx)
  rw [nv_split _ (trimL l) ((trimL l).length - 1) (by omega), pow64]
  have hd : (trimL l).drop ((trimL l).length - 1) = [l.getD ((trimL l).length - 1) 0] := by
    have hlt : (trimL l).length - 1 < (trimL l).length := by omega
    rw [List.drop_eq_getElem_cons hlt]
    have e1 : (trimL l).length - 1 + 1 = (trimL l).length := by omega
    rw [e1, List.drop_length]
    congr 1
    have : (trimL l)[(trimL l).length - 1]? = l[(trimL l).length - 1]? := trim_get hlt
    rw [List.getElem?_eq_getElem hlt] at this
    rw [List.getD_eq_getElem?_getD, ← this]
    rfl
  rw [hd]
  have hlow := nv_lt (B := 2 ^ 64) (by decide) ((trimL l).take ((trimL l).length - 1)) fun x hx => hm x (List.mem_of_mem_take hx)
  rw [List.length_take, Nat.min_eq_left (by omega), pow64] at hlow
  have : nv (2 ^ 64) [l.getD ((trimL l).length - 1) 0] = l.getD ((trimL l).length - 1) 0 := by simp [nv]
  rw [this]
  exact blen_split hlow (by omega)
theorem trim_nil {l : List Nat} (h : ∀ x ∈ l, x < 2 ^ 64) (h0 : (trimL l).length = 0) : nv (2 ^ 64) l = 0 := by
  have : trimL l = [] := List.eq_nil_of_length_eq_zero h0
  rw [← nv_trim (by decide) h, this]; rfl
theorem getD_lt {l : List Nat} {B : Nat} (hB : 0 < B) (h : ∀ x ∈ l, x < B) (i : Nat) : l.getD i 0 < B := by
  rw [List.getD_eq_getElem?_getD]
  cases e : l[i]? with
  | none => exact hB
  | some x => exact h x (List.mem_of_getElem? e)
theorem T151_eq (l : List Nat) (hl : Ws l) : T151 (Wd l, ()) = some ((blen (nv (2 ^ 64) l) : Int), ()) := by
  obtain ⟨h, hlen⟩ := hl
  show t151 S173.pre S173.F S178.pre S178.F (Wd l) = _
  unfold t151
  have p0 := T173_eq l hlen
  have hle := (trim_len l).1
  simp only [pre173 p0, fun173 p0, cond_true, Wd_len]
  rcases Nat.eq_zero_or_pos (trimL l).length with h0 | h0
  · rw [h0, trim_nil h h0]; rfl
  · have e0 : (((trimL l).length : Int) == 0) = false := by rw [nbeq0]; exact beq_false_of_ne (by omega)
    have e1 : IntKind.wrap .i64 (((trimL l).length : Int) - 1) = (((trimL l).length - 1 : Nat) : Int) := wsub (trimL l).length 1 (by omega) (by omega)
    have e2 : (decide ((0 : Int) ≤ (((trimL l).length - 1 : Nat) : Int)) && decide ((((trimL l).length - 1 : Nat) : Int) < ((trimL l).length : Int))) = true := by simp only [Bool.and_eq_true, decide_eq_true_eq]; omega
    have e3 : (Wd (trimL l)).getD ((trimL l).length - 1) 0 = ((l.getD ((trimL l).length - 1) 0 : Nat) : Int) := by
      rw [Wd_getD]
      congr 1
      rw [List.getD_eq_getElem?_getD, List.getD_eq_getElem?_getD]
      rw [trim_get (by omega)]
    have hd := getD_lt (by decide) h ((trimL l).length - 1)
    have p1 := T178_eq _ hd
    have hb : blen (l.getD ((trimL l).length - 1) 0) ≤ 64 := by
      rcases Nat.eq_zero_or_pos (l.getD ((trimL l).length - 1) 0) with z | z
      · rw [z]; decide
      · have := blen_le (n := l.getD ((trimL l).length - 1) 0) (by omega)
        have : blen (l.getD ((trimL l).length - 1) 0) - 1 < 64 := (Nat.pow_lt_pow_iff_right (a := 2) (by decide)).1 (Nat.lt_of_le_of_lt this hd)
        omega
    rw [e0, e1, e2, cond_false, cond_true, Int.toNat_natCast, e3]
    simp only [pre178 p1, fun178 p1, cond_true]
    rw [blen_row h h0, wrapI (n := 64 * (((trimL l).length - 1 : Nat) : Int)) (by omega), wrapI (by omega)]
    congr 2
end VL
namespace VL
open Go Vx
theorem wrapN (x : Nat) : IntKind.wrap .u64 (x : Int) = ((x % 2 ^ 64 : Nat) : Int) := by
  simp [IntKind.wrap, IntKind.bits, IntKind.signed]
  try omega
theorem shlN (x n : Nat) (hn : n ≤ 64) : shlI .u64 (x : Int) (n : Int) = ((x * 2 ^ n % 2 ^ 64 : Nat) : Int) := by
  have hm : (min (n : Int).toNat IntKind.u64.bits) = n := by simp [IntKind.bits]; omega
  unfold shlI
  rw [hm]
  have e : (x : Int) * 2 ^ n = ((x * 2 ^ n : Nat) : Int) := by simp
  rw [e]
  exact wrapN _
theorem orN {a b k : Nat} (ha : a < 2 ^ k) (h : a + b * 2 ^ k < 2 ^ 64) : orI .u64 (a : Int) ((b * 2 ^ k : Nat) : Int) = ((a + b * 2 ^ k : Nat) : Int) := by
  have key : (BitVec.ofInt 64 (a : Int) ||| BitVec.ofInt 64 ((b * 2 ^ k : Nat) : Int)).toNat = a + b * 2 ^ k := by
    rw [BitVec.toNat_or, ofInt_u64 (by omega), ofInt_u64 (by omega), Nat.mul_comm b, Nat.or_comm, ← Nat.two_pow_add_eq_or_of_lt ha]
    omega
  show IntKind.u64.wrap (((BitVec.ofInt 64 (a : Int) ||| BitVec.ofInt 64 ((b * 2 ^ k : Nat) : Int)).toNat : Nat) : Int) = _
  rw [key]
  exact wrapU (by omega)
/-- a row of words by 2^s -/
def shrL (s : Nat) : List Nat → List Nat
  | [] => []
  | x :: r => (x / 2 ^ s + (r.getD 0 0 % 2 ^ s) * 2 ^ (64 - s)) :: shrL s r
theorem shrL_len (s : Nat) : ∀ l, (shrL s l).length = l.length
  | [] => rfl
  | _ :: r => by simp [shrL, shrL_len s r]
theorem shrL_get (s : Nat) : ∀ (l : List Nat) (i : Nat), i < l.length → (shrL s l)[i]? = some (l.getD i 0 / 2 ^ s + (l.getD (i + 1) 0 % 2 ^ s) * 2 ^ (64 - s))
  | [], i, h => by simp at h
  | x :: r, 0, _ => by simp [shrL]
  | x :: r, i + 1, h => by
    simp only [shrL, List.getElem?_cons_succ]
    rw [shrL_get s r i (by simpa using h)]
    simp
theorem pow_parts {s : Nat} (hs : s ≤ 64) : 2 ^ 64 = 2 ^ s * 2 ^ (64 - s) := by rw [← Nat.pow_add]; congr 1; omega
theorem shr_word {s : Nat} (hs : s ≤ 64) {x y : Nat} (hx : x < 2 ^ 64) : x / 2 ^ s < 2 ^ (64 - s) ∧ x / 2 ^ s + (y % 2 ^ s) * 2 ^ (64 - s) < 2 ^ 64 := by
  have hp := Nat.two_pow_pos s
  have h1 : x / 2 ^ s < 2 ^ (64 - s) := by
    rw [Nat.div_lt_iff_lt_mul hp, Nat.mul_comm, ← pow_parts hs]; exact hx
  refine ⟨h1, ?_⟩
  have h2 : y % 2 ^ s + 1 ≤ 2 ^ s := Nat.mod_lt _ hp
  have h3 := Nat.mul_le_mul_right (2 ^ (64 - s)) h2
  rw [← pow_parts hs, Nat.add_mul, Nat.one_mul] at h3
  omega
theorem nv_mod {B : Nat} {s : Nat} (hB : B % 2 ^ s = 0) : ∀ l : List Nat, nv B l % 2 ^ s = l.getD 0 0 % 2 ^ s
  | [] => by simp [nv]
  | x :: r => by
    simp only [nv, List.getD_cons_zero]
    obtain ⟨c, hc⟩ := Nat.dvd_of_mod_eq_zero hB
    rw [hc, Nat.mul_assoc, Nat.add_mul_mod_self_left]
theorem nv_shrL {s : Nat} (hs : s ≤ 64) : ∀ l : List Nat, nv (2 ^ 64) (shrL s l) = nv (2 ^ 64) l / 2 ^ s
  | [] => by simp [shrL, nv]
  | x :: r => by
    have ih := nv_shrL hs r
    simp only [shrL, nv]
    rw [ih]
    have hp := Nat.two_pow_pos s
    have hm := nv_mod (B := 2 ^ 64) (s := s) (by rw [pow_parts hs]; exact Nat.mul_mod_right _ _) r
    rw [← hm]
    have hN : nv (2 ^ 64) r = 2 ^ s * (nv (2 ^ 64) r / 2 ^ s) + nv (2 ^ 64) r % 2 ^ s := (Nat.div_add_mod _ _).symm
    generalize nv (2 ^ 64) r / 2 ^ s = q at *
    generalize nv (2 ^ 64) r % 2 ^ s = t at *
    rw [hN]
    have e : x + 2 ^ 64 * (2 ^ s * q + t) = x + 2 ^ s * (2 ^ 64 * q + 2 ^ (64 - s) * t) := by
      rw [Nat.mul_add, Nat.mul_add]
      have e1 : 2 ^ 64 * (2 ^ s * q) = 2 ^ s * (2 ^ 64 * q) := by rw [← Nat.mul_assoc, ← Nat.mul_assoc, Nat.mul_comm (2 ^ 64) (2 ^ s)]
      have e2 : 2 ^ 64 * t = 2 ^ s * (2 ^ (64 - s) * t) := by rw [← Nat.mul_assoc, ← pow_parts hs]
      rw [e1, e2]
    rw [e, Nat.add_mul_div_left _ _ hp, Nat.mul_comm t]
    omega
end VL
namespace VL
open Go Vx
theorem set_next {O : List Nat} {i v : Nat} (hi : i < O.length) (hv : O[i]? = some v) : (O.take i ++ List.replicate (O.length - i) 0).set i v = O.take (i + 1) ++ List.replicate (O.length - (i + 1)) 0 := by
  have e : O.length - i = (O.length - (i + 1)) + 1 := by omega
  have hl : (O.take i).length = i := by simp; omega
  rw [e, List.replicate_succ, List.set_append_right _ _ (by omega), hl, Nat.sub_self, List.set_cons_zero]
  rw [List.take_succ, hv]
  simp
theorem getD_set {l : List Nat} {i v : Nat} (hi : i < l.length) : (l.set i v).getD i 0 = v := by
  rw [List.getD_eq_getElem?_getD, List.getElem?_set_self hi]; rfl
theorem drop_getD (l : List Nat) (w i : Nat) : (l.drop w).getD i 0 = l.getD (w + i) 0 := by
  rw [List.getD_eq_getElem?_getD, List.getD_eq_getElem?_getD, List.getElem?_drop]
theorem quoN (n : Nat) (hn : n ≤ 1000000000) : quoI .i64 (n : Int) 64 = ((n / 64 : Nat) : Int) := by
  unfold quoI
  have e : (n : Int).tdiv 64 = ((n / 64 : Nat) : Int) := rfl
  rw [e, wrapI (by omega)]
theorem W1173_eq (l : List Nat) (hl : l.length ≤ 1000000) (n : Nat) (hn : n ≤ l.length) (ht : (trimL l).length ≤ n) :
    W1173_2 (((), ((n : Int), ())), (Wd l, ())) = some (.inl (((), (((trimL l).length : Int), ())), (Wd l, ()))) := by
  have key := lfix_ind m1173_2 (fun x => x.1.2.1.toNat)
    (fun x => ∃ n : Nat, n ≤ l.length ∧ (trimL l).length ≤ n ∧ x = (((), ((n : Int), ())), (Wd l, ())))
    (fun _ => .inl (((), (((trimL l).length : Int), ())), (Wd l, ()))) ?_ (((), ((n : Int), ())), (Wd l, ())) ⟨n, hn, ht, rfl⟩
  · exact key
  intro L x hx hL
  obtain ⟨n, hn, ht, rfl⟩ := hx
  unfold h1173_2
  rcases Nat.eq_zero_or_pos n with rfl | hpos
  · have e1 : decide (((0 : Nat) : Int) > 0) = false := rfl
    simp only [e1, Bool.not_false, Bool.or_true, cond_true, Bool.false_and, cond_false]
    have : (trimL l).length = 0 := by omega
    rw [this]
  · have e0 : IntKind.wrap .i64 ((n : Int) - 1) = ((n - 1 : Nat) : Int) := wsub n 1 (by omega) (by omega)
    have e1 : decide ((n : Int) > 0) = true := by simp; omega
    have e2 : (decide ((0 : Int) ≤ ((n - 1 : Nat) : Int)) && decide (((n - 1 : Nat) : Int) < ((Wd l).length : Int))) = true := by
      rw [Wd_len]; simp; omega
    simp only [e0, e1, e2, Bool.true_or, cond_true, Bool.true_and, Int.toNat_natCast, Wd_getD, nbeq0]
    cases hz : (l.getD (n - 1) 0 == 0) with
    | true =>
      simp only [cond_true]
      refine hL _ ⟨n - 1, by omega, ?_, rfl⟩ (by simp only [Int.toNat_natCast]; omega)
      rcases Nat.lt_or_ge (n - 1) (trimL l).length with h | h
      · exfalso
        have e : n = (trimL l).length := by omega
        have := trim_last l (by omega)
        rw [← e] at this
        exact this (by simpa using hz)
      · exact h
    | false =>
      simp only [cond_false]
      have : (trimL l).length = n := by
        rcases Nat.lt_or_ge (n - 1) (trimL l).length with h | h
        · omega
        · exfalso
          have := trim_out l (n - 1) h
          rw [this] at hz
          simp at hz
      rw [this]
theorem T1173_eq (l : List Nat) (hl : l.length ≤ 1000000) : T1173 (Wd l, ()) = some (Wd (trimL l), ()) := by
  show t1173 W1173_2 (Wd l) = _
  unfold t1173
  have h := W1173_eq l hl l.length (Nat.le_refl _) (trim_len l).1
  rw [Wd_len]
  rw [h]
  have e : (decide ((0 : Int) ≤ ((trimL l).length : Int)) && decide (((trimL l).length : Int) ≤ ((Wd l).length : Int))) = true := by
    rw [Wd_len]; have := (trim_len l).1; simp; omega
  show (bif (decide ((0 : Int) ≤ ((trimL l).length : Int)) && decide (((trimL l).length : Int) ≤ ((Wd l).length : Int))) then some (List.take (Int.toNat ((trimL l).length : Int)) (Wd l), ()) else none) = _
  rw [e, cond_true, Int.toNat_natCast, Wd_take]
  have := (trim_len l).2
  rw [← this]
theorem W171_eq (a : List Nat) (ha : ∀ x ∈ a, x < 2 ^ 64) (hlen : a.length ≤ 1000000) (w s : Nat) (hs : s < 64) (hw : w ≤ a.length) (i : Nat) (hi : i ≤ (a.drop w).length) :
    W171_7 ((((a.drop w).length : Int), (Wd a, ((w : Int), ((s : Int), ((i : Int), ((), ())))))), (Wd ((shrL s (a.drop w)).take i ++ List.replicate ((shrL s (a.drop w)).length - i) 0), ())) = some (.inl (((), ()), (Wd (shrL s (a.drop w)), ()))) := by
  have key := lfix_ind (m171_7 S173.pre S173.F) (fun x => (a.drop w).length - x.1.2.2.2.2.1.toNat)
    (fun x => ∃ i : Nat, i ≤ (a.drop w).length ∧ x = ((((a.drop w).length : Int), (Wd a, ((w : Int), ((s : Int), ((i : Int), ((), ())))))), (Wd ((shrL s (a.drop w)).take i ++ List.replicate ((shrL s (a.drop w)).length - i) 0), ())))
    (fun _ => .inl (((), ()), (Wd (shrL s (a.drop w)), ()))) ?_ _ ⟨i, hi, rfl⟩
  · exact key
  intro L x hx hL
  obtain ⟨i, hi, rfl⟩ := hx
  unfold h171_7
  have hdl : (a.drop w).length = a.length - w := by simp
  have hol := shrL_len s (a.drop w)
  rcases Nat.lt_or_ge i (a.drop w).length with hlt | hge
  · have e1 : decide ((i : Int) < ((a.drop w).length : Int)) = true := by simp; omega
    have e2 : IntKind.wrap .i64 ((w : Int) + (i : Int)) = ((w + i : Nat) : Int) := by rw [wrapI (by omega)]; omega
    have e3 : (decide ((0 : Int) ≤ ((w + i : Nat) : Int)) && decide (((w + i : Nat) : Int) < ((Wd a).length : Int))) = true := by
      rw [Wd_len]; simp only [Bool.and_eq_true, decide_eq_true_eq]; omega
    have e4 : decide ((0 : Int) ≤ (s : Int)) = true := by simp
    have houtl : ((shrL s (a.drop w)).take i ++ List.replicate ((shrL s (a.drop w)).length - i) 0).length = (a.drop w).length := by simp; omega
    generalize hout : (shrL s (a.drop w)).take i ++ List.replicate ((shrL s (a.drop w)).length - i) 0 = out at houtl ⊢
    have e5 : (decide ((0 : Int) ≤ (i : Int)) && decide ((i : Int) < ((Wd out).length : Int))) = true := by
      rw [Wd_len]; simp only [Bool.and_eq_true, decide_eq_true_eq]; omega
    have e6 : IntKind.wrap .i64 (((w + i : Nat) : Int) + 1) = ((w + i + 1 : Nat) : Int) := by rw [wrapI (by omega)]; omega
    have e7 : IntKind.wrap .i64 ((i : Int) + 1) = ((i + 1 : Nat) : Int) := by rw [wrapI (by omega)]; omega
    have e8 : IntKind.wrap .i64 (64 - (s : Int)) = ((64 - s : Nat) : Int) := wsub 64 s (by omega) (by omega)
    have hx := getD_lt (by decide) ha (w + i)
    have hget := shrL_get s (a.drop w) i hlt
    rw [drop_getD, drop_getD, ← Nat.add_assoc] at hget
    have hnext := fun v (hv : (shrL s (a.drop w))[i]? = some v) => set_next (by omega) hv
    rw [hout] at hnext
    have e9 : ∀ v : Nat, (decide ((0 : Int) ≤ (i : Int)) && decide ((i : Int) < ((Wd (out.set i v)).length : Int))) = true := fun v => by
      rw [Wd_len, List.length_set]; simp only [Bool.and_eq_true, decide_eq_true_eq]; omega
    simp only [e1, e2, e3, e4, e5, e6, e7, e8, cond_true, Int.toNat_natCast, Wd_getD, shrN _ s (by omega), Wd_set, e9]
    rcases Nat.lt_or_ge (w + i + 1) a.length with h1 | h1
    · have f1 : decide (((w + i + 1 : Nat) : Int) < ((Wd a).length : Int)) = true := by rw [Wd_len]; exact decide_eq_true (by omega)
      have f2 : decide ((0 : Int) ≤ ((w + i + 1 : Nat) : Int)) = true := decide_eq_true (by omega)
      have f3 : decide ((0 : Int) ≤ ((64 - s : Nat) : Int)) = true := decide_eq_true (by omega)
      simp only [f1, f2, f3, Bool.and_self, cond_true]
      have hw2 := shr_word (s := s) (y := a.getD (w + i + 1) 0) (by omega) hx
      have g1 : a.getD (w + i + 1) 0 * 2 ^ (64 - s) % 2 ^ 64 = (a.getD (w + i + 1) 0 % 2 ^ s) * 2 ^ (64 - s) := by
        rw [pow_parts (s := s) (by omega), Nat.mul_mod_mul_right]
      rw [getD_set (by omega), shlN _ _ (by omega), g1, orN hw2.1 hw2.2, Wd_set, List.set_set, hnext _ hget]
      exact hL _ ⟨i + 1, by omega, rfl⟩ (by simp only [Int.toNat_natCast]; omega)
    · have f1 : decide (((w + i + 1 : Nat) : Int) < ((Wd a).length : Int)) = false := by rw [Wd_len]; exact decide_eq_false (by omega)
      have hz : a.getD (w + i + 1) 0 = 0 := by rw [List.getD_eq_getElem?_getD, List.getElem?_eq_none h1]; rfl
      rw [hz, Nat.zero_mod, Nat.zero_mul, Nat.add_zero] at hget
      simp only [f1, cond_false]
      rw [hnext _ hget]
      exact hL _ ⟨i + 1, by omega, rfl⟩ (by simp only [Int.toNat_natCast]; omega)
  · have hie : i = (a.drop w).length := by omega
    subst hie
    have e1 : decide (((a.drop w).length : Int) < ((a.drop w).length : Int)) = false := by simp
    simp only [e1, cond_false]
    have : (shrL s (a.drop w)).take (a.drop w).length ++ List.replicate ((shrL s (a.drop w)).length - (a.drop w).length) 0 = shrL s (a.drop w) := by
      rw [← hol, List.take_length, Nat.sub_self, List.replicate_zero, List.append_nil]
    rw [this]
theorem T171_eq (l : List Nat) (hl : Ws l) (n : Nat) (hn : n ≤ 100000000) : T171 (Wd l, (n : Int), ()) = some (Wd (dg (2 ^ 64) (nv (2 ^ 64) l / 2 ^ n)), ()) := by
  obtain ⟨h, hlen⟩ := hl
  show t171 S173.pre S173.F W171_7 (Wd l) n = _
  unfold t171
  have p0 := T173_eq l hlen
  have hB : 2 ≤ 2 ^ 64 := by decide
  have hle := (trim_len l).1
  have hm : ∀ x ∈ trimL l, x < 2 ^ 64 := fun x hx => h x (trim_mem hx)
  have hv := nv_trim hB h
  have hsplit : 2 ^ n = (2 ^ 64) ^ (n / 64) * 2 ^ (n % 64) := by rw [pow64, ← Nat.pow_add]; congr 1; omega
  simp only [pre173 p0, fun173 p0, cond_true, Wd_len, quoN n (by omega)]
  rcases Nat.lt_or_ge (n / 64) (trimL l).length with h1 | h1
  · have e1 : decide (((n / 64 : Nat) : Int) ≥ ((trimL l).length : Int)) = false := by simp; omega
    have e2 : IntKind.wrap .i64 (((trimL l).length : Int) - ((n / 64 : Nat) : Int)) = (((trimL l).drop (n / 64)).length : Int) := by
      rw [wsub _ _ (by omega) (by omega)]; simp
    have hdl : ((trimL l).drop (n / 64)).length ≤ 1000000 := by simp; omega
    have e3 : (decide ((0 : Int) ≤ (((trimL l).drop (n / 64)).length : Int)) && decide ((((trimL l).drop (n / 64)).length : Int) * 8 ≤ 140737488355328)) = true := by
      simp only [Bool.and_eq_true, decide_eq_true_eq]; omega
    have e4 : Int.tmod (n : Int) 64 = ((n % 64 : Nat) : Int) := rfl
    have hw := W171_eq (trimL l) hm (by omega) (n / 64) (n % 64) (Nat.mod_lt _ (by decide)) (by omega) 0 (Nat.zero_le _)
    rw [List.take_zero, List.nil_append, Nat.sub_zero, shrL_len] at hw
    rw [e1, e2, e3, cond_false, cond_true, Int.toNat_natCast, e4, Wd_rep, Wd_len, List.length_replicate]
    rw [show ((0 : Nat) : Int) = 0 from rfl] at hw
    rw [hw]
    have hos : ∀ x ∈ shrL (n % 64) ((trimL l).drop (n / 64)), x < 2 ^ 64 := fun x hx => by
      obtain ⟨i, hi⟩ := List.getElem?_of_mem hx
      have hil : i < ((trimL l).drop (n / 64)).length := by rw [← shrL_len (n % 64)]; exact (List.getElem?_eq_some_iff.1 hi).1
      rw [shrL_get _ _ i hil] at hi
      cases hi
      exact (shr_word (s := n % 64) (by omega) (getD_lt (by decide) (fun y hy => hm y (List.mem_of_mem_drop hy)) i)).2
    have p1 := T173_eq (shrL (n % 64) ((trimL l).drop (n / 64))) (by rw [shrL_len]; exact hdl)
    show (bif S173.pre (Wd (shrL (n % 64) ((trimL l).drop (n / 64))), ()) then some (S173.F (Wd (shrL (n % 64) ((trimL l).drop (n / 64))), ())) else none) = _
    rw [pre173 p1, fun173 p1, cond_true, trim_dg hB _ hos, nv_shrL (by omega)]
    have hd : nv (2 ^ 64) ((trimL l).drop (n / 64)) = nv (2 ^ 64) l / (2 ^ 64) ^ (n / 64) := by
      rw [← hv, nv_split _ (trimL l) (n / 64) (by omega)]
      have hlow := nv_lt hB ((trimL l).take (n / 64)) fun x hx => hm x (List.mem_of_mem_take hx)
      rw [List.length_take, Nat.min_eq_left (by omega)] at hlow
      rw [Nat.add_mul_div_left _ _ (Nat.pow_pos (by decide)), Nat.div_eq_of_lt hlow, Nat.zero_add]
    rw [hd, Nat.div_div_eq_div_mul, ← hsplit]
    rfl
  · have e1 : decide (((n / 64 : Nat) : Int) ≥ ((trimL l).length : Int)) = true := by simp; omega
    rw [e1, cond_true]
    have hz : nv (2 ^ 64) l / 2 ^ n = 0 := by
      rw [← hv]
      have := nv_lt hB (trimL l) hm
      apply Nat.div_eq_of_lt
      refine Nat.lt_of_lt_of_le this ?_
      rw [pow64]
      exact Nat.pow_le_pow_right (by decide) (by omega)
    rw [hz, dg_zero]; rfl
theorem W1171_eq (a : List Nat) (ha : ∀ x ∈ a, x < 2 ^ 64) (hlen : a.length ≤ 1000000) (w s : Nat) (hs : s < 64) (hw : w ≤ a.length) (i : Nat) (hi : i ≤ (a.drop w).length) :
    W1171_7 ((((a.drop w).length : Int), (Wd a, ((w : Int), ((s : Int), ((i : Int), ((), ())))))), (Wd ((shrL s (a.drop w)).take i ++ List.replicate ((shrL s (a.drop w)).length - i) 0), ())) = some (.inl (((), ()), (Wd (shrL s (a.drop w)), ()))) := by
  have key := lfix_ind (m1171_7 S1173.pre S1173.F S173.pre S173.F) (fun x => (a.drop w).length - x.1.2.2.2.2.1.toNat)
    (fun x => ∃ i : Nat, i ≤ (a.drop w).length ∧ x = ((((a.drop w).length : Int), (Wd a, ((w : Int), ((s : Int), ((i : Int), ((), ())))))), (Wd ((shrL s (a.drop w)).take i ++ List.replicate ((shrL s (a.drop w)).length - i) 0), ())))
    (fun _ => .inl (((), ()), (Wd (shrL s (a.drop w)), ()))) ?_ _ ⟨i, hi, rfl⟩
  · exact key
  intro L x hx hL
  obtain ⟨i, hi, rfl⟩ := hx
  unfold h1171_7
  have hdl : (a.drop w).length = a.length - w := by simp
  have hol := shrL_len s (a.drop w)
  rcases Nat.lt_or_ge i (a.drop w).length with hlt | hge
  · have e1 : decide ((i : Int) < ((a.drop w).length : Int)) = true := by simp; omega
    have e2 : IntKind.wrap .i64 ((w : Int) + (i : Int)) = ((w + i : Nat) : Int) := by rw [wrapI (by omega)]; omega
    have e3 : (decide ((0 : Int) ≤ ((w + i : Nat) : Int)) && decide (((w + i : Nat) : Int) < ((Wd a).length : Int))) = true := by
      rw [Wd_len]; simp only [Bool.and_eq_true, decide_eq_true_eq]; omega
    have e4 : decide ((0 : Int) ≤ (s : Int)) = true := by simp
    have houtl : ((shrL s (a.drop w)).take i ++ List.replicate ((shrL s (a.drop w)).length - i) 0).length = (a.drop w).length := by simp; omega
    generalize hout : (shrL s (a.drop w)).take i ++ List.replicate ((shrL s (a.drop w)).length - i) 0 = out at houtl ⊢
    have e5 : (decide ((0 : Int) ≤ (i : Int)) && decide ((i : Int) < ((Wd out).length : Int))) = true := by
      rw [Wd_len]; simp only [Bool.and_eq_true, decide_eq_true_eq]; omega
    have e6 : IntKind.wrap .i64 (((w + i : Nat) : Int) + 1) = ((w + i + 1 : Nat) : Int) := by rw [wrapI (by omega)]; omega
    have e7 : IntKind.wrap .i64 ((i : Int) + 1) = ((i + 1 : Nat) : Int) := by rw [wrapI (by omega)]; omega
    have e8 : IntKind.wrap .i64 (64 - (s : Int)) = ((64 - s : Nat) : Int) := wsub 64 s (by omega) (by omega)
    have hx := getD_lt (by decide) ha (w + i)
    have hget := shrL_get s (a.drop w) i hlt
    rw [drop_getD, drop_getD, ← Nat.add_assoc] at hget
    have hnext := fun v (hv : (shrL s (a.drop w))[i]? = some v) => set_next (by omega) hv
    rw [hout] at hnext
    have e9 : ∀ v : Nat, (decide ((0 : Int) ≤ (i : Int)) && decide ((i : Int) < ((Wd (out.set i v)).length : Int))) = true := fun v => by
      rw [Wd_len, List.length_set]; simp only [Bool.and_eq_true, decide_eq_true_eq]; omega
    simp only [e1, e2, e3, e4, e5, e6, e7, e8, cond_true, Int.toNat_natCast, Wd_getD, shrN _ s (by omega), Wd_set, e9]
    rcases Nat.lt_or_ge (w + i + 1) a.length with h1 | h1
    · have f1 : decide (((w + i + 1 : Nat) : Int) < ((Wd a).length : Int)) = true := by rw [Wd_len]; exact decide_eq_true (by omega)
      have f2 : decide ((0 : Int) ≤ ((w + i + 1 : Nat) : Int)) = true := decide_eq_true (by omega)
      have f3 : decide ((0 : Int) ≤ ((64 - s : Nat) : Int)) = true := decide_eq_true (by omega)
      simp only [f1, f2, f3, Bool.and_self, cond_true]
      have hw2 := shr_word (s := s) (y := a.getD (w + i + 1) 0) (by omega) hx
      have g1 : a.getD (w + i + 1) 0 * 2 ^ (64 - s) % 2 ^ 64 = (a.getD (w + i + 1) 0 % 2 ^ s) * 2 ^ (64 - s) := by
        rw [pow_parts (s := s) (by omega), Nat.mul_mod_mul_right]
      rw [getD_set (by omega), shlN _ _ (by omega), g1, orN hw2.1 hw2.2, Wd_set, List.set_set, hnext _ hget]
      exact hL _ ⟨i + 1, by omega, rfl⟩ (by simp only [Int.toNat_natCast]; omega)
    · have f1 : decide (((w + i + 1 : Nat) : Int) < ((Wd a).length : Int)) = false := by rw [Wd_len]; exact decide_eq_false (by omega)
      have hz : a.getD (w + i + 1) 0 = 0 := by rw [List.getD_eq_getElem?_getD, List.getElem?_eq_none h1]; rfl
      rw [hz, Nat.zero_mod, Nat.zero_mul, Nat.add_zero] at hget
      simp only [f1, cond_false]
      rw [hnext _ hget]
      exact hL _ ⟨i + 1, by omega, rfl⟩ (by simp only [Int.toNat_natCast]; omega)
  · have hie : i = (a.drop w).length := by omega
    subst hie
    have e1 : decide (((a.drop w).length : Int) < ((a.drop w).length : Int)) = false := by simp
    simp only [e1, cond_false]
    have : (shrL s (a.drop w)).take (a.drop w).length ++ List.replicate ((shrL s (a.drop w)).length - (a.drop w).length) 0 = shrL s (a.drop w) := by
      rw [← hol, List.take_length, Nat.sub_self, List.replicate_zero, List.append_nil]
    rw [this]
theorem T1171_eq (l : List Nat) (hl : Ws l) (n : Nat) (hn : n ≤ 100000000) : T1171 (Wd l, (n : Int), ()) = some (Wd (dg (2 ^ 64) (nv (2 ^ 64) l / 2 ^ n)), ()) := by
  obtain ⟨h, hlen⟩ := hl
  show t1171 S1173.pre S1173.F S173.pre S173.F W1171_7 (Wd l) n = _
  unfold t1171
  have p0 := T173_eq l hlen
  have hB : 2 ≤ 2 ^ 64 := by decide
  have hle := (trim_len l).1
  have hm : ∀ x ∈ trimL l, x < 2 ^ 64 := fun x hx => h x (trim_mem hx)
  have hv := nv_trim hB h
  have hsplit : 2 ^ n = (2 ^ 64) ^ (n / 64) * 2 ^ (n % 64) := by rw [pow64, ← Nat.pow_add]; congr 1; omega
  simp only [pre173 p0, fun173 p0, cond_true, Wd_len, quoN n (by omega)]
  rcases Nat.lt_or_ge (n / 64) (trimL l).length with h1 | h1
  · have e1 : decide (((n / 64 : Nat) : Int) ≥ ((trimL l).length : Int)) = false := by simp; omega
    have e2 : IntKind.wrap .i64 (((trimL l).length : Int) - ((n / 64 : Nat) : Int)) = (((trimL l).drop (n / 64)).length : Int) := by
      rw [wsub _ _ (by omega) (by omega)]; simp
    have hdl : ((trimL l).drop (n / 64)).length ≤ 1000000 := by simp; omega
    have e3 : (decide ((0 : Int) ≤ (((trimL l).drop (n / 64)).length : Int)) && decide ((((trimL l).drop (n / 64)).length : Int) * 8 ≤ 140737488355328)) = true := by
      simp only [Bool.and_eq_true, decide_eq_true_eq]; omega
    have e4 : Int.tmod (n : Int) 64 = ((n % 64 : Nat) : Int) := rfl
    have hw := W1171_eq (trimL l) hm (by omega) (n / 64) (n % 64) (Nat.mod_lt _ (by decide)) (by omega) 0 (Nat.zero_le _)
    rw [List.take_zero, List.nil_append, Nat.sub_zero, shrL_len] at hw
    rw [e1, e2, e3, cond_false, cond_true, Int.toNat_natCast, e4, Wd_rep, Wd_len, List.length_replicate]
    rw [show ((0 : Nat) : Int) = 0 from rfl] at hw
    rw [hw]
    have hos : ∀ x ∈ shrL (n % 64) ((trimL l).drop (n / 64)), x < 2 ^ 64 := fun x hx => by
      obtain ⟨i, hi⟩ := List.getElem?_of_mem hx
      have hil : i < ((trimL l).drop (n / 64)).length := by rw [← shrL_len (n % 64)]; exact (List.getElem?_eq_some_iff.1 hi).1
      rw [shrL_get _ _ i hil] at hi
      cases hi
      exact (shr_word (s := n % 64) (by omega) (getD_lt (by decide) (fun y hy => hm y (List.mem_of_mem_drop hy)) i)).2
    have p1 := T1173_eq (shrL (n % 64) ((trimL l).drop (n / 64))) (by rw [shrL_len]; exact hdl)
    show (bif S1173.pre (Wd (shrL (n % 64) ((trimL l).drop (n / 64))), ()) then some (S1173.F (Wd (shrL (n % 64) ((trimL l).drop (n / 64))), ())) else none) = _
    rw [pre1173 p1, fun1173 p1, cond_true, trim_dg hB _ hos, nv_shrL (by omega)]
    have hd : nv (2 ^ 64) ((trimL l).drop (n / 64)) = nv (2 ^ 64) l / (2 ^ 64) ^ (n / 64) := by
      rw [← hv, nv_split _ (trimL l) (n / 64) (by omega)]
      have hlow := nv_lt hB ((trimL l).take (n / 64)) fun x hx => hm x (List.mem_of_mem_take hx)
      rw [List.length_take, Nat.min_eq_left (by omega)] at hlow
      rw [Nat.add_mul_div_left _ _ (Nat.pow_pos (by decide)), Nat.div_eq_of_lt hlow, Nat.zero_add]
    rw [hd, Nat.div_div_eq_div_mul, ← hsplit]
    rfl
  · have e1 : decide (((n / 64 : Nat) : Int) ≥ ((trimL l).length : Int)) = true := by simp; omega
    rw [e1, cond_true]
    have hz : nv (2 ^ 64) l / 2 ^ n = 0 := by
      rw [← hv]
      have := nv_lt hB (trimL l) hm
      apply Nat.div_eq_of_lt
      refine Nat.lt_of_lt_of_le this ?_
      rw [pow64]
      exact Nat.pow_le_pow_right (by decide) (by omega)
    rw [hz, dg_zero]; rfl
end VL
namespace VL
open Go Vx
theorem wadd (a b : Nat) (h : a + b < 2 ^ 62) : IntKind.wrap .i64 ((a : Int) + (b : Int)) = ((a + b : Nat) : Int) := by rw [wrapI (by omega)]; omega
theorem wadd1 (a : Nat) (h : a < 2 ^ 62) : IntKind.wrap .i64 ((a : Int) + 1) = ((a + 1 : Nat) : Int) := by rw [wrapI (by omega)]; omega
theorem wadd64 (a : Nat) (h : a < 2 ^ 56) : IntKind.wrap .i64 (64 * (a : Int)) = ((64 * a : Nat) : Int) := by rw [wrapI (by omega)]; omega
theorem wmul64 (a : Nat) (h : a < 2 ^ 56) : IntKind.wrap .i64 ((a : Int) * 64) = ((64 * a : Nat) : Int) := by rw [wrapI (by omega)]; omega
theorem wsubn (m n : Nat) (h : n ≤ m ∧ m < 2 ^ 62) : IntKind.wrap .i64 ((m : Int) - (n : Int)) = ((m - n : Nat) : Int) := by rw [wrapI (by omega)]; omega
theorem wsub1 (m : Nat) (h : 1 ≤ m ∧ m < 2 ^ 62) : IntKind.wrap .i64 ((m : Int) - 1) = ((m - 1 : Nat) : Int) := by rw [wrapI (by omega)]; omega
theorem ilt_t (a b : Nat) (h : a < b) : decide ((a : Int) < (b : Int)) = true := decide_eq_true (by omega)
theorem ilt_f (a b : Nat) (h : b ≤ a) : decide ((a : Int) < (b : Int)) = false := decide_eq_false (by omega)
theorem ile_t (a b : Nat) (h : a ≤ b) : decide ((a : Int) ≤ (b : Int)) = true := decide_eq_true (by omega)
theorem ile_f (a b : Nat) (h : b < a) : decide ((a : Int) ≤ (b : Int)) = false := decide_eq_false (by omega)
theorem igt_t (a b : Nat) (h : b < a) : decide ((a : Int) > (b : Int)) = true := decide_eq_true (by omega)
theorem igt_f (a b : Nat) (h : a ≤ b) : decide ((a : Int) > (b : Int)) = false := decide_eq_false (by omega)
theorem ige_t (a b : Nat) (h : b ≤ a) : decide ((a : Int) ≥ (b : Int)) = true := decide_eq_true (by omega)
theorem ige_f (a b : Nat) (h : a < b) : decide ((a : Int) ≥ (b : Int)) = false := decide_eq_false (by omega)
theorem ipos_t (a : Nat) (h : 0 < a) : decide ((0 : Int) < (a : Int)) = true := decide_eq_true (by omega)
theorem ipos_f (a : Nat) (h : a = 0) : decide ((0 : Int) < (a : Int)) = false := decide_eq_false (by omega)
theorem igt0_t (a : Nat) (h : 0 < a) : decide ((a : Int) > 0) = true := decide_eq_true (by omega)
theorem igt0_f (a : Nat) (h : a = 0) : decide ((a : Int) > 0) = false := decide_eq_false (by omega)
theorem ineg_f (a : Nat) : decide ((a : Int) < 0) = false := decide_eq_false (by omega)
theorem beq0_t (a : Nat) (h : a = 0) : ((a : Int) == 0) = true := by rw [nbeq0]; simp [h]
theorem beq0_f (a : Nat) (h : a ≠ 0) : ((a : Int) == 0) = false := by rw [nbeq0]; simp [h]
theorem bne0_t (a : Nat) (h : a ≠ 0) : ((a : Int) != 0) = true := by rw [nbne0]; simp [h]
theorem bne0_f (a : Nat) (h : a = 0) : ((a : Int) != 0) = false := by rw [nbne0]; simp [h]
/-- so many digits of a number -/
def pd (B : Nat) : Nat → Nat → List Nat
  | 0, _ => []
  | k + 1, v => v % B :: pd B k (v / B)
theorem pd_len (B : Nat) : ∀ k v, (pd B k v).length = k
  | 0, _ => rfl
  | k + 1, v => by simp [pd, pd_len B k]
theorem pd_lt {B : Nat} (hB : 0 < B) : ∀ k v, ∀ x ∈ pd B k v, x < B
  | 0, _, x, hx => by simp [pd] at hx
  | k + 1, v, x, hx => by
    simp only [pd, List.mem_cons] at hx
    rcases hx with rfl | hx
    · exact Nat.mod_lt _ hB
    · exact pd_lt hB k _ x hx
theorem pd_of {B : Nat} (hB : 0 < B) : ∀ (l : List Nat), (∀ x ∈ l, x < B) → l = pd B l.length (nv B l)
  | [], _ => rfl
  | x :: r, h => by
    have hx := h x (by simp)
    simp only [List.length_cons, pd, nv]
    rw [Nat.add_mul_mod_self_left, Nat.mod_eq_of_lt hx, Nat.add_mul_div_left _ _ hB, Nat.div_eq_of_lt hx, Nat.zero_add, ← pd_of hB r fun y hy => h y (by simp [hy])]
theorem pd_at {B : Nat} (hB : 0 < B) {l : List Nat} {k v : Nat} (h : ∀ x ∈ l, x < B) (hl : l.length = k) (hv : nv B l = v) : l = pd B k v := by
  have := pd_of hB l h
  rw [hl, hv] at this
  exact this
theorem pd_nv {B : Nat} (hB : 0 < B) : ∀ k v, v < B ^ k → nv B (pd B k v) = v
  | 0, v, h => by simp at h; subst h; rfl
  | k + 1, v, h => by
    simp only [pd, nv]
    rw [pd_nv hB k (v / B) (by rw [Nat.div_lt_iff_lt_mul hB, ← Nat.pow_succ]; exact h)]
    exact Nat.mod_add_div v B
theorem pd_get (B : Nat) : ∀ k v i, i < k → (pd B k v).getD i 0 = v / B ^ i % B
  | 0, _, _, h => by omega
  | k + 1, v, 0, _ => by simp [pd]
  | k + 1, v, i + 1, h => by
    simp only [pd, List.getD_cons_succ]
    rw [pd_get B k (v / B) i (by omega), Nat.div_div_eq_div_mul, ← Nat.pow_succ']
theorem pd_zero (B : Nat) : ∀ k, pd B k 0 = List.replicate k 0
  | 0 => rfl
  | k + 1 => by simp [pd, pd_zero B k, List.replicate_succ]
theorem nv_set (B : Nat) : ∀ (l : List Nat) (i x : Nat), i < l.length → nv B (l.set i x) + B ^ i * l.getD i 0 = nv B l + B ^ i * x
  | [], _, _, h => by simp at h
  | y :: r, 0, x, _ => by simp [nv]; omega
  | y :: r, i + 1, x, h => by
    have := nv_set B r i x (by simpa using h)
    simp only [List.set_cons_succ, nv, List.getD_cons_succ, Nat.pow_succ']
    rw [Nat.mul_assoc, Nat.mul_assoc, Nat.add_assoc, Nat.add_assoc, ← Nat.mul_add, ← Nat.mul_add, this]
theorem set_lt {B : Nat} {l : List Nat} (h : ∀ x ∈ l, x < B) {i v : Nat} (hv : v < B) : ∀ x ∈ l.set i v, x < B := fun x hx => by
  rcases List.mem_or_eq_of_mem_set hx with h1 | h1
  · exact h x h1
  · rw [h1]; exact hv
theorem dg_trim {B : Nat} (hB : 2 ≤ B) (n : Nat) : trimL (dg B n) = dg B n := by
  rw [trim_dg hB _ (dg_lt hB n), nv_dg hB]
theorem nv_take_succ (B : Nat) (l : List Nat) (i : Nat) (h : i < l.length) : nv B (l.take (i + 1)) = nv B (l.take i) + B ^ i * l.getD i 0 := by
  have hs := nv_split B (l.take (i + 1)) i (by simp; omega)
  rw [hs, List.take_take, Nat.min_eq_left (by omega)]
  congr 2
  rw [List.drop_take, Nat.add_sub_cancel_left, List.getD_eq_getElem?_getD]
  rw [List.drop_eq_getElem_cons h, List.getElem?_eq_getElem h]
  show l[i] + B * 0 = l[i]
  rw [Nat.mul_zero, Nat.add_zero]
theorem two_split {x : Nat} (h : 0 < x) : ∃ t k, x = 2 ^ t * (2 * k + 1) := by
  induction x using Nat.strongRecOn with
  | ind x ih =>
    rcases Nat.mod_two_eq_zero_or_one x with h0 | h1
    · obtain ⟨t, k, e⟩ := ih (x / 2) (by omega) (by omega)
      refine ⟨t + 1, k, ?_⟩
      rw [Nat.pow_succ, Nat.mul_comm (2 ^ t) 2, Nat.mul_assoc, ← e]
      omega
    · exact ⟨0, x / 2, by simp; omega⟩
theorem odd_pow {t k n : Nat} : (2 ^ t * (2 * k + 1)) % 2 ^ n = 0 ↔ n ≤ t := by
  constructor
  · intro h
    rcases Nat.lt_or_ge t n with hlt | hge
    · exfalso
      have e : n = t + (n - t - 1) + 1 := by omega
      rw [e, Nat.add_assoc, Nat.pow_add, Nat.mul_mod_mul_left, Nat.pow_succ] at h
      have hp := Nat.two_pow_pos t
      have h2 : (2 * k + 1) % (2 ^ (n - t - 1) * 2) = 0 := by
        rcases Nat.mul_eq_zero.1 h with h | h
        · omega
        · exact h
      have : (2 * k + 1) % 2 = 0 := by
        have := Nat.mod_mod_of_dvd (2 * k + 1) (show 2 ∣ 2 ^ (n - t - 1) * 2 from ⟨_, Nat.mul_comm _ _⟩)
        rw [h2] at this
        omega
      omega
    · exact hge
  · intro h
    have e : t = n + (t - n) := by omega
    rw [e, Nat.pow_add, Nat.mul_assoc]
    exact Nat.mul_mod_right _ _
theorem and_neg {t k : Nat} (h : 2 ^ t * (2 * k + 1) < 2 ^ 64) : 2 ^ t * (2 * k + 1) &&& (2 ^ 64 - 2 ^ t * (2 * k + 1)) = 2 ^ t := by
  have hp := Nat.two_pow_pos t
  have ht : t < 64 := by
    have : 2 ^ t * 1 ≤ 2 ^ t * (2 * k + 1) := Nat.mul_le_mul_left _ (by omega)
    exact (Nat.pow_lt_pow_iff_right (a := 2) (by decide)).1 (by omega)
  have hz : 2 ^ t * (2 * k) + (2 ^ t - 1) + 1 = 2 ^ t * (2 * k + 1) := by rw [Nat.mul_add, Nat.mul_one]; omega
  have hb : ∀ i, (2 ^ 64 - 2 ^ t * (2 * k + 1)).testBit i = (decide (i < 64) && !(2 ^ t * (2 * k) + (2 ^ t - 1)).testBit i) := fun i => by
    rw [← hz, Nat.testBit_two_pow_sub_succ (by omega)]
  apply Nat.eq_of_testBit_eq
  intro i
  rw [Nat.testBit_and, hb, Nat.testBit_two_pow]
  have h1 : (2 ^ t * (2 * k + 1)).testBit i = (decide (t ≤ i) && (2 * k + 1).testBit (i - t)) := by
    have := Nat.testBit_two_pow_mul_add (2 * k + 1) hp i
    rw [Nat.add_zero] at this
    rw [this]
    by_cases hi : i < t
    · simp [hi]; omega
    · simp [hi]; omega
  rw [h1, Nat.testBit_two_pow_mul_add (2 * k) (show 2 ^ t - 1 < 2 ^ t by omega) i]
  rcases Nat.lt_trichotomy i t with hi | hi | hi
  · simp [show ¬ t ≤ i by omega, show ¬ t = i by omega]
  · subst hi
    simp [ht]
  · have e : i - t = (i - t - 1) + 1 := by omega
    simp only [show ¬ i < t by omega, if_false, show ¬ t = i by omega, decide_false]
    rw [e, Nat.testBit_succ, Nat.testBit_succ, show (2 * k + 1) / 2 = k by omega, show 2 * k / 2 = k by omega]
    cases k.testBit (i - t - 1) <;> simp
theorem andN {a b : Nat} (ha : a < 2 ^ 64) (hb : b < 2 ^ 64) : andI .u64 (a : Int) (b : Int) = ((a &&& b : Nat) : Int) := by
  have key : (BitVec.ofInt 64 (a : Int) &&& BitVec.ofInt 64 (b : Int)).toNat = a &&& b := by
    rw [BitVec.toNat_and, ofInt_u64 ha, ofInt_u64 hb]
  show IntKind.u64.wrap (((BitVec.ofInt 64 (a : Int) &&& BitVec.ofInt 64 (b : Int)).toNat : Nat) : Int) = _
  rw [key]
  have := Nat.and_le_left (n := a) (m := b)
  exact wrapU (by omega)
theorem orN2 {a b : Nat} (ha : a < 2 ^ 64) (hb : b < 2 ^ 64) : orI .u64 (a : Int) (b : Int) = ((a ||| b : Nat) : Int) := by
  have key : (BitVec.ofInt 64 (a : Int) ||| BitVec.ofInt 64 (b : Int)).toNat = a ||| b := by
    rw [BitVec.toNat_or, ofInt_u64 ha, ofInt_u64 hb]
  show IntKind.u64.wrap (((BitVec.ofInt 64 (a : Int) ||| BitVec.ofInt 64 (b : Int)).toNat : Nat) : Int) = _
  rw [key]
  have := Nat.or_lt_two_pow ha hb
  exact wrapU (by omega)
theorem deb : ∀ t : Nat, t < 64 → IntKind.wrap .i64 (k_deb.getD (2 ^ t * 285870213051353865 % 2 ^ 64 / 2 ^ 58) 0) = (t : Int) := by
  have h : ((List.range 64).all fun t => decide (IntKind.wrap .i64 (k_deb.getD (2 ^ t * 285870213051353865 % 2 ^ 64 / 2 ^ 58) (0 : Int)) = (t : Int))) = true := by decide +kernel
  intro t ht
  have := List.all_eq_true.1 h t (List.mem_range.2 ht)
  simpa using this
theorem T92_eq {t k : Nat} (h : 2 ^ t * (2 * k + 1) < 2 ^ 64) : T92 (((2 ^ t * (2 * k + 1) : Nat) : Int), ()) = some ((t : Int), ()) := by
  have hp := Nat.two_pow_pos t
  have h1 : 2 ^ t * 1 ≤ 2 ^ t * (2 * k + 1) := Nat.mul_le_mul_left _ (by omega)
  have ht : t < 64 := (Nat.pow_lt_pow_iff_right (a := 2) (by decide)).1 (by omega)
  have han := and_neg h
  show t92 ((2 ^ t * (2 * k + 1) : Nat) : Int) = _
  generalize hx : 2 ^ t * (2 * k + 1) = x at *
  unfold t92
  have e1 : IntKind.wrap .u64 ((0 : Int) - (x : Int)) = ((2 ^ 64 - x : Nat) : Int) := by
    have : ∀ y : Int, IntKind.wrap .u64 y = y % 18446744073709551616 := fun y => by
      simp [IntKind.wrap, IntKind.bits, IntKind.signed]
    rw [this]; omega
  have e2 : IntKind.wrap .u64 (((2 ^ t : Nat) : Int) * 285870213051353865) = ((2 ^ t * 285870213051353865 % 2 ^ 64 : Nat) : Int) := wrapN (2 ^ t * 285870213051353865)
  have e3 : shrI .u64 ((2 ^ t * 285870213051353865 % 2 ^ 64 : Nat) : Int) 58 = ((2 ^ t * 285870213051353865 % 2 ^ 64 / 2 ^ 58 : Nat) : Int) := shrN _ 58 (by decide)
  have e4 : 2 ^ t * 285870213051353865 % 2 ^ 64 / 2 ^ 58 < 64 := by omega
  have e5 : (decide ((0 : Int) ≤ ((2 ^ t * 285870213051353865 % 2 ^ 64 / 2 ^ 58 : Nat) : Int)) && decide (((2 ^ t * 285870213051353865 % 2 ^ 64 / 2 ^ 58 : Nat) : Int) < (64 : Nat))) = true := by
    rw [decide_eq_true (by omega), decide_eq_true (by omega)]; rfl
  rw [e1, andN h (by omega), han, e2, e3, e5, sealB_eq, cond_true, beq0_f x (by omega), cond_false, Int.toNat_natCast, deb t ht]
end VL
namespace VL
open Go Vx
/-- words as the program has them, of a number -/
def Dw (n : Nat) : List Int := Wd (dg (2 ^ 64) n)
theorem dg_ws (n : Nat) (h : (dg (2 ^ 64) n).length ≤ 1000000) : Ws (dg (2 ^ 64) n) := ⟨dg_lt (by decide) n, h⟩
theorem dg_len_le {B : Nat} (hB : 2 ≤ B) : ∀ (k n : Nat), n < B ^ k → (dg B n).length ≤ k
  | 0, n, h => by simp at h; subst h; rw [dg_zero]; simp
  | k + 1, n, h => by
    rcases Nat.eq_zero_or_pos n with rfl | hn
    · rw [dg_zero]; simp
    · rw [dg_pos hB hn]
      have := dg_len_le hB k (n / B) (by rw [Nat.div_lt_iff_lt_mul (by omega), ← Nat.pow_succ]; exact h)
      simp; omega
theorem dg_len_gt {B : Nat} (hB : 2 ≤ B) (n : Nat) : n < B ^ (dg B n).length := by
  have := nv_lt hB _ (dg_lt hB n)
  rwa [nv_dg hB] at this
theorem div_word {x i t k r n : Nat} (hx : x = 2 ^ t * (2 * k + 1)) (ht : t < 64) : ((2 ^ 64) ^ i * (x + 2 ^ 64 * r)) % 2 ^ n = 0 ↔ n ≤ 64 * i + t := by
  have e : (2 ^ 64) ^ i * (x + 2 ^ 64 * r) = 2 ^ (64 * i + t) * (2 * (k + 2 ^ (64 - t - 1) * r) + 1) := by
    have h1 : 2 ^ 64 = 2 ^ t * (2 ^ (64 - t - 1) * 2) := by rw [← Nat.pow_succ, ← Nat.pow_add]; congr 1; omega
    rw [pow64, hx, Nat.pow_add, Nat.mul_assoc]
    congr 1
    rw [h1, Nat.mul_assoc, ← Nat.mul_add]
    congr 1
    rw [Nat.mul_assoc, Nat.mul_left_comm]
    omega
  rw [e]
  exact odd_pow
theorem W184_eq (a : List Nat) (ha : ∀ x ∈ a, x < 2 ^ 64) (hlen : a.length ≤ 1000000) (n : Nat) (hn : n ≤ 1000000000) (i : Nat) (hi : i ≤ a.length) (hz : nv (2 ^ 64) (a.take i) = 0) :
    W184_2 (((a.length : Int), (Wd a, ((n : Int), ((i : Int), ())))), ()) = some (if nv (2 ^ 64) a = 0 then .inl ((), ()) else .inr ((decide (nv (2 ^ 64) a % 2 ^ n = 0), ()), ())) := by
  have key := lfix_ind (m184_2 S173.pre S173.F S92.pre S92.F) (fun x => a.length - x.1.2.2.2.1.toNat)
    (fun x => ∃ i : Nat, i ≤ a.length ∧ nv (2 ^ 64) (a.take i) = 0 ∧ x = (((a.length : Int), (Wd a, ((n : Int), ((i : Int), ())))), ()))
    (fun _ => if nv (2 ^ 64) a = 0 then .inl ((), ()) else .inr ((decide (nv (2 ^ 64) a % 2 ^ n = 0), ()), ())) ?_ _ ⟨i, hi, hz, rfl⟩
  · exact key
  intro L x hx hL
  obtain ⟨i, hi, hz, rfl⟩ := hx
  unfold h184_2
  rcases Nat.lt_or_ge i a.length with hlt | hge
  · simp (disch := omega) only [wadd, wadd1, wadd64, wsubn, wsub1, wmul64, ilt_t, ilt_f, ile_t, ile_f, igt_t, igt_f, ige_t, ige_f, ipos_t, ipos_f, igt0_t, igt0_f, nnn, beq0_t, beq0_f, bne0_t, bne0_f, Int.toNat_natCast, Int.toNat_zero, cond_true, cond_false, Bool.and_self, Bool.true_and, Bool.and_true, Bool.false_and, Bool.and_false, Bool.not_true, Bool.not_false, Bool.or_self, Bool.true_or, Bool.or_true, Bool.false_or, Bool.or_false, Wd_len, Wd_getD]
    have hxl := getD_lt (by decide) ha i
    rcases Nat.eq_zero_or_pos (a.getD i 0) with h0 | h0
    · simp (disch := omega) only [wadd, wadd1, wadd64, wsubn, wsub1, wmul64, ilt_t, ilt_f, ile_t, ile_f, igt_t, igt_f, ige_t, ige_f, ipos_t, ipos_f, igt0_t, igt0_f, nnn, beq0_t, beq0_f, bne0_t, bne0_f, Int.toNat_natCast, Int.toNat_zero, cond_true, cond_false, Bool.and_self, Bool.true_and, Bool.and_true, Bool.false_and, Bool.and_false, Bool.not_true, Bool.not_false, Bool.or_self, Bool.true_or, Bool.or_true, Bool.false_or, Bool.or_false]
      refine hL _ ⟨i + 1, by omega, ?_, rfl⟩ (by simp only [Int.toNat_natCast]; omega)
      rw [nv_take_succ _ _ _ hlt, hz, h0, Nat.mul_zero]
    · obtain ⟨t, k, e⟩ := two_split h0
      have ht : t < 64 := by
        have hp := Nat.two_pow_pos t
        have h1 : 2 ^ t * 1 ≤ 2 ^ t * (2 * k + 1) := Nat.mul_le_mul_left _ (by omega)
        exact (Nat.pow_lt_pow_iff_right (a := 2) (by decide)).1 (by omega)
      have p0 := T92_eq (t := t) (k := k) (by omega)
      rw [← e] at p0
      have hv : nv (2 ^ 64) a = (2 ^ 64) ^ i * (a.getD i 0 + 2 ^ 64 * nv (2 ^ 64) (a.drop (i + 1))) := by
        rw [nv_split _ a i hi, hz, Nat.zero_add, List.drop_eq_getElem_cons hlt]
        simp only [nv]
        rw [List.getD_eq_getElem?_getD, List.getElem?_eq_getElem hlt]
        rfl
      have hne : nv (2 ^ 64) a ≠ 0 := by
        rw [hv]
        have : 0 < (2 ^ 64) ^ i := Nat.pow_pos (by decide)
        exact Nat.ne_of_gt (Nat.mul_pos this (by omega))
      have hd := div_word (i := i) (r := nv (2 ^ 64) (a.drop (i + 1))) (n := n) e ht
      rw [← hv] at hd
      simp (disch := omega) only [wadd, wadd1, wadd64, wsubn, wsub1, wmul64, ilt_t, ilt_f, ile_t, ile_f, igt_t, igt_f, ige_t, ige_f, ipos_t, ipos_f, igt0_t, igt0_f, nnn, beq0_t, beq0_f, bne0_t, bne0_f, Int.toNat_natCast, Int.toNat_zero, cond_true, cond_false, Bool.and_self, Bool.true_and, Bool.and_true, Bool.false_and, Bool.and_false, Bool.not_true, Bool.not_false, Bool.or_self, Bool.true_or, Bool.or_true, Bool.false_or, Bool.or_false, pre92 p0, fun92 p0, if_neg hne]
      have : decide (((64 * i + t : Nat) : Int) ≥ (n : Int)) = decide (nv (2 ^ 64) a % 2 ^ n = 0) := by
        rw [Bool.eq_iff_iff, decide_eq_true_eq, decide_eq_true_eq, hd]; omega
      rw [this]
  · have e : i = a.length := by omega
    subst e
    rw [List.take_length] at hz
    simp (disch := omega) only [wadd, wadd1, wadd64, wsubn, wsub1, wmul64, ilt_t, ilt_f, ile_t, ile_f, igt_t, igt_f, ige_t, ige_f, ipos_t, ipos_f, igt0_t, igt0_f, nnn, beq0_t, beq0_f, bne0_t, bne0_f, Int.toNat_natCast, Int.toNat_zero, cond_true, cond_false, Bool.and_self, Bool.true_and, Bool.and_true, Bool.false_and, Bool.and_false, Bool.not_true, Bool.not_false, Bool.or_self, Bool.true_or, Bool.or_true, Bool.false_or, Bool.or_false, if_pos hz]
theorem T184_eq (l : List Nat) (hl : Ws l) (n : Nat) (hn : n ≤ 1000000000) : T184 (Wd l, (n : Int), ()) = some (decide (nv (2 ^ 64) l % 2 ^ n = 0), ()) := by
  obtain ⟨h, hlen⟩ := hl
  show t184 S173.pre S173.F S92.pre S92.F W184_2 (Wd l) n = _
  unfold t184
  have p0 := T173_eq l hlen
  have hm : ∀ x ∈ trimL l, x < 2 ^ 64 := fun x hx => h x (trim_mem hx)
  have hle := (trim_len l).1
  have hw := W184_eq (trimL l) hm (by omega) n hn 0 (Nat.zero_le _) rfl
  rw [nv_trim (by decide) h] at hw
  simp only [pre173 p0, fun173 p0, cond_true, Wd_len]
  rw [show ((0 : Nat) : Int) = 0 from rfl] at hw
  rw [hw]
  by_cases h0 : nv (2 ^ 64) l = 0
  · rw [if_pos h0, h0, Nat.zero_mod]; rfl
  · rw [if_neg h0]
/-- n over 2^s, with a bit for what is lost -/
def jamN (v n : Nat) : Nat := if v % 2 ^ n = 0 then v / 2 ^ n else v / 2 ^ n / 2 * 2 + 1
theorem or_one (w : Nat) : w ||| 1 = w / 2 * 2 + 1 := by
  apply Nat.eq_of_testBit_eq
  intro i
  rw [Nat.testBit_or]
  cases i with
  | zero => simp [Nat.testBit_zero]
  | succ i =>
    rw [Nat.testBit_succ, Nat.testBit_succ, Nat.testBit_succ, show (w / 2 * 2 + 1) / 2 = w / 2 by omega, show 1 / 2 = 0 by rfl]
    simp
theorem T175_eq (l : List Nat) (hl : Ws l) (n : Nat) (hn : n ≤ 100000000) : T175 (Wd l, (n : Int), ()) = some (Dw (jamN (nv (2 ^ 64) l) n), 0, ()) := by
  show t175 S1171.pre S1171.F S171.pre S171.F S184.pre S184.F (Wd l) n = _
  unfold t175
  have p0 := T1171_eq l hl n hn
  have p1 := T184_eq l hl n (by omega)
  simp only [ineg_f, cond_false, pre1171 p0, fun1171 p0, pre184 p1, fun184 p1, cond_true, Wd_len]
  unfold jamN
  by_cases h0 : nv (2 ^ 64) l % 2 ^ n = 0
  · rw [if_pos h0, decide_eq_true h0]; rfl
  · rw [if_neg h0, decide_eq_false h0]
    generalize nv (2 ^ 64) l / 2 ^ n = q
    rcases Nat.eq_zero_or_pos q with rfl | hq
    · have e : Dw (0 / 2 * 2 + 1) = [1] := by
        show Wd (dg (2 ^ 64) 1) = [1]
        rw [dg_pos (by decide) (by decide), dg_zero]; rfl
      rw [e, dg_zero]; rfl
    · have hB : 2 ≤ 2 ^ 64 := by decide
      have e : Dw (q / 2 * 2 + 1) = Wd ((q % 2 ^ 64 / 2 * 2 + 1) :: dg (2 ^ 64) (q / 2 ^ 64)) := by
        show Wd (dg (2 ^ 64) (q / 2 * 2 + 1)) = _
        rw [dg_pos hB (by omega)]
        have e1 : (q / 2 * 2 + 1) % 2 ^ 64 = q % 2 ^ 64 / 2 * 2 + 1 := by omega
        have e2 : (q / 2 * 2 + 1) / 2 ^ 64 = q / 2 ^ 64 := by omega
        rw [e1, e2]
      have e2 : orI .u64 ((q % 2 ^ 64 : Nat) : Int) 1 = ((q % 2 ^ 64 / 2 * 2 + 1 : Nat) : Int) := by
        have := orN2 (a := q % 2 ^ 64) (b := 1) (by omega) (by decide)
        rw [or_one] at this
        exact this
      rw [e, dg_pos hB hq]
      simp (disch := omega) only [wadd, wadd1, wadd64, wsubn, wsub1, wmul64, ilt_t, ilt_f, ile_t, ile_f, igt_t, igt_f, ige_t, ige_f, ipos_t, ipos_f, igt0_t, igt0_f, nnn, beq0_t, beq0_f, bne0_t, bne0_f, Int.toNat_natCast, Int.toNat_zero, cond_true, cond_false, Bool.and_self, Bool.true_and, Bool.and_true, Bool.false_and, Bool.and_false, Bool.not_true, Bool.not_false, Bool.or_self, Bool.true_or, Bool.or_true, Bool.false_or, Bool.or_false, List.length_cons, Wd_getD, List.getD_cons_zero, e2, Wd_set, List.set_cons_zero]
theorem T141_eq (l : List Nat) (hl : Ws l) (n : Nat) (hn : n ≤ 100000000) : T141 (Wd l, (n : Int), ()) = some (Dw (nv (2 ^ 64) l / 2 ^ n), 0, ()) := by
  show t141 S171.pre S171.F (Wd l) n = _
  unfold t141
  have p0 := T171_eq l hl n hn
  simp only [ineg_f, cond_false, pre171 p0, fun171 p0, cond_true]
  rfl
end VL
namespace VL
open Go Vx
theorem getD_set_ne {l : List Nat} {i j v : Nat} (h : i ≠ j) : (l.set i v).getD j 0 = l.getD j 0 := by
  rw [List.getD_eq_getElem?_getD, List.getD_eq_getElem?_getD, List.getElem?_set_ne h]
/-- one word's step to the left -/
theorem left_step {out : List Nat} {K V k s x : Nat} (hs : s < 64) (ho : out = pd (2 ^ 64) K V) (hk : k + 1 < K) (hV : V < 2 ^ (64 * k + s)) (hx : x < 2 ^ 64) :
    (out.getD k 0 < 2 ^ s) ∧ (out.getD k 0 + x % 2 ^ (64 - s) * 2 ^ s < 2 ^ 64) ∧ ((out.set k (out.getD k 0 + x % 2 ^ (64 - s) * 2 ^ s)).set (k + 1) (x / 2 ^ (64 - s)) = pd (2 ^ 64) K (V + 2 ^ (64 * k + s) * x)) := by
  have hB : 0 < 2 ^ 64 := by decide
  have hps := Nat.two_pow_pos s
  have hpk := Nat.two_pow_pos (64 * k)
  have hlen : out.length = K := by rw [ho, pd_len]
  have hc : out.getD k 0 = V / (2 ^ 64) ^ k % 2 ^ 64 := by rw [ho, pd_get _ _ _ _ (by omega)]
  have hc2 : V / (2 ^ 64) ^ k < 2 ^ s := by
    rw [pow64, Nat.div_lt_iff_lt_mul hpk, Nat.mul_comm, ← Nat.pow_add]; exact hV
  have hc1 : out.getD (k + 1) 0 = 0 := by
    rw [ho, pd_get _ _ _ _ hk, pow64]
    have : V < 2 ^ (64 * (k + 1)) := Nat.lt_of_lt_of_le hV (Nat.pow_le_pow_right (by decide) (by omega))
    rw [Nat.div_eq_of_lt this]
  have h64 : 2 ^ 64 = 2 ^ (64 - s) * 2 ^ s := by rw [← Nat.pow_add]; congr 1; omega
  have hs64 : 2 ^ s ≤ 2 ^ 64 := Nat.pow_le_pow_right (by decide) (by omega)
  have hce : V / (2 ^ 64) ^ k % 2 ^ 64 = V / (2 ^ 64) ^ k := Nat.mod_eq_of_lt (by omega)
  have hcl : out.getD k 0 < 2 ^ s := by rw [hc, hce]; exact hc2
  have hp1 := Nat.two_pow_pos (64 - s)
  have hm : x % 2 ^ (64 - s) + 1 ≤ 2 ^ (64 - s) := Nat.mod_lt _ hp1
  have hm2 := Nat.mul_le_mul_right (2 ^ s) hm
  rw [← h64, Nat.add_mul, Nat.one_mul] at hm2
  have hsum : out.getD k 0 + x % 2 ^ (64 - s) * 2 ^ s < 2 ^ 64 := by omega
  refine ⟨hcl, hsum, ?_⟩
  have hall : ∀ y ∈ out, y < 2 ^ 64 := by rw [ho]; exact pd_lt hB _ _
  have hxd : x / 2 ^ (64 - s) < 2 ^ 64 := Nat.lt_of_le_of_lt (Nat.div_le_self _ _) hx
  refine pd_at hB (set_lt (set_lt hall hsum) hxd) (by simp [hlen]) ?_
  have g1 := nv_set (2 ^ 64) out k (out.getD k 0 + x % 2 ^ (64 - s) * 2 ^ s) (by omega)
  have g2 := nv_set (2 ^ 64) (out.set k (out.getD k 0 + x % 2 ^ (64 - s) * 2 ^ s)) (k + 1) (x / 2 ^ (64 - s)) (by rw [List.length_set]; omega)
  rw [getD_set_ne (by omega), hc1, Nat.mul_zero, Nat.add_zero] at g2
  have hVK : V < (2 ^ 64) ^ K := by
    rw [pow64]; exact Nat.lt_of_lt_of_le hV (Nat.pow_le_pow_right (by decide) (by omega))
  have hnv : nv (2 ^ 64) out = V := by rw [ho, pd_nv hB _ _ hVK]
  rw [hnv, Nat.mul_add] at g1
  rw [g2]
  have hx2 : 2 ^ (64 * k + s) * x = (2 ^ 64) ^ k * (x % 2 ^ (64 - s) * 2 ^ s) + (2 ^ 64) ^ (k + 1) * (x / 2 ^ (64 - s)) := by
    have hdm := Nat.div_add_mod x (2 ^ (64 - s))
    generalize x / 2 ^ (64 - s) = q at *
    generalize x % 2 ^ (64 - s) = r at *
    rw [Nat.pow_add 2 (64 * k) s, ← pow64, show (2 ^ 64) ^ (k + 1) = (2 ^ 64) ^ k * 2 ^ 64 from Nat.pow_succ _ _, Nat.mul_assoc ((2 ^ 64) ^ k), Nat.mul_assoc ((2 ^ 64) ^ k), ← Nat.mul_add, ← hdm]
    congr 1
    rw [Nat.mul_add, Nat.mul_comm r, Nat.add_comm]
    congr 1
    rw [← Nat.mul_assoc, Nat.mul_comm (2 ^ s), ← h64]
  omega
theorem W186_eq (a : List Nat) (ha : ∀ x ∈ a, x < 2 ^ 64) (hlen : a.length ≤ 1000000) (w s : Nat) (hs : s < 64) (hw : w ≤ 10000000) (i : Nat) (hi : i ≤ a.length) :
    W186_7 (((a.length : Int), (Wd a, ((w : Int), ((s : Int), ((i : Int), ((), ())))))), (Wd (pd (2 ^ 64) (w + a.length + 1) (2 ^ (64 * w + s) * nv (2 ^ 64) (a.take i))), ())) = some (.inl (((), ()), (Wd (pd (2 ^ 64) (w + a.length + 1) (2 ^ (64 * w + s) * nv (2 ^ 64) a)), ()))) := by
  have key := lfix_ind (m186_7 S173.pre S173.F) (fun x => a.length - x.1.2.2.2.2.1.toNat)
    (fun x => ∃ i : Nat, i ≤ a.length ∧ x = (((a.length : Int), (Wd a, ((w : Int), ((s : Int), ((i : Int), ((), ())))))), (Wd (pd (2 ^ 64) (w + a.length + 1) (2 ^ (64 * w + s) * nv (2 ^ 64) (a.take i))), ())))
    (fun _ => .inl (((), ()), (Wd (pd (2 ^ 64) (w + a.length + 1) (2 ^ (64 * w + s) * nv (2 ^ 64) a)), ()))) ?_ _ ⟨i, hi, rfl⟩
  · exact key
  intro L x hx hL
  obtain ⟨i, hi, rfl⟩ := hx
  unfold h186_7
  rcases Nat.lt_or_ge i a.length with hlt | hge
  · have hxl := getD_lt (by decide) ha i
    have ht := nv_lt (B := 2 ^ 64) (by decide) (a.take i) fun x hx => ha x (List.mem_of_mem_take hx)
    rw [List.length_take, Nat.min_eq_left (by omega), pow64] at ht
    have hV : 2 ^ (64 * w + s) * nv (2 ^ 64) (a.take i) < 2 ^ (64 * (w + i) + s) := by
      have e : 64 * (w + i) + s = (64 * w + s) + 64 * i := by omega
      rw [e, Nat.pow_add _ (64 * w + s)]
      exact Nat.mul_lt_mul_of_pos_left ht (Nat.two_pow_pos _)
    have hnext := nv_take_succ (2 ^ 64) a i hlt
    have hgo := hL (((a.length : Int), (Wd a, ((w : Int), ((s : Int), (((i + 1 : Nat) : Int), ((), ())))))), (Wd (pd (2 ^ 64) (w + a.length + 1) (2 ^ (64 * w + s) * nv (2 ^ 64) (a.take (i + 1)))), ())) ⟨i + 1, by omega, rfl⟩ (by simp only [Int.toNat_natCast]; omega)
    rw [hnext, Nat.mul_add, ← Nat.mul_assoc, show 2 ^ (64 * w + s) * (2 ^ 64) ^ i = 2 ^ (64 * (w + i) + s) by rw [pow64, ← Nat.pow_add]; congr 1; omega] at hgo
    generalize hout : pd (2 ^ 64) (w + a.length + 1) (2 ^ (64 * w + s) * nv (2 ^ 64) (a.take i)) = out at *
    obtain ⟨q1, q2, q3⟩ := left_step (k := w + i) hs hout.symm (by omega) hV hxl
    have hol : out.length = w + a.length + 1 := by rw [← hout, pd_len]
    have g1 : a.getD i 0 * 2 ^ s % 2 ^ 64 = (a.getD i 0 % 2 ^ (64 - s)) * 2 ^ s := by
      have : 2 ^ 64 = 2 ^ (64 - s) * 2 ^ s := by rw [← Nat.pow_add]; congr 1; omega
      rw [this, Nat.mul_mod_mul_right]
    have e8 : IntKind.wrap .i64 (64 - (s : Int)) = ((64 - s : Nat) : Int) := wsub 64 s (by omega) (by omega)
    simp (disch := omega) only [wadd, wadd1, wadd64, wsubn, wsub1, wmul64, ilt_t, ilt_f, ile_t, ile_f, igt_t, igt_f, ige_t, ige_f, ipos_t, ipos_f, igt0_t, igt0_f, nnn, beq0_t, beq0_f, bne0_t, bne0_f, Int.toNat_natCast, Int.toNat_zero, cond_true, cond_false, Bool.and_self, Bool.true_and, Bool.and_true, Bool.false_and, Bool.and_false, Bool.not_true, Bool.not_false, Bool.or_self, Bool.true_or, Bool.or_true, Bool.false_or, Bool.or_false, Wd_len, Wd_getD, e8, shlN _ s (by omega), shrN _ (64 - s) (by omega), g1, orN q1 q2, Wd_set, List.length_set, q3]
    exact hgo
  · have e : i = a.length := by omega
    subst e
    rw [List.take_length]
    simp (disch := omega) only [wadd, wadd1, wadd64, wsubn, wsub1, wmul64, ilt_t, ilt_f, ile_t, ile_f, igt_t, igt_f, ige_t, ige_f, ipos_t, ipos_f, igt0_t, igt0_f, nnn, beq0_t, beq0_f, bne0_t, bne0_f, Int.toNat_natCast, Int.toNat_zero, cond_true, cond_false, Bool.and_self, Bool.true_and, Bool.and_true, Bool.false_and, Bool.and_false, Bool.not_true, Bool.not_false, Bool.or_self, Bool.true_or, Bool.or_true, Bool.false_or, Bool.or_false]
theorem T186_eq (l : List Nat) (hl : Ws l) (n : Nat) (hn : n / 64 + (trimL l).length + 1 ≤ 1000000) : T186 (Wd l, (n : Int), ()) = some (Dw (nv (2 ^ 64) l * 2 ^ n), ()) := by
  obtain ⟨h, hlen⟩ := hl
  show t186 S173.pre S173.F W186_7 (Wd l) n = _
  unfold t186
  have hB : 2 ≤ 2 ^ 64 := by decide
  have p0 := T173_eq l hlen
  have hm : ∀ x ∈ trimL l, x < 2 ^ 64 := fun x hx => h x (trim_mem hx)
  have hle := (trim_len l).1
  have hv := nv_trim hB h
  simp only [pre173 p0, fun173 p0, cond_true, Wd_len]
  rcases Nat.eq_zero_or_pos (trimL l).length with h0 | h0
  · rw [h0, trim_nil h h0, Nat.zero_mul]
    unfold Dw
    rw [dg_zero]; rfl
  · have e4 : Int.tmod (n : Int) 64 = ((n % 64 : Nat) : Int) := rfl
    have e3 : decide (((n / 64 + (trimL l).length + 1 : Nat) : Int) * 8 ≤ 140737488355328) = true := decide_eq_true (by omega)
    have hw := W186_eq (trimL l) hm (by omega) (n / 64) (n % 64) (Nat.mod_lt _ (by decide)) (by omega) 0 (Nat.zero_le _)
    rw [show nv (2 ^ 64) ((trimL l).take 0) = 0 by rfl, Nat.mul_zero, pd_zero, show 64 * (n / 64) + n % 64 = n by omega, show ((0 : Nat) : Int) = 0 from rfl] at hw
    simp (disch := omega) only [wadd, wadd1, wadd64, wsubn, wsub1, wmul64, ilt_t, ilt_f, ile_t, ile_f, igt_t, igt_f, ige_t, ige_f, ipos_t, ipos_f, igt0_t, igt0_f, nnn, beq0_t, beq0_f, bne0_t, bne0_f, Int.toNat_natCast, Int.toNat_zero, cond_true, cond_false, Bool.and_self, Bool.true_and, Bool.and_true, Bool.false_and, Bool.and_false, Bool.not_true, Bool.not_false, Bool.or_self, Bool.true_or, Bool.or_true, Bool.false_or, Bool.or_false, quoN n (by omega), e4, e3, Wd_rep, hw]
    have hV : 2 ^ n * nv (2 ^ 64) (trimL l) < (2 ^ 64) ^ (n / 64 + (trimL l).length + 1) := by
      have := nv_lt hB (trimL l) hm
      rw [pow64] at this ⊢
      have h1 : 2 ^ n * nv (2 ^ 64) (trimL l) < 2 ^ n * 2 ^ (64 * (trimL l).length) := Nat.mul_lt_mul_of_pos_left this (Nat.two_pow_pos _)
      rw [← Nat.pow_add] at h1
      exact Nat.lt_of_lt_of_le h1 (Nat.pow_le_pow_right (by decide) (by omega))
    have p1 := T173_eq (pd (2 ^ 64) (n / 64 + (trimL l).length + 1) (2 ^ n * nv (2 ^ 64) (trimL l))) (by rw [pd_len]; omega)
    rw [trim_dg hB _ (pd_lt (by decide) _ _), pd_nv (by decide) _ _ hV, hv, Nat.mul_comm (2 ^ n)] at p1
    rw [hv, Nat.mul_comm (2 ^ n)]
    generalize pd (2 ^ 64) (n / 64 + (trimL l).length + 1) (nv (2 ^ 64) l * 2 ^ n) = out at *
    show (bif S173.pre (Wd out, ()) then some (S173.F (Wd out, ())) else none) = _
    rw [pre173 p1, fun173 p1]
    rfl
theorem W185_eq (ls : List (List Nat)) (hls : ∀ l ∈ ls, l.length ≤ 1000000) (hn : ls.length ≤ 1000000) (i : Nat) (hi : i ≤ ls.length) (hz : ∀ l ∈ ls.take i, (trimL l).length ≤ 1024) :
    W185_2 (((ls.length : Int), (ls.map Wd, ((i : Int), ()))), ()) = some (if (∀ l ∈ ls, (trimL l).length ≤ 1024) then .inl ((), ()) else .inr ((true, ()), ())) := by
  have key := lfix_ind (m185_2 S173.pre S173.F) (fun x => ls.length - x.1.2.2.1.toNat)
    (fun x => ∃ i : Nat, i ≤ ls.length ∧ (∀ l ∈ ls.take i, (trimL l).length ≤ 1024) ∧ x = (((ls.length : Int), (ls.map Wd, ((i : Int), ()))), ()))
    (fun _ => if (∀ l ∈ ls, (trimL l).length ≤ 1024) then .inl ((), ()) else .inr ((true, ()), ())) ?_ _ ⟨i, hi, hz, rfl⟩
  · exact key
  intro L x hx hL
  obtain ⟨i, hi, hz, rfl⟩ := hx
  unfold h185_2
  rcases Nat.lt_or_ge i ls.length with hlt | hge
  · have eg : (ls.map Wd).getD i [] = Wd (ls[i]) := by
      rw [List.getD_eq_getElem?_getD, List.getElem?_map, List.getElem?_eq_getElem hlt]; rfl
    have hil : ls[i] ∈ ls := List.getElem_mem hlt
    have p0 := T173_eq ls[i] (hls _ hil)
    simp (disch := omega) only [wadd, wadd1, wadd64, wsubn, wsub1, wmul64, ilt_t, ilt_f, ile_t, ile_f, igt_t, igt_f, ige_t, ige_f, ipos_t, ipos_f, igt0_t, igt0_f, nnn, beq0_t, beq0_f, bne0_t, bne0_f, Int.toNat_natCast, Int.toNat_zero, cond_true, cond_false, Bool.and_self, Bool.true_and, Bool.and_true, Bool.false_and, Bool.and_false, Bool.not_true, Bool.not_false, Bool.or_self, Bool.true_or, Bool.or_true, Bool.false_or, Bool.or_false, List.length_map, eg, pre173 p0, fun173 p0, Wd_len]
    rcases Nat.lt_or_ge 1024 (trimL ls[i]).length with hg | hg
    · have e : decide (((trimL ls[i]).length : Int) > 1024) = true := decide_eq_true (by omega)
      have hnot : ¬ ∀ l ∈ ls, (trimL l).length ≤ 1024 := fun hh => by have := hh _ hil; omega
      rw [e, cond_true, if_neg hnot]
    · have e : decide (((trimL ls[i]).length : Int) > 1024) = false := decide_eq_false (by omega)
      rw [e, cond_false]
      refine hL _ ⟨i + 1, by omega, ?_, rfl⟩ (by simp only [Int.toNat_natCast]; omega)
      intro l hl
      rw [List.take_succ, List.getElem?_eq_getElem hlt] at hl
      rcases List.mem_append.1 hl with hl | hl
      · exact hz l hl
      · have : l = ls[i] := by simpa using hl
        rw [this]; exact hg
  · have e : i = ls.length := by omega
    subst e
    rw [List.take_length] at hz
    simp (disch := omega) only [wadd, wadd1, wadd64, wsubn, wsub1, wmul64, ilt_t, ilt_f, ile_t, ile_f, igt_t, igt_f, ige_t, ige_f, ipos_t, ipos_f, igt0_t, igt0_f, nnn, beq0_t, beq0_f, bne0_t, bne0_f, Int.toNat_natCast, Int.toNat_zero, cond_true, cond_false, Bool.and_self, Bool.true_and, Bool.and_true, Bool.false_and, Bool.and_false, Bool.not_true, Bool.not_false, Bool.or_self, Bool.true_or, Bool.or_true, Bool.false_or, Bool.or_false, if_pos hz]
theorem T185_eq (ls : List (List Nat)) (hls : ∀ l ∈ ls, l.length ≤ 1000000) (hn : ls.length ≤ 1000000) :
    T185 (ls.map Wd, ()) = some (!decide (∀ l ∈ ls, (trimL l).length ≤ 1024), ()) := by
  show t185 S173.pre S173.F W185_2 (ls.map Wd) = _
  unfold t185
  have hw := W185_eq ls hls hn 0 (Nat.zero_le _) (fun l hl => by simp at hl)
  rw [show ((0 : Nat) : Int) = 0 from rfl] at hw
  rw [List.length_map, hw]
  by_cases h : ∀ l ∈ ls, (trimL l).length ≤ 1024
  · rw [if_pos h, decide_eq_true h]; rfl
  · rw [if_neg h, decide_eq_false h]; rfl
theorem T185_one (l : List Nat) (hl : l.length ≤ 1000000) : T185 ((Wd l :: []), ()) = some (!decide ((trimL l).length ≤ 1024), ()) := by
  have := T185_eq [l] (by simp; exact hl) (by simp)
  rw [show [l].map Wd = Wd l :: [] from rfl] at this
  rw [this]
  simp
theorem T176_eq (l : List Nat) (hl : Ws l) (n : Nat) (hn : n ≤ 65536) (hv : nv (2 ^ 64) l * 2 ^ n < (2 ^ 64) ^ 1024) : T176 (Wd l, (n : Int), ()) = some (Dw (nv (2 ^ 64) l * 2 ^ n), 0, ()) := by
  show t176 S186.pre S186.F S185.pre S185.F (Wd l) n = _
  unfold t176
  have p0 := T185_one l hl.2
  have hB : 2 ≤ 2 ^ 64 := by decide
  have h1 := dg_len_le hB 1024 _ hv
  have h0 : (trimL l).length ≤ 1024 := by
    rw [trim_dg hB _ hl.1]
    apply dg_len_le hB
    exact Nat.lt_of_le_of_lt (Nat.le_mul_of_pos_right _ (Nat.two_pow_pos _)) hv
  have p1 := T186_eq l hl n (by omega)
  have p2 := T185_one (dg (2 ^ 64) (nv (2 ^ 64) l * 2 ^ n)) (by omega)
  rw [dg_trim hB] at p2
  rw [decide_eq_true h0] at p0
  rw [decide_eq_true h1] at p2
  have e2 : decide ((n : Int) > 65536) = false := decide_eq_false (by omega)
  simp only [ineg_f, e2, Bool.or_self, cond_false, pre185 p0, fun185 p0, cond_true, Bool.not_true, pre186 p1, fun186 p1]
  unfold Dw
  simp only [pre185 p2, fun185 p2, cond_true, Bool.not_true, cond_false]
end VL
namespace VL
open Go Vx
theorem nv_take_next (B : Nat) (l : List Nat) (i : Nat) : nv B (l.take (i + 1)) = nv B (l.take i) + B ^ i * l.getD i 0 := by
  rcases Nat.lt_or_ge i l.length with h | h
  · exact nv_take_succ B l i h
  · rw [List.take_of_length_le (by omega), List.take_of_length_le h, List.getD_eq_getElem?_getD, List.getElem?_eq_none h]
    simp
/-- a sum's first words, and what is left of it -/
def sumAt (a b : List Nat) (i : Nat) : Nat := nv (2 ^ 64) (a.take i) + nv (2 ^ 64) (b.take i)
def outAt (a b : List Nat) (i : Nat) : List Nat := pd (2 ^ 64) i (sumAt a b i % (2 ^ 64) ^ i) ++ (a ++ [0]).drop i
theorem nv_take_lt {l : List Nat} (h : ∀ x ∈ l, x < 2 ^ 64) (i : Nat) : nv (2 ^ 64) (l.take i) < (2 ^ 64) ^ i := by
  have := nv_lt (B := 2 ^ 64) (by decide) (l.take i) fun x hx => h x (List.mem_of_mem_take hx)
  refine Nat.lt_of_lt_of_le this (Nat.pow_le_pow_right (by decide) ?_)
  rw [List.length_take]
  exact Nat.min_le_left _ _
theorem carry_le {a b : List Nat} (ha : ∀ x ∈ a, x < 2 ^ 64) (hb : ∀ x ∈ b, x < 2 ^ 64) (i : Nat) : sumAt a b i / (2 ^ 64) ^ i ≤ 1 := by
  have h1 := nv_take_lt ha i
  have h2 := nv_take_lt hb i
  have hp : 0 < (2 ^ 64) ^ i := Nat.pow_pos (by decide)
  unfold sumAt
  have : (nv (2 ^ 64) (a.take i) + nv (2 ^ 64) (b.take i)) / (2 ^ 64) ^ i < 2 := by
    rw [Nat.div_lt_iff_lt_mul hp]; omega
  omega
theorem sum_next (a b : List Nat) (i : Nat) : sumAt a b (i + 1) = sumAt a b i % (2 ^ 64) ^ i + (2 ^ 64) ^ i * (a.getD i 0 + b.getD i 0 + sumAt a b i / (2 ^ 64) ^ i) := by
  have hdm := Nat.div_add_mod (sumAt a b i) ((2 ^ 64) ^ i)
  have h1 : sumAt a b (i + 1) = sumAt a b i + (2 ^ 64) ^ i * (a.getD i 0 + b.getD i 0) := by
    unfold sumAt
    rw [nv_take_next, nv_take_next, Nat.mul_add]
    omega
  rw [h1, Nat.mul_add ((2 ^ 64) ^ i) (a.getD i 0 + b.getD i 0)]
  omega
theorem sum_next_div (a b : List Nat) (i : Nat) : sumAt a b (i + 1) / (2 ^ 64) ^ (i + 1) = (a.getD i 0 + b.getD i 0 + sumAt a b i / (2 ^ 64) ^ i) / 2 ^ 64 := by
  have hp : 0 < (2 ^ 64) ^ i := Nat.pow_pos (by decide)
  rw [sum_next, Nat.pow_succ (2 ^ 64) i, ← Nat.div_div_eq_div_mul, Nat.add_mul_div_left _ _ hp, Nat.div_eq_of_lt (Nat.mod_lt _ hp), Nat.zero_add]
theorem sum_next_mod (a b : List Nat) (i : Nat) : sumAt a b (i + 1) % (2 ^ 64) ^ (i + 1) = sumAt a b i % (2 ^ 64) ^ i + (2 ^ 64) ^ i * ((a.getD i 0 + b.getD i 0 + sumAt a b i / (2 ^ 64) ^ i) % 2 ^ 64) := by
  have hp : 0 < (2 ^ 64) ^ i := Nat.pow_pos (by decide)
  rw [sum_next a b i, Nat.pow_succ (2 ^ 64) i, Nat.mod_mul, Nat.add_mul_mod_self_left, Nat.mod_mod, Nat.add_mul_div_left _ _ hp, Nat.div_eq_of_lt (Nat.mod_lt _ hp), Nat.zero_add]
theorem pd_snoc {k r v : Nat} (hr : r < (2 ^ 64) ^ k) (hv : v < 2 ^ 64) : pd (2 ^ 64) k r ++ [v] = pd (2 ^ 64) (k + 1) (r + (2 ^ 64) ^ k * v) := by
  refine pd_at (by decide) ?_ (by simp [pd_len]) ?_
  · intro x hx
    rcases List.mem_append.1 hx with hx | hx
    · exact pd_lt (by decide) _ _ x hx
    · have : x = v := by simpa using hx
      rw [this]; exact hv
  · rw [nv_append, pd_len, pd_nv (by decide) _ _ hr]
    simp [nv]
theorem out_set (a b : List Nat) (i : Nat) (hi : i < a.length) : (outAt a b i).set i ((a.getD i 0 + b.getD i 0 + sumAt a b i / (2 ^ 64) ^ i) % 2 ^ 64) = outAt a b (i + 1) := by
  have hp : 0 < (2 ^ 64) ^ i := Nat.pow_pos (by decide)
  unfold outAt
  rw [sum_next_mod, ← pd_snoc (Nat.mod_lt _ hp) (Nat.mod_lt _ (by decide)), List.set_append_right _ _ (by rw [pd_len]; exact Nat.le_refl _), pd_len, Nat.sub_self,
    List.drop_eq_getElem_cons (l := a ++ [0]) (i := i) (by simp; omega), List.set_cons_zero, List.append_assoc]
  rfl
theorem out_len (a b : List Nat) (i : Nat) (hi : i ≤ a.length) : (outAt a b i).length = a.length + 1 := by
  unfold outAt; rw [List.length_append, pd_len]; simp; omega
theorem W143_eq (a b : List Nat) (ha : ∀ x ∈ a, x < 2 ^ 64) (hb : ∀ x ∈ b, x < 2 ^ 64) (hlen : a.length ≤ 1000000) (i : Nat) (hi : i ≤ a.length) :
    W143_8 (((a.length : Int), (Wd b, ((i : Int), (Wd a, (((sumAt a b i / (2 ^ 64) ^ i : Nat) : Int), ((), ())))))), (Wd (outAt a b i), ())) = some (.inl ((Wd a, (((sumAt a b a.length / (2 ^ 64) ^ a.length : Nat) : Int), ((), ()))), (Wd (outAt a b a.length), ()))) := by
  have key := lfix_ind (m143_8 S155.pre S155.F S173.pre S173.F) (fun x => a.length - x.1.2.2.1.toNat)
    (fun x => ∃ i : Nat, i ≤ a.length ∧ x = (((a.length : Int), (Wd b, ((i : Int), (Wd a, (((sumAt a b i / (2 ^ 64) ^ i : Nat) : Int), ((), ())))))), (Wd (outAt a b i), ())))
    (fun _ => .inl ((Wd a, (((sumAt a b a.length / (2 ^ 64) ^ a.length : Nat) : Int), ((), ()))), (Wd (outAt a b a.length), ()))) ?_ _ ⟨i, hi, rfl⟩
  · exact key
  intro L x hx hL
  obtain ⟨i, hi, rfl⟩ := hx
  unfold h143_8
  rcases Nat.lt_or_ge i a.length with hlt | hge
  · have hc := carry_le ha hb i
    have hol := out_len a b i hi
    have hset := out_set a b i hlt
    have hgo := hL (((a.length : Int), (Wd b, (((i + 1 : Nat) : Int), (Wd a, (((sumAt a b (i + 1) / (2 ^ 64) ^ (i + 1) : Nat) : Int), ((), ())))))), (Wd (outAt a b (i + 1)), ())) ⟨i + 1, by omega, rfl⟩ (by simp only [Int.toNat_natCast]; omega)
    rw [sum_next_div, ← hset] at hgo
    have hF : ∀ x y c : Nat, S155.F ((x : Int), ((y : Int), ((c : Int), ()))) = (((((x + y + c) % 2 ^ 64 : Nat) : Int)), ((((x + y + c) / 2 ^ 64 : Nat) : Int)), ()) := fun x y c => rfl
    have hP : ∀ (x y : Int) (c : Nat), c ≤ 1 → S155.pre (x, (y, ((c : Int), ()))) = true := fun x y c h => by
      show (decide ((0 : Int) ≤ (c : Int)) && decide ((c : Int) ≤ 1)) = true
      rw [decide_eq_true (by omega), decide_eq_true (by omega)]; rfl
    generalize sumAt a b i / (2 ^ 64) ^ i = c at *
    generalize outAt a b i = out at *
    rcases Nat.lt_or_ge i b.length with hbl | hbl
    · simp (disch := omega) only [wadd, wadd1, wadd64, wsubn, wsub1, wmul64, ilt_t, ilt_f, ile_t, ile_f, igt_t, igt_f, ige_t, ige_f, ipos_t, ipos_f, igt0_t, igt0_f, nnn, beq0_t, beq0_f, bne0_t, bne0_f, Int.toNat_natCast, Int.toNat_zero, cond_true, cond_false, Bool.and_self, Bool.true_and, Bool.and_true, Bool.false_and, Bool.and_false, Bool.not_true, Bool.not_false, Bool.or_self, Bool.true_or, Bool.or_true, Bool.false_or, Bool.or_false, Wd_len, Wd_getD, hP _ _ c hc, hF, Wd_set]
      exact hgo
    · have hbz : b.getD i 0 = 0 := by rw [List.getD_eq_getElem?_getD, List.getElem?_eq_none hbl]; rfl
      have hF0 : S155.F (((a.getD i 0 : Nat) : Int), ((0 : Int), ((c : Int), ()))) = ((((a.getD i 0 + b.getD i 0 + c) % 2 ^ 64 : Nat) : Int), (((a.getD i 0 + b.getD i 0 + c) / 2 ^ 64 : Nat) : Int), ()) := by rw [hbz]; rfl
      simp (disch := omega) only [wadd, wadd1, wadd64, wsubn, wsub1, wmul64, ilt_t, ilt_f, ile_t, ile_f, igt_t, igt_f, ige_t, ige_f, ipos_t, ipos_f, igt0_t, igt0_f, nnn, beq0_t, beq0_f, bne0_t, bne0_f, Int.toNat_natCast, Int.toNat_zero, cond_true, cond_false, Bool.and_self, Bool.true_and, Bool.and_true, Bool.false_and, Bool.and_false, Bool.not_true, Bool.not_false, Bool.or_self, Bool.true_or, Bool.or_true, Bool.false_or, Bool.or_false, Wd_len, Wd_getD, hP _ _ c hc, hF0, Wd_set]
      exact hgo
  · have e : i = a.length := by omega
    subst e
    simp (disch := omega) only [wadd, wadd1, wadd64, wsubn, wsub1, wmul64, ilt_t, ilt_f, ile_t, ile_f, igt_t, igt_f, ige_t, ige_f, ipos_t, ipos_f, igt0_t, igt0_f, nnn, beq0_t, beq0_f, bne0_t, bne0_f, Int.toNat_natCast, Int.toNat_zero, cond_true, cond_false, Bool.and_self, Bool.true_and, Bool.and_true, Bool.false_and, Bool.and_false, Bool.not_true, Bool.not_false, Bool.or_self, Bool.true_or, Bool.or_true, Bool.false_or, Bool.or_false]
theorem sum_end (a b : List Nat) (ha : ∀ x ∈ a, x < 2 ^ 64) (hb : ∀ x ∈ b, x < 2 ^ 64) (hab : b.length ≤ a.length) :
    (outAt a b a.length).set a.length (sumAt a b a.length / (2 ^ 64) ^ a.length) = pd (2 ^ 64) (a.length + 1) (nv (2 ^ 64) a + nv (2 ^ 64) b) ∧ nv (2 ^ 64) a + nv (2 ^ 64) b < (2 ^ 64) ^ (a.length + 1) := by
  have hp : 0 < (2 ^ 64) ^ a.length := Nat.pow_pos (by decide)
  have hc := carry_le ha hb a.length
  have hs : sumAt a b a.length = nv (2 ^ 64) a + nv (2 ^ 64) b := by
    unfold sumAt; rw [List.take_length, List.take_of_length_le hab]
  have hdm := Nat.div_add_mod (sumAt a b a.length) ((2 ^ 64) ^ a.length)
  refine ⟨?_, ?_⟩
  · have hd : (a ++ [0]).drop a.length = [0] := by simp
    unfold outAt
    rw [hd, List.set_append_right _ _ (by rw [pd_len]; exact Nat.le_refl _), pd_len, Nat.sub_self, List.set_cons_zero, pd_snoc (Nat.mod_lt _ hp) (by omega), Nat.add_comm (sumAt a b a.length % (2 ^ 64) ^ a.length), hdm, hs]
  · rw [← hs]
    have h1 := nv_take_lt ha a.length
    have h2 := nv_take_lt hb a.length
    unfold sumAt
    rw [Nat.pow_succ (2 ^ 64) a.length]
    omega
theorem add_len {a : List Nat} : List.take (List.replicate (a.length + 1) (0 : Int)).length (Wd a) ++ List.drop a.length (List.replicate (a.length + 1) (0 : Int)) = Wd (outAt a ([] : List Nat) 0) := by
  rw [List.length_replicate, List.drop_replicate, Nat.add_sub_cancel_left, List.take_of_length_le (by rw [Wd_len]; omega)]
  unfold outAt
  simp [Wd, pd]
theorem out_zero (a b c : List Nat) : outAt a b 0 = outAt a c 0 := by unfold outAt; simp [pd]
theorem add_main (a b : List Nat) (ha : ∀ x ∈ a, x < 2 ^ 64) (hb : ∀ x ∈ b, x < 2 ^ 64) (hlen : a.length + 1 ≤ 1000000) (hab : b.length ≤ a.length) :
    (bif decide (0 ≤ IntKind.wrap .i64 ((a.length : Int) + 1)) && decide (IntKind.wrap .i64 ((a.length : Int) + 1) * 8 ≤ 140737488355328) then
      obind (W143_8 (((a.length : Int), (Wd b, ((0 : Int), (Wd a, ((0 : Int), ((), ())))))), (List.take (List.replicate (Int.toNat (IntKind.wrap .i64 ((a.length : Int) + 1))) (0 : Int)).length (Wd a) ++ List.drop a.length (List.replicate (Int.toNat (IntKind.wrap .i64 ((a.length : Int) + 1))) (0 : Int)), ()))) fun y4 =>
        obind2 y4 (fun y5 => bif decide (0 ≤ ((y5.1.1.length : Nat) : Int)) && decide (((y5.1.1.length : Nat) : Int) < ((y5.2.1.length : Nat) : Int)) then
          (bif S173.pre ((y5.2.1.set (Int.toNat ((y5.1.1.length : Nat) : Int)) y5.1.2.1), ()) then some (S173.F ((y5.2.1.set (Int.toNat ((y5.1.1.length : Nat) : Int)) y5.1.2.1), ())) else none) else none) fun _ => none
    else none : Option (DenS O143)) = some (Dw (nv (2 ^ 64) a + nv (2 ^ 64) b), ()) := by
  have hw := W143_eq a b ha hb (by omega) 0 (Nat.zero_le _)
  have h0 : sumAt a b 0 / (2 ^ 64) ^ 0 = 0 := by unfold sumAt; simp [nv]
  rw [h0, show ((0 : Nat) : Int) = 0 from rfl, out_zero a b [], ← add_len] at hw
  have e3 : decide (((a.length + 1 : Nat) : Int) * 8 ≤ 140737488355328) = true := decide_eq_true (by omega)
  rw [wadd1 _ (by omega), e3, nnn, Int.toNat_natCast, hw]
  obtain ⟨g1, g2⟩ := sum_end a b ha hb hab
  have hol := out_len a b a.length (Nat.le_refl _)
  have p1 := T173_eq (pd (2 ^ 64) (a.length + 1) (nv (2 ^ 64) a + nv (2 ^ 64) b)) (by rw [pd_len]; exact hlen)
  rw [trim_dg (by decide) _ (pd_lt (by decide) _ _), pd_nv (by decide) _ _ g2, ← g1, ← Wd_set] at p1
  generalize sumAt a b a.length / (2 ^ 64) ^ a.length = c at *
  generalize outAt a b a.length = out at *
  show (bif decide (0 ≤ (((Wd a).length : Nat) : Int)) && decide ((((Wd a).length : Nat) : Int) < (((Wd out).length : Nat) : Int)) then
          (bif S173.pre ((Wd out).set (Wd a).length (c : Int), ()) then some (S173.F ((Wd out).set (Wd a).length (c : Int), ())) else none) else none) = _
  simp (disch := omega) only [wadd, wadd1, wadd64, wsubn, wsub1, wmul64, ilt_t, ilt_f, ile_t, ile_f, igt_t, igt_f, ige_t, ige_f, ipos_t, ipos_f, igt0_t, igt0_f, nnn, beq0_t, beq0_f, bne0_t, bne0_f, Int.toNat_natCast, Int.toNat_zero, cond_true, cond_false, Bool.and_self, Bool.true_and, Bool.and_true, Bool.false_and, Bool.and_false, Bool.not_true, Bool.not_false, Bool.or_self, Bool.true_or, Bool.or_true, Bool.false_or, Bool.or_false, Wd_len, pre173 p1, fun173 p1]
  rfl
theorem T143_eq (l m : List Nat) (hl : Ws l) (hm : Ws m) (hl2 : (trimL l).length < 1000000) (hm2 : (trimL m).length < 1000000) : T143 (Wd l, Wd m, ()) = some (Dw (nv (2 ^ 64) l + nv (2 ^ 64) m), ()) := by
  show t143 S155.pre S155.F S173.pre S173.F W143_8 (Wd l) (Wd m) = _
  unfold t143
  have p0 := T173_eq l hl.2
  have p1 := T173_eq m hm.2
  have h1 : ∀ x ∈ trimL l, x < 2 ^ 64 := fun x hx => hl.1 x (trim_mem hx)
  have h2 : ∀ x ∈ trimL m, x < 2 ^ 64 := fun x hx => hm.1 x (trim_mem hx)
  simp only [pre173 p0, fun173 p0, pre173 p1, fun173 p1, cond_true]
  rcases Nat.lt_or_ge (trimL l).length (trimL m).length with h | h
  · rw [Wd_len, Wd_len, ilt_t _ _ h, cond_true]
    have := add_main (trimL m) (trimL l) h2 h1 hm2 (by omega)
    rw [nv_trim (by decide) hl.1, nv_trim (by decide) hm.1, Nat.add_comm] at this
    exact this
  · rw [Wd_len, Wd_len, ilt_f _ _ h, cond_false]
    have := add_main (trimL l) (trimL m) h1 h2 hl2 (by omega)
    rw [nv_trim (by decide) hl.1, nv_trim (by decide) hm.1] at this
    exact this
theorem T146_eq (l : List Nat) (hl : Ws l) : T146 (Wd l, ()) = some (Dw (nv (2 ^ 64) l), ()) := by
  show t146 S173.pre S173.F (Wd l) = _
  unfold t146
  have p0 := T173_eq l hl.2
  have hle := (trim_len l).1
  have h2 := hl.2
  have e3 : decide ((((trimL l).length : Nat) : Int) * 8 ≤ 140737488355328) = true := decide_eq_true (by omega)
  simp (disch := omega) only [wadd, wadd1, wadd64, wsubn, wsub1, wmul64, ilt_t, ilt_f, ile_t, ile_f, igt_t, igt_f, ige_t, ige_f, ipos_t, ipos_f, igt0_t, igt0_f, nnn, beq0_t, beq0_f, bne0_t, bne0_f, Int.toNat_natCast, Int.toNat_zero, cond_true, cond_false, Bool.and_self, Bool.true_and, Bool.and_true, Bool.false_and, Bool.and_false, Bool.not_true, Bool.not_false, Bool.or_self, Bool.true_or, Bool.or_true, Bool.false_or, Bool.or_false, pre173 p0, fun173 p0, Wd_len, e3, List.length_replicate, List.drop_replicate, Nat.sub_self]
  rw [List.take_of_length_le (by rw [Wd_len]; exact Nat.le_refl _), List.replicate_zero, List.append_nil, trim_dg (by decide) l hl.1]
  rfl
theorem T102_eq (l : List Nat) (hl : Ws l) : T102 (Wd l, ()) = some (Dw (nv (2 ^ 64) l), ()) := by
  show t102 S146.pre S146.F (Wd l) = _
  unfold t102
  have p0 := T146_eq l hl
  simp only [pre146 p0, fun146 p0, cond_true]
end VL
namespace VL
open Go Vx
/-- a number of 128 bits as the program has it -/
def Wi (n : Nat) : Den (.pair (.int .u64) (.pair (.int .u64) .unit)) := (((n / 2 ^ 64 : Nat) : Int), (((n % 2 ^ 64 : Nat) : Int), ()))
theorem W_le0 (k : Nat) (h : 0 < k) : decide ((k : Int) ≤ 0) = false := decide_eq_false (by omega)
theorem aux1 {A q R P : Nat} (g1 : A % 2 ^ 64 = R) (g2 : q < P) (g4 : R + P ≤ 2 ^ 64) : (A + q) % 2 ^ 64 = q + R := by omega
theorem aux2 {X Y r : Nat} (h : X % 2 ^ 64 = Y) (hr : r < 2 ^ 64) : (2 ^ 64 * X + r) % 2 ^ 128 = 2 ^ 64 * Y + r := by omega
theorem aux3 {X h q R P : Nat} (e : X = 2 ^ 64 * h + R + q) (g2 : q < P) (g4 : R + P ≤ 2 ^ 64) : X / 2 ^ 64 = h ∧ X % 2 ^ 64 = q + R := by omega
theorem T119_eq (n k : Nat) (hn : n < 2 ^ 128) : T119 (Wi n, (k : Int), ()) = some (Wi (n * 2 ^ k % 2 ^ 128), ()) := by
  show t119 (Wi n) k = _
  unfold t119
  rcases Nat.eq_zero_or_pos k with rfl | hk
  · have e : n * 2 ^ 0 % 2 ^ 128 = n := by rw [Nat.pow_zero, Nat.mul_one, Nat.mod_eq_of_lt hn]
    rw [e]; rfl
  rw [W_le0 k hk, cond_false]
  rcases Nat.lt_or_ge k 128 with h128 | h128
  · rw [show decide ((k : Int) ≥ 128) = false from decide_eq_false (by omega), cond_false]
    have hlo : (n % 2 ^ 64) < 2 ^ 64 := Nat.mod_lt _ (by decide)
    have hhi : n / 2 ^ 64 < 2 ^ 64 := by omega
    have hsplit : n = 2 ^ 64 * (n / 2 ^ 64) + n % 2 ^ 64 := (Nat.div_add_mod n (2 ^ 64)).symm
    rcases Nat.lt_or_ge k 64 with h64 | h64
    · have e8 : IntKind.wrap .i64 (64 - (k : Int)) = ((64 - k : Nat) : Int) := wsub 64 k (by omega) (by omega)
      rw [show decide ((k : Int) ≥ 64) = false from decide_eq_false (by omega), cond_false, nnn, cond_true, e8, nnn, cond_true, cond_true]
      show some ((orI .u64 (shlI .u64 ((n / 2 ^ 64 : Nat) : Int) k) (shrI .u64 ((n % 2 ^ 64 : Nat) : Int) ((64 - k : Nat) : Int)), (shlI .u64 ((n % 2 ^ 64 : Nat) : Int) k, ())), ()) = _
      rw [shlN _ k (by omega), shlN _ k (by omega), shrN _ (64 - k) (by omega)]
      have hp := Nat.two_pow_pos k
      have hp2 := Nat.two_pow_pos (64 - k)
      have h2 : 2 ^ 64 = 2 ^ (64 - k) * 2 ^ k := by rw [← Nat.pow_add]; congr 1; omega
      generalize n / 2 ^ 64 = hi at *
      generalize n % 2 ^ 64 = lo at *
      have g1 : hi * 2 ^ k % 2 ^ 64 = (hi % 2 ^ (64 - k)) * 2 ^ k := by rw [h2, Nat.mul_mod_mul_right]
      have g2 : lo / 2 ^ (64 - k) < 2 ^ k := by rw [Nat.div_lt_iff_lt_mul hp2, Nat.mul_comm, ← h2]; exact hlo
      have g3 : hi % 2 ^ (64 - k) + 1 ≤ 2 ^ (64 - k) := Nat.mod_lt _ hp2
      have g4 := Nat.mul_le_mul_right (2 ^ k) g3
      rw [← h2, Nat.add_mul, Nat.one_mul] at g4
      have hor : orI .u64 ((hi * 2 ^ k % 2 ^ 64 : Nat) : Int) ((lo / 2 ^ (64 - k) : Nat) : Int) = ((lo / 2 ^ (64 - k) + (hi % 2 ^ (64 - k)) * 2 ^ k : Nat) : Int) := by
        have := orN g2 (b := hi % 2 ^ (64 - k)) (by omega)
        rw [g1]
        have hc : ∀ a b : Nat, a < 2 ^ 64 → b < 2 ^ 64 → orI .u64 (a : Int) (b : Int) = orI .u64 (b : Int) (a : Int) := fun a b ha hb => by
          rw [orN2 ha hb, orN2 hb ha, Nat.or_comm]
        rw [hc _ _ (by omega) (by omega)]
        exact this
      rw [hor]
      have hdm := Nat.div_add_mod lo (2 ^ (64 - k))
      have v1 : n * 2 ^ k = 2 ^ 64 * (hi * 2 ^ k + lo / 2 ^ (64 - k)) + lo * 2 ^ k % 2 ^ 64 := by
        have g5 : lo * 2 ^ k % 2 ^ 64 = (lo % 2 ^ (64 - k)) * 2 ^ k := by rw [h2, Nat.mul_mod_mul_right]
        have g6 : 2 ^ 64 * (lo / 2 ^ (64 - k)) = 2 ^ (64 - k) * (lo / 2 ^ (64 - k)) * 2 ^ k := by
          rw [Nat.mul_right_comm, ← h2]
        rw [hsplit, Nat.add_mul, Nat.mul_add, Nat.mul_assoc, Nat.add_assoc, g6, g5, ← Nat.add_mul, hdm]
      have v2 : n * 2 ^ k % 2 ^ 128 = 2 ^ 64 * (lo / 2 ^ (64 - k) + (hi % 2 ^ (64 - k)) * 2 ^ k) + lo * 2 ^ k % 2 ^ 64 := by
        rw [v1]
        have hlo2 : lo * 2 ^ k % 2 ^ 64 < 2 ^ 64 := Nat.mod_lt _ (by decide)
        exact aux2 (aux1 g1 g2 g4) hlo2
      have hlo2 : lo * 2 ^ k % 2 ^ 64 < 2 ^ 64 := Nat.mod_lt _ (by decide)
      have e1 : n * 2 ^ k % 2 ^ 128 / 2 ^ 64 = lo / 2 ^ (64 - k) + (hi % 2 ^ (64 - k)) * 2 ^ k := by rw [v2]; omega
      have e2 : n * 2 ^ k % 2 ^ 128 % 2 ^ 64 = lo * 2 ^ k % 2 ^ 64 := by rw [v2]; omega
      unfold Wi
      rw [e1, e2]
    · have e8 : IntKind.wrap .i64 ((k : Int) - 64) = ((k - 64 : Nat) : Int) := wsub k 64 (by omega) (by omega)
      rw [show decide ((k : Int) ≥ 64) = true from decide_eq_true (by omega), cond_true, e8, nnn, cond_true]
      show some ((shlI .u64 ((n % 2 ^ 64 : Nat) : Int) ((k - 64 : Nat) : Int), ((0 : Int), ())), ()) = _
      rw [shlN _ (k - 64) (by omega)]
      have v1 : n * 2 ^ k % 2 ^ 128 = 2 ^ 64 * (n % 2 ^ 64 * 2 ^ (k - 64) % 2 ^ 64) := by
        have h2 : 2 ^ k = 2 ^ (k - 64) * 2 ^ 64 := by rw [← Nat.pow_add]; congr 1; omega
        rw [h2, ← Nat.mul_assoc, show 2 ^ 128 = 2 ^ 64 * 2 ^ 64 by decide, Nat.mul_mod_mul_right, Nat.mul_comm _ (2 ^ 64), Nat.mul_mod n (2 ^ (k - 64)), Nat.mul_mod (n % 2 ^ 64) (2 ^ (k - 64)), Nat.mod_mod]
      have e1 : n * 2 ^ k % 2 ^ 128 / 2 ^ 64 = n % 2 ^ 64 * 2 ^ (k - 64) % 2 ^ 64 := by rw [v1]; omega
      have e2 : n * 2 ^ k % 2 ^ 128 % 2 ^ 64 = 0 := by rw [v1]; omega
      unfold Wi
      rw [e1, e2]
      rfl
  · rw [show decide ((k : Int) ≥ 128) = true from decide_eq_true (by omega), cond_true]
    have e : n * 2 ^ k % 2 ^ 128 = 0 := by
      rw [show k = (k - 128) + 128 by omega, Nat.pow_add, ← Nat.mul_assoc]
      exact Nat.mul_mod_left _ _
    rw [e]
    rfl
theorem T120_eq (n k : Nat) (hn : n < 2 ^ 128) : T120 (Wi n, (k : Int), ()) = some (Wi (n / 2 ^ k), ()) := by
  show t120 (Wi n) k = _
  unfold t120
  rcases Nat.eq_zero_or_pos k with rfl | hk
  · have e : n / 2 ^ 0 = n := by rw [Nat.pow_zero, Nat.div_one]
    rw [e]; rfl
  rw [W_le0 k hk, cond_false]
  rcases Nat.lt_or_ge k 128 with h128 | h128
  · rw [show decide ((k : Int) ≥ 128) = false from decide_eq_false (by omega), cond_false]
    have hlo : (n % 2 ^ 64) < 2 ^ 64 := Nat.mod_lt _ (by decide)
    have hhi : n / 2 ^ 64 < 2 ^ 64 := by omega
    rcases Nat.lt_or_ge k 64 with h64 | h64
    · have e8 : IntKind.wrap .i64 (64 - (k : Int)) = ((64 - k : Nat) : Int) := wsub 64 k (by omega) (by omega)
      rw [show decide ((k : Int) ≥ 64) = false from decide_eq_false (by omega), cond_false, nnn, cond_true, e8, nnn, cond_true, cond_true]
      show some ((shrI .u64 ((n / 2 ^ 64 : Nat) : Int) k, (orI .u64 (shrI .u64 ((n % 2 ^ 64 : Nat) : Int) k) (shlI .u64 ((n / 2 ^ 64 : Nat) : Int) ((64 - k : Nat) : Int)), ())), ()) = _
      rw [shlN _ (64 - k) (by omega), shrN _ k (by omega), shrN _ k (by omega)]
      have hp := Nat.two_pow_pos k
      have hp2 := Nat.two_pow_pos (64 - k)
      have h2 : 2 ^ 64 = 2 ^ k * 2 ^ (64 - k) := by rw [← Nat.pow_add]; congr 1; omega
      have hsplit : n = 2 ^ 64 * (n / 2 ^ 64) + n % 2 ^ 64 := (Nat.div_add_mod n (2 ^ 64)).symm
      generalize n / 2 ^ 64 = hi at *
      generalize n % 2 ^ 64 = lo at *
      have g1 : hi * 2 ^ (64 - k) % 2 ^ 64 = (hi % 2 ^ k) * 2 ^ (64 - k) := by rw [h2, Nat.mul_mod_mul_right]
      have g2 : lo / 2 ^ k < 2 ^ (64 - k) := by rw [Nat.div_lt_iff_lt_mul hp, Nat.mul_comm, ← h2]; exact hlo
      have g3 : hi % 2 ^ k + 1 ≤ 2 ^ k := Nat.mod_lt _ hp
      have g4 := Nat.mul_le_mul_right (2 ^ (64 - k)) g3
      rw [← h2, Nat.add_mul, Nat.one_mul] at g4
      rw [g1, orN g2 (by omega)]
      have v1 : n / 2 ^ k = hi * 2 ^ (64 - k) + lo / 2 ^ k := by
        have : n = lo + 2 ^ k * (hi * 2 ^ (64 - k)) := by rw [hsplit, h2, Nat.mul_assoc, Nat.mul_comm hi]; omega
        rw [this, Nat.add_mul_div_left _ _ hp, Nat.add_comm]
      have hdm := Nat.div_add_mod hi (2 ^ k)
      have v2 : hi * 2 ^ (64 - k) = 2 ^ 64 * (hi / 2 ^ k) + (hi % 2 ^ k) * 2 ^ (64 - k) := by
        rw [h2, Nat.mul_right_comm, ← Nat.add_mul, hdm]
      rw [v2] at v1
      obtain ⟨e1, e2⟩ := aux3 v1 g2 g4
      unfold Wi
      rw [e1, e2]
    · have e8 : IntKind.wrap .i64 ((k : Int) - 64) = ((k - 64 : Nat) : Int) := wsub k 64 (by omega) (by omega)
      rw [show decide ((k : Int) ≥ 64) = true from decide_eq_true (by omega), cond_true, e8, nnn, cond_true]
      show some (((0 : Int), (shrI .u64 ((n / 2 ^ 64 : Nat) : Int) ((k - 64 : Nat) : Int), ())), ()) = _
      rw [shrN _ (k - 64) (by omega)]
      have v1 : n / 2 ^ k = n / 2 ^ 64 / 2 ^ (k - 64) := by
        rw [Nat.div_div_eq_div_mul, ← Nat.pow_add]; congr 2; omega
      have hs : n / 2 ^ k < 2 ^ 64 := by
        rw [v1]; exact Nat.lt_of_le_of_lt (Nat.div_le_self _ _) hhi
      have e1 : n / 2 ^ k / 2 ^ 64 = 0 := Nat.div_eq_of_lt hs
      have e2 : n / 2 ^ k % 2 ^ 64 = n / 2 ^ 64 / 2 ^ (k - 64) := by rw [← v1]; exact Nat.mod_eq_of_lt hs
      unfold Wi
      rw [e1, e2]
      rfl
  · rw [show decide ((k : Int) ≥ 128) = true from decide_eq_true (by omega), cond_true]
    have e : n / 2 ^ k = 0 := Nat.div_eq_of_lt (Nat.lt_of_lt_of_le hn (Nat.pow_le_pow_right (by decide) h128))
    rw [e]
    rfl
theorem addF (x y c : Nat) : S155.F ((x : Int), ((y : Int), ((c : Int), ()))) = (((((x + y + c) % 2 ^ 64 : Nat) : Int)), ((((x + y + c) / 2 ^ 64 : Nat) : Int)), ()) := rfl
theorem addP (x y : Int) (c : Nat) (h : c ≤ 1) : S155.pre (x, (y, ((c : Int), ()))) = true := by
  show (decide ((0 : Int) ≤ (c : Int)) && decide ((c : Int) ≤ 1)) = true
  rw [decide_eq_true (by omega), decide_eq_true (by omega)]; rfl
theorem subF (x y c : Nat) (h : c ≤ 1) (hx : x < 2 ^ 64) (hy : y < 2 ^ 64) : S157.F ((x : Int), ((y : Int), ((c : Int), ()))) = (((((x + 2 ^ 64 - y - c) % 2 ^ 64 : Nat) : Int)), ((if x < y + c then 1 else 0 : Nat) : Int), ()) := by
  show ((((x : Int) - y - c) % 18446744073709551616 : Int), ((if (x : Int) < y + c then 1 else 0 : Int)), ()) = _
  have e1 : ((x : Int) - y - c) % 18446744073709551616 = ((x + 2 ^ 64 - y - c) % 2 ^ 64 : Nat) := by omega
  rw [e1]
  by_cases h : x < y + c
  · rw [if_pos h, if_pos (by omega)]; rfl
  · rw [if_neg h, if_neg (by omega)]; rfl
theorem subP (x y : Int) (c : Nat) (h : c ≤ 1) : S157.pre (x, (y, ((c : Int), ()))) = true := by
  show (decide ((0 : Int) ≤ (c : Int)) && decide ((c : Int) ≤ 1)) = true
  rw [decide_eq_true (by omega), decide_eq_true (by omega)]; rfl
theorem T121_eq (n m : Nat) (h : n + m < 2 ^ 128) : T121 (Wi n, Wi m, ()) = some (Wi (n + m), 0, ()) := by
  show t121 S155.pre S155.F (Wi n) (Wi m) = _
  unfold t121
  have c1 : (n % 2 ^ 64 + m % 2 ^ 64 + 0) / 2 ^ 64 ≤ 1 := by omega
  have p1 : S155.pre ((Wi n).2.1, ((Wi m).2.1, ((0 : Int), ()))) = true := addP _ _ 0 (by decide)
  have q1 : S155.F ((Wi n).2.1, ((Wi m).2.1, ((0 : Int), ()))) = _ := addF (n % 2 ^ 64) (m % 2 ^ 64) 0
  rw [p1, q1, cond_true]
  have p2 : S155.pre ((Wi n).1, ((Wi m).1, ((((n % 2 ^ 64 + m % 2 ^ 64 + 0) / 2 ^ 64 : Nat) : Int), ()))) = true := addP _ _ _ c1
  have q2 : S155.F ((Wi n).1, ((Wi m).1, ((((n % 2 ^ 64 + m % 2 ^ 64 + 0) / 2 ^ 64 : Nat) : Int), ()))) = _ := addF (n / 2 ^ 64) (m / 2 ^ 64) ((n % 2 ^ 64 + m % 2 ^ 64 + 0) / 2 ^ 64)
  dsimp only
  rw [p2, q2, cond_true]
  have e1 : (n / 2 ^ 64 + m / 2 ^ 64 + (n % 2 ^ 64 + m % 2 ^ 64 + 0) / 2 ^ 64) % 2 ^ 64 = (n + m) / 2 ^ 64 := by omega
  have e2 : (n % 2 ^ 64 + m % 2 ^ 64 + 0) % 2 ^ 64 = (n + m) % 2 ^ 64 := by omega
  have e3 : (n / 2 ^ 64 + m / 2 ^ 64 + (n % 2 ^ 64 + m % 2 ^ 64 + 0) / 2 ^ 64) / 2 ^ 64 = 0 := by omega
  rw [e1, e2, e3]
  rfl
theorem T124_eq (n m : Nat) (hn : n < 2 ^ 128) (h : m ≤ n) : T124 (Wi n, Wi m, ()) = some (Wi (n - m), 0, ()) := by
  show t124 S157.pre S157.F (Wi n) (Wi m) = _
  unfold t124
  have p1 : S157.pre ((Wi n).2.1, ((Wi m).2.1, ((0 : Int), ()))) = true := subP _ _ 0 (by decide)
  have q1 : S157.F ((Wi n).2.1, ((Wi m).2.1, ((0 : Int), ()))) = _ := subF (n % 2 ^ 64) (m % 2 ^ 64) 0 (by decide) (by omega) (by omega)
  rw [p1, q1, cond_true]
  have c1 : (if n % 2 ^ 64 < m % 2 ^ 64 + 0 then 1 else 0) ≤ 1 := by split <;> omega
  have p2 : S157.pre ((Wi n).1, ((Wi m).1, (((if n % 2 ^ 64 < m % 2 ^ 64 + 0 then 1 else 0 : Nat) : Int), ()))) = true := subP _ _ _ c1
  have q2 : S157.F ((Wi n).1, ((Wi m).1, (((if n % 2 ^ 64 < m % 2 ^ 64 + 0 then 1 else 0 : Nat) : Int), ()))) = _ := subF (n / 2 ^ 64) (m / 2 ^ 64) _ c1 (by omega) (by omega)
  dsimp only
  rw [p2, q2, cond_true]
  have e2 : (n % 2 ^ 64 + 2 ^ 64 - m % 2 ^ 64 - 0) % 2 ^ 64 = (n - m) % 2 ^ 64 := by omega
  rw [e2]
  by_cases hb : n % 2 ^ 64 < m % 2 ^ 64 + 0
  · rw [if_pos hb, if_neg (by omega)]
    have e1 : (n / 2 ^ 64 + 2 ^ 64 - m / 2 ^ 64 - 1) % 2 ^ 64 = (n - m) / 2 ^ 64 := by omega
    rw [e1]
    rfl
  · rw [if_neg hb, if_neg (by omega)]
    have e1 : (n / 2 ^ 64 + 2 ^ 64 - m / 2 ^ 64 - 0) % 2 ^ 64 = (n - m) / 2 ^ 64 := by omega
    rw [e1]
    rfl
theorem T123_eq (n m : Nat) : T123 (Wi n, Wi m, ()) = some (if n = m then 0 else if n < m then -1 else 1, ()) := by
  show t123 (Wi n) (Wi m) = _
  unfold t123
  show (bif (((n / 2 ^ 64 : Nat) : Int) == ((m / 2 ^ 64 : Nat) : Int) && ((n % 2 ^ 64 : Nat) : Int) == ((m % 2 ^ 64 : Nat) : Int)) then some ((0 : Int), ())
    else bif (decide (((n / 2 ^ 64 : Nat) : Int) < ((m / 2 ^ 64 : Nat) : Int)) || (((n / 2 ^ 64 : Nat) : Int) == ((m / 2 ^ 64 : Nat) : Int) && decide (((n % 2 ^ 64 : Nat) : Int) < ((m % 2 ^ 64 : Nat) : Int)))) then some ((-1 : Int), ()) else some ((1 : Int), ()) : Option (Int × Unit)) = _
  rw [nbeq, nbeq, nlt, nlt]
  rcases Nat.lt_trichotomy n m with h | h | h
  · have e1 : (n / 2 ^ 64 == m / 2 ^ 64 && n % 2 ^ 64 == m % 2 ^ 64) = false := by
      rw [Bool.and_eq_false_iff, beq_eq_false_iff_ne, beq_eq_false_iff_ne]; omega
    have e2 : (decide (n / 2 ^ 64 < m / 2 ^ 64) || (n / 2 ^ 64 == m / 2 ^ 64 && decide (n % 2 ^ 64 < m % 2 ^ 64))) = true := by
      rw [Bool.or_eq_true, Bool.and_eq_true, decide_eq_true_eq, decide_eq_true_eq, beq_iff_eq]; omega
    rw [e1, e2, if_neg (by omega), if_pos h]; rfl
  · subst h
    rw [if_pos rfl]
    simp
  · have e1 : (n / 2 ^ 64 == m / 2 ^ 64 && n % 2 ^ 64 == m % 2 ^ 64) = false := by
      rw [Bool.and_eq_false_iff, beq_eq_false_iff_ne, beq_eq_false_iff_ne]; omega
    have e2 : (decide (n / 2 ^ 64 < m / 2 ^ 64) || (n / 2 ^ 64 == m / 2 ^ 64 && decide (n % 2 ^ 64 < m % 2 ^ 64))) = false := by
      rw [Bool.or_eq_false_iff, Bool.and_eq_false_iff, decide_eq_false_iff_not, decide_eq_false_iff_not, beq_eq_false_iff_ne]; omega
    rw [e1, e2, if_neg (by omega), if_neg (by omega)]; rfl
end VL
namespace VL
open Go Vx
/-- does the last place go up? rest: 0 nothing is lost, 1 less than a half, 2 a half, 3 more -/
def furM (m : Int) (neg odd : Bool) (rest : Nat) : Bool :=
  if m = 4 then neg else if m = 3 then !neg else if m = 0 then (if rest = 2 then odd else decide (2 ≤ rest)) else if m = 1 then decide (2 ≤ rest) else if m = 5 then !odd else false
theorem ibeq_f (a b : Int) (h : a ≠ b) : (a == b) = false := by simp [h]
theorem T177_eq (m : Int) (neg odd : Bool) (rest : Nat) : T177 (m, neg, odd, (rest : Int), ()) = some (furM m neg odd rest, ()) := by
  show t177 m neg odd (rest : Int) = _
  have e2 : decide ((rest : Int) ≥ 2) = decide (2 ≤ rest) := by rw [Bool.eq_iff_iff, decide_eq_true_eq, decide_eq_true_eq]; omega
  have e3 : ((rest : Int) == 2) = decide (rest = 2) := by rw [Bool.eq_iff_iff, decide_eq_true_eq, beq_iff_eq]; omega
  unfold t177 furM
  rw [e2, e3]
  by_cases h4 : m = 4
  · subst h4; cases neg <;> rfl
  rw [ibeq_f m 4 h4, cond_false, if_neg h4]
  by_cases h3 : m = 3
  · subst h3; rfl
  rw [ibeq_f m 3 h3, cond_false, if_neg h3]
  by_cases h0 : m = 0
  · subst h0
    by_cases hr : rest = 2
    · subst hr; rfl
    · rw [decide_eq_false hr, if_pos rfl, if_neg hr]; rfl
  rw [ibeq_f m 0 h0, cond_false, if_neg h0]
  by_cases h1 : m = 1
  · subst h1; rfl
  rw [ibeq_f m 1 h1, cond_false, if_neg h1]
  by_cases h5 : m = 5
  · subst h5; rfl
  rw [ibeq_f m 5 h5, cond_false, if_neg h5]
/-- n times 2^e in units of 2^q: the whole ones -/
def quoE (n : Nat) (e q : Int) : Nat := if q ≤ e then n * 2 ^ (e - q).toNat else n / 2 ^ (q - e).toNat
def clsR (r s : Nat) : Nat := if r = 0 then 0 else if r < 2 ^ (s - 1) then 1 else if r = 2 ^ (s - 1) then 2 else 3
/-- and what is lost -/
def rstE (n : Nat) (e q : Int) : Nat := if q ≤ e then 0 else clsR (n % 2 ^ (q - e).toNat) (q - e).toNat
/-- four times the whole, with what is lost -/
def j4 (n : Nat) (e q : Int) : Nat := if 2 ≤ q - e then jamN n (q - e - 2).toNat else n * 2 ^ (2 - (q - e)).toNat
theorem j4_eq (n : Nat) (e q : Int) : j4 n e q / 4 = quoE n e q ∧ j4 n e q % 4 = rstE n e q := by
  unfold j4 quoE rstE
  by_cases h2 : 2 ≤ q - e
  · rw [if_pos h2, if_neg (by omega), if_neg (by omega)]
    have es : (q - e).toNat = (q - e - 2).toNat + 2 := by omega
    rw [es]
    generalize (q - e - 2).toNat = s
    have hp := Nat.two_pow_pos s
    have e1 : 2 ^ (s + 2) = 2 ^ s * 4 := by rw [Nat.pow_add]
    have e2 : 2 ^ (s + 2 - 1) = 2 ^ s * 2 := by rw [show s + 2 - 1 = s + 1 by omega, Nat.pow_succ]
    unfold jamN clsR
    rw [e2, e1, ← Nat.div_div_eq_div_mul, Nat.mod_mul]
    have hr := Nat.mod_lt n hp
    generalize n % 2 ^ s = r at *
    generalize n / 2 ^ s = u at *
    have h4 : u % 4 = 0 ∨ u % 4 = 1 ∨ u % 4 = 2 ∨ u % 4 = 3 := by omega
    constructor
    · split <;> omega
    · rcases h4 with h | h | h | h <;> rw [h] <;> by_cases hz : r = 0
      · rw [if_pos hz, if_pos (by omega)]; exact h
      · rw [if_neg hz, if_neg (by omega), if_pos (by omega)]; omega
      · rw [if_pos hz, if_neg (by omega), if_pos (by omega)]; exact h
      · rw [if_neg hz, if_neg (by omega), if_pos (by omega)]; omega
      · rw [if_pos hz, if_neg (by omega), if_neg (by omega), if_pos (by omega)]; exact h
      · rw [if_neg hz, if_neg (by omega), if_neg (by omega), if_neg (by omega)]; omega
      · rw [if_pos hz, if_neg (by omega), if_neg (by omega), if_neg (by omega)]; exact h
      · rw [if_neg hz, if_neg (by omega), if_neg (by omega), if_neg (by omega)]; omega
  · rw [if_neg h2]
    by_cases h1 : q ≤ e
    · rw [if_pos h1, if_pos h1, show (2 - (q - e)).toNat = (e - q).toNat + 2 by omega, Nat.pow_add, ← Nat.mul_assoc]
      generalize n * 2 ^ (e - q).toNat = x
      omega
    · rw [if_neg h1, if_neg h1, show (2 - (q - e)).toNat = 1 by omega, show (q - e).toNat = 1 by omega]
      unfold clsR
      rcases Nat.mod_two_eq_zero_or_one n with h | h
      · rw [show n % 2 ^ 1 = 0 from h, if_pos rfl]; omega
      · rw [show n % 2 ^ 1 = 1 from h, if_neg (by omega), if_neg (by decide), if_pos (by decide)]; omega
def cutR (n : Nat) (e q : Int) (more : Bool) : Nat := if more then rstE n e q / 2 * 2 + 1 else rstE n e q
def cutN (m : Int) (neg : Bool) (n : Nat) (e q : Int) (more : Bool) : Nat :=
  if cutR n e q more ≠ 0 ∧ furM m neg (decide (quoE n e q % 2 = 1)) (cutR n e q more) = true then quoE n e q + 1 else quoE n e q
theorem Dw_zero : Dw 0 = [] := by unfold Dw; rw [dg_zero]; rfl
theorem Dw_len {n : Nat} (h : n ≠ 0) : 0 < (Dw n).length := by
  unfold Dw; rw [Wd_len, dg_pos (by decide) (by omega)]; simp
theorem Dw_len_gt {n : Nat} (h : n ≠ 0) : decide ((((Dw n).length : Nat) : Int) > 0) = true := decide_eq_true (by have := Dw_len h; omega)
theorem Dw_len_pos {n : Nat} (h : n ≠ 0) : decide ((0 : Int) < (((Dw n).length : Nat) : Int)) = true := decide_eq_true (by have := Dw_len h; omega)
theorem Dw_get (n : Nat) : (Dw n).getD 0 0 = ((n % 2 ^ 64 : Nat) : Int) := by
  unfold Dw; rw [Wd_getD]
  rcases Nat.eq_zero_or_pos n with rfl | h
  · rw [dg_zero]; rfl
  · rw [dg_pos (by decide) h]; rfl
theorem Dw_guard (n : Nat) : (decide ((0 : Int) < (((Dw n).length : Nat) : Int)) || !decide ((((Dw n).length : Nat) : Int) > 0)) = true := by
  by_cases h : 0 < (Dw n).length
  · rw [decide_eq_true (by omega)]; rfl
  · rw [decide_eq_false (p := (((Dw n).length : Nat) : Int) > 0) (by omega)]; simp
theorem and3 (n : Nat) : andI .u64 ((n % 2 ^ 64 : Nat) : Int) 3 = ((n % 4 : Nat) : Int) := by
  have := andI_mask (m := n % 2 ^ 64) (n := 2) (Nat.mod_lt _ (by decide)) (by decide)
  rw [show n % 2 ^ 64 % 2 ^ 2 = n % 4 by omega] at this
  exact this
theorem and1 (n : Nat) : andI .u64 ((n % 2 ^ 64 : Nat) : Int) 1 = ((n % 2 : Nat) : Int) := by
  have := andI_mask (m := n % 2 ^ 64) (n := 1) (Nat.mod_lt _ (by decide)) (by decide)
  rw [show n % 2 ^ 64 % 2 ^ 1 = n % 2 by omega] at this
  exact this
theorem or1 (n : Nat) (h : n < 2 ^ 64) : orI .u64 (n : Int) 1 = ((n / 2 * 2 + 1 : Nat) : Int) := by
  have := orN2 (a := n) (b := 1) h (by decide)
  rw [or_one] at this
  exact this
theorem or01 : orI .u64 0 1 = 1 := by decide
theorem odd_guard (u : Nat) : (decide ((((Dw u).length : Nat) : Int) > 0) && (andI .u64 ((Dw u).getD 0 0) 1 == 1)) = decide (u % 2 = 1) := by
  rw [Dw_get, and1]
  rcases Nat.eq_zero_or_pos u with rfl | h
  · rw [Dw_zero]; rfl
  · rw [Dw_len_gt (by omega), Bool.true_and, Bool.eq_iff_iff, decide_eq_true_eq, beq_iff_eq]; omega
theorem Dw_ws {n : Nat} (h : n < (2 ^ 64) ^ 5000) : Ws (dg (2 ^ 64) n) := by
  have := dg_len_le (B := 2 ^ 64) (by decide) 5000 n h
  exact dg_ws n (by omega)
theorem nv_Dw (n : Nat) : nv (2 ^ 64) (dg (2 ^ 64) n) = n := nv_dg (by decide) n
/-- nat.Shr by 2 -/
theorem shr2 {j : Nat} (hj : Ws (dg (2 ^ 64) j)) : T141 (Dw j, (2 : Int), ()) = some (Dw (j / 4), 0, ()) := by
  have := T141_eq (dg (2 ^ 64) j) hj 2 (by decide)
  rw [nv_Dw] at this
  exact this
/-- and one more -/
theorem add1 {u : Nat} (hu : Ws (dg (2 ^ 64) u)) (hl : (dg (2 ^ 64) u).length < 1000000) : T143 (Dw u, ((1 : Int) :: []), ()) = some (Dw (u + 1), ()) := by
  have := T143_eq (dg (2 ^ 64) u) [1] hu ⟨by simp, by simp⟩ (by rw [dg_trim (by decide)]; exact hl) (by simp [trimL])
  rw [nv_Dw, show nv (2 ^ 64) [1] = 1 by rfl] at this
  exact this
end VL
namespace VL
open Go Vx
theorem gt00 : decide ((0 : Int) > 0) = false := rfl
theorem T150_eq (m : Int) (neg : Bool) (n : Nat) (e q : Int) (more : Bool) (hn : n < (2 ^ 64) ^ 2000) (hq : q - e ≤ 10000000) (he : -1000000000 ≤ e ∧ e ≤ 1000000000) (hqb : -1000000000 ≤ q ∧ q ≤ 1000000000)
    (hs : q - e < 2 → 2 - (q - e) ≤ 65536 ∧ n * 2 ^ (2 - (q - e)).toNat < (2 ^ 64) ^ 1024) :
    T150 ((neg, Dw n, e, more, ()), m, q, ()) = some (Dw (cutN m neg n e q more), decide (cutR n e q more ≠ 0), ()) := by
  show t150 _ _ _ _ _ _ _ _ _ _ (neg, Dw n, e, more, ()) m q = _
  unfold t150
  have hnw : Ws (dg (2 ^ 64) n) := Dw_ws (Nat.lt_trans hn (Nat.pow_lt_pow_right (by decide) (by decide)))
  have e0 : IntKind.wrap .i64 (q - e) = q - e := wrapI (by omega)
  have hj4 := j4_eq n e q
  dsimp only
  rw [e0]
  by_cases h2 : 2 ≤ q - e
  · rw [show decide (q - e ≥ 2) = true from decide_eq_true h2, cond_true]
    obtain ⟨s, hs⟩ := Int.eq_ofNat_of_zero_le (show 0 ≤ q - e - 2 by omega)
    have e1 : IntKind.wrap .i64 (q - e - 2) = (s : Int) := by rw [wrapI (by omega)]; exact hs
    have hj : j4 n e q = jamN n s := by unfold j4; rw [if_pos h2]; congr 1; omega
    rw [hj] at hj4
    have hjn : jamN n s ≤ n + 1 := by
      unfold jamN
      have := Nat.div_le_self n (2 ^ s)
      split <;> omega
    have p0 := T175_eq (dg (2 ^ 64) n) hnw s (by omega)
    rw [nv_Dw] at p0
    have hjl : jamN n s < (2 ^ 64) ^ 5000 := by
      have h1 : (2 ^ 64) ^ 2000 < (2 ^ 64) ^ 5000 := Nat.pow_lt_pow_right (by decide) (by decide)
      generalize (2 ^ 64) ^ 2000 = A at *
      generalize (2 ^ 64) ^ 5000 = B at *
      omega
    clear hj
    generalize jamN n s = j at *
    have hj : Ws (dg (2 ^ 64) j) := Dw_ws hjl
    rw [e1]
    have p0 : T175 (Dw n, (s : Int), ()) = some (Dw j, 0, ()) := p0

    have p1 := shr2 hj
    have hu : Ws (dg (2 ^ 64) (j / 4)) := Dw_ws (Nat.lt_of_le_of_lt (Nat.div_le_self _ _) hjl)
    have hul := dg_len_le (B := 2 ^ 64) (by decide) 5000 (j / 4) (Nat.lt_of_le_of_lt (Nat.div_le_self _ _) hjl)
    have p3 := add1 hu (by omega)
    have h4 : j % 4 < 4 := Nat.mod_lt _ (by decide)
    unfold cutN cutR
    rw [← hj4.1, ← hj4.2]
    rcases Nat.eq_zero_or_pos j with hj0 | hj0
    · subst hj0
      have pz : T141 ([], (2 : Int), ()) = some (Dw (0 / 4), 0, ()) := by rw [← Dw_zero]; exact p1
      cases more with
      | true =>
        have p2 : T177 (m, neg, decide (0 / 4 % 2 = 1), (1 : Int), ()) = some (furM m neg (decide (0 / 4 % 2 = 1)) 1, ()) := T177_eq m neg _ 1
        simp only [pre175 p0, fun175 p0, cond_true, Dw_zero, List.length_nil, igt0_f, Int.natCast_zero, cond_false, Int.toNat_zero, gt00, or01, pre141 pz, fun141 pz, Dw_guard, odd_guard, pre177 p2, fun177 p2, Bool.true_or, Bool.or_true, Bool.true_and]
        cases hf : furM m neg (decide (0 / 4 % 2 = 1)) 1 with
        | true => simp only [cond_true, pre143 p3, fun143 p3]; have hf : furM m neg false 1 = true := hf; simp [hf]
        | false => simp only [cond_false]; have hf : furM m neg false 1 = false := hf; simp [hf]
      | false =>
        simp only [pre175 p0, fun175 p0, cond_true, Dw_zero, List.length_nil, Int.natCast_zero, cond_false, Int.toNat_zero, gt00, pre141 pz, fun141 pz, Dw_guard, Bool.or_true]
        simp
    · have hjn : j ≠ 0 := by omega
      cases more with
      | true =>
        have p2 := T177_eq m neg (decide (j / 4 % 2 = 1)) (j % 4 / 2 * 2 + 1)
        have hr : j % 4 / 2 * 2 + 1 ≠ 0 := by omega
        simp only [pre175 p0, fun175 p0, cond_true, Dw_len_gt hjn, Dw_len_pos hjn, Int.toNat_zero, Dw_get j, and3, or1 (j % 4) (by omega), pre141 p1, fun141 p1, Dw_guard, odd_guard, pre177 p2, fun177 p2, Bool.true_or, Bool.or_true, bne0_t _ hr, Bool.true_and]
        cases hf : furM m neg (decide (j / 4 % 2 = 1)) (j % 4 / 2 * 2 + 1) with
        | true => simp only [cond_true, pre143 p3, fun143 p3]; simp [hf]
        | false => simp only [cond_false]; simp [hf]
      | false =>
        have p2 := T177_eq m neg (decide (j / 4 % 2 = 1)) (j % 4)
        simp only [pre175 p0, fun175 p0, cond_true, cond_false, Dw_len_gt hjn, Dw_len_pos hjn, Int.toNat_zero, Dw_get j, and3, pre141 p1, fun141 p1, Dw_guard, odd_guard, pre177 p2, fun177 p2, Bool.true_or, Bool.or_true]
        rcases Nat.eq_zero_or_pos (j % 4) with hz | hz
        · rw [bne0_f _ hz, Bool.false_and, cond_false]
          simp [hz]
        · have hr : j % 4 ≠ 0 := by omega
          rw [bne0_t _ hr, Bool.true_and]
          cases hf : furM m neg (decide (j / 4 % 2 = 1)) (j % 4) with
          | true => simp only [cond_true, pre143 p3, fun143 p3]; simp [hf, hr]
          | false => simp only [cond_false]; simp [hf, hr]
  · rw [show decide (q - e ≥ 2) = false from decide_eq_false h2, cond_false]
    obtain ⟨s, hse⟩ := Int.eq_ofNat_of_zero_le (show 0 ≤ 2 - (q - e) by omega)
    have e1 : IntKind.wrap .i64 (2 - (q - e)) = (s : Int) := by rw [wrapI (by omega)]; exact hse
    have hj : j4 n e q = n * 2 ^ s := by unfold j4; rw [if_neg h2]; congr 2; omega
    rw [hj] at hj4
    obtain ⟨hs1, hs2⟩ := hs (by omega)
    rw [show (2 - (q - e)).toNat = s by omega] at hs2
    have p0 := T176_eq (dg (2 ^ 64) n) hnw s (by omega) (by rw [nv_Dw]; exact hs2)
    rw [nv_Dw] at p0
    have hjl : n * 2 ^ s < (2 ^ 64) ^ 5000 := Nat.lt_trans hs2 (Nat.pow_lt_pow_right (by decide) (by decide))
    clear hj
    generalize n * 2 ^ s = j at *
    have hj : Ws (dg (2 ^ 64) j) := Dw_ws hjl
    rw [e1]
    have p0 : T176 (Dw n, (s : Int), ()) = some (Dw j, 0, ()) := p0

    have p1 := shr2 hj
    have hu : Ws (dg (2 ^ 64) (j / 4)) := Dw_ws (Nat.lt_of_le_of_lt (Nat.div_le_self _ _) hjl)
    have hul := dg_len_le (B := 2 ^ 64) (by decide) 5000 (j / 4) (Nat.lt_of_le_of_lt (Nat.div_le_self _ _) hjl)
    have p3 := add1 hu (by omega)
    have h4 : j % 4 < 4 := Nat.mod_lt _ (by decide)
    unfold cutN cutR
    rw [← hj4.1, ← hj4.2]
    rcases Nat.eq_zero_or_pos j with hj0 | hj0
    · subst hj0
      have pz : T141 ([], (2 : Int), ()) = some (Dw (0 / 4), 0, ()) := by rw [← Dw_zero]; exact p1
      cases more with
      | true =>
        have p2 : T177 (m, neg, decide (0 / 4 % 2 = 1), (1 : Int), ()) = some (furM m neg (decide (0 / 4 % 2 = 1)) 1, ()) := T177_eq m neg _ 1
        simp only [pre176 p0, fun176 p0, cond_true, Dw_zero, List.length_nil, igt0_f, Int.natCast_zero, cond_false, Int.toNat_zero, gt00, or01, pre141 pz, fun141 pz, Dw_guard, odd_guard, pre177 p2, fun177 p2, Bool.true_or, Bool.or_true, Bool.true_and]
        cases hf : furM m neg (decide (0 / 4 % 2 = 1)) 1 with
        | true => simp only [cond_true, pre143 p3, fun143 p3]; have hf : furM m neg false 1 = true := hf; simp [hf]
        | false => simp only [cond_false]; have hf : furM m neg false 1 = false := hf; simp [hf]
      | false =>
        simp only [pre176 p0, fun176 p0, cond_true, Dw_zero, List.length_nil, Int.natCast_zero, cond_false, Int.toNat_zero, gt00, pre141 pz, fun141 pz, Dw_guard, Bool.or_true]
        simp
    · have hjn : j ≠ 0 := by omega
      cases more with
      | true =>
        have p2 := T177_eq m neg (decide (j / 4 % 2 = 1)) (j % 4 / 2 * 2 + 1)
        have hr : j % 4 / 2 * 2 + 1 ≠ 0 := by omega
        simp only [pre176 p0, fun176 p0, cond_true, Dw_len_gt hjn, Dw_len_pos hjn, Int.toNat_zero, Dw_get j, and3, or1 (j % 4) (by omega), pre141 p1, fun141 p1, Dw_guard, odd_guard, pre177 p2, fun177 p2, Bool.true_or, Bool.or_true, bne0_t _ hr, Bool.true_and]
        cases hf : furM m neg (decide (j / 4 % 2 = 1)) (j % 4 / 2 * 2 + 1) with
        | true => simp only [cond_true, pre143 p3, fun143 p3]; simp [hf]
        | false => simp only [cond_false]; simp [hf]
      | false =>
        have p2 := T177_eq m neg (decide (j / 4 % 2 = 1)) (j % 4)
        simp only [pre176 p0, fun176 p0, cond_true, cond_false, Dw_len_gt hjn, Dw_len_pos hjn, Int.toNat_zero, Dw_get j, and3, pre141 p1, fun141 p1, Dw_guard, odd_guard, pre177 p2, fun177 p2, Bool.true_or, Bool.or_true]
        rcases Nat.eq_zero_or_pos (j % 4) with hz | hz
        · rw [bne0_f _ hz, Bool.false_and, cond_false]
          simp [hz]
        · have hr : j % 4 ≠ 0 := by omega
          rw [bne0_t _ hr, Bool.true_and]
          cases hf : furM m neg (decide (j / 4 % 2 = 1)) (j % 4) with
          | true => simp only [cond_true, pre143 p3, fun143 p3]; simp [hf, hr]
          | false => simp only [cond_false]; simp [hf, hr]
end VL
namespace VL
open Go Vx
def sgnF (f : Int) (neg : Bool) : Nat := if neg then 2 ^ (fW f - 1) else 0
def infB (f : Int) (neg : Bool) : Nat := (2 ^ (fW f - fP f) - 1) * 2 ^ (fP f - 1) + sgnF f neg
def upw (m : Int) (neg : Bool) : Bool := ((m == 0 || m == 1) || (m == 3 && !neg)) || (m == 4 && neg)
def beyB (f m : Int) (neg : Bool) : Nat := if upw m neg then infB f neg else infB f neg - 1
theorem T97_ok {f : Int} (h : Fm f) (neg : Bool) : T97 (f, neg, ()) = some ((infB f neg : Int), 0, ()) := by
  rcases Fm_cases h with rfl | rfl | rfl | rfl <;> cases neg <;> kernel_rfl
theorem T43_ok {f : Int} (h : Fm f) (neg : Bool) : T43 (f, neg, ()) = some (((infB f neg - 1 : Nat) : Int), 0, ()) := by
  rcases Fm_cases h with rfl | rfl | rfl | rfl <;> cases neg <;> kernel_rfl
theorem T118_ok {f : Int} (h : Fm f) (neg : Bool) : T118 (f, neg, ()) = some ((sgnF f neg : Int), 0, ()) := by
  rcases Fm_cases h with rfl | rfl | rfl | rfl <;> cases neg <;> kernel_rfl
theorem T149_eq {f : Int} (h : Fm f) (m : Int) (neg : Bool) : T149 (f, m, neg, ()) = some ((beyB f m neg : Int), ()) := by
  show t149 S97.pre S97.F S43.pre S43.F f m neg = _
  have p0 := T97_ok h neg
  have p1 := T43_ok h neg
  unfold t149 beyB
  show (bif upw m neg then (bif S97.pre (f, neg, ()) then some ((S97.F (f, neg, ())).1, ()) else none) else (bif S43.pre (f, neg, ()) then some ((S43.F (f, neg, ())).1, ()) else none)) = _
  rw [pre97 p0, fun97 p0, pre43 p1, fun43 p1]
  cases upw m neg <;> rfl
def topE (n : Nat) (e : Int) : Int := e + (blen n : Int) - 1
theorem blen_bound {n k : Nat} (h : n < 2 ^ k) : blen n ≤ k := by
  rcases Nat.eq_zero_or_pos n with rfl | hn
  · exact Nat.zero_le _
  · have := blen_le (n := n) (by omega)
    have : blen n - 1 < k := (Nat.pow_lt_pow_iff_right (a := 2) (by decide)).1 (Nat.lt_of_le_of_lt this h)
    omega
theorem blen_pos {n : Nat} (h : n ≠ 0) : 1 ≤ blen n := by unfold blen; rw [if_neg h]; omega
theorem big_blen {n : Nat} (h : n < (2 ^ 64) ^ 2000) : blen n ≤ 128000 := by
  apply blen_bound
  rw [pow64] at h
  exact h
theorem T151_Dw {n : Nat} (h : n < (2 ^ 64) ^ 5000) : T151 (Dw n, ()) = some ((blen n : Int), ()) := by
  have := T151_eq _ (Dw_ws h)
  rw [nv_Dw] at this
  exact this
theorem lt5000 {n : Nat} (h : n < (2 ^ 64) ^ 2000) : n < (2 ^ 64) ^ 5000 := Nat.lt_trans h (Nat.pow_lt_pow_right (by decide) (by decide))
theorem T148_eq (neg : Bool) (n : Nat) (e : Int) (more : Bool) (hn : n < (2 ^ 64) ^ 2000) (he : -1000000 ≤ e ∧ e ≤ 1000000) : T148 ((neg, Dw n, e, more, ()), ()) = some (topE n e, ()) := by
  show t148 S151.pre S151.F (neg, Dw n, e, more, ()) = _
  unfold t148
  have p0 := T151_Dw (lt5000 hn)
  have hb := big_blen hn
  simp only [pre151 p0, fun151 p0, cond_true]
  rw [wrapI (n := e + (blen n : Int)) (by omega), wrapI (by omega)]
  rfl
/-- what is cut fits -/
theorem quo_lt {n : Nat} {e q : Int} {p : Nat} (h : topE n e - p + 1 ≤ q) : quoE n e q < 2 ^ p := by
  unfold topE at h
  unfold quoE
  have hb := blen_lt n
  by_cases hq : q ≤ e
  · rw [if_pos hq]
    have h1 : n * 2 ^ (e - q).toNat < 2 ^ blen n * 2 ^ (e - q).toNat := Nat.mul_lt_mul_of_pos_right hb (Nat.two_pow_pos _)
    rw [← Nat.pow_add] at h1
    exact Nat.lt_of_lt_of_le h1 (Nat.pow_le_pow_right (by decide) (by omega))
  · rw [if_neg hq, Nat.div_lt_iff_lt_mul (Nat.two_pow_pos _), ← Nat.pow_add]
    exact Nat.lt_of_lt_of_le hb (Nat.pow_le_pow_right (by decide) (by omega))
theorem cut_le {m : Int} {neg : Bool} {n : Nat} {e q : Int} {more : Bool} {p : Nat} (h : topE n e - p + 1 ≤ q) : cutN m neg n e q more ≤ 2 ^ p := by
  have := quo_lt h
  unfold cutN
  split <;> omega
/-- the cut by the program, at the places that it asks for -/
theorem T150_ok (m : Int) (neg : Bool) (n : Nat) (e q : Int) (more : Bool) (hn : n < (2 ^ 64) ^ 2000) (he : -1000000 ≤ e ∧ e ≤ 1000000) {p : Nat} (hp : p ≤ 60) (h1 : topE n e - p + 1 ≤ q) (h2 : q ≤ topE n e ∨ q ≤ 1000) :
    T150 ((neg, Dw n, e, more, ()), m, q, ()) = some (Dw (cutN m neg n e q more), decide (cutR n e q more ≠ 0), ()) := by
  have hb := big_blen hn
  unfold topE at h1 h2
  refine T150_eq m neg n e q more hn (by omega) (by omega) (by omega) fun hs => ?_
  refine ⟨by omega, ?_⟩
  have hl := blen_lt n
  have h3 : n * 2 ^ (2 - (q - e)).toNat < 2 ^ blen n * 2 ^ (2 - (q - e)).toNat := Nat.mul_lt_mul_of_pos_right hl (Nat.two_pow_pos _)
  rw [← Nat.pow_add] at h3
  rw [pow64]
  exact Nat.lt_of_lt_of_le h3 (Nat.pow_le_pow_right (by decide) (by omega))
theorem T152_eq (neg : Bool) (n : Nat) (e : Int) (more : Bool) (f m : Int) (hf : Fm f) (hn : n < (2 ^ 64) ^ 2000) (he : -1000000 ≤ e ∧ e ≤ 1000000) :
    T152 ((neg, Dw n, e, more, ()), rowOf f, m, topE n e, ()) = some (decide (topE n e < 1 - (fX f : Int) ∧ topE n e - fP f + blen (cutN m neg n e (topE n e - fP f + 1) more) < 1 - (fX f : Int)), ()) := by
  show t152 S150.pre S150.F S151.pre S151.F (neg, Dw n, e, more, ()) ((fW f : Int), ((fP f : Int), ((1 - (fX f : Int)), ((fX f : Int), ())))) m (topE n e) = _
  unfold t152
  have hb := big_blen hn
  have hp := fP_lt hf
  have hw := fW_le hf
  have hx := fX_le hf
  have hp8 := fP_ge hf
  have ht : topE n e = e + (blen n : Int) - 1 := rfl
  have p0 := T150_ok m neg n e (topE n e - fP f + 1) more hn he (p := fP f) (by omega) (by omega) (by omega)
  have hc := cut_le (m := m) (neg := neg) (more := more) (n := n) (e := e) (q := topE n e - fP f + 1) (p := fP f) (by omega)
  generalize cutN m neg n e (topE n e - fP f + 1) more = u at *
  have hu : u < (2 ^ 64) ^ 5000 := by
    rw [pow64]
    exact Nat.lt_of_le_of_lt hc (Nat.pow_lt_pow_right (by decide) (by omega))
  have hub : blen u ≤ fP f + 1 := blen_bound (Nat.lt_of_le_of_lt hc (Nat.pow_lt_pow_right (by decide) (by omega)))
  have p1 := T151_Dw hu
  have e1 : IntKind.wrap .i64 (topE n e - (fP f : Int)) = topE n e - (fP f : Int) := wrapI (by omega)
  have e2 : IntKind.wrap .i64 (topE n e - (fP f : Int) + 1) = topE n e - (fP f : Int) + 1 := wrapI (by omega)
  have e3 : IntKind.wrap .i64 (topE n e - (fP f : Int) + (blen u : Int)) = topE n e - (fP f : Int) + (blen u : Int) := wrapI (by omega)
  dsimp only
  rw [e1, e2]
  by_cases h : topE n e ≥ 1 - (fX f : Int)
  · rw [decide_eq_true h, cond_true, decide_eq_false (by omega)]
  · rw [decide_eq_false h, cond_false]
    simp only [pre150 p0, fun150 p0, cond_true, pre151 p1, fun151 p1, e3]
    have : (topE n e < 1 - (fX f : Int)) := by omega
    simp only [this, true_and]
end VL
namespace VL
open Go Vx
/-- the place of the last bit -/
def lowE (f : Int) (t : Int) : Int := (if 1 - (fX f : Int) > t then 1 - (fX f : Int) else t) - fP f + 1
def isTiny (f m : Int) (neg : Bool) (n : Nat) (e : Int) (more : Bool) : Prop := topE n e < 1 - (fX f : Int) ∧ topE n e - fP f + blen (cutN m neg n e (topE n e - fP f + 1) more) < 1 - (fX f : Int)
instance (f m : Int) (neg : Bool) (n : Nat) (e : Int) (more : Bool) : Decidable (isTiny f m neg n e more) := by unfold isTiny; infer_instance
/-- a number's rounding: the bits and the flags -/
def rndN (f m : Int) (neg : Bool) (n : Nat) (e : Int) (more : Bool) : Nat × Nat :=
  if topE n e > fX f then (beyB f m neg, 20)
  else
    let q := lowE f (topE n e)
    let u := cutN m neg n e q more
    if q + blen u - 1 > fX f then (beyB f m neg, 20)
    else ((q - (1 - (fX f : Int) - fP f + 1)).toNat * 2 ^ (fP f - 1) + u + sgnF f neg,
      if cutR n e q more = 0 then 0 else if isTiny f m neg n e more then 24 else 16)
theorem half_eq {f : Int} (hf : Fm f) : (2 * fX f - 1) * 2 ^ (fP f - 1) + 2 ^ fP f + 2 ^ (fP f - 1) = 2 ^ (fW f - 1) := by
  rcases Fm_cases hf with rfl | rfl | rfl | rfl <;> decide
theorem fX_ge {f : Int} (hf : Fm f) : 15 ≤ fX f := by
  rcases Fm_cases hf with rfl | rfl | rfl | rfl <;> decide
theorem T107_eq (neg : Bool) (n : Nat) (e : Int) (more : Bool) (f m : Int) (hf : Fm f) (hn : n < (2 ^ 64) ^ 2000) (he : -1000000 ≤ e ∧ e ≤ 1000000) :
    T107 ((neg, Dw n, e, more, ()), f, rowOf f, m, ()) = some (((rndN f m neg n e more).1 : Int), ((rndN f m neg n e more).2 : Int), ()) := by
  show t107 _ _ _ _ _ _ _ _ _ _ (neg, Dw n, e, more, ()) f ((fW f : Int), ((fP f : Int), ((1 - (fX f : Int)), ((fX f : Int), ())))) m = _
  unfold t107 rndN
  have hb := big_blen hn
  have hp := fP_lt hf
  have hp8 := fP_ge hf
  have hw := fW_le hf
  have hx := fX_le hf
  have hx15 := fX_ge hf
  have ht : topE n e = e + (blen n : Int) - 1 := rfl
  have pt := T148_eq neg n e more hn he
  have pb := T149_eq hf m neg
  have py := T152_eq neg n e more f m hf hn he
  have hrow : rowOf f = ((fW f : Int), ((fP f : Int), ((1 - (fX f : Int)), ((fX f : Int), ())))) := rfl
  rw [hrow] at py
  simp only [pre148 pt, fun148 pt, cond_true]
  by_cases h1 : topE n e > (fX f : Int)
  · rw [if_pos h1, decide_eq_true h1, cond_true]
    simp only [pre149 pb, fun149 pb, cond_true]
    rfl
  rw [if_neg h1, decide_eq_false h1, cond_false]
  have hM : ∃ M : Int, (if 1 - (fX f : Int) > topE n e then 1 - (fX f : Int) else topE n e) = M ∧ topE n e ≤ M ∧ 1 - (fX f : Int) ≤ M ∧ M ≤ fX f ∧ (M = topE n e ∨ M = 1 - (fX f : Int)) := by
    refine ⟨_, rfl, ?_⟩
    split <;> omega
  obtain ⟨M, hMe, m1, m2, m3, m4⟩ := hM
  have hq : lowE f (topE n e) = M - fP f + 1 := by unfold lowE; rw [hMe]
  simp only [hMe, hq]
  have e1 : IntKind.wrap .i64 (M - (fP f : Int)) = M - (fP f : Int) := wrapI (by omega)
  have e2 : IntKind.wrap .i64 (M - (fP f : Int) + 1) = M - (fP f : Int) + 1 := wrapI (by omega)
  simp only [e1, e2]
  have p0 := T150_ok m neg n e (M - (fP f : Int) + 1) more hn he (p := fP f) (by omega) (by omega) (by omega)
  have hc := cut_le (m := m) (neg := neg) (more := more) (n := n) (e := e) (q := M - (fP f : Int) + 1) (p := fP f) (by omega)
  generalize cutN m neg n e (M - (fP f : Int) + 1) more = u at *
  generalize cutR n e (M - (fP f : Int) + 1) more = r at *
  have hP60 : 2 ^ fP f ≤ 2 ^ 60 := Nat.pow_le_pow_right (by decide) (by omega)
  have hu : u < (2 ^ 64) ^ 5000 := by
    rw [pow64]
    exact Nat.lt_of_le_of_lt hc (Nat.pow_lt_pow_right (by decide) (by omega))
  have hub : blen u ≤ fP f + 1 := blen_bound (Nat.lt_of_le_of_lt hc (Nat.pow_lt_pow_right (by decide) (by omega)))
  have p1 := T151_Dw hu
  have e3 : IntKind.wrap .i64 ((fP f : Int) - 1) = ((fP f - 1 : Nat) : Int) := wsub1 _ (by omega)
  have e4 : IntKind.wrap .i64 ((fW f : Int) - 1) = ((fW f - 1 : Nat) : Int) := wsub1 _ (by omega)
  have e5 : IntKind.wrap .i64 (M - (fP f : Int) + 1 + (blen u : Int)) = M - (fP f : Int) + 1 + (blen u : Int) := wrapI (by omega)
  have e6 : IntKind.wrap .i64 (M - (fP f : Int) + 1 + (blen u : Int) - 1) = M - (fP f : Int) + 1 + (blen u : Int) - 1 := wrapI (by omega)
  have e7 : IntKind.wrap .i64 (1 - (fX f : Int) - (fP f : Int)) = 1 - (fX f : Int) - (fP f : Int) := wrapI (by omega)
  have e8 : IntKind.wrap .i64 (1 - (fX f : Int) - (fP f : Int) + 1) = 1 - (fX f : Int) - (fP f : Int) + 1 := wrapI (by omega)
  obtain ⟨k, hk⟩ := Int.eq_ofNat_of_zero_le (show 0 ≤ M - (fP f : Int) + 1 - (1 - (fX f : Int) - (fP f : Int) + 1) by omega)
  have e9 : IntKind.wrap .i64 (M - (fP f : Int) + 1 - (1 - (fX f : Int) - (fP f : Int) + 1)) = (k : Int) := by rw [wrapI (by omega)]; exact hk
  have e10 : IntKind.wrap .u64 (k : Int) = (k : Int) := wrapU (by omega)
  have hkn : (M - (fP f : Int) + 1 - (1 - (fX f : Int) - (fP f : Int) + 1)).toNat = k := by omega
  have hhalf := half_eq hf
  have hk2 : k ≤ 2 * fX f - 1 := by omega
  have hk3 := Nat.mul_le_mul_right (2 ^ (fP f - 1)) hk2
  have hW64 : 2 ^ (fW f - 1) ≤ 2 ^ 63 := Nat.pow_le_pow_right (by decide) (by omega)
  have hpp := Nat.two_pow_pos (fP f - 1)
  have e11 : shlI .u64 (k : Int) ((fP f - 1 : Nat) : Int) = ((k * 2 ^ (fP f - 1) : Nat) : Int) := by
    rw [shlN _ _ (by omega), Nat.mod_eq_of_lt (by omega)]
  have e12 : shlI .u64 1 ((fW f - 1 : Nat) : Int) = ((1 * 2 ^ (fW f - 1) : Nat) : Int) := by rw [shlI_one (by omega), Nat.one_mul]
  generalize hA : k * 2 ^ (fP f - 1) = A at *
  have hbits : A + u < 2 ^ (fW f - 1) := by omega
  have e13 : IntKind.wrap .u64 ((A : Int) + ((u % 2 ^ 64 : Nat) : Int)) = ((A + u : Nat) : Int) := by
    rw [Nat.mod_eq_of_lt (by omega), wrapU (by omega)]; omega
  have hor : ∀ b : Nat, b < 2 ^ (fW f - 1) → orI .u64 (b : Int) ((1 * 2 ^ (fW f - 1) : Nat) : Int) = ((b + 2 ^ (fW f - 1) : Nat) : Int) := fun b hb => by
    have := orN (a := b) (b := 1) (k := fW f - 1) hb (by omega)
    rw [Nat.one_mul] at this ⊢
    exact this
  have hsg : sgnF f neg = if neg then 2 ^ (fW f - 1) else 0 := rfl
  have htd : decide (topE n e < 1 - (fX f : Int) ∧ topE n e - fP f + blen (cutN m neg n e (topE n e - fP f + 1) more) < 1 - (fX f : Int)) = decide (isTiny f m neg n e more) := by
    unfold isTiny; rfl
  rw [htd] at py
  simp only [pre150 p0, fun150 p0, cond_true, e3, nnn, pre151 p1, fun151 p1, e5, e6, e7, e8, e9, e10, e11, e4, e12, hkn, hA]
  rcases Nat.eq_zero_or_pos u with hu0 | hu0
  · subst hu0
    have hl0 : decide ((((Dw 0).length : Nat) : Int) > 0) = false := by rw [Dw_zero]; rfl
    rw [hl0, cond_false]
    by_cases h2 : M - (fP f : Int) + 1 + (blen 0 : Int) - 1 > (fX f : Int)
    · rw [decide_eq_true h2, cond_true, if_pos h2]
      simp only [pre149 pb, fun149 pb, cond_true]
      rfl
    · rw [decide_eq_false h2, cond_false, if_neg h2]
      have hbi := hor (A) (by omega)
      rw [hbi]
      by_cases hr : r = 0
      · rw [if_pos hr, decide_eq_false (p := r ≠ 0) (by omega)]
        simp only [Bool.not_false, cond_true]
        cases neg <;> rfl
      · rw [if_neg hr, decide_eq_true (p := r ≠ 0) hr]
        simp only [Bool.not_true, cond_false, pre152 py, fun152 py, cond_true]
        by_cases hti : isTiny f m neg n e more
        · rw [if_pos hti, decide_eq_true hti]
          cases neg <;> rfl
        · rw [if_neg hti, decide_eq_false hti]
          cases neg <;> rfl
  · have hun : u ≠ 0 := by omega
    simp only [Dw_len_gt hun, Dw_len_pos hun, cond_true, Int.toNat_zero, Dw_get, e13]
    by_cases h2 : M - (fP f : Int) + 1 + (blen u : Int) - 1 > (fX f : Int)
    · rw [decide_eq_true h2, cond_true, if_pos h2]
      simp only [pre149 pb, fun149 pb, cond_true]
      rfl
    · rw [decide_eq_false h2, cond_false, if_neg h2]
      have hbi := hor (A + u) (by omega)
      rw [hbi]
      by_cases hr : r = 0
      · rw [if_pos hr, decide_eq_false (p := r ≠ 0) (by omega)]
        simp only [Bool.not_false, cond_true]
        cases neg <;> rfl
      · rw [if_neg hr, decide_eq_true (p := r ≠ 0) hr]
        simp only [Bool.not_true, cond_false, pre152 py, fun152 py, cond_true]
        by_cases hti : isTiny f m neg n e more
        · rw [if_pos hti, decide_eq_true hti]
          cases neg <;> rfl
        · rw [if_neg hti, decide_eq_false hti]
          cases neg <;> rfl
theorem T105_ok {f m : Int} (hf : Fm f) (hm : 0 ≤ m ∧ m ≤ 5) : T105 (f, m, ()) = some (rowOf f, 0, ()) := by
  show t105 S69.pre S69.F S147.pre S147.F f m = _
  unfold t105
  have p0 := T69_ok hf
  have p1 : T147 (m, ()) = some (0, ()) := by
    show t147 m = _
    unfold t147
    rw [decide_eq_false (show ¬ m < 0 by omega), decide_eq_false (show ¬ m > 5 by omega)]; rfl
  simp only [pre69 p0, fun69 p0, cond_true, pre147 p1, fun147 p1]
  rfl
theorem T156_ok {f : Int} (h : Fm f) (neg : Bool) : T156 (f, neg, ()) = some ((sgnF f neg : Int), 0, 0, ()) := by
  show t156 S118.pre S118.F f neg = _
  unfold t156
  have p0 := T118_ok h neg
  simp only [pre118 p0, fun118 p0, cond_true]
theorem two_words (s : Nat) (hs : s < 2 ^ 128) : (Wi s).2.1 :: (Wi s).1 :: [] = Wd [s % 2 ^ 64, s / 2 ^ 64] ∧ Ws [s % 2 ^ 64, s / 2 ^ 64] ∧ nv (2 ^ 64) [s % 2 ^ 64, s / 2 ^ 64] = s := by
  refine ⟨rfl, ⟨?_, by simp⟩, ?_⟩
  · intro x hx
    have : x = s % 2 ^ 64 ∨ x = s / 2 ^ 64 := by simpa using hx
    omega
  · simp only [nv]; omega
theorem T122_eq {f m : Int} (hf : Fm f) (hm : 0 ≤ m ∧ m ≤ 5) (neg : Bool) (s : Nat) (hs : s < 2 ^ 128) (e : Int) (he : -40000 ≤ e ∧ e ≤ 40000) (more : Bool) (hmore : more = true → fP f + 2 ≤ blen s) :
    T122 (f, m, neg, Wi s, e, more, ()) = some (if s = 0 then ((sgnF f neg : Int), 0, 0, ()) else (((rndN f m neg s e more).1 : Int), ((rndN f m neg s e more).2 : Int), 0, ())) := by
  show t122 _ _ _ _ _ _ _ _ _ _ f m neg (Wi s) e more = _
  unfold t122
  obtain ⟨w1, w2, w3⟩ := two_words s hs
  have hP := fP_lt hf
  have hW := fW_le hf
  have p0 := T105_ok hf hm
  have p1 := T102_eq _ w2
  rw [← w1, w3] at p1
  have hs2 : s < (2 ^ 64) ^ 2000 := by
    rw [pow64]
    exact Nat.lt_of_lt_of_le hs (Nat.pow_le_pow_right (by decide) (by decide))
  have p2 := T151_Dw (lt5000 hs2)
  have p3 := T156_ok hf neg
  have p4 := T107_eq neg s e more f m hf hs2 (by omega)
  have e1 : decide (e < -40000) = false := decide_eq_false (by omega)
  have e2 : decide (e > 40000) = false := decide_eq_false (by omega)
  have e3 : IntKind.wrap .i64 ((rowOf f).2.1 + 2) = ((fP f + 2 : Nat) : Int) := by
    show IntKind.wrap .i64 ((fP f : Int) + 2) = _
    rw [wrapI (by omega)]; rfl
  have e4 : (more && decide ((blen s : Int) < ((fP f + 2 : Nat) : Int))) = false := by
    cases more with
    | false => rfl
    | true => rw [decide_eq_false (by have := hmore rfl; omega)]; rfl
  have z0 : ((0 : Int) != 0) = false := rfl
  simp only [pre105 p0, fun105 p0, cond_true, z0, cond_false, pre102 p1, fun102 p1, e1, e2, Bool.or_self, pre151 p2, fun151 p2, Bool.true_or, e3, e4]
  by_cases h0 : s = 0
  · rw [if_pos h0]
    subst h0
    rw [show ((((Dw 0).length : Nat) : Int) == 0) = true by rw [Dw_zero]; rfl, cond_true]
    simp only [pre156 p3, fun156 p3, cond_true]
  · rw [if_neg h0, beq0_f _ (by have := Dw_len h0; omega), cond_false]
    simp only [pre107 p4, fun107 p4, cond_true]
end VL
